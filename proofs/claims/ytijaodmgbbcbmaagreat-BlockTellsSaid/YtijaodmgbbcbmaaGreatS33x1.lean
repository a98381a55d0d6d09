/-
  Made short by a program of mine (wip/tools/mini.py).
-/
import Derived.WalkKit
import Derived.KernelRfl
import Derived.OrdersIn
import Derived.LoopNIn
import Derived.TacticsIn
import Derived.RangeFuncCalls
import Derived.RangeFuncLeaves
import Derived.RangeFuncRecord
import Derived.LaidEql
import Derived.MapKept
import Derived.ChangeMaps3
set_option linter.unusedVariables false
set_option linter.unusedSimpArgs false
set_option maxRecDepth 100000
set_option synthInstance.maxSize 5000
open Go renaming IntKind->lW,FuncId->gC,Operand->cr,Program->bj,World->cO,MapEntry->gl
open List renaming replicate->ai,set->gF,length->ae
open BitVec renaming ofInt->bA
open Nat renaming beq->mG
open Go.Value renaming oneCell'->dZ
open Go.Sem renaming run_bind->cU,run_pure->eK
open Go.Result renaming andThen_ok->cm
open Go.Op renaming equalIn->dG
open Option renaming some->av,none->aH
open Bool renaming true->bm,false->aZ
noncomputable section
namespace Go.Ab
theorem hZ:type_of% @Array.ext':= @Array.ext'
theorem eD:type_of% @Array.getD_eq_getD_getElem?:= @Array.getD_eq_getD_getElem?
theorem lV:type_of% @Array.getElem?_append:= @Array.getElem?_append
theorem fU:type_of% @Array.getElem?_eq_getElem:= @Array.getElem?_eq_getElem
theorem cS:type_of% @Array.getElem?_eq_some_iff:= @Array.getElem?_eq_some_iff
theorem fZ:type_of% @Array.getElem?_setIfInBounds:= @Array.getElem?_setIfInBounds
theorem jh:type_of% @Array.getElem?_toList:= @Array.getElem?_toList
theorem dv:type_of% @Array.length_toList:= @Array.length_toList
theorem cY:type_of% @Array.toList_append:= @Array.toList_append
theorem jG:type_of% @BitVec.ofInt_natCast:= @BitVec.ofInt_natCast
theorem uX:type_of% @BitVec.toNat_ofInt:= @BitVec.toNat_ofInt
theorem lA:type_of% @BitVec.toNat_ofNat:= @BitVec.toNat_ofNat
theorem aw:type_of% @Bool.and_eq_true:= @Bool.and_eq_true
theorem jw:type_of% @Bool.eq_false_or_eq_true:= @Bool.eq_false_or_eq_true
theorem dA:type_of% @Bool.false_and:= @Bool.false_and
theorem bG:type_of% @Bool.false_eq_true:= @Bool.false_eq_true
theorem tC:type_of% @Bool.false_or:= @Bool.false_or
theorem di:type_of% @Bool.not_eq_true':= @Bool.not_eq_true'
theorem dX:type_of% @Bool.not_false:= @Bool.not_false
theorem bT:type_of% @Bool.not_true:= @Bool.not_true
theorem iT:type_of% @Bool.or_eq_true:= @Bool.or_eq_true
theorem qb:type_of% @Bool.or_false:= @Bool.or_false
theorem bM:type_of% @Bool.true_and:= @Bool.true_and
theorem tF:type_of% @Int.add_assoc:= @Int.add_assoc
theorem pa:type_of% @Int.add_emod:= @Int.add_emod
theorem pb:type_of% @Int.dvd_refl:= @Int.dvd_refl
theorem gD:type_of% @Int.emod_emod_of_dvd:= @Int.emod_emod_of_dvd
theorem eW:type_of% @Int.emod_eq_of_lt:= @Int.emod_eq_of_lt
theorem lB:type_of% @Int.emod_lt_of_pos:= @Int.emod_lt_of_pos
theorem mg:type_of% @Int.emod_nonneg:= @Int.emod_nonneg
theorem lC:type_of% @Int.fdiv_eq_ediv_of_nonneg:= @Int.fdiv_eq_ediv_of_nonneg
theorem eF:type_of% @Int.le_refl:= @Int.le_refl
theorem tG:type_of% @Int.mul_assoc:= @Int.mul_assoc
theorem rT:type_of% @Int.mul_comm:= @Int.mul_comm
theorem iJ:type_of% @Int.mul_emod:= @Int.mul_emod
theorem zY:type_of% @Int.mul_one:= @Int.mul_one
theorem rU:type_of% @Int.natCast_emod:= @Int.natCast_emod
theorem mh:type_of% @Int.natCast_mul:= @Int.natCast_mul
theorem ig:type_of% @Int.natCast_nonneg:= @Int.natCast_nonneg
theorem mi:type_of% @Int.natCast_pow:= @Int.natCast_pow
theorem gj:type_of% @Int.pow_succ:= @Int.pow_succ
theorem mC:type_of% @Int.pow_zero:= @Int.pow_zero
theorem rV:type_of% @Int.sub_zero:= @Int.sub_zero
theorem lD:type_of% @Int.tdiv_eq_ediv_of_nonneg:= @Int.tdiv_eq_ediv_of_nonneg
theorem iK:type_of% @Int.tmod_eq_emod_of_nonneg:= @Int.tmod_eq_emod_of_nonneg
theorem mD:type_of% @Int.zero_add:= @Int.zero_add
theorem lE:type_of% @List.Perm.refl:= @List.Perm.refl
theorem gg:type_of% @List.all_cons:= @List.all_cons
theorem dr:type_of% @List.all_eq_true:= @List.all_eq_true
theorem eM:type_of% @List.any_cons:= @List.any_cons
theorem jY:type_of% @List.any_eq_false:= @List.any_eq_false
theorem iL:type_of% @List.any_nil:= @List.any_nil
theorem aO:type_of% @List.append_assoc:= @List.append_assoc
theorem bK:type_of% @List.append_nil:= @List.append_nil
theorem cR:type_of% @List.cons.injEq:= @List.cons.injEq
theorem nY:type_of% @List.cons_append:= @List.cons_append
theorem lh:type_of% @List.drop_append:= @List.drop_append
theorem gE:type_of% @List.drop_drop:= @List.drop_drop
theorem au:type_of% @List.drop_eq_getElem_cons:= @List.drop_eq_getElem_cons
theorem mj:type_of% @List.drop_left':= @List.drop_left'
theorem aI:type_of% @List.drop_length:= @List.drop_length
theorem dO:type_of% @List.drop_of_length_le:= @List.drop_of_length_le
theorem wF:type_of% @List.drop_take:= @List.drop_take
theorem ay:type_of% @List.drop_zero:= @List.drop_zero
theorem bJ:type_of% @List.eq_nil_of_length_eq_zero:= @List.eq_nil_of_length_eq_zero
theorem rW:type_of% @List.ext_getElem:= @List.ext_getElem
theorem mE:type_of% @List.ext_getElem?:= @List.ext_getElem?
theorem kh:type_of% @List.filter_eq_self:= @List.filter_eq_self
theorem dK:type_of% @List.flatMap_cons:= @List.flatMap_cons
theorem rX:type_of% @List.flatMap_nil:= @List.flatMap_nil
theorem jZ:type_of% @List.flatten_cons:= @List.flatten_cons
theorem rY:type_of% @List.flatten_nil:= @List.flatten_nil
theorem bn:type_of% @List.foldl_cons:= @List.foldl_cons
theorem ct:type_of% @List.foldl_nil:= @List.foldl_nil
theorem tm:type_of% @List.getD_cons_succ:= @List.getD_cons_succ
theorem nU:type_of% @List.getD_cons_zero:= @List.getD_cons_zero
theorem bh:type_of% @List.getD_eq_getElem?_getD:= @List.getD_eq_getElem?_getD
theorem fV:type_of% @List.getElem?_append_left:= @List.getElem?_append_left
theorem nZ:type_of% @List.getElem?_cons_succ:= @List.getElem?_cons_succ
theorem gw:type_of% @List.getElem?_cons_zero:= @List.getElem?_cons_zero
theorem fW:type_of% @List.getElem?_drop:= @List.getElem?_drop
theorem cn:type_of% @List.getElem?_eq_getElem:= @List.getElem?_eq_getElem
theorem eB:type_of% @List.getElem?_eq_none:= @List.getElem?_eq_none
theorem ek:type_of% @List.getElem?_eq_some_iff:= @List.getElem?_eq_some_iff
theorem gS:type_of% @List.getElem?_map:= @List.getElem?_map
theorem fy:type_of% @List.getElem?_set_ne:= @List.getElem?_set_ne
theorem dY:type_of% @List.getElem?_take:= @List.getElem?_take
theorem aK:type_of% @List.getElem_mem:= @List.getElem_mem
theorem ak:type_of% @List.length_append:= @List.length_append
theorem aF:type_of% @List.length_cons:= @List.length_cons
theorem du:type_of% @List.length_drop:= @List.length_drop
theorem mF:type_of% @List.length_eraseIdx:= @List.length_eraseIdx
theorem da:type_of% @List.length_map:= @List.length_map
theorem bp:type_of% @List.length_nil:= @List.length_nil
theorem dd:type_of% @List.length_replicate:= @List.length_replicate
theorem bV:type_of% @List.length_take:= @List.length_take
theorem ui:type_of% @List.map_append:= @List.map_append
theorem iS:type_of% @List.map_congr_left:= @List.map_congr_left
theorem cj:type_of% @List.map_cons:= @List.map_cons
theorem wG:type_of% @List.map_map:= @List.map_map
theorem fK:type_of% @List.map_nil:= @List.map_nil
theorem bR:type_of% @List.mem_append:= @List.mem_append
theorem cq:type_of% @List.mem_cons:= @List.mem_cons
theorem aP:type_of% @List.mem_cons_of_mem:= @List.mem_cons_of_mem
theorem aU:type_of% @List.mem_cons_self:= @List.mem_cons_self
theorem uj:type_of% @List.mem_filter:= @List.mem_filter
theorem jm:type_of% @List.mem_flatMap:= @List.mem_flatMap
theorem lX:type_of% @List.mem_iff_getElem?:= @List.mem_iff_getElem?
theorem dy:type_of% @List.mem_map:= @List.mem_map
theorem dC:type_of% @List.mem_of_getElem?:= @List.mem_of_getElem?
theorem qJ:type_of% @List.mem_of_mem_drop:= @List.mem_of_mem_drop
theorem qK:type_of% @List.mem_of_mem_take:= @List.mem_of_mem_take
theorem pc:type_of% @List.mem_replicate:= @List.mem_replicate
theorem bB:type_of% @List.mem_singleton:= @List.mem_singleton
theorem aY:type_of% @List.nil_append:= @List.nil_append
theorem dx:type_of% @List.nodup_cons:= @List.nodup_cons
theorem jH:type_of% @List.nodup_nil:= @List.nodup_nil
theorem lF:type_of% @List.pairwise_cons:= @List.pairwise_cons
theorem tn:type_of% @List.replicate_succ:= @List.replicate_succ
theorem gU:type_of% @List.set_getElem_self:= @List.set_getElem_self
theorem cE:type_of% @List.singleton_append:= @List.singleton_append
theorem iM:type_of% @List.size_toArray:= @List.size_toArray
theorem rZ:type_of% @List.take_append:= @List.take_append
theorem eC:type_of% @List.take_append_drop:= @List.take_append_drop
theorem jI:type_of% @List.take_append_of_le_length:= @List.take_append_of_le_length
theorem ml:type_of% @List.take_left':= @List.take_left'
theorem bN:type_of% @List.take_length:= @List.take_length
theorem bu:type_of% @List.take_of_length_le:= @List.take_of_length_le
theorem iN:type_of% @List.take_succ_eq_append_getElem:= @List.take_succ_eq_append_getElem
theorem qL:type_of% @List.take_take:= @List.take_take
theorem dD:type_of% @List.take_zero:= @List.take_zero
theorem fB:type_of% @Nat.add_assoc:= @Nat.add_assoc
theorem fg:type_of% @Nat.add_mul:= @Nat.add_mul
theorem pd:type_of% @Nat.add_sub_cancel:= @Nat.add_sub_cancel
theorem cD:type_of% @Nat.add_zero:= @Nat.add_zero
theorem lY:type_of% @Nat.eq_of_beq_eq_true:= @Nat.eq_of_beq_eq_true
theorem jn:type_of% @Nat.eq_zero_or_pos:= @Nat.eq_zero_or_pos
theorem fJ:type_of% @Nat.le_of_ble_eq_true:= @Nat.le_of_ble_eq_true
theorem az:type_of% @Nat.le_refl:= @Nat.le_refl
theorem vH:type_of% @Nat.le_succ:= @Nat.le_succ
theorem jy:type_of% @Nat.le_trans:= @Nat.le_trans
theorem iI:type_of% @Nat.lt_irrefl:= @Nat.lt_irrefl
theorem r0:type_of% @Nat.lt_or_ge:= @Nat.lt_or_ge
theorem sa:type_of% @Nat.lt_succ_self:= @Nat.lt_succ_self
theorem iU:type_of% @Nat.min_eq_left:= @Nat.min_eq_left
theorem lj:type_of% @Nat.mod_eq_of_lt:= @Nat.mod_eq_of_lt
theorem sh:type_of% @Nat.mul_comm:= @Nat.mul_comm
theorem dE:type_of% @Nat.mul_le_mul_right:= @Nat.mul_le_mul_right
theorem mH:type_of% @Nat.mul_mod:= @Nat.mul_mod
theorem jJ:type_of% @Nat.mul_one:= @Nat.mul_one
theorem iV:type_of% @Nat.one_mul:= @Nat.one_mul
theorem qM:type_of% @Nat.pow_add:= @Nat.pow_add
theorem lZ:type_of% @Nat.sub_eq_zero_of_le:= @Nat.sub_eq_zero_of_le
theorem kr:type_of% @Nat.sub_zero:= @Nat.sub_zero
theorem aV:type_of% @Nat.zero_add:= @Nat.zero_add
theorem aL:type_of% @Nat.zero_le:= @Nat.zero_le
theorem pf:type_of% @Nat.zero_mul:= @Nat.zero_mul
theorem ed:type_of% @Option.getD_some:= @Option.getD_some
theorem bZ:type_of% @Option.isSome_iff_exists:= @Option.isSome_iff_exists
theorem ph:type_of% @Option.isSome_none:= @Option.isSome_none
theorem fX:type_of% @Option.map_eq_some_iff:= @Option.map_eq_some_iff
theorem eN:type_of% @Option.map_some:= @Option.map_some
theorem bf:type_of% @Option.some.inj:= @Option.some.inj
theorem ax:type_of% @Option.some.injEq:= @Option.some.injEq
theorem de:type_of% @Prod.mk.injEq:= @Prod.mk.injEq
theorem tp:type_of% @Quotient.exists_rep:= @Quotient.exists_rep
theorem ir:type_of% @Sum.getLeft?_inl:= @Sum.getLeft?_inl
theorem cC:type_of% @Sum.getRight?_inr:= @Sum.getRight?_inr
theorem jK:type_of% @Sum.isLeft_inl:= @Sum.isLeft_inl
theorem db:type_of% @Sum.isLeft_inr:= @Sum.isLeft_inr
theorem gm:type_of% @and_self:= @and_self
theorem eS:type_of% @and_true:= @and_true
theorem tq:type_of% @beq_eq_false_iff_ne:= @beq_eq_false_iff_ne
theorem eZ:type_of% @beq_iff_eq:= @beq_iff_eq
theorem bW:type_of% @congrArg:= @congrArg
theorem hJ:type_of% @decide_eq_false:= @decide_eq_false
theorem gA:type_of% @decide_eq_false_iff_not:= @decide_eq_false_iff_not
theorem lH:type_of% @decide_eq_true:= @decide_eq_true
theorem bt:type_of% @decide_eq_true_eq:= @decide_eq_true_eq
theorem b8:type_of% @decide_true:= @decide_true
theorem ET:type_of% @dif_neg:= @dif_neg
theorem BX:type_of% @dif_pos:= @dif_pos
theorem mP:type_of% @getElem!_pos:= @getElem!_pos
theorem bC:type_of% @if_false:= @if_false
theorem bO:type_of% @if_true:= @if_true
theorem qz:type_of% @not_false_eq_true:= @not_false_eq_true
theorem qA:type_of% @not_true_eq_false:= @not_true_eq_false
theorem lT:type_of% @true_and:= @true_and
end Go.Ab
namespace Go.Ab
theorem eX{p:Prop}(h:p:=by decide):p:=h
theorem aq{p:Prop}(h:p:=by omega):p:=h
theorem cd{p:Prop}(h:p:=by kernel_rfl):p:=h
inductive Ty where
 |int (k:lW) | bool | str | slice (t:Ty) | unit | pair (a b:Ty) | arr (n:Nat) (t:Ty)
 |gG (t:Ty)
 |qE (t:Ty)
 |iv (t:Ty)
 deriving DecidableEq,Inhabited
@[reducible] def Ty.den:Ty->Type
 | .int _=>Int
 | .bool=>Bool
 | .str=>ByteArray
 | .slice t=>List t.den
 | .unit=>Unit
 | .pair a b=>a.den×b.den
 | .arr _ t=>List t.den
 | .gG t=>Option (List t.den)
 | .qE t=>Option t.den
 | .iv t=>Option (Nat×t.den)
def Ty.size:Ty->Nat
 | .unit=>0
 | .pair a b=>a.size+b.size
 | .arr n t=>n*t.size
 | .int _ | .bool | .str | .slice _ | .gG _ | .qE _ | .iv _=>1
def Ty.agg:Ty->Bool
 | .unit | .pair _ _ | .arr _ _=>bm
 | .int _ | .bool | .str | .slice _ | .gG _ | .qE _ | .iv _=>aZ
def Ty.zero:(t:Ty)->t.den
 | .int _=>(0:Int)
 | .bool=>aZ
 | .str=>ByteArray.empty
 | .slice _=> []
 | .unit=>()
 | .pair a b=>(a.zero,b.zero)
 | .arr n t=>ai n t.zero
 | .gG _=>aH
 | .qE _=>aH
 | .iv _=>aH
def Ty.comp:Ty->Bool
 | .slice _ | .gG _ | .qE _=>aZ
 | .pair a b=>a.comp && b.comp
 | .arr _ t=>t.comp
 | .int _ | .bool | .str | .unit | .iv _=>bm
def pC{α:Type}(f:α->α->Bool):List α->List α->Bool
 |[],[]=>bm
 |x::xs,y::ys=>f x y && pC f xs ys
 |_,_=>aZ
def Ty.aHN:(t:Ty)->(x y:t.den)->Decidable (x=y)
 | .int _,x,y=>inferInstanceAs (Decidable (@Eq Int x y))
 | .bool,x,y=>inferInstanceAs (Decidable (@Eq Bool x y))
 | .str,x,y=>inferInstanceAs (Decidable (@Eq ByteArray x y))
 | .slice t,x,y=> @instDecidableEqList t.den t.aHN x y
 | .unit,_,_=>isTrue rfl
 | .pair a b,x,y=> @instDecidableEqProd a.den b.den a.aHN b.aHN x y
 | .arr _ t,x,y=> @instDecidableEqList t.den t.aHN x y
 | .gG t,x,y=>letI:DecidableEq t.den:=t.aHN;inferInstanceAs (Decidable (@Eq (Option (List t.den)) x y))
 | .qE t,x,y=>letI:DecidableEq t.den:=t.aHN;inferInstanceAs (Decidable (@Eq (Option t.den) x y))
 | .iv t,x,y=>letI:DecidableEq t.den:=t.aHN;inferInstanceAs (Decidable (@Eq (Option (Nat×t.den)) x y))
def Ty.aBv:Ty->Bool
 | .gG _=>aZ
 | .slice t | .arr _ t | .qE t | .iv t=>t.aBv
 | .pair a b=>a.aBv && b.aBv
 | .int _ | .bool | .str | .unit=>bm
def Ty.beq:(t:Ty)->t.den->t.den->Bool
 | .int _,x,y=>(x:Int)==y
 | .bool,x,y=>(x:Bool)==y
 | .str,x,y=>(x:ByteArray).toList==(y:ByteArray).toList
 | .slice t,x,y=>pC t.beq x y
 | .unit,_,_=>bm
 | .pair a b,x,y=>a.beq x.1 y.1 && b.beq x.2 y.2
 | .arr _ t,x,y=>pC t.beq x y
 | .gG t,x,y=>pC t.beq (x.getD []) (y.getD [])
 | .qE _,_,_=>aZ
 | .iv t,x,y=> @decide (x=y) ((Ty.iv t).aHN x y)
def wN(t t':Ty)(x:t.den):Option t'.den:=if h:t=t' then av (h▸x) else aH
def ahQ:(a b:Ty)->Option (a.den->b.den)
 | .gG t,.slice t'=>if h:t=t' then av λo=>cast (bW (λt:Ty=>List t.den) h) (o.getD []) else aH
 | .slice t,.gG t'=>if h:t=t' then av λl=>av (cast (bW (λt:Ty=>List t.den) h) l) else aH
 | .pair a b,.pair c d=>match ahQ a c,ahQ b d with
  |some f,av k=>av λx=>(f x.1,k x.2)
  |_,_=>aH
 | .slice a,.slice b=>match ahQ a b with
  |some f=>av (List.map f)
  |none=>aH
 |a,b=>if h:a=b then av (cast (bW Ty.den h)) else aH
def aWb(a b:Ty)(x:a.den):b.den:=match ahQ a b with | some f=>f x | none=>b.zero
def K9(t t':Ty)(x:t.den):Option t'.den:=
 match wN t t' x with
 |some y=>av y
 |none=>match ahQ t t' with
  |some f=>av (f x)
  |none=>aH
def nth(t:Ty)(l:List t.den)(i:Nat):t.den:=l.getD i t.zero
inductive Id where
 |bP (k:Nat)
 |new (site j:Nat)
 deriving DecidableEq,Inhabited
inductive Se where
 |fst | snd
 |idx (i:Nat)
 |arr
inductive aN where
 |undef
 |gone
 |dJ | jW | AV | HB
 |d (t:Ty) (x:t.den)
 |pr (a b:aN)
 |ptr (id:Id) (ver:Nat) (p:List Se) (n:Nat)
 |dz (t:Ty) (x:t.den)
 |bU (id:Id) (ver:Nat) (p:List Se) (c i len:Nat)
 |fn (f:gC) (caps:aN)
 |cons (a b:aN)
 |nil
 |vec (e:TypeId) (t:Ty) (l:List t.den)
 |bx (e:TypeId) (z:Nat) (c:aN)
 |c7 (id:Id) (ver:Nat)
 |mp (k v:Ty) (l:List (k.den×v.den))
 |tP (q:Id) (ver:Nat) (k v:Ty) (rest:List (k.den×v.den)) (cur:Option (k.den×v.den))
inductive eJ where
 |dead
 |obj (ver:Nat) (fr:Bool) (c:aN)
def dq(c:aN):eJ:= .obj 0 aZ c
def dm(c:aN):List eJ:=[.obj 0 aZ c]
def eP(q:Nat):aN:= .ptr (.new q 0) 0 [] 0
def jl(q n:Nat):aN:= .bU (.new q 0) 0 [] 0 0 n
def gR:aN:= .d .unit ()
def bE:aN:= .undef
structure AS where
 dg:List aN
 dh:List eJ
 news:List (List eJ)
def aW(n:Nat)(l:List aN):List aN:=ai n .undef++l
def bw(n:Nat)(l:List (List eJ)):List (List eJ):=ai n []++l
inductive Out(α:Type):Type 1 where
 |ok (a:α)
 |fail
 |AK (c:Bool) (r:Out α)
 |get {β:Type} (x:Option β) (f:β->Out α)
 |br (c:Bool) (a b:Out α)
def Out.eval{α:Type}:Out α->Option α
 | .ok a=>av a
 | .fail=>aH
 | .AK c r=>match c with | true=>r.eval | false=>aH
 | .get x f=>match x with | some y=>(f y).eval | none=>aH
 | .br c a b=>match c with | true=>a.eval | false=>b.eval
def aJ{α:Type}(c:Bool)(x y:Option α):Option α:=match c with | true=>x | false=>y
def ao{α β:Type}(x:Option α)(f:α->Option β):Option β:=match x with | some a=>f a | none=>aH
def Out.run{α R:Type}:Out α->(α->Option R)->Option R
 | .ok a,k=>k a
 | .fail,_=>aH
 | .AK c r,k=>aJ c (r.run k) aH
 | .get x f,k=>ao x λy=>(f y).run k
 | .br c a b,k=>aJ c (a.run k) (b.run k)
def Out.bind{α β:Type}:Out α->(α->Out β)->Out β
 | .ok a,f=>f a
 | .fail,_=> .fail
 | .AK c r,f=> .AK c (r.bind f)
 | .get x g,f=> .get x λy=>(g y).bind f
 | .br c a b,f=> .br c (a.bind f) (b.bind f)
def Out.opt{α:Type}:Option α->Out α
 |some a=> .ok a
 |none=> .fail
def Out.guard{α:Type}(c:Bool)(r:Out α):Out α:=match c with | true=>r | false=> .fail
def aN.size:aN->Nat
 | .d t _=>t.size
 | .pr a b=>a.size+b.size
 |_=>1
def aN.agg:aN->Bool
 | .d t _=>t.agg
 | .pr _ _=>bm
 |_=>aZ
def aN.fD:aN->Bool
 | .undef | .cons _ _ | .nil | .vec .. | .bx .. | .mp .. | .tP .. =>aZ
 |_=>bm
def aN.strip:aN->aN
 | .bx _ _ c=>c
 |c=>c
def aN.wrap:aN->aN->aN
 | .bx e z _,c=> .bx e z c
 |_,c=>c
def T1:aN->aN->aN
 | .d a x,.d b y=> .d (.pair a b) (x,y)
 |a,b=> .pr a b
def ofConst:Value->aN
 | .bool b=> .d .bool b
 | .int k n=> .d (.int k) n
 | .string s=> .d .str s
 | .slice aH 0 0=> .dJ
 | .pointer aH=> .jW
 | .nilFunc=> .AV
 | .map aH=> .HB
 |_=> .undef
def AS.slot(s:AS)(i:Nat):aN:=s.dg.getD i .undef
def AS.ev(s:AS):cr->aN
 | .tmp t=>s.slot t
 | .const v=>ofConst v
 | .func f=> .fn f .nil
 | .global _=> .undef
def AS.put(s:AS)(dst:Option Tmp)(v:aN):AS:=
 match dst with
 |some t=> {s with dg:=s.dg.set t v}
 |none=>s
def AS.cJ(s:AS):Id->Option eJ
 | .bP k=>s.dh[k]?
 | .new i j=>(s.news.getD i [])[j]?
def AS.bI(s:AS)(id:Id)(e:eJ):AS:=
 match id with
 | .bP k=> {s with dh:=s.dh.set k e}
 | .new i j=> {s with news:=s.news.set i ((s.news.getD i []).set j e)}
def AS.eQ(s:AS)(i:Nat):Bool:=match s.news[i]? with | some []=>bm | _=>aZ
def AS.born(s:AS)(i:Nat)(es:List eJ):AS:= {s with news:=s.news.set i es}
def AS.obj(s:AS)(id:Id):Option (Nat×Bool×aN):=
 match s.cJ id with
 |some (.obj v f c)=>av (v,f,c)
 |_=>aH
def bbJ:List Nat:=[178]
def ahv(P:bj)(nl:Bool):Nat->TypeId->Option Ty
 | 0,_=>aH
 |n+1,T=>
  match P.underlying T with
  |some (.int k)=>av (.int k)
  |some .bool=>av .bool
  |some .string=>av .str
  |some (.slice e)=>match ahv P aZ n e with | some t=>av (match nl with | true=> .gG t | false=> .slice t) | none=>aH
  |some (.array k e)=>match ahv P nl n e with | some t=>av (.arr k t) | none=>aH
  |some (.pointer e)=>match ahv P aZ n e with | some t=>av (match bbJ.contains T with | true=> .iv t | false=> .qE t) | none=>aH
  |some (.struct fs)=>fs.toList.foldr (λf acc=>match ahv P nl n f.type,acc with | some a,av b=>av (.pair a b) | _,_=>aH) (av .unit)
  |_=>aH
def aAg(P:bj):Nat->TypeId->Option Ty:=ahv P aZ
def zeroOf(P:bj):Nat->TypeId->Option aN
 | 0,_=>aH
 |n+1,T=>
  match P.underlying T with
  |some (.int k)=>av (.d (.int k) (0:Int))
  |some .bool=>av (.d .bool aZ)
  |some .string=>av (.d .str ByteArray.empty)
  |some (.slice _)=>av .dJ
  |some (.pointer _)=>av .jW
  |some (.map _ _)=>av .HB
  |some (.func _ _ _)=>av .AV
  |some (.array k e)=>match aAg P n e with | some t=>av (.d (.arr k t) (ai k t.zero)) | none=>aH
  |some (.struct fs)=>fs.toList.foldr (λf acc=>match zeroOf P n f.type,acc with | some a,av b=>av (T1 a b) | _,_=>aH) (av (.d .unit ()))
  |_=>aH
def depth:Nat:=12
def fits(P:bj)(T:TypeId)(v:aN):Bool:=
 v.fD && (P.cellsOf T==v.size) &&
 (match P.underlying T with | some (.struct _)=>v.agg | some (.array _ _)=>v.agg | some _=> !v.agg | none=>aZ)
def qd:Nat->List Se
 | 0=> [.fst]
 |n+1=> .snd::qd n
def loc:aN->List Se->Out (Nat×aN)
 |c,[]=> .ok (0,c)
 |c,.arr::p=>loc c p
 | .pr a _,.fst::p=>loc a p
 | .pr a b,.snd::p=>(loc b p).bind λ(n,v)=> .ok (a.size+n,v)
 | .d (.pair a _) x,.fst::p=>loc (.d a x.1) p
 | .d (.pair a b) x,.snd::p=>(loc (.d b x.2) p).bind λ(n,v)=> .ok (a.size+n,v)
 | .d (.arr _ t) l,.idx i::p=> .AK (decide (i < (l:List t.den).length)) ((loc (.d t (nth t l i)) p).bind λ(n,v)=> .ok (i*t.size+n,v))
 | .vec _ t l,.idx i::p=> .AK (decide (i < l.length)) ((loc (.d t (nth t l i)) p).bind λ(n,v)=> .ok (i*t.size+n,v))
 |_,_::_=> .fail
def Hb:aN->List Se->aN->Out aN
 |c,.arr::p,v=>Hb c p v
 | .vec ..,[],_=> .fail
 | .mp ..,[],_=> .fail
 | .tP ..,[],_=> .fail
 |c,[],v=> .guard (v.fD && (c.size==v.size)) (.ok v)
 | .pr a b,.fst::p,v=>(Hb a p v).bind λa'=> .ok (T1 a' b)
 | .pr a b,.snd::p,v=>(Hb b p v).bind λb'=> .ok (T1 a b')
 | .d (.pair a b) x,.fst::p,v=>(Hb (.d a x.1) p v).bind λa'=> .ok (T1 a' (.d b x.2))
 | .d (.pair a b) x,.snd::p,v=>(Hb (.d b x.2) p v).bind λb'=> .ok (T1 (.d a x.1) b')
 | .d (.arr n t) l,.idx i::p,v=> .AK (decide (i < (l:List t.den).length)) ((Hb (.d t (nth t l i)) p v).bind fun
   | .d t' y=>(Out.opt (wN t' t y)).bind λy=> .ok (.d (.arr n t) ((l:List t.den).set i y))
   |_=> .fail)
 | .vec e t l,.idx i::p,v=> .AK (decide (i < l.length)) ((Hb (.d t (nth t l i)) p v).bind fun
   | .d t' y=>(Out.opt (wN t' t y)).bind λy=> .ok (.vec e t (l.set i y))
   |_=> .fail)
 |_,_::_,_=> .fail
def AS.row(s:AS)(id:Id)(ver:Nat)(p:List Se):Out (Nat×(t:Ty)×List t.den):=
 match s.obj id with
 |some (v,_,c)=> .guard (v==ver) ((loc c.strip p).bind fun
  | (n,.d (.arr _ t) l)=> .ok (n,⟨t,l⟩)
  | (n,.vec _ t l)=> .ok (n,⟨t,l⟩)
  |_=> .fail)
 |none=> .fail
def cut{α:Type}(l:List α)(i len:Nat):List α:=(l.drop i).take len
def AS.jU(s:AS):(t:Ty)->aN->Out t.den
 |t,.d t' x=>Out.opt (K9 t' t x)
 | .slice _,.dJ=> .ok []
 | .gG _,.dJ=> .ok aH
 | .qE _,.jW=> .ok aH
 | .iv _,.jW=> .ok aH
 | .slice t,.bU id ver p c i len=>(s.row id ver p).bind λr=> .AK (decide (r.1+i*r.2.1.size=c/\i+len<=r.2.2.length)) (Out.opt (K9 (.slice r.2.1) (.slice t) (cut r.2.2 i len)))
 | .gG t,.bU id ver p c i len=>(s.row id ver p).bind λr=> .AK (decide (r.1+i*r.2.1.size=c/\i+len<=r.2.2.length)) (Out.opt (K9 (.slice r.2.1) (.gG t) (cut r.2.2 i len)))
 | .pair a b,.pr x y=>(s.jU a x).bind λx=>(s.jU b y).bind λy=> .ok (x,y)
 |_,_=> .fail
def aN.shared:aN->List Id
 | .bU id _ _ _ _ _=> [id]
 | .pr a b=>a.shared++b.shared
 |_=> []
def AS.freeze(s:AS)(id:Id):AS:=
 match s.cJ id with
 |some (.obj v _ c)=>s.bI id (.obj v bm c)
 |_=>s
def AS.bF(s:AS):List Id->AS
 |[]=>s
 |id::ids=>(s.freeze id).bF ids
end Go.Ab
namespace Go.Ab
def aJK{α:Type}(f:α->List Value->Option (List Value)):List α->List Value->Option (List Value)
 |[],cs=>av cs
 |x::xs,cs=>match f x cs with | some r=>aJK f xs r | none=>aH
def yn:(t:Ty)->t.den->List Value->Option (List Value)
 | .int k,x,.int k' n::r=>match decide (k=k'),decide (n=(x:Int)) with | true,bm=>av r | _,_=>aH
 | .bool,x,.bool b::r=>match decide (b=(x:Bool)) with | true=>av r | false=>aH
 | .str,x,.string s::r=>match decide (s=(x:ByteArray)) with | true=>av r | false=>aH
 | .slice _,[],.slice aH 0 0::r=>av r
 | .gG _,aH,.slice aH 0 0::r=>av r
 | .qE _,aH,.pointer aH::r=>av r
 | .iv _,aH,.pointer aH::r=>av r
 | .unit,_,r=>av r
 | .pair a b,x,r=>match yn a x.1 r with | some r'=>yn b x.2 r' | none=>aH
 | .arr n t,l,r=>match decide ((l:List t.den).length=n) with | true=>aJK (yn t) l r | false=>aH
 |_,_,_=>aH
def aaS:aN->List Value->Option (List Value)
 | .d t x,r=>yn t x r
 | .dJ,.slice aH 0 0::r=>av r
 | .jW,.pointer aH::r=>av r
 | .AV,.nilFunc::r=>av r
 | .HB,.map aH::r=>av r
 | .pr a b,r=>match aaS a r with | some r'=>aaS b r' | none=>aH
 |_,_=>aH
def vm:Value->Bool | .agg _=>bm | _=>aZ
def ap1(P:bj)(T:TypeId)(z:aN):Bool:=
 match P.info? T with
 |some i=>match i.zero with
  |some zv=>(match aaS z zv.cells.toList with | some []=>bm | _=>aZ) && (vm zv==z.agg)
  |none=>aZ
 |none=>aZ
structure jf where
 val:aN
 dh:List eJ
 news:List eJ
structure Entry where
 params:List (Option Ty)
 X:Type
 run:List aN->List eJ->Option X
 out:List aN->List eJ->X->jf
 sp:X->Out X:= .ok
 aCi:∀x y,(sp x).eval=av y->y=x:=by exact λx y h=>(bf h).symm
 rel:Bool:=aZ
 set:List aN->List eJ->X->Prop:=λ_ _ _=>False
abbrev tg:=gC->List aN->Option Entry
def aN.ids:aN->List Id
 | .ptr id _ _ _=> [id]
 | .bU id _ _ _ _ _=> [id]
 | .pr a b=>a.ids++b.ids
 | .cons a b=>a.ids++b.ids
 | .fn _ c=>c.ids
 | .bx _ _ c=>c.ids
 | .c7 id _=> [id]
 | .tP id _ _ _ _ _=> [id]
 |_=> []
def eJ.ids:eJ->List Id
 | .obj _ _ c=>c.ids
 | .dead=> []
def AS.reach(s:AS):Nat->List Id->List Id->List Id
 | 0,_,acc=>acc
 |_+1,[],acc=>acc
 |n+1,id::todo,acc=>if acc.contains id then s.reach n todo acc else s.reach n (((s.cJ id).getD .dead).ids++todo) (acc++ [id])
def idxOf(id:Id):List Id->Option Nat
 |[]=>aH
 |x::xs=>if x=id then av 0 else(idxOf id xs).map (· +1)
def aN.l7(ρ:Id->Nat->Option (Id×Nat)):aN->aN
 | .ptr id ver p n=>match ρ id ver with | some r=> .ptr r.1 r.2 p n | none=> .gone
 | .bU id ver p c i len=>match ρ id ver with | some r=> .bU r.1 r.2 p c i len | none=> .gone
 | .pr a b=> .pr (a.l7 ρ) (b.l7 ρ)
 | .cons a b=> .cons (a.l7 ρ) (b.l7 ρ)
 | .fn f c=> .fn f (c.l7 ρ)
 | .bx e z c=> .bx e z (c.l7 ρ)
 | .c7 id ver=>match ρ id ver with | some r=> .c7 r.1 r.2 | none=> .gone
 | .tP id _ k v rest cur=> .tP id 0 k v rest cur
 |v=>v
def AS.Az(s:AS)(ids:List Id)(id:Id)(ver:Nat):Option (Id×Nat):=
 match idxOf id ids,s.obj id with
 |some k,av (v,_,_)=>if v=ver then av (.bP k,0) else aH
 |_,_=>aH
def AS.oK(s:AS)(ids:List Id)(id:Id):eJ:=
 match s.cJ id with
 |some (.obj _ fr c)=> .obj 0 fr (c.l7 (s.Az ids))
 |_=> .dead
def AS.F1(s:AS)(id:Id):Nat:=match s.obj id with | some (v,_,_)=>v | none=>0
def aTr(ids:List Id)(dst:Nat):Id->Id
 | .bP k=>ids.getD k (.bP 0)
 | .new _ j=> .new dst j
def AS.yI(s:AS)(ids:List Id)(dst:Nat):Id->Nat->Option (Id×Nat)
 | .bP k,v=>match ids[k]? with | some id=>av (id,s.F1 id+v) | none=>aH
 | .new _ j,v=>av (.new dst j,v)
def AS.vd(s:AS)(ids:List Id)(dst:Nat)(ver:Nat):eJ->eJ
 | .obj v fr c=> .obj (ver+v) fr (c.l7 (s.yI ids dst))
 | .dead=> .dead
def AS.conv(s:AS):List (Option Ty)->List aN->Out (List aN×List Id)
 |[],[]=> .ok ([],[])
 |some t::ps,v::vs=>(s.jU t v).bind λx=>(s.conv ps vs).bind λr=> .ok (.d t x::r.1,v.shared++r.2)
 |none::ps,v::vs=>(s.conv ps vs).bind λr=> .ok (v::r.1,r.2)
 |_,_=> .fail
def AS.kC(s0:AS)(all:List Id)(dst:Nat)(s:AS):List Id->List eJ->AS
 |id::ids,e::es=>AS.kC s0 all dst (s.bI id (s0.vd all dst (s0.F1 id) e)) ids es
 |_,_=>s
def aN.list:aN->List aN
 | .cons a b=>a::b.list
 |_=> []
def AS.made(s:AS)(ids:List Id)(t:Nat):List eJ->AS
 |[]=>s
 |e::es=>s.born t ((e::es).map (s.vd ids t 0))
def AS.back(s:AS)(ids:List Id)(dst:Option Tmp)(g:jf):Out AS:=
 match dst with
 |some t=> .guard ((g.dh.length==ids.length) && (g.news.isEmpty || s.eQ t))
   (.ok ((AS.kC s ids t (s.made ids t g.news) ids g.dh).put dst (g.val.l7 (s.yI ids t))))
 |none=> .guard ((g.dh.length==ids.length) && g.news.isEmpty) (.ok (AS.kC s ids 0 s ids g.dh))
def AS.akn(s:AS)(vs:List aN):List Id:=s.reach 64 (vs.flatMap aN.ids) []
def AS.WY(s:AS)(id:Id):Bool:=match s.obj id with | some (_,bm,.mp ..)=>aZ | _=>bm
def AS.enter(s:AS)(en:Entry)(dst:Option Tmp)(ids:List Id)(vs:List aN):Out AS:= .guard (ids.all λid=>(s.obj id).isSome && s.WY id) (.get (en.run (vs.map (aN.l7 (s.Az ids))) (ids.map (s.oK ids))) λx=>(en.sp x).bind λx=>s.back ids dst (en.out (vs.map (aN.l7 (s.Az ids))) (ids.map (s.oK ids)) x))
def AS.call(s:AS)(en:Entry)(dst:Option Tmp)(vs:List aN):Out AS:=(s.conv en.params vs).bind λr=>(s.bF r.2).enter en dst ((s.bF r.2).akn r.1) r.1
def cX(op:BinOp)(k:lW)(x y:Int):Int:=
 match op with
 | .and=>k.wrap ((bA k.bits x &&& bA k.bits y).toNat)
 | .or=>k.wrap ((bA k.bits x ||| bA k.bits y).toNat)
 | .xor=>k.wrap ((bA k.bits x^^^bA k.bits y).toNat)
 |_=>k.wrap ((bA k.bits x &&& ~~~bA k.bits y).toNat)
def aKI(op:BinOp)(k:lW)(x:Int)(k':lW)(y:Int):Out aN:=
 match op with
 | .shl=> .AK (decide (0<=y)) (.ok (.d (.int k) (k.wrap (x*2^(min y.toNat k.bits)))))
 | .shr=> .AK (decide (0<=y)) (.ok (.d (.int k) (x.fdiv (2^(min y.toNat k.bits)))))
 |_=> .guard (decide (k=k')) (match op with
  | .add=> .ok (.d (.int k) (k.wrap (x+y)))
  | .sub=> .ok (.d (.int k) (k.wrap (x - y)))
  | .mul=> .ok (.d (.int k) (k.wrap (x*y)))
  | .quo=> .AK (!(decide (y=0))) (.ok (.d (.int k) (k.wrap (x.tdiv y))))
  | .rem=> .AK (!(decide (y=0))) (.ok (.d (.int k) (x.tmod y)))
  | .eql=> .ok (.d .bool (x==y))
  | .neq=> .ok (.d .bool (x !=y))
  | .lss=> .ok (.d .bool (decide (x < y)))
  | .leq=> .ok (.d .bool (decide (x<=y)))
  | .gtr=> .ok (.d .bool (decide (x > y)))
  | .geq=> .ok (.d .bool (decide (x>=y)))
  |op=> .ok (.d (.int k) (cX op k x y)))
def aOh(op:BinOp)(x y:ByteArray):Out aN:=
 match op with
 | .add=> .AK (decide (((x.size+y.size:Nat):Int)<=IntKind.i64.max)) (.ok (.d .str (x++y)))
 | .eql=> .ok (.d .bool (x.toList==y.toList))
 | .neq=> .ok (.d .bool (!(x.toList==y.toList)))
 | .lss=> .ok (.d .bool (Op.bytesLess x.toList y.toList))
 | .geq=> .ok (.d .bool (!(Op.bytesLess x.toList y.toList)))
 |_=> .fail
def Q9(P:bj)(T:TypeId)(b:Bool):Bool:=
 match P.underlying T with | some (.struct _)=>b | some (.array _ _)=>b | some _=> !b | none=>aZ
def QS(P:bj)(AK:TypeId->Ty->Bool):List Field->Ty->Nat->Bool
 |[],.unit,_=>bm
 |f::fs,.pair a b,off=> !(f.name== "_") && (f.offset==off) && !(a.size==0) && (P.cellsOf f.type==a.size) && Q9 P f.type a.agg && AK f.type a && QS P AK fs b (off+a.size)
 |_,_,_=>aZ
def aRH(P:bj)(u:TypeId):Bool:=match P.info? u with | some i=> !(i.size==0) | none=>aZ
def aXO(P:bj)(T:TypeId):Bool:=match P.underlying T with | some (.pointer u)=>aRH P u | _=>aZ
def vT(P:bj):Nat->TypeId->Ty->Bool
 | 0,_,_=>aZ
 |n+1,T,t=>match P.underlying T,t with
  |some (.int _),.int _=>bm
  |some .bool,.bool=>bm
  |some .string,.str=>bm
  |some (.pointer u),.iv t=>aRH P u && t.aBv
  |some (.array m e),.arr m' t'=>(m==m') && !(t'.size==0) && (P.cellsOf e==t'.size) && Q9 P e t'.agg && vT P n e t'
  |some (.struct fs),t=> !P.stoodInHeld T && QS P (vT P n) fs.toList t 0
  |_,_=>aZ
def B1(P:bj)(T:TypeId):aN->aN->Out Bool
 | .d (.iv t) x,.d (.iv t') y=>(Out.opt (wN (.iv t') (.iv t) y)).bind λy=> .guard (aXO P T && t.aBv) (.ok ((Ty.iv t).beq x y))
 | .d t x,.d t' y=>(Out.opt (wN t' t y)).bind λy=> .guard ((t.agg && !P.eqGuardType P.depth T || decide (t= .bool)) && vT P depth T t) (.ok (t.beq x y))
 | .dJ,.dJ=> .guard (isSl P T) (.ok bm)
 | .d (.slice t) l,.dJ=> .guard (isSl P T) (.AK (decide (0 < (l:List t.den).length)) (.ok aZ))
 | .dJ,.d (.slice t) l=> .guard (isSl P T) (.AK (decide (0 < (l:List t.den).length)) (.ok aZ))
 | .bU _ _ _ _ _ len,.dJ=> .guard (isSl P T) (.AK (decide (0 < len)) (.ok aZ))
 | .dJ,.bU _ _ _ _ _ len=> .guard (isSl P T) (.AK (decide (0 < len)) (.ok aZ))
 | .jW,.jW=> .guard (isPt P T) (.ok bm)
 | .ptr ..,.jW=> .guard (isPt P T) (.ok aZ)
 | .jW,.ptr .. => .guard (isPt P T) (.ok aZ)
 | .d (.qE t) x,.jW=> .guard (isPt P T) (.ok (x:Option t.den).isNone)
 | .jW,.d (.qE t) x=> .guard (isPt P T) (.ok (x:Option t.den).isNone)
 | .d (.iv t) x,.jW=> .guard (isPt P T) (.ok (x:Option (Nat×t.den)).isNone)
 | .jW,.d (.iv t) x=> .guard (isPt P T) (.ok (x:Option (Nat×t.den)).isNone)
 | .AV,.AV=> .guard (isFn P T) (.ok bm)
 | .fn ..,.AV=> .guard (isFn P T) (.ok aZ)
 | .AV,.fn .. => .guard (isFn P T) (.ok aZ)
 |_,_=> .fail
where
 isSl (P:bj) (T:TypeId):Bool:=match P.underlying T with | some (.slice _)=>bm | _=>aZ
 isPt (P:bj) (T:TypeId):Bool:=match P.underlying T with | some (.pointer _)=>bm | _=>aZ
 isFn (P:bj) (T:TypeId):Bool:=match P.underlying T with | some (.func _ _ _)=>bm | _=>aZ
def aT6(P:bj)(T:TypeId)(op:BinOp)(x y:aN):Out aN:=
 match x,y with
 | .d (.int k) a,.d (.int k') b=>aKI op k a k' b
 | .d .str a,.d .str b=>aOh op a b
 |x,y=>match op with
  | .eql=>(B1 P T x y).bind λb=> .ok (.d .bool b)
  | .neq=>(B1 P T x y).bind λb=> .ok (.d .bool (!b))
  |_=> .fail
def aYW(op:UnOp)(x:aN):Out aN:=
 match op,x with
 | .not,.d .bool b=> .ok (.d .bool (!b))
 | .neg,.d (.int k) n=> .ok (.d (.int k) (k.wrap (0 - n)))
 | .xor,.d (.int k) n=> .ok (.d (.int k) (cX .xor k (if k.signed then -1 else k.max) n))
 |_,_=> .fail
def bS(s:ByteArray):List Int:=s.data.toList.map λb=>(b.toNat:Int)
def kg(l:List Int):ByteArray:=⟨(l.map λn=>UInt8.ofNat n.toNat).toArray⟩
def AS.aRr(s:AS)(t:Ty)(v:aN):Out t.den:=s.jU t v
def aS8(P:bj)(s:AS)(obj:Bool)(src dst:TypeId)(x:aN):Out aN:=
 match x,P.underlying dst,P.underlying src with
 | .d (.int _) n,av (.int k),av _=> .ok (.d (.int k) (k.wrap n))
 | .d .str a,av .string,av _=> .ok (.d .str a)
 | .d .str a,av (.slice e),av _=>match P.underlying e with
  |some (.int .u8)=> .ok (.d (.slice (.int .u8)) (bS a))
  |_=> .fail
 |_,_,_=> .fail
def aq4(P:bj)(s:AS)(obj:Bool)(src dst:TypeId)(x:aN):Out aN:=aS8 P s obj src dst x
def asInt:aN->Out Int
 | .d (.int _) n=> .ok n
 |_=> .fail
def bounds(s:AS)(n:Nat)(lo hi:Option cr):Out (Nat×Nat):=
 (match hi with
  |some h=>(asInt (s.ev h)).bind λh=> .AK (decide (0<=h/\h<=(n:Int))) (.ok h.toNat)
  |none=> .ok n).bind λh=>
 (match lo with
  |some l=>(asInt (s.ev l)).bind λl=> .AK (decide (0<=l/\l<=(h:Int))) (.ok l.toNat)
  |none=> .ok 0).bind λl=> .ok (l,h)
def mN(P:bj)(T:TypeId):Option Nat:=
 match P.underlying T with
 |some (.array _ e)=>match P.cellsOf e with | 0=>aH | z+1=>av (z+1)
 |some (.slice e)=>match P.cellsOf e with | 0=>aH | z+1=>av (z+1)
 |_=>aH
def Bl(P:bj)(T:TypeId):Option Nat:=
 match P.underlying T with
 |some (.array n _)=>av n
 |_=>aH
def Nr(P:bj)(s:AS)(T:TypeId)(x:aN)(lo hi:Option cr):Out aN:=
 match x with
 | .d .str a=> .guard (match P.underlying T with | some .string=>bm | _=>aZ) ((bounds s a.size lo hi).bind λb=> .ok (.d .str (a.extract b.1 b.2)))
 | .d (.slice t) l=> .guard (match mN P T,Bl P T with | some z,aH=>z==t.size | _,_=>aZ)
   ((bounds s (l:List t.den).length lo hi).bind λb=> .ok (.d (.slice t) (cut l b.1 (b.2 - b.1))))
 | .dJ=> .guard (match mN P T,Bl P T with | some _,aH=>bm | _,_=>aZ) ((bounds s 0 lo hi).bind λ_=> .ok .dJ)
 | .bU id ver p c i len=>(s.row id ver p).bind λr=> .guard (match mN P T,Bl P T with | some z,aH=>z==r.2.1.size | _,_=>aZ)
   ((bounds s len lo hi).bind λb=> .ok (.bU id ver p (c+b.1*r.2.1.size) (i+b.1) (b.2 - b.1)))
 | .ptr id ver p n=>(s.row id ver p).bind λr=> .guard (match mN P T,Bl P T with | some z,av _=>z==r.2.1.size | _,_=>aZ)
   (.AK (decide (Bl P T=av r.2.2.length/\r.1=n)) ((bounds s ((Bl P T).getD 0) lo hi).bind λb=> .ok (.bU id ver (p++ [.arr]) (n+b.1*r.2.1.size) b.1 (b.2 - b.1))))
 | .dz (.arr n t) l=> .guard (match mN P T,Bl P T with | some z,av m=>(z==t.size) && (m==n) | _,_=>aZ)
   ((bounds s n lo hi).bind λb=> .ok (.d (.slice t) (cut l b.1 (b.2 - b.1))))
 |_=> .fail
def aQU:aN->Int
 | .d (.slice t) l=>((l:List t.den).length:Int)
 | .bU _ _ _ _ _ len=>(len:Int)
 | .dJ=>0
 |_=> -1
def ary:Option cr->aN->aN
 |some _,.bU id ver p c i len=> .bU id ver (p++ [.arr]) c i len
 |_,v=>v
def VJ(P:bj)(s:AS)(T:TypeId)(x:aN)(lo:Option cr)(h m:cr):Out aN:=(asInt (s.ev h)).bind λhv=>(asInt (s.ev m)).bind λmv=> .AK (decide (0<=hv/\hv<=mv/\mv<=aQU x)) ((Nr P s T x lo (av h)).bind λv=> .ok (ary (av m) v))
def vl(P:bj)(s:AS)(T:TypeId)(x:aN)(i:Int):Out aN:=
 match x with
 | .d (.slice t) l=> .guard (match mN P T,Bl P T with | some z,aH=>z==t.size | _,_=>aZ)
   (.AK (decide (0<=i/\i < ((l:List t.den).length:Int))) (.ok (.dz t (nth t l i.toNat))))
 | .dz (.arr n t) l=> .guard (match mN P T,Bl P T with | some z,av m=>(z==t.size) && (m==n) | _,_=>aZ)
   (.AK (decide (0<=i/\i < (n:Int))) (.ok (.dz t (nth t l i.toNat))))
 | .bU id ver p c j len=>(s.row id ver p).bind λr=> .guard (match mN P T,Bl P T with | some z,aH=>z==r.2.1.size | _,_=>aZ)
   (.AK (decide (0<=i/\i < (len:Int))) (.ok (.ptr id ver (p++ [.idx (j+i.toNat)]) (c+i.toNat*r.2.1.size))))
 | .ptr id ver p n=> .guard (match mN P T,Bl P T with | some _,av _=>bm | _,_=>aZ)
   (.AK (decide (0<=i/\i < (((Bl P T).getD 0:Nat):Int))) (.ok (.ptr id ver (p++ [.idx i.toNat]) (n+i.toNat*(mN P T).getD 0))))
 |_=> .fail
def fieldInfo(P:bj)(T:TypeId)(f:Nat):Option (Nat×TypeId):=
 match P.underlying T with
 |some (.struct fs)=>match fs[f]? with | some x=>av (x.offset,x.type) | none=>aH
 |_=>aH
def partOf:aN->Nat->Option (Nat×aN)
 | .d (.pair a _) x,0=>av (0,.d a x.1)
 | .d (.pair a b) x,n+1=>match partOf (.d b x.2) n with | some (o,v)=>av (a.size+o,v) | none=>aH
 | .pr a _,0=>av (0,a)
 | .pr a b,n+1=>match partOf b n with | some (o,v)=>av (a.size+o,v) | none=>aH
 |_,_=>aH
def IS(P:bj)(T:TypeId)(x:aN)(f:Nat):Out aN:=
 match fieldInfo P T f with
 |some (o,ft)=> .guard (!(P.cellsOf ft==0)) (match x with
  | .ptr id ver p n=> .ok (.ptr id ver (p++qd f) (n+o))
  | .dz t x=>match partOf (.d t x) f with
   |some (o',.d t' y)=> .guard (o==o') (.ok (.dz t' y))
   |_=> .fail
  | .d (.qE t) x=> .get (x:Option t.den) λx=>match partOf (.d t x) f with
   |some (o',.d t' y)=> .guard (o==o') (.ok (.dz t' y))
   |_=> .fail
  | .d (.iv t) x=> .get (x:Option (Nat×t.den)) λx=>match partOf (.d t x.2) f with
   |some (o',.d t' y)=> .guard (o==o') (.ok (.dz t' y))
   |_=> .fail
  |_=> .fail)
 |none=> .fail
def ane(P:bj)(T:TypeId)(x:aN)(f:Nat):Out aN:=
 match fieldInfo P T f,partOf x f with
 |some (o,ft),av (o',v)=> .guard ((o==o') && fits P ft v) (.ok v)
 |_,_=> .fail
def anu(P:bj)(T:TypeId)(x:aN)(i:Int):Out aN:=
 match x,P.underlying T with
 | .d (.arr n t) l,av (.array m e)=> .guard ((n==m) && fits P e (.d t t.zero)) (.AK (decide (0<=i/\i < (n:Int))) (.ok (.d t (nth t l i.toNat))))
 | .d .str a,av .string=> .AK (decide (0<=i/\i < (a.size:Int))) (.ok (.d (.int .u8) ((a.data.toList.getD i.toNat 0).toNat:Int)))
 |_,_=> .fail
def aVm:aN->Out aN
 | .d (.gG t) l=> .AK (l:Option (List t.den)).isNone (.ok .dJ)
 |v=> .ok v
def TU(P:bj)(s:AS)(T:TypeId)(x:aN):Out aN:=
 match x with
 | .ptr id ver p n=>match s.obj id with
  |some (v,_,c)=> .guard (v==ver) ((loc c.strip p).bind λr=> .guard (fits P T r.2) (.AK (decide (r.1=n)) (aVm r.2)))
  |none=> .fail
 | .dz t y=> .guard (fits P T (.d t y)) (.ok (.d t y))
 | .d (.qE t) y=> .get (y:Option t.den) λy=> .guard (fits P T (.d t y)) (.ok (.d t y))
 | .d (.iv t) y=> .get (y:Option (Nat×t.den)) λy=> .guard (fits P T (.d t y.2)) (.ok (.d t y.2))
 |_=> .fail
def Nt(P:bj)(s:AS)(T:TypeId)(x v:aN):Out AS:=
 match x with
 | .ptr id ver p n=>match s.obj id with
  |some (ve,fr,c)=> .guard ((ve==ver) && !fr && fits P T v) ((loc c.strip p).bind λr=> .guard (fits P T r.2) (.AK (decide (r.1=n)) ((Hb c.strip p v).bind λc'=> .ok (s.bI id (.obj ve fr (c.wrap c'))))))
  |none=> .fail
 |_=> .fail
def aQT(P:bj)(T:TypeId)(x:aN):Out aN:=
 match P.underlying T,x with
 |some .string,.d .str a=> .ok (.d (.int .i64) (a.size:Int))
 |some (.slice _),.d (.slice t) l=> .ok (.d (.int .i64) ((l:List t.den).length:Int))
 |some (.slice _),.dJ=> .ok (.d (.int .i64) (0:Int))
 |some (.slice _),.bU _ _ _ _ _ len=> .ok (.d (.int .i64) (len:Int))
 |some (.array n _),_=> .ok (.d (.int .i64) (n:Int))
 |_,_=> .fail
def LL(P:bj)(s:AS)(t:Ty)(X:TypeId)(x:aN):Out (List t.den):=
 match x with
 | .d .str a=>match P.underlying X with
  |some .string=>Out.opt (wN (.slice (.int .u8)) (.slice t) (bS a))
  |_=> .fail
 |x=>match P.underlying X with
  |some (.slice _)=>s.aRr (.slice t) x
  |_=> .fail
def cZ(n b:Nat):Bool:=decide (n*b<=140737488355328/\n<=9223372036854775807)
def IM(P:bj)(nl:Bool)(T:TypeId):Option (TypeId×Ty×Nat):=
 match P.underlying T with
 |some (.slice e)=>match ahv P nl depth e with
  |some t=>match(P.cellsOf e==t.size) && !(t.size==0) && ap1 P e (.d t t.zero) with | true=>av (e,t,P.bytesOf e) | false=>aH
  |none=>aH
 |_=>aH
def abC(P:bj)(T:TypeId):Option (TypeId×Ty×Nat):=IM P aZ T
def am3(P:bj)(T:TypeId):Option (TypeId×Ty×Nat):=
 match Nat.ble 100000 T with
 |true=>IM P bm (T - 100000)
 |false=>IM P aZ T
def arT(P:bj)(s:AS)(dst:Option Tmp)(T X:TypeId)(n:Int):Out AS:=
 match abC P T,dst,P.underlying X with
 |some (e,t,b),av q,av (.int _)=> .guard (s.eQ q) (.AK (decide (0 < n) && cZ n.toNat b)
   (.ok ((s.born q [.obj 0 aZ (.vec e t (ai n.toNat t.zero))]).put dst (.bU (.new q 0) 0 [] 0 0 n.toNat))))
 |_,_,_=> .fail
def aEP(mx:Bool):List aN->Out aN
 |[.d (.int k) x,.d (.int k') y]=> .guard (decide (k=k')) (.ok (.d (.int k) (match mx with | true=>(if x < y then y else x) | false=>(if y < x then y else x))))
 |[.d (.int k) x,.d (.int k') y,.d (.int k2) z]=> .guard (decide (k=k') && decide (k=k2)) (.ok (.d (.int k) (match mx with | true=>(if(if x < y then y else x) < z then z else(if x < y then y else x)) | false=>(if z < (if y < x then y else x) then z else(if y < x then y else x)))))
 |_=> .fail
def Bo(P:bj)(s:AS)(nl dt:Bool)(dst:Option Tmp)(T X:TypeId)(x y:aN):Out AS:=
 match IM P nl T,dst with
 |some (e,t,b),av q=>(LL P s t X y).bind λm=>
  match x with
  | .dJ=>match dt with
   |true=> .AK (cZ m.length b && decide (0 < m.length)) (.ok (s.put dst (.d (.gG t) (av m))))
   |false=> .guard (s.eQ q) (.AK (cZ m.length b) (.ok ((s.born q [.obj 0 aZ (.vec e t m)]).put dst (.bU (.new q 0) 0 [] 0 0 m.length))))
  | .bU id ver [] 0 0 len=>match s.obj id with
   |some (v,fr,.vec e' t' l)=> .guard ((v==ver) && (e==e')) ((Out.opt (wN (.slice t') (.slice t) l)).bind λl=>
     .AK (decide (len<=l.length)) <| .AK ((!fr) || decide (len=l.length)) (.AK (cZ (len+m.length) b)
      (.ok ((s.bI id (.obj (v+1) fr (.vec e t (l.take len++m)))).put dst (.bU id (v+1) [] 0 0 (len+m.length))))))
   |_=> .fail
  |_=> .fail
 |_,_=> .fail
def acE(P:bj)(s:AS)(dst:Option Tmp)(T X:TypeId)(x y:aN):Out AS:=
 match abC P T,x with
 |some (_,t,_),.bU id ver [.arr] 0 0 len=>(LL P s t X y).bind λm=>match s.obj id with
  |some (ve,aZ,.d (.arr n t') l)=> .guard ((ve==ver) && (len==n)) ((Out.opt (wN (.slice t') (.slice t) l)).bind λl=> .AK (decide (m.length<=n))
    (.ok ((s.bI id (.obj ve aZ (.d (.arr n t) (m++(l:List t.den).drop m.length)))).put dst (.d (.int .i64) (m.length:Int)))))
  |_=> .fail
 |_,_=> .fail
def km(t:Ty)(s:AS):List (Nat×cr)->List t.den->Out (List t.den×List Id)
 |[],l=> .ok (l,[])
 | (i,x)::ps,l=> .guard (decide (i < l.length)) ((s.jU t (s.ev x)).bind λy=>(km t s ps (l.set i y)).bind λr=> .ok (r.1,(s.ev x).shared++r.2))
def s5(P:bj)(fs:Array Field)(s:AS):List (Nat×cr)->aN->Out aN
 |[],v=> .ok v
 | (i,x)::ps,v=>match fs[i]?,partOf v i with
  |some f,av (o,bP)=> .guard ((f.offset==o) && fits P f.type bP && fits P f.type (s.ev x)) ((Hb v (qd i) (s.ev x)).bind λv'=>s5 P fs s ps v')
  |_,_=> .fail
def KZ(P:bj)(s:AS)(dst:Option Tmp)(T:TypeId)(parts:List (Nat×cr)):Out AS:=
 match P.underlying T with
 |some (.struct fs)=>match zeroOf P depth T with
  |some z=> .guard (ap1 P T z && z.agg && fs.toList.all λf=>(P.info? f.type).isSome)
    ((s5 P fs s parts z).bind λv=> .ok (s.put dst v))
  |none=> .fail
 |some (.array n e)=>match aAg P depth e with
  |some t=> .guard ((P.cellsOf e==t.size) && ap1 P T (.d (.arr n t) (ai n t.zero))) ((km t s parts (ai n t.zero)).bind λr=> .ok ((s.bF r.2).put dst (.d (.arr n t) r.1)))
  |none=> .fail
 |_=> .fail
def oI(P:bj)(s:AS)(nl obj:Bool)(dst:Option Tmp)(T:TypeId)(n:Nat)(parts:List (Nat×cr)):Out AS:=
 match IM P nl T,dst with
 |some (e,t,_),av q=> .guard (decide (n*t.size<=16777216)) ((km t s parts (ai n t.zero)).bind λr=>
   match obj with
   |true=> .guard (s.eQ q) (.ok (((s.bF r.2).born q [.obj 0 aZ (.vec e t r.1)]).put dst (.bU (.new q 0) 0 [] 0 0 r.1.length)))
   |false=> .ok ((s.bF r.2).put dst (.d (.slice t) r.1)))
 |_,_=> .fail
def vo(P:bj)(s:AS)(dst:Option Tmp)(T:TypeId)(len cap:Int):Out AS:=
 match abC P T,dst with
 |some (e,t,b),av q=> .guard (s.eQ q) (.AK (decide (0<=len/\len<=cap) && cZ cap.toNat b)
   (.ok ((s.born q [.obj 0 aZ (.vec e t (ai len.toNat t.zero))]).put dst (.bU (.new q 0) 0 [] 0 0 len.toNat))))
 |_,_=> .fail
def aSk(P:bj)(T:TypeId):Bool:=
 match P.underlying T with
 |some (.struct fs)=>fs.toList.any λf=>match P.underlying f.type with | some (.pointer u)=>decide (u=T) | _=>aZ
 |_=>aZ
def boxed(P:bj)(T:TypeId)(z:aN):aN:=match aSk P T with | true=> .bx T 0 z | false=>z
def aUa(dt:Bool)(t:Ty)(x:t.den):aN:=match dt with | true=> .d (.qE t) (av x) | false=> .dz t x
def aqN(P:bj)(s:AS)(obj dt:Bool)(dst:Option Tmp)(T:TypeId)(v:aN):Out AS:=
 match dst with
 |some q=>match obj with
  |true=> .guard (s.eQ q && fits P T v) (.ok ((s.born q [.obj 0 aZ v]).put dst (.ptr (.new q 0) 0 [] 0)))
  |false=>match aAg P depth T with
   |some t=> .guard (fits P T (.d t t.zero)) ((s.jU t v).bind λx=> .ok ((s.bF v.shared).put dst (aUa dt t x)))
   |none=> .fail
 |none=> .fail
def u6(s:AS):List cr->aN
 |[]=> .nil
 |x::xs=> .cons (s.ev x) (u6 s xs)
def Dp:aN->Bool
 | .cons a b=>a.fD && Dp b
 | .nil=>bm
 |_=>aZ
def aBM(c a b:aN):Out aN:=
 match c with
 | .d .bool c=>match a,b with
  | .d .bool x,.d .bool y=> .ok (.d .bool (bif c then x else y))
  |a,b=> .br c (.ok a) (.ok b)
 |_=> .fail
def isObj(cg:List Nat):Option Tmp->Bool
 |some q=>cg.any λx=>decide (x=q)
 |none=>aZ
def aEs(cg:List Nat)(dst:Option Tmp):Bool:=isObj cg (dst.map (· +100000))
def axa(cg:List Nat)(dst:Option Tmp):Bool:=isObj cg (dst.map (· +200000))
def tx:(t:Ty)->aN->Out t.den
 |t,.d t' x=>Out.opt (wN t' t x)
 | .slice _,.dJ=> .ok []
 | .pair a b,.pr x y=>(tx a x).bind λx=>(tx b y).bind λy=> .ok (x,y)
 |_,_=> .fail
def mapOf(P:bj)(T:TypeId):Option (TypeId×TypeId×Ty×Ty):=
 match P.underlying T with
 |some (.map K V)=>match aAg P depth K,aAg P depth V with
  |some kt,av vt=>match vT P depth K kt && ap1 P V (.d vt vt.zero) with | true=>av (K,V,kt,vt) | false=>aH
  |_,_=>aH
 |_=>aH
def jt{β:Type}(kt:Ty)(x:kt.den):List (kt.den×β)->Option Nat
 |[]=>aH
 |p::l=>match kt.beq x p.1 with | true=>av 0 | false=>(jt kt x l).map (· +1)
def cw{β:Type}(kt:Ty)(x:kt.den)(l:List (kt.den×β)):Option β:=(jt kt x l).bind λi=>(l[i]?).map (·.2)
def fp{β:Type}(kt:Ty)(x:kt.den)(v:β)(l:List (kt.den×β)):List (kt.den×β):=
 match jt kt x l with | some i=>l.set i (x,v) | none=>l++ [(x,v)]
def kH{β:Type}(kt:Ty)(x:kt.den)(l:List (kt.den×β)):List (kt.den×β):=
 match jt kt x l with | some i=>l.eraseIdx i | none=>l
def awq(k v k' v':Ty)(l:List (k.den×v.den)):Option (List (k'.den×v'.den)):=if h:k=k'/\v=v' then av (h.1▸h.2▸l) else aH
def AS.tt(s:AS)(id:Id)(ver:Nat)(kt vt:Ty):Out (List (kt.den×vt.den)):=
 match s.obj id with
 |some (v,_,.mp k' v' l)=> .guard (v==ver) (Out.opt (awq k' v' kt vt l))
 |_=> .fail
def AS.xU(s:AS)(id:Id):Bool:=match s.obj id with | some (_,fr,_)=> !fr | none=>aZ
def aTx(vt:Ty)(ok:Bool)(r:Option vt.den):aN:=
 match ok with
 |true=> .cons (.d vt (r.getD vt.zero)) (.cons (.d .bool r.isSome) .nil)
 |false=> .d vt (r.getD vt.zero)
def LI(P:bj)(s:AS)(dst:Option Tmp)(T:TypeId):Out AS:=
 match mapOf P T,dst with
 |some (_,_,kt,vt),av q=> .guard (s.eQ q) (.ok ((s.born q [.obj 0 aZ (.mp kt vt [])]).put dst (.c7 (.new q 0) 0)))
 |_,_=> .fail
def IW(P:bj)(s:AS)(T:TypeId)(m k:aN)(ok:Bool):Out aN:=
 match mapOf P T,m with
 |some (_,_,kt,vt),.c7 id ver=>(s.tt id ver kt vt).bind λl=>(tx kt k).bind λk=> .ok (aTx vt ok (cw kt k l))
 |_,_=> .fail
def I1(P:bj)(s:AS)(T:TypeId)(m k v:aN):Out AS:=
 match mapOf P T,m with
 |some (_,_,kt,vt),.c7 id ver=>(s.tt id ver kt vt).bind λl=>(tx kt k).bind λk=>(tx vt v).bind λv=> .guard (s.xU id) (.ok (s.bI id (.obj ver aZ (.mp kt vt (fp kt k v l)))))
 |_,_=> .fail
def I0(P:bj)(s:AS)(T:TypeId)(m k:aN):Out AS:=
 match mapOf P T,m with
 |some (_,_,kt,vt),.c7 id ver=>(s.tt id ver kt vt).bind λl=>(tx kt k).bind λk=> .guard (s.xU id) (.ok (s.bI id (.obj ver aZ (.mp kt vt (kH kt k l)))))
 |_,_=> .fail
def AS.asr(s:AS)(id:Id)(ver:Nat):Bool:=match s.obj id with | some (v,bm,.mp ..)=>v==ver | _=>aZ
def eJ.aKK(q:Id):eJ->Bool
 | .obj _ _ (.tP q' ver _ _ _ _)=>decide (q'=q) && !(ver==0)
 |_=>aZ
def AS.afY(s:AS)(q:Id):Bool:=s.dh.any (eJ.aKK q) || s.news.any λes=>es.any (eJ.aKK q)
def sE(kt vt:Ty)(l:List (kt.den×vt.den))(j:Nat):kt.den×vt.den:=l.getD j (kt.zero,vt.zero)
def Xx(P:bj)(s:AS)(dst:Option Tmp)(T:TypeId)(m:aN):Out AS:=
 match mapOf P T,m,dst with
 |some (_,_,kt,vt),.c7 id ver,av q=>(s.tt id ver kt vt).bind λl=> .guard (s.xU id && s.eQ q)
   (.ok (((s.bI id (.obj ver bm (.mp kt vt l))).born q [.obj 0 aZ (.tP id (ver+1) kt vt l aH)]).put dst (.ptr (.new q 0) 0 [] 0)))
 |_,_,_=> .fail
structure aCD where
 i:Id
 v:Nat
 fr:Bool
 q:Id
 vr:Nat
 kt:Ty
 vt:Ty
 rest:List (kt.den×vt.den)
 cur:Option (kt.den×vt.den)
def AS.aKJ(s:AS)(x:aN):Option aCD:=
 match x with
 | .ptr i ver [] 0=>match s.obj i with
  |some (v,fr,.tP q (vr+1) kt vt rest cur)=>match v==ver,s.asr q vr with
   |true,bm=>av ⟨i,v,fr,q,vr,kt,vt,rest,cur⟩
   |_,_=>aH
  |_=>aH
 |_=>aH
def awI(s:AS)(x:aN):Out aN:=
 match s.aKJ x with
 |some ⟨_,_,_,_,_,kt,vt,_,av c⟩=> .ok (.cons (.d kt c.1) (.cons (.d vt c.2) .nil))
 |_=> .fail
def AS.drawn(s:AS)(t:aCD)(dst:Option Tmp)(j:Nat):AS:=(s.bI t.i (.obj t.v t.fr (.tP t.q (t.vr+1) t.kt t.vt (t.rest.eraseIdx j) (av (sE t.kt t.vt t.rest j))))).put dst (.cons (.d .bool bm) (.cons (.d t.kt (sE t.kt t.vt t.rest j).1) (.cons (.d t.vt (sE t.kt t.vt t.rest j).2) .nil)))
def AS.unlock(s:AS)(id:Id):AS:=match s.obj id with | some (v,_,c)=>s.bI id (.obj v aZ c) | none=>s
def AS.aRi(s:AS)(t:aCD)(dst:Option Tmp):Option AS:=
 match(s.bI t.i (.obj t.v t.fr (.tP t.q 0 t.kt t.vt [] aH))).afY t.q with
 |false=>av (((s.bI t.i (.obj t.v t.fr (.tP t.q 0 t.kt t.vt [] aH))).unlock t.q).put dst (.cons (.d .bool aZ) .nil))
 |true=>aH
open Classical in
def ap3{R:Type}(n:Nat)(k:Nat->Option R):Option R:=if h:∃r,0 < n/\∀j,j < n->k j=av r then av h.choose else aH
open Classical in
def aaR{X R:Type}(S:X->Prop)(k:X->Option R):Option R:=if h:∃r,(∃x,S x)/\∀x,S x->k x=av r then av h.choose else aH
def aLo{R:Type}(s:AS)(dst:Option Tmp)(t:aCD)(k:AS->Option R):Option R:=
 aJ (decide (0 < t.rest.length)) (ap3 t.rest.length λj=>k (s.drawn t dst j)) (match s.aRi t dst with | some s'=>k s' | none=>aH)
def AS.aBk(s:AS)(ids:List Id):Bool:=ids.all λid=>(s.obj id).isSome && s.WY id
def AS.aJN{R:Type}(s:AS)(en:Entry)(dst:Option Tmp)(ids:List Id)(vs:List aN)(k:AS->Option R):Option R:=aaR (en.set (vs.map (aN.l7 (s.Az ids))) (ids.map (s.oK ids))) λx=>((en.sp x).bind λx=>s.back ids dst (en.out (vs.map (aN.l7 (s.Az ids))) (ids.map (s.oK ids)) x)).run k
def AS.acx{R:Type}(s:AS)(en:Entry)(dst:Option Tmp)(vs:List aN)(k:AS->Option R):Option R:=((s.conv en.params vs).bind λr=> .guard ((s.bF r.2).aBk ((s.bF r.2).akn r.1)) (.ok r)).run λr=>(s.bF r.2).aJN en dst ((s.bF r.2).akn r.1) r.1 k
def yB:Nat:=4294967296
def vJ(P:bj)(Γ:tg)(cg:List Nat)(o:Oper)(s:AS):Out AS:=
 match o.op with
 | .move x=> .ok (s.put o.dst (s.ev x))
 | .assign x=> .ok (s.put o.dst (s.ev x))
 | .pick c a b=>(aBM (s.ev c) (s.ev a) (s.ev b)).bind λv=> .ok (s.put o.dst v)
 | .alloc T=>match zeroOf P depth T,o.dst with
  |some z,av q=> .guard (s.eQ q && ap1 P T z) (.ok ((s.born q [.obj 0 aZ (boxed P T z)]).put o.dst (.ptr (.new q 0) 0 [] 0)))
  |_,_=> .fail
 | .box T x=>aqN P s (isObj cg o.dst) (axa cg o.dst) o.dst T (s.ev x)
 | .build T parts=>KZ P s o.dst T parts.toList
 | .buildSlice T n parts=>oI P s (aEs cg o.dst) (isObj cg o.dst) o.dst T n parts.toList
 | .load T x=>(TU P s T (s.ev x)).bind λv=> .ok (s.put o.dst v)
 | .store T x v=>(Nt P s T (s.ev x) (s.ev v)).bind λs'=> .ok (s'.put o.dst .undef)
 | .nilCheck x=>match s.ev x with
  | .ptr id v p n=> .ok (s.put o.dst (.ptr id v p n))
  | .dz t y=> .ok (s.put o.dst (.dz t y))
  | .d (.qE t) y=> .get (y:Option t.den) λy=> .ok (s.put o.dst (.dz t y))
  | .d (.iv t) y=> .get (y:Option (Nat×t.den)) λy=> .ok (s.put o.dst (.dz t y.2))
  | .fn f c=> .ok (s.put o.dst (.fn f c))
  |_=> .fail
 | .binOp op T x y _=>(aT6 P T op (s.ev x) (s.ev y)).bind λv=> .ok (s.put o.dst v)
 | .unOp op _ x=>(aYW op (s.ev x)).bind λv=> .ok (s.put o.dst v)
 | .convert src dst x=>(aq4 P s (isObj cg o.dst) src dst (s.ev x)).bind λv=> .ok (s.put o.dst v)
 | .makeFunc (.func f) first caps=> .guard (first.isEmpty && Dp (u6 s caps.toList)) (.ok (s.put o.dst (.fn f (u6 s caps.toList))))
 | .makeSlice T l c=>(asInt (s.ev l)).bind λl=>(asInt (s.ev c)).bind λc=>vo P s o.dst T l c
 | .slice T x lo hi aH=>(Nr P s T (s.ev x) lo hi).bind λv=> .ok (s.put o.dst v)
 | .slice T x lo (av h) (av m)=>(VJ P s T (s.ev x) lo h m).bind λv=> .ok (s.put o.dst v)
 | .fieldAddr T x f=>(IS P T (s.ev x) f).bind λv=> .ok (s.put o.dst v)
 | .field T x f=>(ane P T (s.ev x) f).bind λv=> .ok (s.put o.dst v)
 | .indexAddr T x i=>(asInt (s.ev i)).bind λi=>(vl P s T (s.ev x) i).bind λv=> .ok (s.put o.dst v)
 | .index T x i=>(asInt (s.ev i)).bind λi=>(anu P T (s.ev x) i).bind λv=> .ok (s.put o.dst v)
 | .extract x i=>(Out.opt ((s.ev x).list[i]?)).bind λv=> .ok (s.put o.dst v)
 | .makeMap T aH=>LI P s o.dst T
 | .lookup T x i ok=>(IW P s T (s.ev x) (s.ev i) ok).bind λv=> .ok (s.put o.dst v)
 | .mapUpdate T m k x=>(I1 P s T (s.ev m) (s.ev k) (s.ev x)).bind λs'=> .ok (s'.put o.dst .undef)
 | .range T m=>Xx P s o.dst T (s.ev m)
 | .call c=>match c.callee with
  | .builtin .delete=>match c.args.toList,c.argTypes.toList with
   |[m,k],[T,_]=>(I0 P s T (s.ev m) (s.ev k)).bind λs'=> .ok (s'.put o.dst .nil)
   |_,_=> .fail
  | .builtin .copy=>match c.args.toList,c.argTypes.toList with
   |[x,y],[T,X]=>acE P s o.dst T X (s.ev x) (s.ev y)
   |_,_=> .fail
  | .builtin .len=>match c.args.toList,c.argTypes.toList with
   |[x],[T]=>(aQT P T (s.ev x)).bind λv=> .ok (s.put o.dst v)
   |_,_=> .fail
  | .builtin .append=>match c.args.toList,c.argTypes.toList with
   |[x,y],[T,X]=>match s.ev x,s.ev y with
    | .dJ,.d (.int _) n=>arT P s o.dst T X n
    |_,_=>Bo P s (aEs cg o.dst) (axa cg o.dst) o.dst T X (s.ev x) (s.ev y)
   |_,_=> .fail
  | .builtin .cap=>match c.args.toList,c.argTypes.toList with
   |[x],[T]=>match s.ev x,P.underlying T with
    | .dJ,av (.slice _)=> .ok (s.put o.dst (.d (.int .i64) (0:Int)))
    |_,_=> .fail
   |_,_=> .fail
  | .builtin .max=>(aEP bm (c.args.toList.map s.ev)).bind λv=> .ok (s.put o.dst v)
  | .builtin .min=>(aEP aZ (c.args.toList.map s.ev)).bind λv=> .ok (s.put o.dst v)
  | .value f=>match s.ev f with
   | .fn f caps=>match Γ f (c.args.toList.map s.ev++caps.list) with
    |some en=> .guard (Nat.blt f yB) (s.call en o.dst (c.args.toList.map s.ev++caps.list))
    |none=> .fail
   |_=> .fail
  |_=> .fail
 |_=> .fail
def abP(xs:Array cr):List Nat:=xs.toList.filterMap λ | .tmp t=>av t | _=>aH
def WK(ops:Array Oper)(o:Oper):List Nat:=
 match o.guard with
 |some (j,_)=>match(ops[j]?).bind (·.dst) with | some t=> [t] | none=> []
 |none=> []
def aKe{R:Type}(P:bj)(Γ:tg)(cg:List Nat)(ops:Array Oper)(o:Oper)(s:AS)(k:AS->Option R):Option R:=
 match o.guard with
 |none=>(vJ P Γ cg o s).run k
 |some (j,want)=>match(ops[j]?).bind (·.dst) with
  |some q=>match s.slot q with
   | .d .bool b=>match want with
    |true=>aJ b ((vJ P Γ cg o (s.put (av q) (.d .bool bm))).run k) (k ((s.put (av q) (.d .bool aZ)).put o.dst .nil))
    |false=>aJ b (k ((s.put (av q) (.d .bool bm)).put o.dst .nil)) ((vJ P Γ cg o (s.put (av q) (.d .bool aZ))).run k)
   | .nil=>k (s.put o.dst .nil)
   |_=>aH
  |none=>aH
def aeq(s:AS)(x y:cr):Option Nat:=
 match s.ev x,s.ev y with
 | .d (.slice t) l,.dJ=>av (l:List t.den).length
 | .dJ,.d (.slice t) l=>av (l:List t.den).length
 | .bU _ _ _ _ _ len,.dJ=>av len
 | .dJ,.bU _ _ _ _ _ len=>av len
 |_,_=>aH
open Classical in
def nd{R:Type}(x y:Option R):Option R:=if x=y then x else aH
def aB9(Γ:tg)(F:aN)(vs:List aN):Option (Entry×List aN):=
 match F with
 | .fn f caps=>match Γ f (vs++caps.list) with
  |some en=>match en.rel && Nat.blt f yB with | true=>av (en,vs++caps.list) | false=>aH
  |none=>aH
 |_=>aH
def aQg{R:Type}(P:bj)(Γ:tg)(cg:List Nat)(ops:Array Oper)(o:Oper)(s:AS)(k:AS->Option R):Option R:=
 match o.guard,o.op with
 |none,.binOp .eql T x y _=>match aeq s x y,B1.isSl P T with
  |some n,bm=>aJ (decide (0 < n)) (k (s.put o.dst (.d .bool aZ))) (nd (k (s.put o.dst (.d .bool bm))) (k (s.put o.dst (.d .bool aZ))))
  |_,_=>aKe P Γ cg ops o s k
 |none,.binOp .neq T x y _=>match aeq s x y,B1.isSl P T with
  |some n,bm=>aJ (decide (0 < n)) (k (s.put o.dst (.d .bool bm))) (nd (k (s.put o.dst (.d .bool bm))) (k (s.put o.dst (.d .bool aZ))))
  |_,_=>aKe P Γ cg ops o s k
 |none,.range T m=>(Xx P s o.dst T (s.ev m)).run k
 |none,.entry x=>((awI s (s.ev x)).bind λv=> .ok (s.put o.dst v)).run k
 |none,.next x aZ=>match s.aKJ (s.ev x) with
  |some t=>aLo s o.dst t k
  |none=>aH
 |none,.call c=>match c.callee with
  | .value F=>match aB9 Γ (s.ev F) (c.args.toList.map s.ev) with
   |some (en,vs)=>s.acx en o.dst vs k
   |none=>aKe P Γ cg ops o s k
  |_=>aKe P Γ cg ops o s k
 |some (j,want),.call c=>match c.callee with
  | .value F=>match aB9 Γ (s.ev F) (c.args.toList.map s.ev),(ops[j]?).bind (·.dst) with
   |some (en,vs),av q=>match s.slot q with
    | .d .bool b=>match want with
     |true=>aJ b ((s.put (av q) (.d .bool bm)).acx en o.dst vs k) (k ((s.put (av q) (.d .bool aZ)).put o.dst .nil))
     |false=>aJ b (k ((s.put (av q) (.d .bool bm)).put o.dst .nil)) ((s.put (av q) (.d .bool aZ)).acx en o.dst vs k)
    | .nil=>k (s.put o.dst .nil)
    |_=>aH
   |_,_=>aKe P Γ cg ops o s k
  |_=>aKe P Γ cg ops o s k
 |_,_=>aKe P Γ cg ops o s k
def seen{α R:Type}(l:List α):(List α->R)->R:=List.rec (motive:=λ_=>(List α->R)->R) (λk=>k []) (λx _ ih k=>ih λl'=>k (x::l')) l
theorem VE{α R:Type}:∀(l:List α) (k:List α->R),seen l k=k l
 |[],_=>rfl
 |_::l,k=>VE l _
def AS.seen{R:Type}(s:AS)(k:AS->R):R:=Go.Ab.seen s.dg λl=>k ⟨l,s.dh,s.news⟩
theorem AS.VE{R:Type}(s:AS)(k:AS->R):s.seen k=k s:=Go.Ab.VE _ _
def aQh{R:Type}(P:bj)(Γ:tg)(cg:List Nat)(ops:Array Oper):List Oper->AS->(AS->Option R)->Option R
 |[],s,k=>k s
 |o::l,s,k=>aQg P Γ cg ops o s λs'=>s'.seen λs'=>aQh P Γ cg ops l s' k
def amb(acc:List Nat)(o:Oper):Nat:=(o.after.toList.filter (Region.binds .any)).foldr (λe m=>Nat.lor (Nat.lor (Nat.pow 2 e.on) (acc.getD e.on 0)) m) 0
def aqk(ops:List Oper):List Nat:=ops.foldl (λacc o=>acc++ [amb acc o]) []
structure KJ where
 dst:Option Tmp
 dg:List Nat
 rs:List Id
 ws:List Id
def aks:Op->Bool
 | .move _=>bm
 |_=>aZ
def asW(s:AS)(o:Oper):List Id:=match aks o.op with | true=> [] | false=>(abP o.op.operands).flatMap λi=>(s.slot i).ids
def y9:List (Option Ty)->List aN->List Id
 |none::ps,v::vs=>v.ids++y9 ps vs
 |some _::ps,_::vs=>y9 ps vs
 |_,_=> []
def writes(Γ:tg)(s:AS)(o:Oper):List Id:=
 match o.op with
 | .store _ x _=>(s.ev x).ids
 | .mapUpdate _ m _ _=>(s.ev m).ids
 | .range _ m=>(s.ev m).ids
 | .call c=>match c.callee with
  | .builtin .append=>match c.args.toList with | x::_=>(s.ev x).ids | []=> []
  | .builtin .delete=>match c.args.toList with | x::_=>(s.ev x).ids | []=> []
  | .builtin .copy=>match c.args.toList with | x::_=>(s.ev x).ids | []=> []
  | .value F=>match s.ev F with
   | .fn f caps=>match Γ f (c.args.toList.map s.ev++caps.list) with
    |some en=>s.reach 64 (y9 en.params (c.args.toList.map s.ev++caps.list)) []
    |none=> []
   |_=> []
  |_=> []
 |_=> []
def iu(Γ:tg)(ops:Array Oper)(s:AS)(o:Oper):KJ:= {dst:=o.dst,dg:=abP o.op.operands++WK ops o,rs:=asW s o++writes Γ s o,ws:=writes Γ s o}
def meets(xs ys:List Id):Bool:=xs.any λx=>ys.any λy=>decide (x=y)
def KJ.aXk(f g:KJ):Bool:=
 match f.dst with
 |some t=>(g.dg.any λx=>decide (x=t)) || decide (g.dst=av t)
 |none=>aZ
def agO(d:Option Tmp)(ids:List Id):Bool:=
 match d with
 |some q=>ids.any λx=>match x with | .new i _=>decide (i=q) | .bP _=>aZ
 |none=>aZ
def KJ.indep(f g:KJ):Bool:= !f.aXk g && !g.aXk f && !meets f.ws g.rs && !meets g.ws f.rs && !agO f.dst g.rs && !agO g.dst f.rs
def akb{R:Type}(P:bj)(Γ:tg)(cg:List Nat)(ops:Array Oper)(anc:List Nat):Nat->List Oper->List (Nat×KJ)->AS->(AS->Option R)->Option R
 |_,[],_,s,k=>k s
 |i,o::l,fs,s,k=>
  match fs.all λx=>(anc.getD i 0).testBit x.1 || x.2.indep (iu Γ ops s o) with
  |true=>aKe P Γ cg ops o s λs'=>s'.seen λs'=>akb P Γ cg ops anc (i+1) l ((i,iu Γ ops s o)::fs) s' k
  |false=>aH
def am2(ops:List Oper):Bool:=ops.zipIdx.all λx=>x.1.after.toList.all λe=> !Region.binds .any e || decide (e.on < x.2)
structure aHX where
 j:Nat
 p:List Se
 q:Nat
 T:TypeId
structure aYp where
 j:Nat
 p:List Se
 t:Ty
structure qt where
 bg:List Nat:=[]
 sites:List Nat:=[]
 aA3:List Id:=[]
 data:List (Nat×Ty):=[]
 owns:List aHX:=[]
 QN:List aYp:=[]
 aU5:List Nat:=[]
 aUh:List Id:=[]
 ba0:List Nat:=[]
 bbE:List Nat:=[]
 aIz:List (Nat×Nat):=[]
 bcX:Option Nat:=aH
structure dB where
 X:Type
 run:AS->Option X
 out:X->Out (Exit×AS)
 set:Option (AS->X->Prop):=aH
structure ab1 where
 an:qt
 X:Type
 aWu:Exit->AS->Option X
 out:X->Out (Exit×AS)
 ok:∀e s x,aWu e s=av x->(out x).eval=av (e,s)
structure aWG where
 j:Nat
 t:Ty
 r:Nat
def iO:(t:Ty)->t.den->List Nat
 | .iv t,x=>match(x:Option (Nat×t.den)) with | some p=>p.1::iO t p.2 | none=> []
 | .slice t,x=>(x:List t.den).flatMap (iO t)
 | .arr _ t,x=>(x:List t.den).flatMap (iO t)
 | .pair a b,x=>iO a x.1++iO b x.2
 | .gG t,x=>((x:Option (List t.den)).getD []).flatMap (iO t)
 | .qE t,x=>match(x:Option t.den) with | some y=>iO t y | none=> []
 | .int _,_ | .bool,_ | .str,_ | .unit,_=> []
def AS.Xa(s:AS):aN->List Nat
 | .d t x=>iO t x
 | .bU id _ _ _ _ _=>match s.obj id with | some (_,_,.vec _ t l)=>(l:List t.den).flatMap (iO t) | _=> []
 |_=> []
def aN.aWM:aN->Bool
 | .vec .. | .mp .. | .tP .. =>aZ
 |_=>bm
def aLw{R:Type}(s:AS)(x:aWG)(k:AS->Option R):Option R:=
 match s.slot x.j with
 | .ptr id ver [] 0=>match s.obj id with
  |some (v,aZ,c)=>((s.jU x.t c.strip).bind λy=> .guard ((v==ver) && c.aWM && !c.strip.shared.contains id) (.ok y)).run λy=>
    aaR (λn=>n ∉ s.Xa (s.slot x.r)) λn=>k (((s.bF c.strip.shared).freeze id).put (av x.j) (.d (.iv x.t) (av (n,y))))
  |_=>aH
 |_=>aH
def aLx{R:Type}:List aWG->AS->(AS->Option R)->Option R
 |[],s,k=>k s
 |x::l,s,k=>aLw s x λs'=>aLx l s' k
structure Da where
 cg:List Nat:=[]
 loops:Nat->qt:=λ_=> {}
 outs:Nat->Bool->qt:=λ_ _=> {}
 fa:Nat->Option dB:=λ_=>aH
 owns:List aHX:=[]
 trim:List Nat:=[]
 res:List (Option Ty):=[]
 QN:List aYp:=[]
 aXP:Nat->Option ab1:=λ_=>aH
 aTv:Nat->Option ab1:=λ_=>aH
 rf:Nat->Option (Nat×List Nat):=λ_=>aH
 bdf:Nat->Option (List aHX):=λ_=>aH
 mf:Option Nat:=aH
 aIz:List (Nat×Nat):=[]
 aaX:Nat->List aWG:=λ_=> []
def eG:Code->Nat
 | .region id _ _=>id
 | .seq a _=>eG a
 | .block _ b=>eG b
 | .loop b=>eG b
 | .scope b=>eG b
 | .cond _ a b=>match eG a with | 0=>eG b | n=>n
 |_=>0
def lk(bg:List Nat):Nat->List aN->List aN
 |_,[]=> []
 |i,v::vs=>(match bg.any (λx=>decide (x=i)) with | true=>v | false=> .undef)::lk bg (i+1) vs
def qe(bg:List Nat):Nat->List (List eJ)->List (List eJ)
 |_,[]=> []
 |i,v::vs=>(match bg.any (λx=>decide (x=i)) with | true=>v | false=> [])::qe bg (i+1) vs
def aN.head:aN->Option (Id×Nat)
 | .bU id ver [] 0 0 _=>av (id,ver)
 | .ptr id ver [] 0=>av (id,ver)
 |_=>aH
def Ve(es:List eJ)(b q:Nat)(i:Id)(ver:Nat):Option (Id×Nat):=
 match i with
 | .bP k=>av (.bP k,ver)
 | .new x j=>match decide (x=b) with
  |true=>(match es[j]? with | some (.obj v _ _)=>(match ver==v with | true=>av (.new q j,0) | false=>aH) | _=>aH)
  |false=>(match decide (x=q) with | true=>aH | false=>av (.new x j,ver))
def eJ.aRV(ρ:Id->Nat->Option (Id×Nat)):eJ->eJ
 | .obj _ fr c=> .obj 0 fr (c.l7 ρ)
 | .dead=> .dead
def aN.aGE(ρ:Id->Nat->Option (Id×Nat))(kp:Id->Bool):aN->aN
 | .tP q ver k v rest cur=>match kp q with | true=> .tP q ver k v rest cur | false=> .tP q 0 k v rest cur
 |c=>c.l7 ρ
def eJ.aiV(ρ:Id->Nat->Option (Id×Nat))(kp:Id->Bool):eJ->eJ
 | .obj v fr c=> .obj v fr (c.aGE ρ kp)
 | .dead=> .dead
def Oi(b q:Nat):Id->Bool | .bP _=>bm | .new x _=> !decide (x=b) && !decide (x=q)
def AS.M5(s:AS)(b q:Nat)(es:List eJ):AS:= {dg:=s.dg.map (aN.l7 (Ve es b q)),dh:=s.dh.map (eJ.aiV (Ve es b q) (Oi b q)),news:=((s.news.map λes'=>es'.map (eJ.aiV (Ve es b q) (Oi b q))).set b []).set q (es.map (eJ.aRV (Ve es b q)))}
def AS.at(s:AS)(j:Nat):List Se->Out aN
 |[]=> .ok (s.slot j)
 |p=>match s.slot j with
  | .ptr id ver p0 _=>match s.obj id with
   |some (v,_,c)=> .guard (v==ver) ((loc c.strip (p0++p)).bind λr=> .ok r.2)
   |none=> .fail
  |_=> .fail
def AS.putAt(s:AS)(j:Nat)(v:aN):List Se->Out AS
 |[]=> .ok (s.put (av j) v)
 |p=>match s.slot j with
  | .ptr id _ p0 _=>match s.obj id with
   |some (ver,fr,c)=>match c.strip with
    | .vec .. => .fail
    |c1=>(Hb c1 (p0++p) v).bind λc'=> .ok (s.bI id (.obj ver fr (c.wrap c')))
   |none=> .fail
  |_=> .fail
def AS.still(s:AS):List Nat->AS
 |[]=>s
 |q::l=>(match s.obj (.new q 0) with | some (v,fr,.tP i ver k t r _)=>s.bI (.new q 0) (.obj v fr (.tP i ver k t r aH)) | _=>s).still l
def akL(α:Type):Setoid (List α):=⟨List.Perm,lE,List.Perm.symm,List.Perm.trans⟩
def fC{α:Type}(l:List α):List α:=(tp (Quotient.mk (akL α) l)).choose
def AS.canon(s:AS):List Id->AS
 |[]=>s
 |id::l=>(match s.obj id with | some (v,fr,.mp k t r)=>s.bI id (.obj v fr (.mp k t (fC r))) | _=>s).canon l
def acZ(s:AS):List aYp->Out AS
 |[]=> .ok s
 |o::l=>match o.p,s.slot o.j with
  |_::_,.jW=>acZ s l
  |_,_=>(s.at o.j o.p).bind λu=>(s.jU o.t u).bind λx=>((s.bF u.shared).putAt o.j (.d o.t x) o.p).bind λs'=>acZ s' l
def QU:(t:Ty)->t.den->Out aN
 | .gG t,x=> .AK (x:Option (List t.den)).isNone (.ok .dJ)
 | .pair a b,x=>(QU a x.1).bind λu=>(QU b x.2).bind λv=> .ok (T1 u v)
 |t,x=> .ok (.d t x)
def aD0(s:AS):List Nat->Out AS
 |[]=> .ok s
 |j::l=>match s.slot j with
  | .ptr id ver (.idx k::p) n=>match s.obj id with
   |some (v,aZ,.vec e t r)=> .guard (v==ver) (.AK (decide (k < r.length)) ((QU t (nth t r k)).bind λu=>
     aD0 ((s.bI id (.obj v aZ (.bx e t.size (.pr (.d (.arr k t) (r.take k)) (.pr u (.d (.arr (r.drop (k+1)).length t) (r.drop (k+1)))))))).put (av j) (.ptr id ver (.snd:: .fst::p) n)) l))
   |_=> .fail
  | .ptr _ _ (.snd::_) _=>aD0 s l
  |_=> .fail
def aOK(s:AS):List Nat->Out AS
 |[]=> .ok s
 |j::l=>match s.slot j with
  | .ptr id ver (.snd:: .fst::p) n=>match s.obj id with
   |some (v,aZ,.bx e z (.pr (.d (.arr k t) l1) (.pr u (.d (.arr _ t') l2))))=> .guard ((v==ver) && (z==t.size) && !(z==0) && !(u.shared.any λi=>decide (i=id)))
     ((Out.opt (wN (.slice t') (.slice t) l2)).bind λl2=>(s.jU t u).bind λx=>
      aOK (((s.bF u.shared).bI id (.obj v aZ (.vec e t (l1++x::l2)))).put (av j) (.ptr id ver (.idx k::p) n)) l)
   |_=> .fail
  |_=> .fail
def Fc(P:bj)(s:AS):List aHX->Out AS
 |[]=> .ok s
 |o::l=>match o.p,s.slot o.j with
  |_::_,.jW=>Fc P s l
  |_,_=>(s.at o.j o.p).bind λu=>match u with
  | .dJ=>match am3 P o.T,s.eQ o.q with
   |some (e,t,_),bm=>((s.born o.q [.obj 0 aZ (.vec e t [])]).putAt o.j (.bU (.new o.q 0) 0 [] 0 0 0) o.p).bind λs'=>Fc P s' l
   |_,_=> .fail
  |u=>match u.head with
   |some (.new b j,ver)=>match s.obj (.new b j),decide (o.q < s.news.length) with
    |some (v,_,_),bm=>match v==ver with
     |true=>Fc P (s.M5 b o.q (s.news.getD b [])) l
     |false=> .fail
    |_,_=> .fail
   |_=> .fail
def asData(s:AS):List (Nat×Ty)->Out AS
 |[]=> .ok s
 | (j,t)::l=>(s.jU t (s.slot j)).bind λx=>asData ((s.bF (s.slot j).shared).put (av j) (.d t x)) l
def aN.there(s:AS):aN->Bool
 | .ptr id _ _ _=>(s.obj id).isSome
 | .bU id _ _ _ _ _=>(s.obj id).isSome
 | .pr a b=>a.there s && b.there s
 | .cons a b=>a.there s && b.there s
 | .fn _ c=>c.there s
 | .bx _ _ c=>c.there s
 | .c7 id _=>(s.obj id).isSome
 | .tP .. =>aZ
 |_=>bm
def eJ.there(s:AS):eJ->Bool
 | .obj _ _ (.tP id _ _ _ _ _)=>(s.obj id).isSome
 | .obj _ _ c=>c.there s
 | .dead=>bm
def TR(an:qt)(s:AS):AS:= {dg:=lk an.bg 0 s.dg,dh:=s.dh,news:=qe an.sites 0 s.news}
def AS.aqg(s:AS):Bool:=(s.dg.all (aN.there s)) && (s.dh.all (eJ.there s)) && (s.news.all λes=>es.all (eJ.there s))
def ye(k v n:Nat)(i:Id)(ver:Nat):Option (Id×Nat):=match i with
 | .bP j=>match mG j k with
  |true=>match mG ver v with | true=>av (.bP j,n) | false=>aH
  |false=>av (.bP j,ver)
 |i=>av (i,ver)
def Lw(k:Nat):Id->Bool | .bP j=> !mG j k | _=>bm
def eJ.azi(ρ:Id->Nat->Option (Id×Nat))(kp:Id->Bool):eJ->eJ
 | .obj v fr c=> .obj v fr (c.aGE ρ kp)
 | .dead=> .dead
def AS.aIG(s:AS)(k n:Nat):Out AS:=match s.cJ (.bP k) with
 |some (.obj v fr c)=> .guard (Nat.ble v n || Nat.ble 1 n) (.ok {dg:=s.dg.map (aN.l7 (ye k v n)),dh:=(s.dh.map (eJ.azi (ye k v n) (Lw k))).set k (.obj n fr (c.l7 (ye k v n))),news:=s.news.map λes=>es.map (eJ.azi (ye k v n) (Lw k))})
 |_=> .fail
def aAH(s:AS):List (Nat×Nat)->Out AS
 |[]=> .ok s
 |x::l=>(s.aIG x.1 x.2).bind λs=>aAH s l
def norm(P:bj)(an:qt)(s:AS):Out AS:=(aAH s an.aIz).bind λs=>(aOK (((s.bF an.aA3).still an.aU5).canon an.aUh) an.bbE).bind λs=>(acZ s an.QN).bind λs=>(asData s an.data).bind λs=> .guard (TR an s).aqg ((aD0 (TR an s) an.ba0).bind λs=>Fc P s an.owns)
def Y7{R:Type}(nrm:AS->Out AS)(nrmX:Exit->AS->Out AS)(body:AS->(Exit->AS->Option R)->Option R):Nat->AS->(Exit->AS->Option R)->Option R
 | 0,_,_=>aH
 |n+1,s,k=>body s λe s'=>match e with
  | .normal=>(nrm s').run λs1=>Y7 nrm nrmX body n s1 k
  |e=>(nrmX e s').run (k e)
def ash:Exit->Bool | .ret=>bm | _=>aZ
def aOM{R:Type}(le:dB)(s:AS)(k:Exit->AS->Option R):Option R:=
 match le.set with
 |none=>ao (le.run s) λx=>(le.out x).run λr=>k r.1 r.2
 |some S=>aaR (S s) λx=>(le.out x).run λr=>k r.1 r.2
def WV{R:Type}(P:bj)(j:Option ab1)(run: {R:Type}->(Exit->AS->Option R)->Option R)(k:Exit->AS->Option R):Option R:=
 match j with
 |none=>run k
 |some j=>ao (run λe s=>(norm P j.an s).run (j.aWu e)) λx=>(j.out x).run λr=>k r.1 r.2
def ev(P:bj)(Γ:tg)(an:Da)(N:Nat):Code-> {R:Type}->AS->(Exit->AS->Option R)->Option R
 | .skip,_,s,k=>k .normal s
 | .region id ops draw,_,s,k=>aLx (an.aaX id) s λs=>WV P (an.aXP id) (λk=>match draw with
  |true=>(match am2 ops.toList with
   |true=>akb P Γ an.cg ops (aqk ops.toList) 0 ops.toList [] s λs'=>k .normal s'
   |false=>aH)
  |false=>aQh P Γ an.cg ops ops.toList s λs'=>k .normal s') k
 | .seq a b,_,s,k=>WV P (an.aTv (eG b)) (λk=>ev P Γ an N a s k) λe s'=>match e with | .normal=>ev P Γ an N b s' k | e=>k e s'
 | .cond c x y,_,s,k=>match s.ev c with
  | .d .bool b=>aJ b (ev P Γ an N x s k) (ev P Γ an N y s k)
  |_=>aH
 | .block id b,_,s,k=>ev P Γ an N b s λe s'=>match e with | .exit i=>(match decide (i=id) with | true=>k .normal s' | false=>k (.exit i) s') | e=>k e s'
 | .loop b,_,s,k=>(norm P (an.loops (eG b)) s).run λs1=>match an.fa (eG b) with
  |some le=>aOM le s1 k
  |none=>Y7 (norm P (an.loops (eG b))) (λe=>norm P (an.outs (eG b) (ash e))) (ev P Γ an N b) N s1 k
 | .scope b,_,s,k=>ev P Γ an N b s λe s'=>match e with | .goto _=>aH | e=>k e s'
 | .label _,_,s,k=>k .normal s
 | .exit id,_,s,k=>k (.exit id) s
 | .ret,_,s,k=>k .ret s
 |_,_,_,_=>aH
def agk(P:bj)(s:AS):ResultVar->Out aN
 | .tmp t=> .ok (s.slot t)
 | .cell a T=>TU P s T (s.slot a)
def agj(P:bj)(s:AS)(r:ResultVar):Option Ty->Out (AS×aN)
 |none=>(agk P s r).bind λv=> .ok (s,v)
 |some t=>(agk P s r).bind λv=>(s.jU t v).bind λx=> .ok (s.bF v.shared,.d t x)
def Vh(P:bj)(s:AS):List ResultVar->List (Option Ty)->Out (AS×aN)
 |[],_=> .ok (s,.nil)
 |r::rs,ts=>(agj P s r (ts.headD aH)).bind λx=> .guard x.2.fD ((Vh P x.1 rs ts.tail).bind λy=> .ok (y.1,.cons x.2 y.2))
def ao9(P:bj)(fn:Func)(ts:List (Option Ty))(s:AS):Out (AS×aN):=
 match fn.results.toList with
 |[r]=>agj P s r (ts.headD aH)
 |rs=>Vh P s rs ts
def mT:Code->List Code
 | .seq a b=>mT a++mT b
 | .cond _ a b=>mT a++mT b
 | .block _ b=>mT b
 | .scope b=>mT b
 | .loop b=>b::mT b
 |_=> []
def ra(fn:Func)(i:Nat):Code:=match fn.body with | some c=>(mT c).getD i .skip | none=> .skip
def Gl(P:bj)(Γ:tg)(an:Da)(N:Nat)(fn:Func)(i:Nat){R:Type}(s:AS)(kn:AS->Option R)(kx:Exit->AS->Option R):Option R:=
 ev P Γ an N (ra fn i) s λe s'=>match e with
  | .normal=>(norm P (an.loops (eG (ra fn i))) s').run kn
  |e=>(norm P (an.outs (eG (ra fn i)) (ash e)) s').run (kx e)
def TY(P:bj)(Γ:tg)(an:Da)(N:Nat)(fn:Func)(i:Nat){R:Type}(n:Nat)(s:AS)(k:Exit->AS->Option R):Option R:=Y7 (norm P (an.loops (eG (ra fn i)))) (λe=>norm P (an.outs (eG (ra fn i)) (ash e))) (ev P Γ an N (ra fn i)) n s k
def Id.aTu:Id->Bool | .new _ _=>bm | .bP _=>aZ
def AS.WE(s:AS)(v:aN):List Id:=(s.reach 64 (v.ids++s.dh.flatMap eJ.ids) []).filter Id.aTu
def QY(ids:List Id):Id->Nat->Option (Id×Nat)
 | .bP k,v=>av (.bP k,v)
 |id,v=>match idxOf id ids with | some j=>av (.new 0 j,v) | none=>aH
def eJ.fin(ids:List Id):eJ->eJ
 | .obj v fr c=> .obj v fr (c.l7 (QY ids))
 | .dead=> .dead
def AS.aTb(s:AS)(ids:List Id)(v:aN):jf:= {val:=v.l7 (QY ids),dh:=s.dh.map (eJ.fin ids),news:=ids.map λid=>((s.cJ id).getD .dead).fin ids}
def AS.fin(s:AS)(v:aN):jf:=s.aTb (s.WE v) v
def start(fn:Func)(args:List aN)(dh:List eJ):AS:= {dg:=args++ai (fn.ntmps - args.length) .undef,dh,news:=ai fn.ntmps []}
def aNm(fn:Func):List Nat:=fn.results.toList.map λr=>match r with | .tmp t=>t | .cell a _=>a
def AS.drop(s:AS)(ks:List Nat):AS:= {dg:=lk ks 0 s.dg,dh:=s.dh,news:=s.news}
def finish(P:bj)(an:Da)(fn:Func)(s:AS):Out jf:=(acZ s an.QN).bind λs=>(Fc P (s.drop (aNm fn)) an.owns).bind λs=>(aAH s an.aIz).bind λs=>(ao9 P fn an.res s).bind λr=> .ok (r.1.fin r.2)
def eJ.first:eJ->Bool
 | .obj v _ _=>mG v 0
 | .dead=>bm
def aCH(P:bj)(Γ:tg)(an:Da)(N:Nat)(fn:Func)(args:List aN)(dh:List eJ){R:Type}(k:jf->Option R):Option R:=
 match fn.body with
 |some c=>match dh.all eJ.first with | false=>aH | true=>ev P Γ an N c (start fn args dh) λe s=>match e with
  | .normal=>(finish P an fn s).run k
  | .ret=>(finish P an fn s).run k
  |_=>aH
 |none=>aH
end Go.Ab
namespace Go.Ab
inductive Own where
 |gf
 |id (i:Id)
inductive qs where
 |free
 |own (o:Own) (k:Nat)
structure Pl where
 b:Nat
 cap:Nat
structure Env where
 w:cO
 g:Nat->qs
 β:Id->Option Pl
 s:Id->Option eJ
def Am(g:Nat->qs)(b off:Nat):Prop:=match g b with | .free=>True | .own _ k=>off < k
def Env.has(E:Env)(b off:Nat)(v:Value):Prop:=E.w.cell? ⟨b,off,aH⟩=av v/\Am E.g b off
def bH{α:Type}(R:List Value->α->Prop):List Value->List α->Prop
 |cs,[]=>cs=[]
 |cs,x::xs=>∃c cs',cs=c++cs'/\R c x/\bH R cs' xs
def Bi(E:Env)(a:Option Addr)(vs:List Value):Prop:=∀i v,vs[i]? =av v->∃b off,a=av ⟨b,off,aH⟩/\E.has b (off+i) v
def c9(E:Env):(t:Ty)->List Value->t.den->Prop
 | .int k,cs,x=>cs=[.int k x]
 | .bool,cs,x=>cs=[.bool x]
 | .str,cs,x=>cs=[.string x]
 | .slice t,cs,l=>∃a cap vs,cs=[.slice a (l:List t.den).length cap]/\(l:List t.den).length<=cap/\(0 < (l:List t.den).length->a.isSome=bm)/\Bi E a vs/\bH (c9 E t) vs l
 | .unit,cs,_=>cs=[]
 | .pair a b,cs,x=>∃ca cb,cs=ca++cb/\c9 E a ca x.1/\c9 E b cb x.2
 | .arr n t,cs,l=>(l:List t.den).length=n/\bH (c9 E t) cs l
 | .gG t,cs,x=>((x:Option (List t.den))=aH->cs=[.slice aH 0 0])/\∀l:List t.den,(x:Option (List t.den))=av l->
   ∃a cap vs,cs=[.slice a l.length cap]/\l.length<=cap/\(0 < l.length->a.isSome=bm)/\Bi E a vs/\bH (c9 E t) vs l
 | .qE t,cs,x=>((x:Option t.den)=aH->cs=[.pointer aH])/\∀y:t.den,(x:Option t.den)=av y->
   ∃b off vs,cs=[.pointer (av ⟨b,off,aH⟩)]/\Bi E (av ⟨b,off,aH⟩) vs/\c9 E t vs y
 | .iv t,cs,x=>((x:Option (Nat×t.den))=aH->cs=[.pointer aH])/\∀y:Nat×t.den,(x:Option (Nat×t.den))=av y->
   ∃ca T vs,cs=[.pointer (av ⟨y.1,0,aH⟩)]/\(E.g y.1= .free/\E.w.heap[y.1]? =av (.cells ca T (0,0)))/\Bi E (av ⟨y.1,0,aH⟩) vs/\c9 E t vs y.2
section
variable {α:Type} {R R':List Value->α->Prop} {z:Nat}
theorem bH.mono(h:∀c x,R c x->R' c x):∀ {cs:List Value} {l:List α},bH R cs l->bH R' cs l
 |_,[],hc=>hc
 |_,_::_,⟨c,cs',e,hx,hr⟩=>⟨c,cs',e,h _ _ hx,bH.mono h hr⟩
theorem bH.length(h:∀c x,R c x->c.length=z):∀ {cs:List Value} {l:List α},bH R cs l->cs.length=l.length*z
 |cs,[],hc=>by have:cs=[]:=hc;simp[this]
 |_,x::xs,⟨c,cs',e,hx,hr⟩=>by rw[e,ak,h c x hx,bH.length h hr,aF,fg,iV,Nat.add_comm]
theorem bH.all{p:Value->Prop}(h:∀c x,R c x->∀v∈c,p v):∀ {cs:List Value} {l:List α},bH R cs l->∀v∈cs,p v
 |cs,[],hc,v,hv=>by have:cs=[]:=hc;simp[this]at hv
 |_,_::_,⟨c,cs',e,hx,hr⟩,v,hv=>by
  rw[e]at hv;rcases bR.1 hv with hv | hv
  ·exact h _ _ hx v hv
  ·exact bH.all h hr v hv
theorem bH.append:∀ {cs:List Value} {l:List α} {cs':List Value} {l':List α},bH R cs l->bH R cs' l'->bH R (cs++cs') (l++l')
 |cs,[],_,_,hc,h'=>by have:cs=[]:=hc;simpa[this]using h'
 |_,x::xs,_,_,⟨c,cs1,e,hx,hr⟩,h'=>⟨c,cs1++_,by rw[e,aO],hx,bH.append hr h'⟩
theorem bH.take(h:∀c x,R c x->c.length=z):∀ {cs:List Value} {l:List α} (n:Nat),bH R cs l->bH R (cs.take (n*z)) (l.take n)
 |cs,[],n,hc=>by have:cs=[]:=hc;simp[this,bH]
 |_,x::xs,0,_=>by simp[bH]
 |_,x::xs,n+1,⟨c,cs',e,hx,hr⟩=>by refine⟨c,cs'.take (n*z),?_,hx,bH.take h n hr⟩;rw[e,rZ,h c x hx,fg,iV,bu (by rw[h c x hx];omega),pd]
theorem bH.drop(h:∀c x,R c x->c.length=z):∀ {cs:List Value} {l:List α} (n:Nat),bH R cs l->bH R (cs.drop (n*z)) (l.drop n)
 |cs,[],n,hc=>by have:cs=[]:=hc;simp[this,bH]
 |_,x::xs,0,hc=>by simpa using hc
 |_,x::xs,n+1,⟨c,cs',e,hx,hr⟩=>by rw[e,lh,h c x hx,fg,iV,dO (by rw[h c x hx];omega),pd];simpa using bH.drop h n hr
theorem bH.get(h:∀c x,R c x->c.length=z){cs:List Value}{l:List α}(hc:bH R cs l)(i:Nat)(hi:i < l.length):R ((cs.drop (i*z)).take z) l[i]:=by have h1:=bH.take h 1 (bH.drop h i hc);rw[au hi]at h1;simp only[iV,List.take_succ_cons,dD]at h1;obtain⟨c,cs',e,hx,hr⟩:=h1;have:cs'=[]:=hr;rw[e,this,bK];exact hx
theorem bH.set(h:∀c x,R c x->c.length=z){cs:List Value}{l:List α}(hc:bH R cs l)(i:Nat)(hi:i < l.length){c:List Value}{x:α}(hx:R c x):
  bH R (cs.take (i*z)++c++cs.drop (i*z+c.length)) (l.set i x):=by
 rw[List.set_eq_take_append_cons_drop,if_pos hi,h c x hx];have h1:=bH.take h i hc;have h2:=bH.drop h (i+1) hc;rw[fg,iV]at h2;have h3:bH R (c++cs.drop (i*z+z)) (x::l.drop (i+1)):=⟨c,_,rfl,hx,h2⟩;rw[aO];exact bH.append h1 h3
theorem bH.one{c:List Value}{x:α}(h:R c x):bH R c [x]:=⟨c,[],by simp,h,rfl⟩
end
theorem c9.size{E:Env}:∀ {t:Ty} {cs:List Value} {x:t.den},c9 E t cs x->cs.length=t.size
 | .int _,_,_,h=>by simp only[c9]at h;simp[h,Ty.size]
 | .bool,_,_,h=>by simp only[c9]at h;simp[h,Ty.size]
 | .str,_,_,h=>by simp only[c9]at h;simp[h,Ty.size]
 | .slice t,_,_,h=>by simp only[c9]at h;obtain⟨a,cap,vs,rfl,_⟩:=h;simp[Ty.size]
 | .unit,_,_,h=>by simp only[c9]at h;simp[h,Ty.size]
 | .pair a b,_,_,h=>by simp only[c9]at h;obtain⟨ca,cb,rfl,ha,hb⟩:=h;simp[Ty.size,c9.size ha,c9.size hb]
 | .arr n t,_,_,h=>by simp only[c9]at h;rw[bH.length (λc x hx=>c9.size hx) h.2,h.1,Ty.size]
 | .gG t,_,x,h=>by
  simp only[c9]at h;obtain⟨h1,h2⟩:=h;cases hx:(x:Option (List t.den)) with
  |none=>rw[h1 hx];rfl
  |some l=>obtain⟨a,cap,vs,rfl,_⟩:=h2 l hx;rfl
 | .qE t,_,x,h=>by
  simp only[c9]at h;obtain⟨h1,h2⟩:=h;cases hx:(x:Option t.den) with
  |none=>rw[h1 hx];rfl
  |some l=>obtain⟨b,off,vs,rfl,_⟩:=h2 l hx;rfl
 | .iv t,_,x,h=>by
  simp only[c9]at h;obtain⟨h1,h2⟩:=h;cases hx:(x:Option (Nat×t.den)) with
  |none=>rw[h1 hx];rfl
  |some l=>obtain⟨ca,T,vs,rfl,_⟩:=h2 l hx;rfl
theorem c9.one{E:Env}:∀ {t:Ty} {cs:List Value} {x:t.den},c9 E t cs x->∀c∈cs,c.oneCell'=bm
 | .int _,_,_,h=>by simp only[c9]at h;simp[h,dZ]
 | .bool,_,_,h=>by simp only[c9]at h;simp[h,dZ]
 | .str,_,_,h=>by simp only[c9]at h;simp[h,dZ]
 | .slice t,_,_,h=>by simp only[c9]at h;obtain⟨a,cap,vs,rfl,_⟩:=h;simp[dZ]
 | .unit,_,_,h=>by simp only[c9]at h;simp[h]
 | .pair a b,_,_,h=>by
  simp only[c9]at h;obtain⟨ca,cb,rfl,ha,hb⟩:=h;intro c hc;rcases bR.1 hc with hc | hc
  ·exact c9.one ha c hc
  ·exact c9.one hb c hc
 | .arr n t,_,_,h=>by simp only[c9]at h;exact bH.all (λc x hx=>c9.one hx) h.2
 | .gG t,_,x,h=>by
  simp only[c9]at h;obtain⟨h1,h2⟩:=h;cases hx:(x:Option (List t.den)) with
  |none=>rw[h1 hx];simp[dZ]
  |some l=>obtain⟨a,cap,vs,rfl,_⟩:=h2 l hx;simp[dZ]
 | .qE t,_,x,h=>by
  simp only[c9]at h;obtain⟨h1,h2⟩:=h;cases hx:(x:Option t.den) with
  |none=>rw[h1 hx];simp[dZ]
  |some l=>obtain⟨b,off,vs,rfl,_⟩:=h2 l hx;simp[dZ]
 | .iv t,_,x,h=>by
  simp only[c9]at h;obtain⟨h1,h2⟩:=h;cases hx:(x:Option (Nat×t.den)) with
  |none=>rw[h1 hx];simp[dZ]
  |some l=>obtain⟨ca,T,vs,rfl,_⟩:=h2 l hx;simp[dZ]
structure wH(E E':Env):Prop where
 has:∀b off v,E.has b off v->E'.has b off v
 fz:∀b ob,E.g b= .free->E.w.heap[b]? =av ob->E'.g b= .free/\E'.w.heap[b]? =av ob
theorem wH.refl(E:Env):wH E E:=⟨λ_ _ _ h=>h,λ_ _ h h'=>⟨h,h'⟩⟩
theorem wH.trans{E E' E'':Env}(h:wH E E')(h':wH E' E''):wH E E'':=⟨λb o v x=>h'.has b o v (h.has b o v x),λb ob h1 h2=>let⟨h3,h4⟩:=h.fz b ob h1 h2;h'.fz b ob h3 h4⟩
theorem Bi.mono{E E':Env}(h:wH E E'){a:Option Addr}{vs:List Value}(hr:Bi E a vs):Bi E' a vs:=
 λi v hv=>let⟨b,off,ha,hh⟩:=hr i v hv;⟨b,off,ha,h.has _ _ _ hh⟩
theorem c9.mono{E E':Env}(hm:wH E E'):∀ {t:Ty} {cs:List Value} {x:t.den},c9 E t cs x->c9 E' t cs x
 | .int _,_,_,h=>by simpa only[c9]using h
 | .bool,_,_,h=>by simpa only[c9]using h
 | .str,_,_,h=>by simpa only[c9]using h
 | .slice t,_,_,h=>by simp only[c9]at h ⊢;obtain⟨a,cap,vs,e,hl,hs,hr,hc⟩:=h;exact⟨a,cap,vs,e,hl,hs,hr.mono hm,hc.mono λc x hx=>c9.mono hm hx⟩
 | .unit,_,_,h=>by simpa only[c9]using h
 | .pair a b,_,_,h=>by simp only[c9]at h ⊢;obtain⟨ca,cb,e,ha,hb⟩:=h;exact⟨ca,cb,e,c9.mono hm ha,c9.mono hm hb⟩
 | .arr n t,_,_,h=>by simp only[c9]at h ⊢;exact⟨h.1,h.2.mono λc x hx=>c9.mono hm hx⟩
 | .gG t,_,_,h=>by simp only[c9]at h ⊢;refine⟨h.1,λl hx=> ?_⟩;obtain⟨a,cap,vs,e,hl,hs,hr,hc⟩:=h.2 l hx;exact⟨a,cap,vs,e,hl,hs,hr.mono hm,hc.mono λc x hx=>c9.mono hm hx⟩
 | .qE t,_,_,h=>by simp only[c9]at h ⊢;refine⟨h.1,λl hx=> ?_⟩;obtain⟨b,off,vs,e,hr,hc⟩:=h.2 l hx;exact⟨b,off,vs,e,hr.mono hm,c9.mono hm hc⟩
 | .iv t,_,_,h=>by simp only[c9]at h ⊢;refine⟨h.1,λl hx=> ?_⟩;obtain⟨ca,T,vs,e,h0,hr,hc⟩:=h.2 l hx;exact⟨ca,T,vs,e,hm.fz _ _ h0.1 h0.2,hr.mono hm,c9.mono hm hc⟩
theorem Bi.uniq{E:Env}{a:Option Addr}{vs vs':List Value}(hl:vs.length=vs'.length)(h:Bi E a vs)(h':Bi E a vs'):vs=vs':=by apply rW hl;intro i h1 h2;obtain⟨b,off,e,hh⟩:=h i vs[i] (cn h1);obtain⟨b',off',e',hh'⟩:=h' i vs'[i] (cn h2);rw[e]at e';simp only[ax,Addr.mk.injEq,eS]at e';obtain⟨rfl,rfl⟩:=e';exact bf (hh.1.symm.trans hh'.1)
theorem bH.uniq{α:Type}{R:List Value->α->Prop}{z:Nat}(hs:∀c x,R c x->c.length=z)(hR:∀c x y,R c x->R c y->x=y):∀ {cs:List Value} {l l':List α},l.length=l'.length->bH R cs l->bH R cs l'->l=l'
 |_,[],[],_,_,_=>rfl
 |_,[],_::_,hl,_,_=>by simp at hl
 |_,_::_,[],hl,_,_=>by simp at hl
 |cs,x::xs,y::ys,hl,⟨c,cs1,e,hx,hr⟩,⟨d,cs2,e',hy,hr'⟩=>by rw[e]at e';obtain⟨rfl,rfl⟩:=List.append_inj e' (by rw[hs _ _ hx,hs _ _ hy]);rw[hR _ _ _ hx hy,bH.uniq hs hR (by simpa using hl) hr hr']
theorem c9.uniq{E:Env}:∀ {t:Ty} {cs:List Value} {x y:t.den},t.aBv=bm->c9 E t cs x->c9 E t cs y->x=y
 | .int _,_,_,_,_,h,h'=>by simp only[c9]at h h';rw[h]at h';simpa using h'
 | .bool,_,_,_,_,h,h'=>by simp only[c9]at h h';rw[h]at h';simpa using h'
 | .str,_,_,_,_,h,h'=>by simp only[c9]at h h';rw[h]at h';simpa using h'
 | .slice t,_,x,y,hn,h,h'=>by
  simp only[c9]at h h';obtain⟨a,cap,vs,e,_,_,hr,hc⟩:=h;obtain⟨a',cap',vs',e',_,_,hr',hc'⟩:=h';rw[e]at e';simp only[cR,Value.slice.injEq,eS]at e';obtain⟨rfl,hl,_⟩:=e';have hl:(x:List t.den).length=(y:List t.den).length:=by exact_mod_cast hl
  have h1:=bH.length (λc x hx=>c9.size hx) hc;have h2:=bH.length (λc x hx=>c9.size hx) hc';obtain rfl:=hr.uniq (by rw[h1,h2,hl]) hr';exact bH.uniq (λc x hx=>c9.size hx) (λc x y hx hy=>c9.uniq (by simpa only[Ty.aBv]using hn) hx hy) hl hc hc'
 | .unit,_,_,_,_,_,_=>rfl
 | .pair a b,_,x,y,hn,h,h'=>by simp only[Ty.aBv,aw]at hn;simp only[c9]at h h';obtain⟨ca,cb,e,ha,hb⟩:=h;obtain⟨ca',cb',e',ha',hb'⟩:=h';rw[e]at e';obtain⟨rfl,rfl⟩:=List.append_inj e' (by rw[c9.size ha,c9.size ha']);exact Prod.ext (c9.uniq hn.1 ha ha') (c9.uniq hn.2 hb hb')
 | .arr n t,_,x,y,hn,h,h'=>by simp only[c9]at h h';exact bH.uniq (λc x hx=>c9.size hx) (λc x y hx hy=>c9.uniq (by simpa only[Ty.aBv]using hn) hx hy) (h.1.trans h'.1.symm) h.2 h'.2
 | .gG _,_,_,_,hn,_,_=>by simp[Ty.aBv]at hn
 | .qE t,_,x,y,hn,h,h'=>by
  simp only[c9]at h h';cases hx:(x:Option t.den) with
  |none=>cases hy:(y:Option t.den) with
   |none=>rfl
   |some v=>
    obtain⟨b,off,vs,e,_⟩:=h'.2 v hy;rw[h.1 hx]at e;simp at e
  |some u=>cases hy:(y:Option t.den) with
   |none=>
    obtain⟨b,off,vs,e,_⟩:=h.2 u hx;rw[h'.1 hy]at e;simp at e
   |some v=>
    obtain⟨b,off,vs,e,hr,hc⟩:=h.2 u hx;obtain⟨b',off',vs',e',hr',hc'⟩:=h'.2 v hy;rw[e]at e';simp only[cR,Value.pointer.injEq,ax,Addr.mk.injEq,eS]at e';obtain⟨rfl,rfl⟩:=e';obtain rfl:=hr.uniq (by rw[c9.size hc,c9.size hc']) hr';rw[c9.uniq (by simpa only[Ty.aBv]using hn) hc hc']
 | .iv t,_,x,y,hn,h,h'=>by
  simp only[c9]at h h';cases hx:(x:Option (Nat×t.den)) with
  |none=>cases hy:(y:Option (Nat×t.den)) with
   |none=>rfl
   |some v=>
    obtain⟨ca,T,vs,e,_⟩:=h'.2 v hy;rw[h.1 hx]at e;simp at e
  |some u=>cases hy:(y:Option (Nat×t.den)) with
   |none=>
    obtain⟨ca,T,vs,e,_⟩:=h.2 u hx;rw[h'.1 hy]at e;simp at e
   |some v=>
    obtain⟨ca,T,vs,e,_,hr,hc⟩:=h.2 u hx;obtain⟨ca',T',vs',e',_,hr',hc'⟩:=h'.2 v hy;rw[e]at e';simp only[cR,Value.pointer.injEq,ax,Addr.mk.injEq,eS]at e';rw[<-e']at hr';obtain rfl:=hr.uniq (by rw[c9.size hc,c9.size hc']) hr';exact bW av (Prod.ext e' (c9.uniq (by simpa only[Ty.aBv]using hn) hc hc'))
def Env.cur(E:Env)(id:Id)(ver:Nat):Prop:=∃fr c,E.s id=av (.obj ver fr c)
def Env.KE(E:Env)(id:Id)(ver:Nat):Prop:=E.s id≠aH/\∀v fr c,E.s id=av (.obj v fr c)->ver<=v
def gY(agg:Bool)(cs:List Value)(v:Value):Prop:=match agg with | true=>v= .agg cs.toArray | false=>cs=[v]
mutual
def V(E:Env):aN->List Value->Prop
 | .undef,_=>False
 | .gone,cs=>∃v,cs=[v]/\v.oneCell'=bm
 | .dJ,cs=>cs=[.slice aH 0 0]
 | .jW,cs=>cs=[.pointer aH]
 | .AV,cs=>cs=[.nilFunc]
 | .HB,cs=>cs=[.map aH]
 | .d t x,cs=>c9 E t cs x
 | .pr a b,cs=>∃ca cb,cs=ca++cb/\V E a ca/\V E b cb
 | .ptr id ver _ n,cs=>∃a,cs=[.pointer (av a)]/\E.KE id ver/\(E.cur id ver->∃pl,E.β id=av pl/\a=⟨pl.b,n,aH⟩)
 | .dz t x,cs=>∃b off vs,cs=[.pointer (av ⟨b,off,aH⟩)]/\Bi E (av ⟨b,off,aH⟩) vs/\c9 E t vs x
 | .bU id ver p c i len,cs=>∃a cap,cs=[.slice a len cap]/\len<=cap/\(0 < len->a.isSome=bm)/\E.KE id ver/\
   (E.cur id ver->match E.β id with
    |some pl=>(0 < len\/i=0->a=av ⟨pl.b,c,aH⟩)/\(p=[]->i=0->cap=pl.cap)
    |none=>a=aH/\len=0/\cap=0)
 | .fn f c,cs=>∃vs,cs=[.func (.func f) #[] vs.toArray]/\VC E c vs
 | .cons _ _,_=>False
 | .nil,_=>False
 | .vec ..,_=>False
 | .bx ..,_=>False
 | .c7 id ver,cs=>∃b,cs=[.map (av b)]/\E.KE id ver/\(E.cur id ver->∃pl,E.β id=av pl/\b=pl.b)
 | .mp ..,_ | .tP ..,_=>False
def VC(E:Env):aN->List Value->Prop
 | .nil,vs=>vs=[]
 | .cons a b,vs=>∃v vs' cs,vs=v::vs'/\V E a cs/\gY a.agg cs v/\VC E b vs'
 |_,_=>False
end
structure dI(E E':Env):Prop where
 mem:wH E E'
 KE:∀id ver,E.KE id ver->E'.KE id ver
 cur:∀id ver,E.KE id ver->E'.cur id ver->E.cur id ver/\E'.β id=E.β id
theorem dI.refl(E:Env):dI E E:=⟨wH.refl E,λ_ _ h=>h,λ_ _ _ h=>⟨h,rfl⟩⟩
theorem dI.trans{E E' E'':Env}(h:dI E E')(h':dI E' E''):dI E E'':=
 ⟨h.mem.trans h'.mem,λid v b=>h'.KE id v (h.KE id v b),λid v b c=>
  let⟨c1,e1⟩:=h'.cur id v (h.KE id v b) c
  let⟨c2,e2⟩:=h.cur id v b c1
  ⟨c2,e1.trans e2⟩⟩
mutual
theorem V.mono{E E':Env}(h:dI E E'):∀ {a:aN} {cs:List Value},V E a cs->V E' a cs
 | .undef,_,hv=>by simp only[V]at hv
 | .gone,_,hv=>by simpa only[V]using hv
 | .dJ,_,hv=>by simpa only[V]using hv
 | .jW,_,hv=>by simpa only[V]using hv
 | .AV,_,hv=>by simpa only[V]using hv
 | .HB,_,hv=>by simpa only[V]using hv
 | .d t x,_,hv=>by simp only[V]at hv ⊢;exact hv.mono h.mem
 | .pr a b,_,hv=>by simp only[V]at hv ⊢;obtain⟨ca,cb,e,ha,hb⟩:=hv;exact⟨ca,cb,e,V.mono h ha,V.mono h hb⟩
 | .ptr id ver p n,_,hv=>by simp only[V]at hv ⊢;obtain⟨a,e,hb,hc⟩:=hv;refine⟨a,e,h.KE _ _ hb,λc=> ?_⟩;obtain⟨c1,e1⟩:=h.cur _ _ hb c;rw[e1];exact hc c1
 | .dz t x,_,hv=>by simp only[V]at hv ⊢;obtain⟨b,off,vs,e,hr,hx⟩:=hv;exact⟨b,off,vs,e,hr.mono h.mem,hx.mono h.mem⟩
 | .bU id ver p c i len,_,hv=>by simp only[V]at hv ⊢;obtain⟨a,cap,e,hl,hs,hb,hc⟩:=hv;refine⟨a,cap,e,hl,hs,h.KE _ _ hb,λc=> ?_⟩;obtain⟨c1,e1⟩:=h.cur _ _ hb c;rw[e1];exact hc c1
 | .fn f c,_,hv=>by simp only[V]at hv ⊢;obtain⟨vs,e,hc⟩:=hv;exact⟨vs,e,VC.mono h hc⟩
 | .cons _ _,_,hv=>by simp only[V]at hv
 | .nil,_,hv=>by simp only[V]at hv
 | .vec ..,_,hv=>by simp only[V]at hv
 | .bx ..,_,hv=>by simp only[V]at hv
 | .c7 id ver,_,hv=>by simp only[V]at hv ⊢;obtain⟨b,e,hb,hc⟩:=hv;refine⟨b,e,h.KE _ _ hb,λc=> ?_⟩;obtain⟨c1,e1⟩:=h.cur _ _ hb c;rw[e1];exact hc c1
 | .mp ..,_,hv | .tP ..,_,hv=>by simp only[V]at hv
theorem VC.mono{E E':Env}(h:dI E E'):∀ {a:aN} {vs:List Value},VC E a vs->VC E' a vs
 | .nil,_,hv=>by simpa only[VC]using hv
 | .cons a b,_,hv=>by simp only[VC]at hv ⊢;obtain⟨v,vs',cs,e,ha,ho,hb⟩:=hv;exact⟨v,vs',cs,e,V.mono h ha,ho,VC.mono h hb⟩
 | .undef,_,hv=>by simp only[VC]at hv
 | .gone,_,hv=>by simp only[VC]at hv
 | .dJ,_,hv=>by simp only[VC]at hv
 | .jW,_,hv=>by simp only[VC]at hv
 | .AV,_,hv=>by simp only[VC]at hv
 | .HB,_,hv=>by simp only[VC]at hv
 | .d t x,_,hv=>by simp only[VC]at hv
 | .pr a b,_,hv=>by simp only[VC]at hv
 | .ptr ..,_,hv=>by simp only[VC]at hv
 | .dz ..,_,hv=>by simp only[VC]at hv
 | .bU ..,_,hv=>by simp only[VC]at hv
 | .fn ..,_,hv=>by simp only[VC]at hv
 | .vec ..,_,hv=>by simp only[VC]at hv
 | .bx ..,_,hv=>by simp only[VC]at hv
 | .c7 ..,_,hv=>by simp only[VC]at hv
 | .mp ..,_,hv | .tP ..,_,hv=>by simp only[VC]at hv
end
theorem V.size{E:Env}:∀ {a:aN} {cs:List Value},V E a cs->cs.length=a.size
 | .undef,_,hv=>by simp only[V]at hv
 | .gone,_,hv=>by simp only[V]at hv;obtain⟨v,rfl,_⟩:=hv;rfl
 | .dJ,_,hv=>by simp only[V]at hv;rw[hv];rfl
 | .jW,_,hv=>by simp only[V]at hv;rw[hv];rfl
 | .AV,_,hv=>by simp only[V]at hv;rw[hv];rfl
 | .HB,_,hv=>by simp only[V]at hv;rw[hv];rfl
 | .d t x,_,hv=>by simp only[V]at hv;exact hv.size
 | .pr a b,_,hv=>by simp only[V]at hv;obtain⟨ca,cb,rfl,ha,hb⟩:=hv;simp[aN.size,V.size ha,V.size hb]
 | .ptr ..,_,hv=>by simp only[V]at hv;obtain⟨a,rfl,_⟩:=hv;rfl
 | .dz ..,_,hv=>by simp only[V]at hv;obtain⟨_,_,_,rfl,_⟩:=hv;rfl
 | .bU ..,_,hv=>by simp only[V]at hv;obtain⟨_,_,rfl,_⟩:=hv;rfl
 | .fn ..,_,hv=>by simp only[V]at hv;obtain⟨_,rfl,_⟩:=hv;rfl
 | .cons _ _,_,hv=>by simp only[V]at hv
 | .nil,_,hv=>by simp only[V]at hv
 | .vec ..,_,hv=>by simp only[V]at hv
 | .bx ..,_,hv=>by simp only[V]at hv
 | .c7 ..,_,hv=>by simp only[V]at hv;obtain⟨_,rfl,_⟩:=hv;rfl
 | .mp ..,_,hv | .tP ..,_,hv=>by simp only[V]at hv
theorem V.one{E:Env}:∀ {a:aN} {cs:List Value},V E a cs->∀c∈cs,c.oneCell'=bm
 | .undef,_,hv=>by simp only[V]at hv
 | .gone,_,hv=>by simp only[V]at hv;obtain⟨v,rfl,h⟩:=hv;simp[h]
 | .dJ,_,hv=>by simp only[V]at hv;rw[hv];simp[dZ]
 | .jW,_,hv=>by simp only[V]at hv;rw[hv];simp[dZ]
 | .AV,_,hv=>by simp only[V]at hv;rw[hv];simp[dZ]
 | .HB,_,hv=>by simp only[V]at hv;rw[hv];simp[dZ]
 | .d t x,_,hv=>by simp only[V]at hv;exact hv.one
 | .pr a b,_,hv=>by
  simp only[V]at hv;obtain⟨ca,cb,rfl,ha,hb⟩:=hv;intro c hc;rcases bR.1 hc with hc | hc
  ·exact V.one ha c hc
  ·exact V.one hb c hc
 | .ptr ..,_,hv=>by simp only[V]at hv;obtain⟨a,rfl,_⟩:=hv;simp[dZ]
 | .dz ..,_,hv=>by simp only[V]at hv;obtain⟨_,_,_,rfl,_⟩:=hv;simp[dZ]
 | .bU ..,_,hv=>by simp only[V]at hv;obtain⟨_,_,rfl,_⟩:=hv;simp[dZ]
 | .fn ..,_,hv=>by simp only[V]at hv;obtain⟨_,rfl,_⟩:=hv;simp[dZ]
 | .cons _ _,_,hv=>by simp only[V]at hv
 | .nil,_,hv=>by simp only[V]at hv
 | .vec ..,_,hv=>by simp only[V]at hv
 | .bx ..,_,hv=>by simp only[V]at hv
 | .c7 ..,_,hv=>by simp only[V]at hv;obtain⟨_,rfl,_⟩:=hv;simp[dZ]
 | .mp ..,_,hv | .tP ..,_,hv=>by simp only[V]at hv
theorem aN.au1:∀ {v:aN},v.agg=aZ->v.size=1
 | .d (.int _) _,_ | .d .bool _,_ | .d .str _,_ | .d (.slice _) _,_ | .d (.gG _) _,_ | .d (.qE _) _,_ | .d (.iv _) _,_=>rfl
 | .d .unit _,h | .d (.pair _ _) _,h | .d (.arr _ _) _,h=>by simp[aN.agg,Ty.agg]at h
 | .pr _ _,h=>by simp[aN.agg]at h
 | .undef,_ | .gone,_ | .dJ,_ | .jW,_ | .AV,_ | .HB,_ | .ptr ..,_ | .dz ..,_ | .bU ..,_ | .fn ..,_ | .cons ..,_ | .nil,_ | .vec ..,_ | .bx ..,_ | .c7 ..,_ | .mp ..,_ | .tP ..,_=>rfl
def VS(E:Env):aN->Value->Prop
 | .undef,_=>True
 | .cons a b,v=>∃vs,v= .tuple vs.toArray/\VC E (.cons a b) vs
 | .nil,v=>v= .tuple #[]
 |a,v=>∃cs,V E a cs/\gY a.agg cs v
theorem VS.mono{E E':Env}(h:dI E E'):∀ {a:aN} {v:Value},VS E a v->VS E' a v:=by
 intro a v hv
 cases a <;> first
  |trivial
  |exact hv
  | (obtain⟨cs,h1,h2⟩:=hv;exact⟨cs,V.mono h h1,h2⟩)
  | (obtain⟨vs,e,hc⟩:=hv;exact⟨vs,e,VC.mono h hc⟩)
theorem VS.undef{E:Env}{v:Value}:VS E .undef v:=trivial
theorem VS.of{E:Env}{a:aN}{cs:List Value}{v:Value}(h:V E a cs)(ho:gY a.agg cs v):VS E a v:=by
 cases a <;> first
  | (simp only[V]at h;done)
  |exact⟨cs,h,ho⟩
theorem VS.fD{E:Env}{a:aN}{v:Value}(h:VS E a v)(hc:a.fD=bm):∃cs,V E a cs/\gY a.agg cs v:=by
 cases a <;> first
  | (simp[aN.fD]at hc;done)
  |exact h
theorem VS.single{E:Env}{a:aN}{v:Value}(h:VS E a v)(hc:a.fD=bm)(ha:a.agg=aZ):V E a [v]:=by obtain⟨cs,hv,ho⟩:=h.fD hc;rw[ha]at ho;have:cs=[v]:=ho;rw[<-this];exact hv
theorem gY.cells{agg:Bool}{cs:List Value}{v:Value}(h:gY agg cs v)(h1:∀c∈cs,c.oneCell'=bm):v.cells=cs.toArray:=by
 cases agg with
 |true=>have:v= .agg cs.toArray:=h;rw[this];rfl
 |false=>
  have e:cs=[v]:=h;have:=h1 v (by simp[e]);rw[e];cases v <;> first | rfl | (simp[dZ]at this;done)
end Go.Ab
namespace Go.Ab
section
variable {α β:Type}
theorem aD{a b:α}:(Out.ok a).eval=av b↔a=b:=by simp[Out.eval]
theorem aG{b:α}:(Out.fail:Out α).eval=av b↔False:=by simp[Out.eval]
theorem cW{c:Bool}{r:Out α}{b:α}:(Out.AK c r).eval=av b↔c=bm/\r.eval=av b:=by cases c <;> simp[Out.eval]
theorem aR{c:Bool}{r:Out α}{b:α}:(Out.guard c r).eval=av b↔c=bm/\r.eval=av b:=by cases c <;> simp[Out.guard,Out.eval]
theorem og{x:Option β}{f:β->Out α}{b:α}:(Out.get x f).eval=av b↔∃y,x=av y/\(f y).eval=av b:=by cases x <;> simp[Out.eval]
theorem jP{x:Option α}{b:α}:(Out.opt x).eval=av b↔x=av b:=by cases x <;> simp[Out.opt,Out.eval]
theorem am4(o:Out α)(f:α->Out β):(o.bind f).eval=o.eval.bind λa=>(f a).eval:=by
 induction o with
 |ok a=>rfl
 |fail=>rfl
 |AK c r ih=>cases c <;> simp[Out.bind,Out.eval,ih]
 |get x g ih=>cases x <;> simp[Out.bind,Out.eval,ih]
 |br c x y ih1 ih2=>cases c <;> simp[Out.bind,Out.eval,ih1,ih2]
theorem aC{o:Out α}{f:α->Out β}{b:β}:(o.bind f).eval=av b↔∃a,o.eval=av a/\(f a).eval=av b:=by rw[am4];simp[Option.bind_eq_some_iff]
theorem run_eq{R:Type}(o:Out α)(k:α->Option R):o.run k=o.eval.bind k:=by
 induction o with
 |ok a=>rfl
 |fail=>rfl
 |AK c r ih=>cases c <;> simp[Out.run,Out.eval,aJ,ih]
 |get x g ih=>cases x <;> simp[Out.run,Out.eval,ao,ih]
 |br c x y ih1 ih2=>cases c <;> simp[Out.run,Out.eval,aJ,ih1,ih2]
theorem kk{R:Type}{o:Out α}{k:α->Option R}{r:R}:o.run k=av r↔∃a,o.eval=av a/\k a=av r:=by rw[run_eq];simp[Option.bind_eq_some_iff]
end
theorem jN{t t':Ty}{x:t.den}{y:t'.den}(h:wN t t' x=av y):∃e:t=t',e▸x=y:=by
 unfold wN at h;split at h
 ·rename_i e;exact⟨e,by simpa using h⟩
 ·cases h
theorem bH.map{α β:Type}{R:List Value->α->Prop}{R':List Value->β->Prop}{f:α->β}(h:∀c x,R c x->R' c (f x)):∀ {cs:List Value} {l:List α},bH R cs l->bH R' cs (l.map f)
 |_,[],hc=>hc
 |_,x::xs,⟨c,cs',e,hx,hr⟩=>⟨c,cs',e,h c x hx,bH.map h hr⟩
theorem c9.aWb{E:Env}:∀(a b:Ty) (f:a.den->b.den),ahQ a b=av f->∀(cs:List Value) (x:a.den),c9 E a cs x->c9 E b cs (f x):=by
 intro a b
 induction a,b using ahQ.induct with
 |case1 t=>
  intro f hf cs x hx;unfold ahQ at hf;rw[BX rfl]at hf;obtain rfl:=bf hf;simp only[c9]at hx;obtain⟨h1,h2⟩:=hx;show c9 E (.slice t) cs ((x:Option (List t.den)).getD []);simp only[c9];cases hx:(x:Option (List t.den)) with
  |none=>exact⟨aH,0,[],h1 hx,az _,λh=>absurd h (iI 0),λi v hh=>by simp at hh,rfl⟩
  |some l=>exact h2 l hx
 |case2 t t' jk=>
  intro f hf;unfold ahQ at hf;rw[ET jk]at hf;cases hf
 |case3 t=>
  intro f hf cs x hx;unfold ahQ at hf;rw[BX rfl]at hf;obtain rfl:=bf hf;simp only[c9]at hx ⊢;refine⟨λh=>(by cases h),λl hl=> ?_⟩;obtain rfl:x=l:=bf hl;exact hx
 |case4 t t' jk=>
  intro f hf;unfold ahQ at hf;rw[ET jk]at hf;cases hf
 |case5 a b c d f g h1 h2 ih1 ih2=>
  intro k hk cs x hx;unfold ahQ at hk;rw[h2,h1]at hk;obtain rfl:=bf hk;simp only[c9]at hx ⊢;obtain⟨ca,cb,e,ha,hb⟩:=hx;exact⟨ca,cb,e,ih1 f h2 ca x.1 ha,ih2 g h1 cb x.2 hb⟩
 |case6 a b c d hn ih1 ih2=>
  intro p hp;unfold ahQ at hp;split at hp
  ·rename_i f k h1 h2;exact(hn _ _ h1 h2).elim
  ·cases hp
 |case7 a b f h1 ih=>
  intro k hk cs x hx;unfold ahQ at hk;rw[h1]at hk;obtain rfl:=bf hk;simp only[c9]at hx ⊢;obtain⟨ad,cap,vs,e,hl,hs,hr,hc⟩:=hx;rw[da];exact⟨ad,cap,vs,e,hl,hs,hr,hc.map λc x hx=>ih f h1 c x hx⟩
 |case8 a b h1 ih=>
  intro p hp;unfold ahQ at hp;rw[h1]at hp;cases hp
 |case9 a h1 h2 h3 h4=>
  intro f hf cs x hx;rw[ahQ.eq_5 _ _ h1 h2 h3 h4,BX rfl]at hf;obtain rfl:=bf hf;exact hx
 |case10 a b h1 h2 h3 h4 jk=>
  intro f hf;rw[ahQ.eq_5 _ _ h1 h2 h3 h4,ET jk]at hf;cases hf
theorem aPZ{t t':Ty}{f:t.den->t'.den}(hp:ahQ t t'=av f):t.agg=t'.agg:=by
 unfold ahQ at hp;split at hp
 ·rfl
 ·rfl
 ·rfl
 ·rfl
 ·split at hp
  ·rename_i e;rw[e]
  ·cases hp
theorem ajP{t t':Ty}{x:t.den}{y:t'.den}(h:K9 t t' x=av y):t.agg=t'.agg:=by
 unfold K9 at h;split at h
 ·rename_i z hz;obtain⟨e,_⟩:=jN hz;rw[e]
 ·split at h
  ·rename_i f hf;exact aPZ hf
  ·cases h
theorem Iv{E:Env}{t t':Ty}{x:t.den}{y:t'.den}(h:K9 t t' x=av y){cs:List Value}(hx:c9 E t cs x):c9 E t' cs y:=by
 unfold K9 at h;split at h
 ·rename_i z hz;obtain⟨e,hz⟩:=jN hz;subst e;obtain rfl:=bf h;simp only at hz;rw[<-hz];exact hx
 ·split at h
  ·rename_i f hf;obtain rfl:=bf h;exact c9.aWb _ _ f hf cs x hx
  ·cases h
theorem aDx{E:Env}{t t':Ty}{x:List t.den}{y:List t'.den}(h:K9 (.slice t) (.slice t') x=av y):y.length=x.length/\∀vs,bH (c9 E t) vs x->bH (c9 E t') vs y:=by
 unfold K9 at h;split at h
 ·rename_i z hz;obtain⟨e,hz⟩:=jN hz;have e':t=t':=by simpa using e
  subst e';obtain rfl:=bf h;simp only at hz;subst hz;exact⟨rfl,λ_ h=>h⟩
 ·split at h
  ·rename_i p hp;obtain rfl:=bf h;unfold ahQ at hp;cases hd:ahQ t t' with
   |none=>rw[hd]at hp;cases hp
   |some q=>
    rw[hd]at hp;obtain rfl:=bf hp;exact⟨da _,λvs hc=>hc.map λc x hx=>c9.aWb _ _ q hd c x hx⟩
  ·cases h
def VO(E:Env):aN->List Value->Prop
 | .vec _ t l,cs=>bH (c9 E t) cs l
 |a,cs=>V E a cs
theorem VO.of{E:Env}{a:aN}{cs:List Value}(h:V E a cs):VO E a cs:=by cases a <;> first | exact h | (simp only[V]at h)
def aN.iW:aN->Bool | .vec .. =>bm | .mp .. =>bm | .tP .. =>bm | _=>aZ
theorem VO.to{E:Env}{a:aN}{cs:List Value}(h:VO E a cs)(hn:a.iW=aZ):V E a cs:=by cases a <;> first | exact h | (simp[aN.iW]at hn)
theorem aer{t:Ty}{l:List t.den}{i:Nat}(h:i < l.length):nth t l i=l[i]:=by unfold nth;simp[h]
theorem aeB{α:Type}(cs:List α)(n m k j:Nat)(h:k+j<=m):(((cs.drop n).take m).drop k).take j=(cs.drop (n+k)).take j:=by rw[wF,qL,gE];congr 1;omega
theorem Vp{E:Env}{t:Ty}{cs:List Value}{l:List t.den}(h:bH (c9 E t) cs l){i:Nat}(hi:i < l.length):
  c9 E t ((cs.drop (i*t.size)).take t.size) l[i]/\i*t.size+t.size<=cs.length:=by
 have hz:∀c x,c9 E t c x->c.length=t.size:=λc x hx=>hx.size
 refine⟨h.get hz i hi,?_⟩;rw[h.length hz,<-Nat.succ_mul];exact dE _ hi
theorem vW{E:Env}:∀(p:List Se) (c:aN) (cs:List Value) (n:Nat) (v:aN),VO E c cs->(loc c p).eval=av (n,v)->
  (n=0/\v=c)\/(V E v ((cs.drop n).take v.size)/\n+v.size<=cs.length)
 |[],c,cs,n,v,hc,h=>by left;simp only[loc,aD,de]at h;exact⟨h.1.symm,h.2.symm⟩
 |st::p,c,cs,n,v,hc,h=>by
  by_cases xZ:st= .arr
  ·subst xZ;have h':(loc c p).eval=av (n,v):=by cases c <;> simpa only[loc]using h
   exact vW p c cs n v hc h'
  right;have whole:∀(c':aN) (cs':List Value) (n':Nat) (v':aN),V E c' cs'->(loc c' p).eval=av (n',v')->V E v' ((cs'.drop n').take v'.size)/\n'+v'.size<=cs'.length:=by
   intro c' cs' n' v' hc' hl;rcases vW p c' cs' n' v' (VO.of hc') hl with⟨rfl,rfl⟩ | hh
   ·have:=hc'.size;rw[ay,bu aq];exact⟨hc',aq⟩
   ·exact hh
  have second:∀(a b:aN) (ca cb:List Value),cs=ca++cb->ca.length=a.size->V E b cb->((loc b p).bind λ(n,v)=>Out.ok (a.size+n,v)).eval=av (n,v)->
    V E v ((cs.drop n).take v.size)/\n+v.size<=cs.length:=by
   intro a b ca cb e hl hb hh;obtain⟨⟨n',v'⟩,h1,h2⟩:=aC.1 hh;simp only[aD,de]at h2;obtain⟨rfl,rfl⟩:=h2;obtain⟨h3,h4⟩:=whole b cb n' v' hb h1;subst e;rw[<-hl,lh,dO aq,aY,Nat.add_sub_cancel_left];exact⟨h3,by simp only[ak];omega⟩
  have elem:∀(t:Ty) (l:List t.den) (i:Nat),bH (c9 E t) cs l->(Out.AK (decide (i < l.length)) ((loc (.d t (nth t l i)) p).bind λ(n,v)=>Out.ok (i*t.size+n,v))).eval=av (n,v)->
    V E v ((cs.drop n).take v.size)/\n+v.size<=cs.length:=by
   intro t l i B4 hh;obtain⟨hi,hh⟩:=cW.1 hh;have hi:i < l.length:=by simpa using hi
   obtain⟨⟨n',v'⟩,h1,h2⟩:=aC.1 hh;simp only[aD,de]at h2;obtain⟨rfl,rfl⟩:=h2;obtain⟨hp,hle⟩:=Vp B4 hi;rw[aer hi]at h1;have hv:V E (.d t l[i]) ((cs.drop (i*t.size)).take t.size):=by simpa only[V]using hp
   obtain⟨h3,h4⟩:=whole _ _ n' v' hv h1;have hlen:((cs.drop (i*t.size)).take t.size).length=t.size:=hp.size;rw[aeB _ _ _ _ _ aq]at h3;exact⟨h3,aq⟩
  cases c with
  |pr a b=>
   simp only[VO,V]at hc;obtain⟨ca,cb,e,ha,hb⟩:=hc;cases st with
   |arr=>exact absurd rfl xZ
   |fst=>
    simp only[loc]at h;obtain⟨h3,h4⟩:=whole a ca n v ha h;subst e;refine⟨?_,by simp only[ak];omega⟩;rw[lh,rZ,du,lZ (by omega:v.size<=ca.length - n),dD,bK];exact h3
   |snd=>simp only[loc]at h;exact second a b ca cb e ha.size hb h
   |idx i=>simp only[loc,aG]at h
  |d t x=>
   simp only[VO,V]at hc;cases t with
   |pair ta tb=>
    simp only[c9]at hc;obtain⟨ca,cb,e,ha,hb⟩:=hc;cases st with
    |arr=>exact absurd rfl xZ
    |fst=>
     simp only[loc]at h;obtain⟨h3,h4⟩:=whole (.d ta x.1) ca n v (by simpa only[V]using ha) h;subst e;refine⟨?_,by simp only[ak];omega⟩;rw[lh,rZ,du,lZ (by omega:v.size<=ca.length - n),dD,bK];exact h3
    |snd=>simp only[loc]at h;exact second (.d ta x.1) (.d tb x.2) ca cb e ha.size (by simpa only[V]using hb) h
    |idx i=>simp only[loc,aG]at h
   |arr m t=>
    simp only[c9]at hc;cases st with
    |arr=>exact absurd rfl xZ
    |idx i=>simp only[loc]at h;exact elem t x i hc.2 h
    |fst=>simp only[loc,aG]at h
    |snd=>simp only[loc,aG]at h
   |_=>cases st <;> first | exact absurd rfl xZ | (simp only[loc,aG]at h)
  |vec e t l=>
   simp only[VO]at hc;cases st with
   |arr=>exact absurd rfl xZ
   |idx i=>simp only[loc]at h;exact elem t l i hc h
   |fst=>simp only[loc,aG]at h
   |snd=>simp only[loc,aG]at h
  |_=>cases st <;> first | exact absurd rfl xZ | (simp only[loc,aG]at h)
theorem avS{E:Env}{a b:aN}{ca cb:List Value}(ha:V E a ca)(hb:V E b cb):V E (T1 a b) (ca++cb):=by
 have gen:V E (.pr a b) (ca++cb):=by simp only[V];exact⟨ca,cb,rfl,ha,hb⟩
 unfold T1;split
 ·simp only[V]at ha hb ⊢;simp only[c9];exact⟨ca,cb,rfl,ha,hb⟩
 ·exact gen
theorem Zf(a b:aN):(T1 a b).iW=aZ:=by unfold T1;split <;> rfl
def dV(cs:List Value)(n:Nat)(vs:List Value):List Value:=cs.take n++vs++cs.drop (n+vs.length)
theorem azY{cs vs:List Value}(h:cs.length=vs.length):dV cs 0 vs=vs:=by simp[dV,dO (by omega:cs.length<=vs.length)]
theorem FW{ca cb vs:List Value}{n:Nat}(h:n+vs.length<=ca.length):dV (ca++cb) n vs=dV ca n vs++cb:=by unfold dV;rw[rZ,lh,lZ (by omega:n<=ca.length),dD,bK,lZ h,ay];simp only[aO]
theorem VL{ca cb vs:List Value}{n:Nat}:dV (ca++cb) (ca.length+n) vs=ca++dV cb n vs:=by unfold dV;rw[rZ,bu aq,Nat.add_sub_cancel_left,lh,dO aq,aY];simp only[aO];congr 4;omega
theorem azZ{cs vs:List Value}{i z n:Nat}(hz:i+z<=cs.length)(h:n+vs.length<=z):
  dV cs (i+n) vs=cs.take i++dV ((cs.drop i).take z) n vs++cs.drop (i+z):=by
 have e:cs=cs.take i++((cs.drop i).take z++cs.drop (i+z)):=by rw[<-gE,eC,eC]
 have hl:(cs.take i).length=i:=by simp;omega
 have hm:((cs.drop i).take z).length=z:=by simp;omega
 conv=>lhs;rw[e,show i+n=(cs.take i).length+n by rw[hl]]
 rw[VL,FW aq];simp only[aO]
theorem kY{cs vs:List Value}{n:Nat}(h:n+vs.length<=cs.length):(dV cs n vs).length=cs.length:=by simp[dV];omega
def oa:aN->aN->Prop
 | .vec e t l,.vec e' t' l'=>e'=e/\t'=t/\l'.length=l.length
 | .vec ..,_=>False
 |_,.vec .. =>False
 | .mp ..,_ | .tP ..,_=>False
 |_,.mp .. | _,.tP .. =>False
 |_,_=>True
theorem oa.xf{a b:aN}(h:oa a b)(ha:a.iW=aZ):b.iW=aZ:=by
 cases b <;> first
  |rfl
  | (cases a <;> first | (simp[aN.iW]at ha;done) | exact h.elim)
theorem oa.of{a b:aN}(ha:a.iW=aZ)(hb:b.iW=aZ):oa a b:=by
 cases a <;> first
  | (simp[aN.iW]at ha;done)
  | (cases b <;> first | trivial | (simp[aN.iW]at hb;done))
theorem V.xf{E:Env}{a:aN}{cs:List Value}(h:V E a cs):a.iW=aZ:=by cases a <;> first | rfl | (simp only[V]at h)
theorem tf{E:Env}:∀(p:List Se) (c:aN) (cs:List Value) (n:Nat) (o v c':aN) (vs:List Value),VO E c cs->(loc c p).eval=av (n,o)->V E v vs->
  (Hb c p v).eval=av c'->n+vs.length<=cs.length/\VO E c' (dV cs n vs)/\
   oa c c'
 |[],c,cs,n,o,v,c',vs,hc,hl,hv,h=>by
  simp only[loc,aD,de]at hl;obtain⟨rfl,rfl⟩:=hl
  have main:∀(aXv:c.iW=aZ),(Out.guard (v.fD && (c.size==v.size)) (.ok v)).eval=av c'->0+vs.length<=cs.length/\VO E c' (dV cs 0 vs)/\
   oa c c':=by
   intro aXv hg;obtain⟨h1,h2⟩:=aR.1 hg;obtain rfl:=aD.1 h2;simp only[aw,eZ]at h1;have e1:=(hc.to aXv).size;have e2:=hv.size;refine⟨aq,?_,?_⟩
   ·rw[azY aq];exact VO.of hv
   ·exact oa.of aXv hv.xf
  cases c with
  |vec e t l=>simp only[Hb,aG]at h
  |mp k v l=>simp only[Hb,aG]at h
  |tP q ver k v rest cur=>simp only[Hb,aG]at h
  |_=>exact main rfl (by simpa only[Hb]using h)
 |st::p,c,cs,n,o,v,c',vs,hc,hl,hv,h=>by
  by_cases xZ:st= .arr
  ·subst xZ;have hl':(loc c p).eval=av (n,o):=by cases c <;> simpa only[loc]using hl
   have h':(Hb c p v).eval=av c':=by cases c <;> simpa only[Hb]using h
   exact tf p c cs n o v c' vs hc hl' hv h'
  have left:∀(a b:aN) (ca cb:List Value),cs=ca++cb->V E a ca->V E b cb->(loc a p).eval=av (n,o)->((Hb a p v).bind λa'=>Out.ok (T1 a' b)).eval=av c'->
    n+vs.length<=cs.length/\VO E c' (dV cs n vs)/\c'.iW=aZ:=by
   intro a b ca cb e ha hb hl hh;obtain⟨a',h1,h2⟩:=aC.1 hh;obtain rfl:=aD.1 h2;obtain⟨h3,h4,h5⟩:=tf p a ca n o v a' vs (VO.of ha) hl hv h1;subst e;refine⟨by simp only[ak];omega,?_,Zf _ _⟩;rw[FW h3];have aZn:a'.iW=aZ:=h5.xf ha.xf;exact VO.of (avS (h4.to aZn) hb)
  have right:∀(a b:aN) (ca cb:List Value),cs=ca++cb->ca.length=a.size->V E a ca->V E b cb->((loc b p).bind λ(n,v)=>Out.ok (a.size+n,v)).eval=av (n,o)->
    ((Hb b p v).bind λb'=>Out.ok (T1 a b')).eval=av c'->n+vs.length<=cs.length/\VO E c' (dV cs n vs)/\c'.iW=aZ:=by
   intro a b ca cb e aKf ha hb hl hh;obtain⟨⟨n',v'⟩,h1,h2⟩:=aC.1 hl;simp only[aD,de]at h2;obtain⟨rfl,rfl⟩:=h2;obtain⟨b',h3,h4⟩:=aC.1 hh;obtain rfl:=aD.1 h4;obtain⟨h5,h6,h7⟩:=tf p b cb n' v' v b' vs (VO.of hb) h1 hv h3;subst e;refine⟨by simp only[ak];omega,?_,Zf _ _⟩;rw[<-aKf,VL];have aZn:b'.iW=aZ:=h7.xf hb.xf;exact VO.of (avS ha (h6.to aZn))
  have elem:∀(t:Ty) (l:List t.den) (i:Nat) (mk:List t.den->aN),bH (c9 E t) cs l->(Out.AK (decide (i < l.length)) ((loc (.d t (nth t l i)) p).bind λ(n,v)=>Out.ok (i*t.size+n,v))).eval=av (n,o)->
    (Out.AK (decide (i < l.length)) ((Hb (.d t (nth t l i)) p v).bind fun
     | .d t' y=>(Out.opt (wN t' t y)).bind λy=> .ok (mk (l.set i y))
     |_=> .fail)).eval=av c'->
    n+vs.length<=cs.length/\∃l',c'=mk l'/\l'.length=l.length/\bH (c9 E t) (dV cs n vs) l':=by
   intro t l i mk B4 hl hh;obtain⟨hi,hl⟩:=cW.1 hl;have hi:i < l.length:=by simpa using hi
   obtain⟨⟨n',v'⟩,h1,h2⟩:=aC.1 hl;simp only[aD,de]at h2;obtain⟨rfl,rfl⟩:=h2;obtain⟨_,hh⟩:=cW.1 hh;obtain⟨w,h3,h4⟩:=aC.1 hh;obtain⟨hp,hle⟩:=Vp B4 hi;rw[aer hi]at h1 h3;have aUZ:V E (.d t l[i]) ((cs.drop (i*t.size)).take t.size):=by simpa only[V]using hp
   have hlen:((cs.drop (i*t.size)).take t.size).length=t.size:=hp.size;obtain⟨h5,h6,h7⟩:=tf p _ _ n' v' v w vs (VO.of aUZ) h1 hv h3;cases w with
   |d t' y=>
    simp only at h4;obtain⟨y',h8,h9⟩:=aC.1 h4;obtain⟨rfl,h8⟩:=jN (jP.1 h8);simp only at h8;subst h8;obtain rfl:=aD.1 h9;refine⟨aq,_,rfl,by simp,?_⟩;have hy:c9 E t' (dV ((cs.drop (i*t'.size)).take t'.size) n' vs) y:=by simpa only[VO,V]using h6
    have:=bH.set (λc x hx=>c9.size hx) B4 i hi hy;rw[azZ (by omega:i*t'.size+t'.size<=cs.length) aq];rwa[hy.size]at this
   |_=>simp only[aG]at h4
  cases c with
  |pr a b=>
   simp only[VO,V]at hc;obtain⟨ca,cb,e,ha,hb⟩:=hc;cases st with
   |arr=>exact absurd rfl xZ
   |fst=>
    simp only[loc]at hl;simp only[Hb]at h;obtain⟨r1,r2,r3⟩:=left a b ca cb e ha hb hl h;exact⟨r1,r2,oa.of rfl r3⟩
   |snd=>
    simp only[loc]at hl;simp only[Hb]at h;obtain⟨r1,r2,r3⟩:=right a b ca cb e ha.size ha hb hl h;exact⟨r1,r2,oa.of rfl r3⟩
   |idx i=>simp only[loc,aG]at hl
  |d t x=>
   simp only[VO,V]at hc;cases t with
   |pair ta tb=>
    simp only[c9]at hc;obtain⟨ca,cb,e,ha,hb⟩:=hc;have ha':V E (.d ta x.1) ca:=by simpa only[V]using ha
    have hb':V E (.d tb x.2) cb:=by simpa only[V]using hb
    cases st with
    |arr=>exact absurd rfl xZ
    |fst=>
     simp only[loc]at hl;simp only[Hb]at h;obtain⟨r1,r2,r3⟩:=left _ _ ca cb e ha' hb' hl h;exact⟨r1,r2,oa.of rfl r3⟩
    |snd=>
     simp only[loc]at hl;simp only[Hb]at h;obtain⟨r1,r2,r3⟩:=right (.d ta x.1) (.d tb x.2) ca cb e ha.size ha' hb' hl h;exact⟨r1,r2,oa.of rfl r3⟩
    |idx i=>simp only[loc,aG]at hl
   |arr m t=>
    simp only[c9]at hc;cases st with
    |arr=>exact absurd rfl xZ
    |idx i=>
     simp only[loc]at hl;simp only[Hb]at h;obtain⟨r1,l',e,r2,r3⟩:=elem t x i (λl=> .d (.arr m t) l) hc.2 hl h;subst e;refine⟨r1,?_,trivial⟩;simp only[VO,V,c9];exact⟨by rw[r2];exact hc.1,r3⟩
    |fst=>simp only[loc,aG]at hl
    |snd=>simp only[loc,aG]at hl
   |_=>cases st <;> first | exact absurd rfl xZ | (simp only[loc,aG]at hl)
  |vec e t l=>
   simp only[VO]at hc;cases st with
   |arr=>exact absurd rfl xZ
   |idx i=>
    simp only[loc]at hl;simp only[Hb]at h;obtain⟨r1,l',e',r2,r3⟩:=elem t l i (λl=> .vec e t l) hc hl h;subst e';exact⟨r1,by simpa only[VO]using r3,rfl,rfl,r2⟩
   |fst=>simp only[loc,aG]at hl
   |snd=>simp only[loc,aG]at hl
  |_=>cases st <;> first | exact absurd rfl xZ | (simp only[loc,aG]at hl)
end Go.Ab
namespace Go.Ab
def aT0(E:Env)(id:Id)(fr:Bool)(e:TypeId)(t:Ty)(l:List t.den):Prop:=
 0 < t.size/\match E.β id with
  |none=>l=[]
  |some pl=>∃cur k,E.w.heap[pl.b]? =av (.cells cur e (0,0))/\cur.size=pl.cap*t.size/\l.length<=pl.cap/\pl.cap<=maxLen/\E.g pl.b= .own (.id id) k/\
    k<=l.length*t.size/\(fr=aZ->k=0)/\bH (c9 E t) (cur.toList.take (l.length*t.size)) l
def aN.KV:aN->Pl->Nat->TypeId->Prop
 | .bx e' 0 _,_,_,e=>e=e'
 | .bx e' (z+1) c,pl,n,e=>e=e'/\n=pl.cap*(z+1)/\pl.cap<=maxLen/\c.size<=n
 |_,_,_,_=>True
def aN.Ac:aN->Nat->Nat
 | .bx _ (_+1) c,_=>c.size
 |_,n=>n
def aN.ahZ:aN->Bool | .bx .. =>bm | _=>aZ
theorem V.DR{E:Env}{a:aN}{cs:List Value}(h:V E a cs):a.ahZ=aZ:=by cases a <;> first | rfl | (simp only[V]at h)
theorem X7{c:aN}(h:c.ahZ=aZ):c.strip=c:=by cases c <;> first | rfl | (simp[aN.ahZ]at h)
theorem Wv{c:aN}(h:c.ahZ=aZ)(pl:Pl)(n:Nat)(e:TypeId):c.KV pl n e:=by cases c <;> first | trivial | (simp[aN.ahZ]at h)
theorem acr{c:aN}(h:c.ahZ=aZ)(n:Nat):c.Ac n=n:=by cases c <;> first | rfl | (simp[aN.ahZ]at h)
theorem R1(c:aN){c':aN}(h:c'.ahZ=aZ):(c.wrap c').strip=c':=by cases c <;> first | rfl | exact X7 h
theorem Qt{c c':aN}{pl:Pl}{n:Nat}{e:TypeId}(hc:c.KV pl n e)(h:c'.ahZ=aZ)(hs:c'.size=c.strip.size):(c.wrap c').KV pl n e:=by
 cases c with
 |bx e' z c=>cases z with
  |zero=>exact hc
  |succ z=>exact⟨hc.1,hc.2.1,hc.2.2.1,by rw[hs];exact hc.2.2.2⟩
 |_=>exact Wv h pl n e
theorem Wu{c c':aN}{n:Nat}(h:c'.ahZ=aZ)(hs:c'.size=c.strip.size):(c.wrap c').Ac n=c.Ac n:=by
 cases c with
 |bx e' z c=>cases z with
  |zero=>rfl
  |succ z=>exact hs
 |_=>exact acr h n
theorem aby{c:aN}{pl:Pl}{n:Nat}{e:TypeId}(h:c.KV pl n e):c.Ac n<=n:=by
 cases c with
 |bx e' z c=>cases z with
  |zero=>exact az _
  |succ z=>exact h.2.2.2
 |_=>exact az _
def awj(id:Id)(fr:Bool):qs:=match fr with | true=> .free | false=> .own (.id id) 0
def Wg(E:Env)(id:Id)(fr:Bool)(c:aN):Prop:=∃pl cur e,E.β id=av pl/\E.w.heap[pl.b]? =av (.cells cur e (0,0))/\E.g pl.b=awj id fr/\c.KV pl cur.size e/\V E c.strip (cur.toList.take (c.Ac cur.size))
def Alike{α β:Type}(R:α->β->Prop):List α->List β->Prop
 |[],[]=>True
 |x::xs,y::ys=>R x y/\Alike R xs ys
 |_,_=>False
theorem Alike.mono{α β:Type}{R R':α->β->Prop}(h:∀x y,R x y->R' x y):∀ {xs:List α} {ys:List β},Alike R xs ys->Alike R' xs ys
 |[],[],_=>trivial
 |_::_,_::_,⟨h1,h2⟩=>⟨h _ _ h1,Alike.mono h h2⟩
 |[],_::_,h=>h.elim
 |_::_,[],h=>h.elim
def Hf(E:Env)(t:Ty)(v:Value)(x:t.den):Prop:=∃cs,c9 E t cs x/\gY t.agg cs v
def Im(E:Env)(kt vt:Ty)(e:gl)(x:kt.den×vt.den):Prop:=Hf E kt e.key x.1/\Hf E vt e.val x.2
theorem Im.mono{E E':Env}(h:wH E E'){kt vt:Ty}{e:gl}{x:kt.den×vt.den}(he:Im E kt vt e x):Im E' kt vt e x:=
 let⟨⟨c1,a1,b1⟩,c2,a2,b2⟩:=he
 ⟨⟨c1,a1.mono h,b1⟩,c2,a2.mono h,b2⟩
def al9(E:Env)(kt vt:Ty)(es:List gl)(l:List (kt.den×vt.den)):Prop:=∃l',Alike (Im E kt vt) es l'/\l'.Perm l
theorem al9.mono{E E':Env}(h:wH E E'){kt vt:Ty}{es:List gl}{l:List (kt.den×vt.den)}(hm:al9 E kt vt es l):al9 E' kt vt es l:=
 let⟨l',h1,h2⟩:=hm
 ⟨l',h1.mono λ_ _ he=>he.mono h,h2⟩
def qH(es:List gl)(clock:Nat):Prop:=(es.map (·.born)).Nodup/\∀e∈es,e.born < clock
theorem qH.nil(n:Nat):qH [] n:=⟨jH,λ_ h=>(by cases h)⟩
theorem qH.push{es:List gl}{clock:Nat}(h:qH es clock){e:gl}(he:e.born=clock):qH (es++ [e]) (clock+1):=by
 refine⟨?_,λx hx=> ?_⟩
 ·rw[ui,List.nodup_append];refine⟨h.1,by simp,λa ha b hb=> ?_⟩;obtain⟨x,hx,rfl⟩:=dy.1 ha;have:=h.2 x hx;simp only[cj,fK,bB]at hb;omega
 ·rcases bR.1 hx with hx | hx
  ·have:=h.2 x hx;omega
  ·rw[bB]at hx;subst hx;omega
theorem qH.erase{es:List gl}{clock:Nat}(h:qH es clock)(j:Nat):qH (es.eraseIdx j) clock:=⟨h.1.sublist ((List.eraseIdx_sublist es j).map _),λx hx=>h.2 x ((List.eraseIdx_sublist es j).subset hx)⟩
theorem qH.set{es:List gl}{clock:Nat}(h:qH es clock){j:Nat}{e x:gl}(hj:es[j]? =av e)(hx:x.born=e.born):qH (es.set j x) clock:=by
 have fF:=(ek.1 hj).1;have bbh:=(ek.1 hj).2;have e1:(es.set j x).map (·.born)=es.map (·.born):=by
  rw[List.map_set,hx,<-bbh];have:es[j].born=(es.map (·.born))[j]'(by simpa using fF):=by simp
  rw[this,gU]
 refine⟨by rw[e1];exact h.1,λy hy=> ?_⟩;rcases List.mem_or_eq_of_mem_set hy with hy | hy
 ·exact h.2 y hy
 ·rw[hy,hx,<-bbh];exact h.2 _ (aK fF)
def aY5(E:Env)(id:Id)(kt vt:Ty)(l:List (kt.den×vt.den)):Prop:=
 ∃pl es clock,E.β id=av pl/\E.w.heap[pl.b]? =av (.map es clock)/\E.g pl.b= .own (.id id) 0/\(al9 E kt vt es.toList l/\(l.map (·.1)).Nodup)/\qH es.toList clock
def aTU(E:Env)(i q:Id)(ver:Nat)(kt vt:Ty)(rest:List (kt.den×vt.den))(cur:Option (kt.den×vt.den)):Prop:=
 ∃pl mb since seen c0,E.β i=av pl/\E.w.heap[pl.b]? =av (.mapIter (av mb) since seen c0)/\E.g pl.b= .own (.id i) 0/\∀vr,ver=vr+1->E.KE q vr/\
  (E.cur q vr->(∃k v l,E.s q=av (.obj vr bm (.mp k v l)))/\∃plq es clock,E.β q=av plq/\plq.b=mb/\E.w.heap[plq.b]? =av (.map es clock)/\E.g plq.b= .own (.id q) 0/\
   (∀x∈es.toList,x.born < since)/\(since<=c0/\since<=clock)/\(es.toList.map (·.born)).Nodup/\al9 E kt vt (es.toList.filter λe=> !seen.contains e.born) rest/\
   ∀x,cur=av x->∃(e:gl) (seen':Array Nat),e∈es.toList/\seen=seen'.push e.born/\c0=clock/\Im E kt vt e x)
def Dc(E:Env)(id:Id)(fr:Bool):aN->Prop
 | .vec e t l=>aT0 E id fr e t l
 | .mp kt vt l=>aY5 E id kt vt l
 | .tP q ver kt vt rest cur=>aTU E id q ver kt vt rest cur
 |c=>Wg E id fr c
theorem Dc.box{E:Env}{id:Id}{fr:Bool}{c:aN}(h:Dc E id fr c)(hn:c.iW=aZ):Wg E id fr c:=by cases c <;> first | exact h | (simp[aN.iW]at hn)
theorem Wg.obj{E:Env}{id:Id}{fr:Bool}{c:aN}(h:Wg E id fr c):Dc E id fr c:=by cases c <;> first | exact h | (obtain⟨_,_,_,_,_,_,_,hv⟩:=h;simp only[aN.strip,V]at hv)
def ku(E:Env):Prop:=∀id ver fr c,E.s id=av (.obj ver fr c)->Dc E id fr c
structure Trans(w w':cO)(g g':Nat->qs):Prop where
 os:w'.os=w.os
 tape:w'.tape=w.tape
 output:w'.output=w.output/\w.drawn<=w'.drawn
 size:w.heap.size<=w'.heap.size
 BE:∀b,b < w.heap.size->match g b with
  | .free=>g' b= .free/\w'.heap[b]? =w.heap[b]?
  | .own .gf k=>g' b= .own .gf k/\w'.heap[b]? =w.heap[b]?
  | .own (.id _) k=>(g' b= .free\/∃i k',g' b= .own (.id i) k'/\k<=k')/\∀off v,off < k->w.cell? ⟨b,off,aH⟩=av v->w'.cell? ⟨b,off,aH⟩=av v
theorem Trans.refl(w:cO)(g:Nat->qs):Trans w w g g:=
 ⟨rfl,rfl,⟨rfl,az _⟩,az _,λb _=>by
  cases g b with
  |free=>exact⟨rfl,rfl⟩
  |own o k=>cases o with
   |gf=>exact⟨rfl,rfl⟩
   |id i=>exact⟨.inr ⟨i,k,rfl,az _⟩,λ_ _ _ h=>h⟩⟩
theorem Trans.trans{w w' w'':cO}{g g' g'':Nat->qs}(h:Trans w w' g g')(h':Trans w' w'' g' g''):Trans w w'' g g'':=by
 refine⟨h'.os.trans h.os,h'.tape.trans h.tape,⟨h'.output.1.trans h.output.1,jy h.output.2 h'.output.2⟩,jy h.size h'.size,λb hb=> ?_⟩;have h1:=h.BE b hb;have h2:=h'.BE b (Nat.lt_of_lt_of_le hb h.size);cases hg:g b with
 |free=>
  rw[hg]at h1;simp only at h1 ⊢;rw[h1.1]at h2;simp only at h2;exact⟨h2.1,h2.2.trans h1.2⟩
 |own o k=>
  cases o with
  |gf=>
   rw[hg]at h1;simp only at h1 ⊢;rw[h1.1]at h2;simp only at h2;exact⟨h2.1,h2.2.trans h1.2⟩
  |id i=>
   rw[hg]at h1;simp only at h1 ⊢;obtain⟨aW0,ba2⟩:=h1;rcases aW0 with aW0 | ⟨i',k',aW0,hk⟩
   ·rw[aW0]at h2;simp only at h2;exact⟨.inl h2.1,λoff v ho hv=>by
     have:=ba2 off v ho hv;simpa only[World.cell?,h2.2]using this⟩
   ·rw[aW0]at h2;simp only at h2;refine⟨?_,λoff v ho hv=>h2.2 off v aq (ba2 off v ho hv)⟩;rcases h2.1 with aZk | ⟨i'',k'',aZk,hk'⟩
    ·exact .inl aZk
    ·exact .inr ⟨i'',k'',aZk,aq⟩
theorem Trans.mem{E E':Env}(h:Trans E.w E'.w E.g E'.g):wH E E':=by
 refine⟨?_,λb ob hf ho=>by
  have h1:=h.BE b (cS.1 ho).1;rw[hf]at h1;exact⟨h1.1,h1.2.trans ho⟩⟩
 intro b off v ⟨hc,ho⟩;have hb:b < E.w.heap.size:=World.block_lt_of_cell? _ _ hc;have h1:=h.BE b hb;unfold Env.has Am at*;cases hg:E.g b with
 |free=>
  rw[hg]at h1;simp only at h1;refine⟨?_,by rw[h1.1];trivial⟩;simpa only[World.cell?,h1.2]using hc
 |own o k=>
  rw[hg]at ho;simp only at ho;cases o with
  |gf=>
   rw[hg]at h1;simp only at h1;refine⟨?_,by rw[h1.1];exact ho⟩;simpa only[World.cell?,h1.2]using hc
  |id i=>
   rw[hg]at h1;simp only at h1;refine⟨h1.2 off v ho hc,?_⟩;rcases h1.1 with h2 | ⟨i',k',h2,hk⟩
   ·rw[h2];trivial
   ·rw[h2];show off < k';omega
theorem Dc.aTA{E E':Env}(h:dI E E'){id:Id}{fr:Bool}{c:aN}(ho:Dc E id fr c)(hβ:E'.β id=E.β id)
    (hb:∀pl,E.β id=av pl->E'.w.heap[pl.b]? =E.w.heap[pl.b]? /\E'.g pl.b=E.g pl.b)
    (hq:∀q ver k v l,(∃kt vt rest cu,c= .tP q (ver+1) kt vt rest cu)->E.s q=av (.obj ver bm (.mp k v l))->E'.cur q ver->(∃k v l,E'.s q=av (.obj ver bm (.mp k v l)))/\∀pl,E.β q=av pl->E'.w.heap[pl.b]? =E.w.heap[pl.b]? /\E'.g pl.b=E.g pl.b):Dc E' id fr c:=by
  by_cases hn:c.iW=aZ
  · obtain⟨pl,cur,e,h1,h2,h3,h5,h4⟩:=ho.box hn
    obtain⟨b1,b2⟩:=hb pl h1;exact Wg.obj ⟨pl,cur,e,by rw[hβ,h1],by rw[b1,h2],by rw[b2,h3],h5,h4.mono h⟩
  · cases c <;> first
      | (exact absurd rfl hn)
      | (obtain⟨pl,r,h1,h2,h3,h4,h5,h6⟩:=ho
         obtain⟨b1,b2⟩:=hb pl h1;exact⟨pl,r,by rw[hβ,h1],by rw[b1,h2],by rw[b2,h3],h4,h5.mono h,h6⟩)
      | (obtain⟨pl,es,clock,h1,h2,h3,h4⟩:=ho
         obtain⟨b1,b2⟩:=hb pl h1;exact⟨pl,es,clock,by rw[hβ,h1],by rw[b1,h2],by rw[b2,h3],⟨h4.1.1.mono h.mem,h4.1.2⟩,h4.2⟩)
      | (obtain⟨pl,mb,since,seen,c0,h1,h2,h3,hv⟩:=ho
         obtain⟨b1,b2⟩:=hb pl h1;refine⟨pl,mb,since,seen,c0,by rw[hβ,h1],by rw[b1,h2],by rw[b2,h3],λvr avE=> ?_⟩;obtain⟨h4,h5⟩:=hv vr avE;refine⟨h.KE _ _ h4,λhc=> ?_⟩;obtain⟨c1,e1⟩:=h.cur _ _ h4 hc;obtain⟨⟨k,v,l,hk⟩,plq,es,clock,g1,g2,g3,g4,g5,g6,g7,g8,g9⟩:=h5 c1;obtain⟨q1,q2⟩:=hq _ _ _ _ _ ⟨_,_,_,_,by rw[avE]⟩ hk hc;obtain⟨q3,q4⟩:=q2 plq g1;exact⟨q1,plq,es,clock,by rw[e1,g1],g2,by rw[q3,g3],by rw[q4,g4],g5,g6,g7,g8.mono h.mem,λx hx=>
           let⟨e,se,a1,a2,a3,a4⟩:=g9 x hx
           ⟨e,se,a1,a2,a3,a4.mono h.mem⟩⟩)
      |skip
    rename_i e t l;obtain⟨hz,ho⟩:=ho;refine⟨hz,?_⟩;rw[hβ];cases hp:E.β id with
    |none=>rw[hp]at ho;exact ho
    |some pl=>
      rw[hp]at ho;simp only at ho ⊢;obtain⟨b1,b2⟩:=hb pl hp;obtain⟨cur,k,h1,h2,h3,h4,h5,h6,h7,h8⟩:=ho;exact⟨cur,k,by rw[b1,h1],h2,h3,h4,by rw[b2,h5],h6,h7,h8.mono λc x hx=>hx.mono h.mem⟩
theorem Dc.mono{E E':Env}(h:dI E E'){id:Id}{fr:Bool}{c:aN}(ho:Dc E id fr c)(hβ:E'.β id=E.β id)(hb:∀pl,E.β id=av pl->E'.w.heap[pl.b]? =E.w.heap[pl.b]? /\E'.g pl.b=E.g pl.b)(hq:∀q ver k v l,E.s q=av (.obj ver bm (.mp k v l))->E'.cur q ver->(∃k v l,E'.s q=av (.obj ver bm (.mp k v l)))/\∀pl,E.β q=av pl->E'.w.heap[pl.b]? =E.w.heap[pl.b]? /\E'.g pl.b=E.g pl.b):Dc E' id fr c:=ho.aTA h hβ hb λq ver k v l _=>hq q ver k v l
def AS.env(s:AS)(w:cO)(g:Nat->qs)(β:Id->Option Pl):Env:= {w,g,β,s:=s.cJ}
structure Ctx where
 E:Env
def Ctx.ok(C:Ctx):Prop:=(∀i j,C.E.s (.new i j)=aH)/\∀k v fr c,C.E.s (.bP k)=av (.obj v fr c)->v=0
def aLd(D:Nat):Deferred:= {target:= .collected D,args:= #[]}
def aAl(n:Nat)(ds:List Deferred)(w:cO)(g:Nat->qs):Prop:=ds.Nodup/\∀d∈ds,∃D,d=aLd D/\n<=D/\w.heap[D]? =av (.deferred (av []))/\g D= .own .gf 0
theorem aAl.mono{n:Nat}{ds:List Deferred}{w w':cO}{g g':Nat->qs}(h:aAl n ds w g)(ht:Trans w w' g g'):aAl n ds w' g':=
 ⟨h.1,λd hd=>by
  obtain⟨D,h1,h2,h3,h4⟩:=h.2 d hd;have:=ht.BE D (cS.1 h3).1;rw[h4]at this;exact⟨D,h1,h2,this.2.trans h3,this.1⟩⟩
structure Inv(C:Ctx)(g:Nat->qs)(β:Id->Option Pl)(s:AS)(a:Act)(w:cO):Prop where
 defers:aAl C.E.w.heap.size a.defers w g
 size:a.tmps.size=s.dg.length
 dg:∀i,VS (s.env w g β) (s.slot i) (a.tmps.getD i undef)
 cg:ku (s.env w g β)
 trans:Trans C.E.w w C.E.g g
 le:dI C.E (s.env w g β)
def ka(C:Ctx)(s:AS)(a:Act)(w:cO):Prop:=∃g β,Inv C g β s a w
theorem agQ(s:AS)(d:Nat)(v:aN)(i:Nat):(s.put (av d) v).slot i=if i=d/\d < s.dg.length then v else s.slot i:=by
 simp only[AS.put,AS.slot,bh,List.getElem?_set];by_cases h:d=i
 ·subst h;by_cases hl:d < s.dg.length
  ·simp[hl]
  ·simp[hl]
 ·simp[h,Ne.symm h]
@[simp] theorem N7(s:AS)(d:Option Tmp)(v:aN):(s.put d v).cJ=s.cJ:=by cases d <;> rfl
@[simp] theorem aAZ(s:AS)(d:Option Tmp)(v:aN)(w:cO)(g:Nat->qs)(β:Id->Option Pl):(s.put d v).env w g β=s.env w g β:=by simp[AS.env]
theorem aOq(a:Act)(d:Nat)(v:Value)(i:Nat):(a.put (av d) v).tmps.getD i undef=if i=d/\d < a.tmps.size then v else a.tmps.getD i undef:=by
 simp only[Act.put,eD,fZ];by_cases h:d=i
 ·subst h;by_cases hl:d < a.tmps.size
  ·simp[hl]
  ·simp[hl]
 ·simp[h,Ne.symm h]
theorem Inv.put{C:Ctx}{g:Nat->qs}{β:Id->Option Pl}{s:AS}{a:Act}{w:cO}(h:Inv C g β s a w)(d:Option Tmp){v:aN}{x:Value}(hv:VS (s.env w g β) v x):
  Inv C g β (s.put d v) (a.put d x) w:=by
 cases d with
 |none=>exact h
 |some d=>
  refine⟨h.defers,by simpa[Act.put,AS.put]using h.size,λi=> ?_,by simpa using h.cg,h.trans,by simpa using h.le⟩;rw[aAZ,agQ,aOq,h.size];split
  ·exact hv
  ·exact h.dg i
theorem Inv.step{C:Ctx}{g g':Nat->qs}{β β':Id->Option Pl}{s s':AS}{a:Act}{w w':cO}(h:Inv C g β s a w)(hs:s'.dg=s.dg)
  (ht:Trans w w' g g') (he:dI (s.env w g β) (s'.env w' g' β')) (ho:ku (s'.env w' g' β')):Inv C g' β' s' a w':=
 ⟨h.defers.mono ht,by rw[hs];exact h.size,λi=>by
  have:s'.slot i=s.slot i:=by simp[AS.slot,hs]
  rw[this];exact(h.dg i).mono he,ho,h.trans.trans ht,h.le.trans he⟩
theorem aH0{E:Env}(v:Value):VS E (ofConst v) v:=by
 cases v with
 |bool b=>exact⟨_,by simp[ofConst,V,c9],rfl⟩
 |int k n=>exact⟨_,by simp[ofConst,V,c9],rfl⟩
 |string s=>exact⟨_,by simp[ofConst,V,c9],rfl⟩
 |slice a l c=>cases a with
  |none=>
   cases l with
   |zero=>cases c with
    |zero=>exact⟨_,by simp[ofConst,V],rfl⟩
    |succ _=>trivial
   |succ _=>trivial
  |some _=>trivial
 |pointer a=>cases a with
  |none=>exact⟨_,by simp[ofConst,V],rfl⟩
  |some _=>trivial
 |map r=>cases r with
  |none=>exact⟨_,by simp[ofConst,V],rfl⟩
  |some _=>trivial
 |nilFunc=>exact⟨_,by simp[ofConst,V],rfl⟩
 |_=>trivial
theorem Inv.ev{C:Ctx}{g:Nat->qs}{β:Id->Option Pl}{s:AS}{a:Act}{w:cO}(h:Inv C g β s a w)(x:cr):VS (s.env w g β) (s.ev x) (a.eval x):=by
 cases x with
 |tmp t=>exact h.dg t
 |const v=>exact aH0 v
 |func f=>exact⟨_,by simp only[AS.ev,V];exact⟨[],rfl,by simp[VC]⟩,rfl⟩
 |global _=>trivial
theorem fu(s:AS)(id:Id)(e:eJ)(h:s.cJ id≠aH):(s.bI id e).cJ id=av e:=by
 cases id with
 |bP k=>
  simp only[AS.cJ,AS.bI]at*;have hk:k < s.dh.length:=by
   rcases r0 k s.dh.length with h' | h'
   ·exact h'
   ·exact absurd (eB h') h
  simp[hk]
 |new i j=>
  simp only[AS.cJ,AS.bI]at*;have hj:j < (s.news.getD i []).length:=by
   rcases r0 j (s.news.getD i []).length with h' | h'
   ·exact h'
   ·exact absurd (eB h') h
  have hi:i < s.news.length:=by
   rcases r0 i s.news.length with h' | h'
   ·exact h'
   ·simp[eB h']at hj
  have:((s.news.set i ((s.news.getD i []).set j e)).getD i [])=(s.news.getD i []).set j e:=by simp[bh,hi]
  rw[this];simp only[List.getElem?_set,hj,bO]
theorem ee(s:AS)(id id':Id)(e:eJ)(h:id'≠id):(s.bI id e).cJ id'=s.cJ id':=by
 cases id with
 |bP k=>
  cases id' with
  |bP k'=>
   simp only[AS.cJ,AS.bI];rw[fy (λe=>h (by rw[e]))]
  |new i j=>rfl
 |new i j=>
  cases id' with
  |bP k'=>rfl
  |new i' j'=>
   simp only[AS.cJ,AS.bI];by_cases hi:i'=i
   ·subst hi;have hj:j≠j':=λe=>h (by rw[e])
    by_cases hl:i' < s.news.length
    ·have:((s.news.set i' ((s.news.getD i' []).set j e)).getD i' [])=(s.news.getD i' []).set j e:=by simp[bh,hl]
     rw[this,fy hj]
    ·rw[List.set_eq_of_length_le aq]
   ·have:(s.news.set i ((s.news.getD i []).set j e)).getD i' []=s.news.getD i' []:=by simp only[bh];rw[fy (Ne.symm hi)]
    rw[this]
@[simp] theorem eo(s:AS)(id:Id)(e:eJ):(s.bI id e).dg=s.dg:=by cases id <;> rfl
@[simp] theorem aVK(s:AS)(i:Nat)(es:List eJ):(s.born i es).dg=s.dg:=rfl
theorem fT{s:AS}{id:Id}{v:Nat}{fr:Bool}{c:aN}(h:s.obj id=av (v,fr,c)):s.cJ id=av (.obj v fr c):=by
 unfold AS.obj at h;split at h
 ·rename_i h';simp at h;obtain⟨rfl,rfl,rfl⟩:=h;exact h'
 ·cases h
theorem dI.bI{s:AS}{w w':cO}{g g':Nat->qs}{β β':Id->Option Pl}{id:Id}{v v':Nat}{fr fr':Bool}{c c':aN}(hs:s.cJ id=av (.obj v fr c))(hv:v<=v')
  (ht:Trans w w' g g') (hβ:∀i,i≠id->β' i=β i) (hβ':v'=v->β' id=β id):dI (s.env w g β) ((s.bI id (.obj v' fr' c')).env w' g' β'):=by
 have vU:=fu s id (.obj v' fr' c') (by rw[hs];simp);refine⟨Trans.mem ht,λi ver hb=> ?_,λi ver hb hc=> ?_⟩
 ·by_cases hi:i=id
  ·subst hi;obtain⟨_,h2⟩:=hb;refine⟨by show(s.bI i (.obj v' fr' c')).cJ i≠aH;rw[vU];simp,λv'' fr'' c'' he=> ?_⟩;have he':(s.bI i (.obj v' fr' c')).cJ i=av (.obj v'' fr'' c''):=he;rw[vU]at he';simp only[ax,eJ.obj.injEq]at he';have:=h2 v fr c hs;omega
  ·have:=ee s id i (.obj v' fr' c') hi;obtain⟨h1,h2⟩:=hb;exact⟨by show(s.bI id (.obj v' fr' c')).cJ i≠aH;rw[this];exact h1,λv'' fr'' c'' he=>h2 v'' fr'' c'' (this.symm.trans he)⟩
 ·obtain⟨fr'',c'',hc⟩:=hc;by_cases hi:i=id
  ·subst hi;have hc':(s.bI i (.obj v' fr' c')).cJ i=av (.obj ver fr'' c''):=hc;rw[vU]at hc';simp only[ax,eJ.obj.injEq]at hc';have h2:=hb.2 v fr c hs;have e:v'=v:=aq;refine⟨⟨fr,c,?_⟩,hβ' e⟩;rw[<-hc'.1,e];exact hs
  ·have hc':(s.bI id (.obj v' fr' c')).cJ i=av (.obj ver fr'' c''):=hc;rw[ee s id i _ hi]at hc';exact⟨⟨fr'',c'',hc'⟩,hβ i hi⟩
theorem ku.bI{s:AS}{w w':cO}{g g':Nat->qs}{β β':Id->Option Pl}{id:Id}{v':Nat}{fr':Bool}{c':aN}(h:ku (s.env w g β))(jk:s.cJ id≠aH)
  (he:dI (s.env w g β) ((s.bI id (.obj v' fr' c')).env w' g' β')) (hβ:∀i,i≠id->β' i=β i)
  (hb:∀i ver fr c pl,i≠id->s.cJ i=av (.obj ver fr c)->β i=av pl->w'.heap[pl.b]? =w.heap[pl.b]? /\g' pl.b=g pl.b)
  (ho:Dc ((s.bI id (.obj v' fr' c')).env w' g' β') id fr' c')
  (ahU:∀ver k v l,s.cJ id=av (.obj ver bm (.mp k v l))->v'=ver/\fr'=bm/\(∃k v l,c'= .mp k v l)/\∀pl,β id=av pl->w'.heap[pl.b]? =w.heap[pl.b]? /\g' pl.b=g pl.b):ku ((s.bI id (.obj v' fr' c')).env w' g' β'):=by
 intro i ver fr c hi;by_cases dL:i=id
 ·subst dL;have hi':(s.bI i (.obj v' fr' c')).cJ i=av (.obj ver fr c):=hi;rw[fu s i _ jk]at hi';simp only[ax,eJ.obj.injEq]at hi';obtain⟨rfl,rfl,rfl⟩:=hi';exact ho
 ·have hi':(s.bI id (.obj v' fr' c')).cJ i=av (.obj ver fr c):=hi;rw[ee s id i _ dL]at hi';refine(h i ver fr c hi').mono he (hβ i dL) (λpl hp=>hb i ver fr c pl dL hi' hp) λq vq k v l hq hc=> ?_
  have hq:s.cJ q=av (.obj vq bm (.mp k v l)):=hq;by_cases aZU:q=id
  ·subst aZU;obtain⟨rfl,rfl,⟨k',v',l',rfl⟩,aUF⟩:=ahU _ _ _ _ hq;exact⟨⟨k',v',l',fu s q _ jk⟩,aUF⟩
  ·exact⟨⟨k,v,l,by show(s.bI id _).cJ q=_;rw[ee s id q _ aZU];exact hq⟩,λpl hp=>hb q vq bm _ pl aZU hq hp⟩
theorem anF{s:AS}{w:cO}{g:Nat->qs}{β:Id->Option Pl}{id:Id}{v:Nat}{fr:Bool}{c:aN}(hs:s.cJ id=av (.obj v fr c)):
  ∀ver k v1 l,s.cJ id=av (.obj ver bm (.mp k v1 l))->v=ver/\bm=bm/\(∃k v l,c= .mp k v l)/\∀pl,β id=av pl->w.heap[pl.b]? =w.heap[pl.b]? /\g pl.b=g pl.b:=λver k v1 l hl=>by
 rw[hs]at hl;cases hl;exact⟨rfl,rfl,⟨_,_,_,rfl⟩,λ_ _=>⟨rfl,rfl⟩⟩
theorem sB{s:AS}{id:Id}{v:Nat}{fr:Bool}{c:aN}(hs:s.cJ id=av (.obj v fr c))(hc:∀k v1 l,c≠ .mp k v1 l){Q:Nat->Prop}:
  ∀ver k v1 l,s.cJ id=av (.obj ver bm (.mp k v1 l))->Q ver:=λver k v1 l hl=>by
 rw[hs]at hl;cases hl;exact absurd rfl (hc _ _ _)
theorem anE{s:AS}{id:Id}{v:Nat}{c:aN}(hs:s.cJ id=av (.obj v aZ c)){Q:Nat->Prop}:
  ∀ver k v1 l,s.cJ id=av (.obj ver bm (.mp k v1 l))->Q ver:=λver k v1 l hl=>by
 rw[hs]at hl;cases hl
theorem Ex{s:AS}{id:Id}{v:Nat}{fr:Bool}{c:aN}(hs:s.cJ id=av (.obj v fr c))(h:s.xU id=bm):fr=aZ:=by
 have e:s.obj id=av (v,fr,c):=by simp[AS.obj,hs]
 unfold AS.xU at h;rw[e]at h;simpa using h
theorem Dc.label{E:Env}{id:Id}{fr:Bool}{c:aN}(h:Dc E id fr c){pl:Pl}(hp:E.β id=av pl):
    pl.b < E.w.heap.size/\((∃k,E.g pl.b= .own (.id id) k)\/(fr=bm/\E.g pl.b= .free)):=by
  by_cases hn:c.iW=aZ
  · obtain⟨pl',cur,e,h1,h2,h3,h4⟩:=h.box hn
    rw[hp]at h1;obtain rfl:pl=pl':=by simpa using h1
    refine⟨(cS.1 h2).1,?_⟩;cases fr with
    |true=>exact .inr ⟨rfl,h3⟩
    |false=>exact .inl ⟨0,h3⟩
  · cases c <;> first
      | (exact absurd rfl hn)
      | (obtain⟨pl',r,h1,h2,h3,_,_,_⟩:=h
         rw[hp]at h1;obtain rfl:pl=pl':=by simpa using h1
         exact⟨(cS.1 h2).1,.inl ⟨0,h3⟩⟩)
      | (obtain⟨pl',es,clock,h1,h2,h3,_⟩:=h
         rw[hp]at h1;obtain rfl:pl=pl':=by simpa using h1
         exact⟨(cS.1 h2).1,.inl ⟨0,h3⟩⟩)
      | (obtain⟨pl',mb,since,seen,c0,h1,h2,h3,_⟩:=h
         rw[hp]at h1;obtain rfl:pl=pl':=by simpa using h1
         exact⟨(cS.1 h2).1,.inl ⟨0,h3⟩⟩)
      |skip
    obtain⟨_,h⟩:=h;rw[hp]at h;obtain⟨cur,k,h1,_,_,_,h5,_⟩:=h;exact⟨(cS.1 h1).1,.inl ⟨k,h5⟩⟩
def yc{α:Type}(f:Nat->α)(b:Nat)(x:α):Nat->α:=λb'=>if b'=b then x else f b'
@[simp] theorem iG{α:Type}(f:Nat->α)(b:Nat)(x:α):yc f b x b=x:=by simp[yc]
theorem iR{α:Type}(f:Nat->α)(b:Nat)(x:α){b':Nat}(h:b'≠b):yc f b x b'=f b':=by simp[yc,h]
def adq:aN->Nat->Prop
 | .vec _ t l,j=>j < l.length*t.size
 |_,_=>True
theorem adq.of{c:aN}(h:c.iW=aZ)(j:Nat):adq c j:=by cases c <;> first | trivial | (simp[aN.iW]at h)
theorem aIO{w:cO}{b:Nat}{es:Array gl}{clock:Nat}(h:w.heap[b]? =av (.map es clock))(j:Nat):w.cell? ⟨b,j,aH⟩=aH:=by simp[World.cell?,h]
theorem Tv{C:Ctx}{g:Nat->qs}{β:Id->Option Pl}{s:AS}{a:Act}{w:cO}(h:Inv C g β s a w)(id:Id):
    ∃g',Inv C g' β (s.freeze id) a w/\dI (s.env w g β) ((s.freeze id).env w g' β)/\Trans w w g g'/\
      (∀v fr c,s.cJ id=av (.obj v fr c)->∀pl,β id=av pl->∀j x,w.cell? ⟨pl.b,j,aH⟩=av x->
        adq c j->Am g' pl.b j):=by
  unfold AS.freeze;cases hs:s.cJ id with
  |none=>exact⟨g,h,dI.refl _,Trans.refl _ _,λ_ _ _ hh=>by cases hh⟩
  |some e=>
    cases e with
    |dead=>exact⟨g,h,dI.refl _,Trans.refl _ _,λ_ _ _ hh=>by cases hh⟩
    |obj v fr c=>
      simp only;have qF:Dc (s.env w g β) id fr c:=h.cg id v fr c hs;cases hp:β id with
      |none=>
        have ht:=Trans.refl w g;have he:dI (s.env w g β) ((s.bI id (.obj v bm c)).env w g β):=dI.bI hs (az _) ht (λ_ _=>rfl) (λ_=>rfl);refine⟨g,h.step (eo _ _ _) ht he ?_,he,ht,λ_ _ _ _ pl Sh=>by cases Sh⟩;refine ku.bI h.cg (by rw[hs];simp) he (λ_ _=>rfl) (λ_ _ _ _ _ _ _ _=>⟨rfl,rfl⟩) ?_ (anF hs)
        by_cases hn:c.iW=aZ
        · obtain⟨pl,_,_,h1,_⟩:=qF.box hn
          have h1':β id=av pl:=h1;rw[hp]at h1';cases h1'
        · cases c <;> first
            | (exact absurd rfl hn)
            | (obtain⟨pl,_,h1,_⟩:=qF
               have h1':β id=av pl:=h1;rw[hp]at h1';cases h1')
            | (obtain⟨pl,_,_,h1,_⟩:=qF
               have h1':β id=av pl:=h1;rw[hp]at h1';cases h1')
            | (obtain⟨pl,_,_,_,_,h1,_⟩:=qF
               have h1':β id=av pl:=h1;rw[hp]at h1';cases h1')
            |skip
          obtain⟨hz,ho⟩:=qF;have ho':(match β id with
            |none=>_
            |some pl=>_):=ho
          refine⟨hz,?_⟩;show(match β id with
            |none=>_
            |some pl=>_)
          rw[hp]at ho' ⊢;exact ho'
      |some pl=>
        have aEh:=qF.label (pl:=pl) hp;by_cases hn:c.iW=aZ
        · obtain⟨pl',cur,e,h1,h2,h3,h5,h4⟩:=qF.box hn
          have h1':β id=av pl':=h1;rw[hp]at h1';obtain rfl:pl=pl':=by simpa using h1'
          have h3':g pl.b=awj id fr:=h3;have ht:Trans w w g (yc g pl.b .free):=by
            refine⟨rfl,rfl,⟨rfl,az _⟩,az _,λb hb=> ?_⟩;by_cases ani:b=pl.b
            · subst ani
              rw[h3',iG];cases fr with
              |true=>exact⟨rfl,rfl⟩
              |false=>exact⟨.inl rfl,λ_ _ _ hh=>hh⟩
            · rw[iR _ _ _ ani]
              exact(Trans.refl w g).BE b hb
          have he:dI (s.env w g β) ((s.bI id (.obj v bm c)).env w (yc g pl.b .free) β):=dI.bI hs (az _) ht (λ_ _=>rfl) (λ_=>rfl);refine⟨yc g pl.b .free,h.step (eo _ _ _) ht he ?_,he,ht,?_⟩
          · refine ku.bI h.cg (by rw[hs];simp) he (λ_ _=>rfl) (λi ver fr' c' pl' hi dQ Sh=>⟨rfl,?_⟩) ?_ (sB hs λk v1 l e=>by rw[e]at hn;simp[aN.iW]at hn)
            · by_cases ani:pl'.b=pl.b
              · rw[ani,iG]
                have hl:=(h.cg i ver fr' c' dQ).label (pl:=pl') Sh;have awW:(∃k,g pl'.b= .own (.id i) k)\/(fr'=bm/\g pl'.b= .free):=hl.2;rw[ani,h3']at awW;cases fr with
                |true=>exact h3'.symm▸rfl
                |false=>
                  exfalso;rcases awW with⟨k,hk⟩ | ⟨_,hk⟩
                  · simp only[awj,qs.own.injEq,Own.id.injEq]at hk
                    exact hi hk.1.symm
                  · cases hk
              · rw[iR _ _ _ ani]
            · exact Wg.obj ⟨pl,cur,e,hp,h2,iG _ _ _,h5,V.mono he h4⟩
          · intro v1 fr1 c1 hh pl1 awY j x hx hj
            obtain rfl:pl=pl1:=by simpa using awY
            unfold Am;rw[iG];trivial
        · cases c <;> first | (exact absurd rfl hn) | skip
          rotate_left;rotate_left
          · rename_i q vq kt vt rest cu
            have ht:=Trans.refl w g;have he:dI (s.env w g β) ((s.bI id (.obj v bm (.tP q vq kt vt rest cu))).env w g β):=dI.bI hs (az _) ht (λ_ _=>rfl) (λ_=>rfl);have hob':=qF;obtain⟨pl',mb,since,seen,c0,h1,h2,_⟩:=qF;have h1':β id=av pl':=h1;rw[hp]at h1';obtain rfl:pl=pl':=by simpa using h1'
            refine⟨g,h.step (eo _ _ _) ht he ?_,he,ht,λ_ _ _ _ pl1 awY j x hx _=> ?_⟩
            · refine ku.bI h.cg (by rw[hs];simp) he (λ_ _=>rfl) (λ_ _ _ _ _ _ _ _=>⟨rfl,rfl⟩) ?_ (anF hs)
              exact Dc.mono he (fr:=bm) hob' rfl (λ_ _=>⟨rfl,rfl⟩) λq2 v2 k2 v3 l2 ake _=>⟨⟨k2,v3,l2,by
                have ake:s.cJ q2=av (.obj v2 bm (.mp k2 v3 l2)):=ake;have jk:q2≠id:=λe=>by rw[e,hs]at ake;cases ake
                show(s.bI id _).cJ q2=_;rw[ee s id q2 _ jk];exact ake⟩,λ_ _=>⟨rfl,rfl⟩⟩
            · obtain rfl:pl=pl1:=by simpa using awY
              have h2:w.heap[pl.b]? =av (.mapIter (av mb) since seen c0):=h2
              simp[World.cell?,h2]at hx
          rotate_left
          · obtain⟨pl',es,clock,h1,h2,h3,h4⟩:=qF
            have h1':β id=av pl':=h1;rw[hp]at h1';obtain rfl:pl=pl':=by simpa using h1'
            have ht:=Trans.refl w g;rename_i kt vt l;have he:dI (s.env w g β) ((s.bI id (.obj v bm (.mp kt vt l))).env w g β):=dI.bI hs (az _) ht (λ_ _=>rfl) (λ_=>rfl);refine⟨g,h.step (eo _ _ _) ht he ?_,he,ht,λ_ _ _ _ pl1 awY j x hx _=> ?_⟩
            · exact ku.bI h.cg (by rw[hs];simp) he (λ_ _=>rfl) (λ_ _ _ _ _ _ _ _=>⟨rfl,rfl⟩) ⟨pl,es,clock,hp,h2,h3,⟨h4.1.1.mono he.mem,h4.1.2⟩,h4.2⟩ (anF hs)
            · obtain rfl:pl=pl1:=by simpa using awY
              have h2:w.heap[pl.b]? =av (.map es clock):=h2
              rw[aIO h2]at hx;cases hx
          rename_i e t l;obtain⟨hz,ho⟩:=qF;have ho':(match β id with
            |none=>l=[]
            |some pl=>∃cur k,w.heap[pl.b]? =av (.cells cur e (0,0))/\cur.size=pl.cap*t.size/\l.length<=pl.cap/\pl.cap<=maxLen/\g pl.b= .own (.id id) k/\
                k<=l.length*t.size/\(fr=aZ->k=0)/\bH (c9 (s.env w g β) t) (cur.toList.take (l.length*t.size)) l):=ho
          rw[hp]at ho';obtain⟨cur,k,h1,h2,h3,h4,h5,h6,h7,h8⟩:=ho';have ht:Trans w w g (yc g pl.b (.own (.id id) (l.length*t.size))):=by
            refine⟨rfl,rfl,⟨rfl,az _⟩,az _,λb hb=> ?_⟩;by_cases ani:b=pl.b
            · subst ani
              rw[h5,iG];exact⟨.inr ⟨id,_,rfl,h6⟩,λ_ _ _ hh=>hh⟩
            · rw[iR _ _ _ ani]
              exact(Trans.refl w g).BE b hb
          have he:dI (s.env w g β) ((s.bI id (.obj v bm (.vec e t l))).env w (yc g pl.b (.own (.id id) (l.length*t.size))) β):=dI.bI hs (az _) ht (λ_ _=>rfl) (λ_=>rfl);refine⟨_,h.step (eo _ _ _) ht he ?_,he,ht,?_⟩
          · refine ku.bI h.cg (by rw[hs];simp) he (λ_ _=>rfl) (λi ver fr' c' pl' hi dQ Sh=>⟨rfl,?_⟩) ?_ (sB hs λk v1 l e=>by cases e)
            · by_cases ani:pl'.b=pl.b
              · exfalso
                have hl:=(h.cg i ver fr' c' dQ).label (pl:=pl') Sh;have awW:(∃k,g pl'.b= .own (.id i) k)\/(fr'=bm/\g pl'.b= .free):=hl.2;rw[ani,h5]at awW;rcases awW with⟨k,hk⟩ | ⟨_,hk⟩
                · simp only[qs.own.injEq,Own.id.injEq]at hk
                  exact hi hk.1.symm
                · cases hk
              · rw[iR _ _ _ ani]
            · refine⟨hz,?_⟩
              show(match β id with
                |none=>l=[]
                |some pl=>_)
              rw[hp];exact⟨cur,_,h1,h2,h3,h4,iG _ _ _,az _,(by intro hh;cases hh),h8.mono λc x hx=>hx.mono he.mem⟩
          · intro v1 fr1 c1 hh pl1 awY j x hx hj
            obtain rfl:pl=pl1:=by simpa using awY
            simp only[ax,eJ.obj.injEq]at hh;obtain⟨_,_,rfl⟩:=hh;unfold Am;rw[iG];exact hj
end Go.Ab
namespace Go.Ab
def aWE(E E':Env)(ids:List Id):Prop:=∀id∈ids,∀v fr c,E.s id=av (.obj v fr c)->∀pl,E.β id=av pl->∀j x,E.w.cell? ⟨pl.b,j,aH⟩=av x->adq c j->E'.has pl.b j x
theorem ac3{s:AS}{id i:Id}{v:Nat}{fr:Bool}{c:aN}(h:s.cJ i=av (.obj v fr c)):∃fr',(s.freeze id).cJ i=av (.obj v fr' c):=by
 unfold AS.freeze;by_cases hi:i=id
 ·subst hi;rw[h];exact⟨bm,fu s i _ (by rw[h];simp)⟩
 ·split
  ·exact⟨fr,by rw[ee s id i _ hi];exact h⟩
  ·exact⟨fr,h⟩
theorem gI{C:Ctx}{β:Id->Option Pl}{a:Act}{w:cO}:∀(ids:List Id) {g:Nat->qs} {s:AS},Inv C g β s a w->
  ∃g',Inv C g' β (s.bF ids) a w/\dI (s.env w g β) ((s.bF ids).env w g' β)/\Trans w w g g'/\aWE (s.env w g β) ((s.bF ids).env w g' β) ids
 |[],g,s,h=>⟨g,h,dI.refl _,Trans.refl _ _,λ_ hi=>by cases hi⟩
 |id::ids,g,s,h=>by
  obtain⟨g1,h1,e1,t1,f1⟩:=Tv h id;obtain⟨g2,h2,e2,t2,f2⟩:=gI ids h1;refine⟨g2,h2,e1.trans e2,t1.trans t2,λi hi v fr c hs pl hp j x hx hj=> ?_⟩;rcases cq.1 hi with rfl | hi
  ·exact e2.mem.has _ _ _ ⟨hx,f1 v fr c hs pl hp j x hx hj⟩
  ·obtain⟨fr',hs'⟩:=ac3 (id:=id) hs;exact f2 i hi v fr' c hs' pl hp j x hx hj
theorem apt(s:AS)(id:Id):(s.freeze id).dg=s.dg:=by unfold AS.freeze;split <;> simp
theorem qa:∀(ids:List Id) (s:AS),(s.bF ids).dg=s.dg
 |[],_=>rfl
 |id::ids,s=>by rw[AS.bF,qa ids,apt]
theorem asN(s:AS)(id:Id)(q:Nat):(s.freeze id).eQ q=s.eQ q:=by
 unfold AS.freeze;split
 ·rename_i v b c h;cases id with
  |bP k=>rfl
  |new i j=>
   simp only[AS.bI,AS.eQ];by_cases hq:i=q
   ·subst hq;simp only[AS.cJ]at h;by_cases hl:i < s.news.length
    ·rw[List.getElem?_set_self hl,cn hl];rw[bh,cn hl]at h ⊢;simp only[ed]at h ⊢;cases hh:s.news[i]with
     |nil=>rw[hh]at h;simp at h
     |cons x xs=>cases j <;> simp[gF]
    ·rw[List.set_eq_of_length_le aq]
   ·rw[fy hq]
 ·rfl
theorem yR:∀(ids:List Id) (s:AS) (q:Nat),(s.bF ids).eQ q=s.eQ q
 |[],_,_=>rfl
 |id::ids,s,q=>by rw[AS.bF,yR ids,asN]
theorem adI{e:TypeId}{t:Ty}:∀ {p:List Se} {n:Nat} {v:aN},(loc (.vec e t []) p).eval=av (n,v)->n=0/\v= .vec e t []
 |[],n,v,h=>by simp only[loc,aD,de]at h;exact⟨h.1.symm,h.2.symm⟩
 | .arr::p,n,v,h=>by simp only[loc]at h;exact adI h
 | .idx i::p,n,v,h=>by simp[loc,cW]at h
 | .fst::p,n,v,h=>by simp only[loc,aG]at h
 | .snd::p,n,v,h=>by simp only[loc,aG]at h
theorem anH{k t:Ty}{l:List (k.den×t.den)}:∀ {p:List Se} {n:Nat} {v:aN},(loc (.mp k t l) p).eval=av (n,v)->n=0/\v= .mp k t l
 |[],n,v,h=>by simp only[loc,aD,de]at h;exact⟨h.1.symm,h.2.symm⟩
 | .arr::p,n,v,h=>by simp only[loc]at h;exact anH h
 | .idx i::p,n,v,h=>by simp only[loc,aG]at h
 | .fst::p,n,v,h=>by simp only[loc,aG]at h
 | .snd::p,n,v,h=>by simp only[loc,aG]at h
theorem abK{q:Id}{ver:Nat}{k t:Ty}{l:List (k.den×t.den)}{cu:Option (k.den×t.den)}:∀ {p:List Se} {n:Nat} {v:aN},(loc (.tP q ver k t l cu) p).eval=av (n,v)->n=0/\v= .tP q ver k t l cu
 |[],n,v,h=>by simp only[loc,aD,de]at h;exact⟨h.1.symm,h.2.symm⟩
 | .arr::p,n,v,h=>by simp only[loc]at h;exact abK h
 | .idx i::p,n,v,h=>by simp only[loc,aG]at h
 | .fst::p,n,v,h=>by simp only[loc,aG]at h
 | .snd::p,n,v,h=>by simp only[loc,aG]at h
theorem XU{E:Env}{s:AS}(hs:E.s=s.cJ)(ho:ku E){id:Id}{ver:Nat}{p:List Se}{n:Nat}{t:Ty}{l:List t.den}(h:(s.row id ver p).eval=av (n,⟨t,l⟩)):
    ∃fr c,E.s id=av (.obj ver fr c)/\((E.β id=aH/\l=[]/\n=0)\/∃pl cur e,E.β id=av pl/\E.w.heap[pl.b]? =av (.cells cur e (0,0))/\n+l.length*t.size<=cur.size/\
      bH (c9 E t) ((cur.toList.drop n).take (l.length*t.size)) l/\
      ∀j,j < n+l.length*t.size->adq c j):=by
  unfold AS.row at h;cases qF:s.obj id with
  |none=>rw[qF]at h;simp only[aG]at h
  |some r=>
    obtain⟨v,fr,c⟩:=r;rw[qF]at h;obtain⟨h1,h2⟩:=aR.1 h;obtain⟨⟨n',v'⟩,h3,h4⟩:=aC.1 h2;have hv:v=ver:=by simpa using h1
    subst hv;have dQ:E.s id=av (.obj v fr c):=by rw[hs];exact fT qF
    refine⟨fr,c,dQ,?_⟩;have hO:=ho id v fr c dQ
    have aQj:∀(pl:Pl) (cur:Array Value) (e:TypeId) (m:Nat) (t':Ty) (l':List t'.den) (n':Nat),E.β id=av pl->E.w.heap[pl.b]? =av (.cells cur e (0,0))->c.iW=aZ->
        V E (.d (.arr m t') l') ((cur.toList.drop n').take (aN.d (.arr m t') l').size)->n'+(aN.d (.arr m t') l').size<=cur.toList.length->(Out.ok (n',(⟨t',l'⟩:(t:Ty)×List t.den))).eval=av (n,⟨t,l⟩)->
        ∃pl cur e,E.β id=av pl/\E.w.heap[pl.b]? =av (.cells cur e (0,0))/\n+l.length*t.size<=cur.size/\bH (c9 E t) ((cur.toList.drop n).take (l.length*t.size)) l/\
          ∀j,j < n+l.length*t.size->adq c j:=by
      intro pl cur e m t' l' n' hp hh hn hv hl he;simp only[aD,de]at he;obtain⟨rfl,he⟩:=he;obtain⟨rfl,he⟩:=he;simp only[V,c9]at hv;obtain⟨aTq,YZ⟩:=hv;have AL:∀(t:Ty) (l:List t.den),l.length=m->(aN.d (.arr m t) l).size=l.length*t.size:=λt l hh=>by simp[aN.size,Ty.size,hh]
      rw[AL _ _ aTq]at YZ hl;exact⟨pl,cur,e,hp,hh,by simpa using hl,YZ,λj _=>adq.of hn j⟩
    by_cases hn:c.iW=aZ
    · right
      obtain⟨pl,cur,e,hp,hh,hg,hk,hV⟩:=hO.box hn;have hN:=aby hk;generalize c.Ac cur.size=N at hN hV;have hNl:(cur.toList.take N).length=N:=by rw[bV,dv];omega
      obtain⟨u,hu⟩:∃u,c.strip=u:=⟨_,rfl⟩;rw[hu]at hV h3;have aEe:∀m k:Nat,m+k<=(cur.toList.take N).length->((cur.toList.take N).drop m).take k=(cur.toList.drop m).take k/\m+k<=cur.toList.length:=λm k aKn=>by rw[hNl]at aKn;refine⟨?_,by rw[dv];omega⟩;rw[wF,qL,iU aq]
      rcases vW p u (cur.toList.take N) n' v' (VO.of hV) h3 with⟨rfl,rfl⟩ | ⟨hV',hle⟩
      · cases v' with
        |d t' x=>cases t' with
          |arr m t'=>
            have hs:=hV.size;have hc:=aEe 0 (aN.d (.arr m t') x).size aq;refine aQj pl cur e m t' x 0 hp hh hn ?_ hc.2 (by simpa only using h4)
            rw[<-hc.1,ay,bu aq];exact hV
          |_=>simp only[aG]at h4
        |vec=>simp only[V]at hV
        |_=>simp only[aG]at h4
      · cases v' with
        |d t' x=>cases t' with
          |arr m t'=>
            have hc:=aEe _ _ hle;exact aQj pl cur e m t' x n' hp hh hn (by rw[<-hc.1];exact hV') hc.2 (by simpa only using h4)
          |_=>simp only[aG]at h4
        |vec=>simp only[V]at hV'
        |_=>simp only[aG]at h4
    · cases c <;> first
        | (exact absurd rfl hn)
        | (obtain⟨rfl,rfl⟩:=anH h3
           simp only[aG]at h4)
        | (obtain⟨rfl,rfl⟩:=abK h3
           simp only[aG]at h4)
        |skip
      rename_i e t0 l0;obtain⟨hz,hO⟩:=hO;cases hp:E.β id with
      |none=>
        rw[hp]at hO;have bbi:l0=[]:=hO;subst bbi;obtain⟨rfl,rfl⟩:=adI h3;simp only[aD,de]at h4;obtain⟨rfl,he⟩:=h4;obtain⟨rfl,he⟩:=he;exact .inl ⟨rfl,rfl,rfl⟩
      |some pl=>
        rw[hp]at hO;obtain⟨cur,k,q1,q2,q3,q4,q5,q6,q7,q8⟩:=hO;right;have hlen:(cur.toList.take (l0.length*t0.size)).length=l0.length*t0.size:=bH.length (λc x hx=>c9.size hx) q8;have aKq:l0.length*t0.size<=cur.size:=by rw[q2];exact dE _ q3
        rcases vW (E:=E) p (.vec e t0 l0) (cur.toList.take (l0.length*t0.size)) n' v' q8 h3 with⟨rfl,rfl⟩ | ⟨hV',hle⟩
        · simp only[aD,de]at h4
          obtain⟨rfl,he⟩:=h4;obtain⟨rfl,he⟩:=he;exact⟨pl,cur,e,rfl,q1,aq,by simpa using q8,λj hj=>by show j < l.length*t.size;omega⟩
        · have hle':=hle
          rw[hlen]at hle';rw[wF,qL,iU aq]at hV';cases v' with
          |d t' x=>cases t' with
            |arr m t'=>
              simp only[aD,de]at h4;obtain⟨rfl,he⟩:=h4;obtain⟨rfl,he⟩:=he;simp only[V,c9]at hV';obtain⟨aTq,YZ⟩:=hV';have AL:∀(t:Ty) (l:List t.den),l.length=m->(aN.d (.arr m t) l).size=l.length*t.size:=λt l hh=>by simp[aN.size,Ty.size,hh]
              rw[AL _ _ aTq]at YZ hle';refine⟨pl,cur,e,rfl,q1,aq,YZ,λj hj=> ?_⟩;show j < l0.length*t0.size;omega
            |_=>simp only[aG]at h4
          |vec=>simp only[V]at hV'
          |_=>simp only[aG]at h4
theorem Qw{E:Env}{t:Ty}{cs:List Value}{l:List t.den}(h:bH (c9 E t) cs l)(i len:Nat):bH (c9 E t) ((cs.drop (i*t.size)).take (len*t.size)) (cut l i len):=bH.take (λ_ _ hx=>hx.size) len (bH.drop (λ_ _ hx=>hx.size) i h)
theorem IG{α:Type}{l:List α}{i len:Nat}(h:i+len<=l.length):(cut l i len).length=len:=by simp[cut];omega
theorem au7{E E':Env}{s:AS}(hs:E.s=s.cJ)(ho:ku E)(he:dI E E'){id:Id}{ver c i len n:Nat}{p:List Se}{t':Ty}{l:List t'.den}{cs:List Value}
  (h1:(s.row id ver p).eval=av (n,⟨t',l⟩)) (h3:decide (n+i*t'.size=c/\i+len<=l.length)=bm) (hv:V E (.bU id ver p c i len) cs) (hf:aWE E E' (aN.bU id ver p c i len).shared):c9 E' (.slice t') cs (cut l i len):=by
 simp only[bt]at h3;obtain⟨hc,hlen⟩:=h3;obtain⟨fr,c0,dQ,vj⟩:=XU hs ho h1;simp only[V]at hv;obtain⟨a,cap,aKi,hle,w6,hb,im⟩:=hv;have im:=im ⟨fr,c0,dQ⟩;have aO4:(cut l i len).length=len:=IG hlen;simp only[c9];refine⟨a,cap,?_⟩;rcases vj with⟨hp,hl,_⟩ | ⟨pl,cur,e,hp,hh,AL,B4,hbound⟩
 ·rw[hp]at im;simp only at im;obtain⟨rfl,rfl,rfl⟩:=im;refine⟨[],?_,aq,aq,λ_ _ hh=>by simp at hh,?_⟩
  ·rw[aO4];exact aKi
  ·have:cut l i 0=[]:=by simp[cut]
   rw[this];rfl
 ·rw[hp]at im;simp only at im;refine⟨((((cur.toList.drop n).take (l.length*t'.size)).drop (i*t'.size)).take (len*t'.size)),by rw[aO4];exact aKi,aq,by rw[aO4];exact w6,?_,(Qw B4 i len).mono λ_ _ hx=>hx.mono he.mem⟩;have hmul:(i+len)*t'.size<=l.length*t'.size:=dE _ hlen;rw[fg]at hmul;rw[aeB _ _ _ _ _ hmul];intro j v hj;rw[dY]at hj;split at hj
  ·rename_i aXl;rw[fW,hc]at hj;have aZG:0 < len:=by
    rcases jn len with h0 | h0
    ·subst h0;simp at aXl
    ·exact h0
   refine⟨pl.b,c,im.1 (.inl aZG),?_⟩;refine hf id (by simp[aN.shared]) ver fr c0 dQ pl hp (c+j) v ?_ (hbound _ aq)
   rw[cell_of_row E.w pl.b (c+j) cur e (0,0) hh];simpa using hj
  ·cases hj
theorem AG{E E':Env}{s:AS}(hs:E.s=s.cJ)(ho:ku E)(he:dI E E'):∀(v:aN) (t:Ty) (x:t.den) (cs:List Value),V E v cs->(s.jU t v).eval=av x->aWE E E' v.shared->c9 E' t cs x
 | .d t' x',t,x,cs,hv,h,_=>by
  have h':(Out.opt (K9 t' t x')).eval=av x:=by cases t <;> simpa only[AS.jU]using h
  simp only[V]at hv;exact Iv (jP.1 h') (hv.mono he.mem)
 | .dJ,.slice t,x,cs,hv,h,_=>by simp only[AS.jU,aD]at h;subst h;simp only[V]at hv;simp only[c9];exact⟨aH,0,[],by simpa using hv,by simp,by simp,λi v hh=>by simp at hh,rfl⟩
 | .dJ,.gG t,x,cs,hv,h,_=>by simp only[AS.jU,aD]at h;subst h;simp only[V]at hv;simp only[c9];exact⟨λ_=>hv,λl hl=>(by cases hl)⟩
 | .bU id ver p c i len,.gG t,x,cs,hv,h,hf=>by simp only[AS.jU]at h;obtain⟨⟨n,t',l⟩,h1,h2⟩:=aC.1 h;obtain⟨h3,h4⟩:=cW.1 h2;exact Iv (jP.1 h4) (au7 hs ho he h1 h3 hv hf)
 | .bU id ver p c i len,.slice t,x,cs,hv,h,hf=>by simp only[AS.jU]at h;obtain⟨⟨n,t',l⟩,h1,h2⟩:=aC.1 h;obtain⟨h3,h4⟩:=cW.1 h2;exact Iv (jP.1 h4) (au7 hs ho he h1 h3 hv hf)
 | .pr a b,.pair ta tb,x,cs,hv,h,hf=>by simp only[AS.jU]at h;obtain⟨x1,h1,h2⟩:=aC.1 h;obtain⟨x2,h3,h4⟩:=aC.1 h2;obtain rfl:=aD.1 h4;simp only[V]at hv;obtain⟨ca,cb,e,ha,hb⟩:=hv;simp only[c9];exact⟨ca,cb,e,AG hs ho he a ta x1 ca ha h1 (λi hi=>hf i (by simp[aN.shared,hi])),AG hs ho he b tb x2 cb hb h3 (λi hi=>hf i (by simp[aN.shared,hi]))⟩
 | .dJ,.int _,_,_,_,h,_ | .dJ,.bool,_,_,_,h,_ | .dJ,.str,_,_,_,h,_ | .dJ,.unit,_,_,_,h,_ | .dJ,.pair _ _,_,_,_,h,_ | .dJ,.arr _ _,_,_,_,h,_ | .dJ,.qE _,_,_,_,h,_ | .dJ,.iv _,_,_,_,h,_=>by simp only[AS.jU,aG]at h
 | .bU ..,.int _,_,_,_,h,_ | .bU ..,.bool,_,_,_,h,_ | .bU ..,.str,_,_,_,h,_ | .bU ..,.unit,_,_,_,h,_ | .bU ..,.pair _ _,_,_,_,h,_ | .bU ..,.arr _ _,_,_,_,h,_ | .bU ..,.qE _,_,_,_,h,_ | .bU ..,.iv _,_,_,_,h,_=>by simp only[AS.jU,aG]at h
 | .pr _ _,.int _,_,_,_,h,_ | .pr _ _,.bool,_,_,_,h,_ | .pr _ _,.str,_,_,_,h,_ | .pr _ _,.unit,_,_,_,h,_ | .pr _ _,.slice _,_,_,_,h,_ | .pr _ _,.arr _ _,_,_,_,h,_ | .pr _ _,.gG _,_,_,_,h,_ | .pr _ _,.qE _,_,_,_,h,_ | .pr _ _,.iv _,_,_,_,h,_=>by simp only[AS.jU,aG]at h
 | .undef,t,_,_,_,h,_=>by cases t <;> simp only[AS.jU,aG]at h
 | .gone,t,_,_,_,h,_=>by cases t <;> simp only[AS.jU,aG]at h
 | .jW,.qE t,x,cs,hv,h,_=>by simp only[AS.jU,aD]at h;subst h;simp only[V]at hv;simp only[c9];exact⟨λ_=>hv,λy hy=>by cases hy⟩
 | .jW,.iv t,x,cs,hv,h,_=>by simp only[AS.jU,aD]at h;subst h;simp only[V]at hv;simp only[c9];exact⟨λ_=>hv,λy hy=>by cases hy⟩
 | .jW,.int _,_,_,_,h,_ | .jW,.bool,_,_,_,h,_ | .jW,.str,_,_,_,h,_ | .jW,.unit,_,_,_,h,_ | .jW,.pair _ _,_,_,_,h,_ | .jW,.arr _ _,_,_,_,h,_ | .jW,.slice _,_,_,_,h,_ | .jW,.gG _,_,_,_,h,_=>by simp only[AS.jU,aG]at h
 | .AV,t,_,_,_,h,_=>by cases t <;> simp only[AS.jU,aG]at h
 | .HB,t,_,_,_,h,_=>by cases t <;> simp only[AS.jU,aG]at h
 | .ptr ..,t,_,_,_,h,_=>by cases t <;> simp only[AS.jU,aG]at h
 | .dz ..,t,_,_,_,h,_=>by cases t <;> simp only[AS.jU,aG]at h
 | .fn ..,t,_,_,_,h,_=>by cases t <;> simp only[AS.jU,aG]at h
 | .cons ..,t,_,_,_,h,_=>by cases t <;> simp only[AS.jU,aG]at h
 | .nil,t,_,_,_,h,_=>by cases t <;> simp only[AS.jU,aG]at h
 | .vec ..,t,_,_,_,h,_=>by cases t <;> simp only[AS.jU,aG]at h
 | .bx ..,t,_,_,_,h,_ | .c7 ..,t,_,_,_,h,_ | .mp ..,t,_,_,_,h,_ | .tP ..,t,_,_,_,h,_=>by cases t <;> simp only[AS.jU,aG]at h
theorem NB{s:AS}{t:Ty}{v:aN}{x:t.den}(h:(s.jU t v).eval=av x):v.fD=bm:=by
 cases v <;> first
  |rfl
  | (cases t <;> simp only[AS.jU,aG]at h)
theorem avj{s:AS}{t:Ty}{v:aN}{x:t.den}(h:(s.jU t v).eval=av x):v.agg=t.agg:=by
 cases v with
 |d t' x'=>
  have h':(Out.opt (K9 t' t x')).eval=av x:=by cases t <;> simpa only[AS.jU]using h
  exact ajP (jP.1 h')
 |_=>cases t <;> first | rfl | (simp only[AS.jU,aG]at h)
theorem JN{C:Ctx}{g:Nat->qs}{β:Id->Option Pl}{s:AS}{a:Act}{w:cO}(h:Inv C g β s a w){v:aN}{y:Value}(hv:VS (s.env w g β) v y){t:Ty}{x:t.den}(ht:(s.jU t v).eval=av x):
  ∃g',Inv C g' β (s.bF v.shared) a w/\dI (s.env w g β) ((s.bF v.shared).env w g' β)/\Trans w w g g'/\
   ∃cs,c9 ((s.bF v.shared).env w g' β) t cs x/\gY t.agg cs y:=by
 obtain⟨g',h1,h2,h3,h4⟩:=gI v.shared h;obtain⟨cs,hV,hO⟩:=hv.fD (NB ht);exact⟨g',h1,h2,h3,cs,AG rfl h.cg h2 v t x cs hV ht h4,by rw[<-avj ht];exact hO⟩
theorem ac1{α:Type}{R:List Value->α->Prop}{f:α->List Value->Option (List Value)}(hf:∀x cs r,f x cs=av r->∃c,cs=c++r/\R c x):
  ∀(l:List α) (cs r:List Value),aJK f l cs=av r->∃c,cs=c++r/\bH R c l
 |[],cs,r,h=>by simp only[aJK,ax]at h;exact⟨[],by simp[h],rfl⟩
 |x::xs,cs,r,h=>by
  simp only[aJK]at h;cases hx:f x cs with
  |none=>rw[hx]at h;cases h
  |some r1=>
   rw[hx]at h;obtain⟨c1,e1,h1⟩:=hf x cs r1 hx;obtain⟨c2,e2,h2⟩:=ac1 hf xs r1 r h;exact⟨c1++c2,by rw[e1,e2,aO],c1,c2,rfl,h1,h2⟩
theorem IK(E:Env):∀(t:Ty) (x:t.den) (cs r:List Value),yn t x cs=av r->∃c,cs=c++r/\c9 E t c x
 | .int k,x,cs,r,h=>by
  cases cs with
  |nil=>simp[yn]at h
  |cons v r'=>
   cases v <;> simp only[yn]at h <;> try (cases h;done)
   rename_i k' n;split at h
   ·rename_i h1 h2;simp at h1 h2 h;subst h1 h2 h;exact⟨[.int k n],rfl,by simp[c9]⟩
   ·cases h
 | .bool,x,cs,r,h=>by
  cases cs with
  |nil=>simp[yn]at h
  |cons v r'=>
   cases v <;> simp only[yn]at h <;> try (cases h;done)
   rename_i b;split at h
   ·rename_i h1;simp at h1 h;subst h1 h;exact⟨[.bool b],rfl,by simp[c9]⟩
   ·cases h
 | .str,x,cs,r,h=>by
  cases cs with
  |nil=>simp[yn]at h
  |cons v r'=>
   cases v <;> simp only[yn]at h <;> try (cases h;done)
   rename_i b;split at h
   ·rename_i h1;simp at h1 h;subst h1 h;exact⟨[.string b],rfl,by simp[c9]⟩
   ·cases h
 | .slice t,x,cs,r,h=>by
  cases x with
  |cons _ _=>simp[yn]at h
  |nil=>
   cases cs with
   |nil=>simp[yn]at h
   |cons v r'=>
    unfold yn at h;split at h <;> try (cases h;done)
    all_goals simp_all
    exact⟨[.slice aH 0 0],rfl,by simp only[c9];exact⟨aH,0,[],rfl,by simp,by simp,λi v hh=>by simp at hh,rfl⟩⟩
 | .gG t,x,cs,r,h=>by
  cases x with
  |some _=>simp[yn]at h
  |none=>
   cases cs with
   |nil=>simp[yn]at h
   |cons v r'=>
    unfold yn at h;split at h <;> try (cases h;done)
    all_goals simp_all
    exact⟨[.slice aH 0 0],rfl,by simp[c9]⟩
 | .qE t,x,cs,r,h=>by
  cases x with
  |some _=>simp[yn]at h
  |none=>
   cases cs with
   |nil=>simp[yn]at h
   |cons v r'=>
    unfold yn at h;split at h <;> try (cases h;done)
    all_goals simp_all
    exact⟨[.pointer aH],rfl,by simp[c9]⟩
 | .iv t,x,cs,r,h=>by
  cases x with
  |some _=>simp[yn]at h
  |none=>
   cases cs with
   |nil=>simp[yn]at h
   |cons v r'=>
    unfold yn at h;split at h <;> try (cases h;done)
    all_goals simp_all
    exact⟨[.pointer aH],rfl,by simp[c9]⟩
 | .unit,x,cs,r,h=>by simp only[yn,ax]at h;exact⟨[],by simp[h],by simp[c9]⟩
 | .pair a b,x,cs,r,h=>by
  simp only[yn]at h;cases hx:yn a x.1 cs with
  |none=>rw[hx]at h;cases h
  |some r1=>
   rw[hx]at h;obtain⟨c1,e1,h1⟩:=IK E a x.1 cs r1 hx;obtain⟨c2,e2,h2⟩:=IK E b x.2 r1 r h;exact⟨c1++c2,by rw[e1,e2,aO],by simp only[c9];exact⟨c1,c2,rfl,h1,h2⟩⟩
 | .arr n t,x,cs,r,h=>by
  simp only[yn]at h;split at h
  ·rename_i h1;obtain⟨c,e,hc⟩:=ac1 (λx cs r hh=>IK E t x cs r hh) _ _ _ h;exact⟨c,e,by simp only[c9];exact⟨by simpa using h1,hc⟩⟩
  ·cases h
theorem awE(E:Env):∀(a:aN) (cs r:List Value),aaS a cs=av r->∃c,cs=c++r/\V E a c:=by
 intro a
 induction a with
 |d t x=>
  intro cs r h;simp only[aaS]at h;obtain⟨c,e,hc⟩:=IK E t x cs r h;exact⟨c,e,by simpa only[V]using hc⟩
 |pr a b iha ihb=>
  intro cs r h;simp only[aaS]at h;cases hx:aaS a cs with
  |none=>rw[hx]at h;cases h
  |some r1=>
   rw[hx]at h;obtain⟨c1,e1,h1⟩:=iha cs r1 hx;obtain⟨c2,e2,h2⟩:=ihb r1 r h;exact⟨c1++c2,by rw[e1,e2,aO],by simp only[V];exact⟨c1,c2,rfl,h1,h2⟩⟩
 |dJ=>intro cs r h;unfold aaS at h;split at h <;> simp_all <;> exact⟨[.slice aH 0 0],rfl,by simp[V]⟩
 |jW=>intro cs r h;unfold aaS at h;split at h <;> simp_all <;> exact⟨[.pointer aH],rfl,by simp[V]⟩
 |AV=>intro cs r h;unfold aaS at h;split at h <;> simp_all <;> exact⟨[.nilFunc],rfl,by simp[V]⟩
 |HB=>intro cs r h;unfold aaS at h;split at h <;> simp_all <;> exact⟨[.map aH],rfl,by simp[V]⟩
 |_=>intro cs r h;simp[aaS]at h
theorem yU{P:bj}{T:TypeId}{z:aN}(h:ap1 P T z=bm)(E:Env):
  ∃i zv,P.info? T=av i/\i.zero=av zv/\V E z zv.cells.toList/\gY z.agg zv.cells.toList zv:=by
 unfold ap1 at h;split at h <;> try (cases h;done)
 rename_i i hi;split at h <;> try (cases h;done)
 rename_i zv hz;simp only[aw,eZ]at h;obtain⟨h1,h2⟩:=h;split at h1 <;> try (cases h1;done)
 rename_i he;obtain⟨c,e,hV⟩:=awE E z _ _ he;rw[bK]at e;rw[<-e]at hV;refine⟨i,zv,hi,hz,hV,?_⟩;cases arV:z.agg with
 |true=>
  rw[arV]at h2;cases zv <;> simp[vm]at h2;simp[gY,Value.cells]
 |false=>
  rw[arV]at h2;cases zv <;> first | (simp[vm]at h2;done) | simp[gY,Value.cells]
end Go.Ab
namespace Go.Ab
def Fr(r:Option Nat):Fence:= {Fence.wide with round:=r}
def il(P:bj)(o:Oper)(a:Act)(w:cO)(K:Act->cO->Prop):Prop:=(∃x w',(execOp a.eval o).run P w= .ok (.value x) w'/\K (a.put o.dst x) w')\/(∃w',(execOp a.eval o).run P w= .ok .skip w'/\K (a.put o.dst undef) w')\/(∃f args w',(execOp a.eval o).run P w= .ok (.enter f args) w'/\Calls P f args w' λe w''=>∃x,e= .returned x/\K (a.put o.dst x) w'')\/(∃l f tmps as b w',(execOp a.eval o).run P w= .ok (.round l f tmps as b) w'/\∀r n,RoundIn (Fr r) n P l f tmps as b w' λe w''=>∃x,e= .returned x/\K (a.put o.dst x) w'')
theorem il.plain{P:bj}{o:Oper}{a:Act}{w:cO}{K:Act->cO->Prop}(h:il P o a w K)(c:Call):o.op≠ .defer c:=λho=>by
 have hd:∀x w',(execOp a.eval o).run P w= .ok x w'->∃d,x= .defer d:=λx w' hx=>by
  simp only[execOp,ho,cU]at hx;cases hr:(resolve a.eval c o.type).run P w with
  |ok d w1=>
   rw[hr]at hx;simp only[cm,eK,Result.ok.injEq]at hx;exact⟨d,hx.1.symm⟩
  |halt _ _=>rw[hr]at hx;simp[Result.andThen]at hx
 rcases h with⟨x,w',hr,_⟩ | ⟨w',hr,_⟩ | ⟨f,args,w',hr,_⟩ | ⟨l,f,tmps,as,b,w',hr,_⟩
 ·obtain⟨d,e⟩:=hd _ _ hr;cases e
 ·obtain⟨d,e⟩:=hd _ _ hr;cases e
 ·obtain⟨d,e⟩:=hd _ _ hr;cases e
 ·obtain⟨d,e⟩:=hd _ _ hr;cases e
theorem il.wpIn{r:Option Nat}{n:Nat}{P:bj}{o:Oper}{a:Act}{w:cO}{K:Act->cO->Prop}{Q:Exit->Act->cO->Prop}(h:il P o a w K):o.wpIn (Fr r) n P a w K Q:=by
 have hp:=h.plain;refine⟨λ_ _=>trivial,?_⟩;rw[Oper.semAt_eq _ _ _ hp];rcases h with⟨x,w',hr,hk⟩ | ⟨w',hr,hk⟩ | ⟨f,args,w',hr,hk⟩ | ⟨l,f,tmps,as,b,w',hr,hk⟩;rotate_left 3
 ·rw[hr,Oper.uponIn_round];refine⟨λh=>(by cases h),(hk r (n - 1)).mono λe w'' ⟨x,he,hx⟩=> ?_⟩;subst he;exact hx
 ·rw[hr,Oper.uponIn_value];exact hk
 ·rw[hr,Oper.uponIn_skip];exact hk
 ·rw[hr,Oper.uponIn_enter];refine⟨λh=>(by cases h),?_⟩;have h1:CallsIn (Fr r) (n - 1) P f args w' _:=callsIn_wide.2 hk;refine h1.mono λe w'' ⟨x,he,hx⟩=> ?_
  subst he;exact hx
theorem il.mono{P:bj}{o:Oper}{a:Act}{w:cO}{K K':Act->cO->Prop}(h:il P o a w K)(hk:∀a w,K a w->K' a w):il P o a w K':=by
 rcases h with⟨x,w',hr,h⟩ | ⟨w',hr,h⟩ | ⟨f,args,w',hr,h⟩ | ⟨l,f,tmps,as,b,w',hr,h⟩
 ·exact .inl ⟨x,w',hr,hk _ _ h⟩
 ·exact .inr (.inl ⟨w',hr,hk _ _ h⟩)
 ·exact .inr (.inr (.inl ⟨f,args,w',hr,h.mono λe w'' ⟨x,he,hx⟩=>⟨x,he,hk _ _ hx⟩⟩))
 ·exact .inr (.inr (.inr ⟨l,f,tmps,as,b,w',hr,λr n=>(h r n).mono λe w'' ⟨x,he,hx⟩=>⟨x,he,hk _ _ hx⟩⟩))
section
variable {P:bj} {C:Ctx} {g:Nat->qs} {β:Id->Option Pl} {s:AS} {a:Act} {w:cO} {o:Oper}
theorem Inv.value(h:Inv C g β s a w){v:aN}{x:Value}(hv:VS (s.env w g β) v x)(hr:(execOp a.eval o).run P w= .ok (.value x) w):il P o a w (ka C (s.put o.dst v)):= .inl ⟨x,w,hr,g,β,h.put o.dst hv⟩
theorem fE{f:Sem Value}{x:Value}{w':cO}(he:execOp a.eval o=(do pure (.value (<-f))))(hf:f.run P w= .ok x w'):(execOp a.eval o).run P w= .ok (.value x) w':=by rw[he,cU,hf];rfl
theorem aj1{f:Sem Unit}{w':cO}(he:execOp a.eval o=(do f;pure .skip))(hf:f.run P w= .ok () w'):(execOp a.eval o).run P w= .ok .skip w':=by rw[he,cU,hf];rfl
theorem AT{E:Env}{k:lW}{n:Int}{y:Value}(h:VS E (.d (.int k) n) y):y= .int k n:=by obtain⟨cs,hv,ho⟩:=h;simp only[V,c9]at hv;have ho':cs=[y]:=ho;rw[hv]at ho';simpa using ho'.symm
theorem abx{E:Env}{b:Bool}{y:Value}(h:VS E (.d .bool b) y):y= .bool b:=by obtain⟨cs,hv,ho⟩:=h;simp only[V,c9]at hv;have ho':cs=[y]:=ho;rw[hv]at ho';simpa using ho'.symm
theorem Nu{E:Env}{b:ByteArray}{y:Value}(h:VS E (.d .str b) y):y= .string b:=by obtain⟨cs,hv,ho⟩:=h;simp only[V,c9]at hv;have ho':cs=[y]:=ho;rw[hv]at ho';simpa using ho'.symm
theorem nE{E:Env}(k:lW)(n:Int):VS E (.d (.int k) n) (.int k n):=⟨[.int k n],by simp[V,c9],rfl⟩
theorem Io{E:Env}(b:Bool):VS E (.d .bool b) (.bool b):=⟨[.bool b],by simp[V,c9],rfl⟩
theorem avR{E:Env}(b:ByteArray):VS E (.d .str b) (.string b):=⟨[.string b],by simp[V,c9],rfl⟩
theorem aBg{T:TypeId}{d:TypeDesc}(h:P.underlying T=av d):∃i,P.info? T=av i:=by
 unfold Program.underlying at h;split at h
 ·rename_i h';exact⟨_,h'⟩
 ·rename_i i _ h';exact⟨_,h'⟩
 ·cases h
theorem run_sizeOf{T:TypeId}{i:TypeInfo}(h:P.info? T=av i)(w:cO):(sizeOf T).run P w= .ok i.size w:=by simp[sizeOf,typeInfo,h]
theorem qP{T:TypeId}{i:TypeInfo}(h:P.info? T=av i):P.cellsOf T=i.size:=by simp[Program.cellsOf,h]
theorem vg{T:TypeId}{v:aN}(h:fits P T v=bm):v.fD=bm/\∃i,P.info? T=av i/\i.size=v.size/\∀w,(isAgg T).run P w= .ok v.agg w:=by
 unfold fits at h;simp only[aw,eZ]at h;obtain⟨⟨h1,h2⟩,h3⟩:=h;cases hu:P.underlying T with
 |none=>rw[hu]at h3;cases h3
 |some d=>
  obtain⟨i,hi⟩:=aBg hu;refine⟨h1,i,hi,by rw[qP hi]at h2;exact h2,λw=> ?_⟩;rw[hu]at h3;unfold isAgg;rw[cU,run_underlying hu w];cases d <;> simp at h3 <;> simp[h3]
theorem xG{T:TypeId}{v:aN}(hf:fits P T v=bm){b off:Nat}{cs:List Value}(hl:cs.length=v.size)(hc:∀j x,cs[j]? =av x->w.cell? ⟨b,off+j,aH⟩=av x):
  ∃y,(loadVar T ⟨b,off,aH⟩).run P w= .ok y w/\gY v.agg cs y:=by
 obtain⟨_,i,hi,hs,arV⟩:=vg hf;unfold loadVar;rw[cU,arV w];simp only[cm];have Lr:∀j x,cs[j]? =av x->w.cell? ((⟨b,off,aH⟩:Addr).add j)=av x:=λj x hj=>by rw[Addr.add_lit];exact hc j x hj
 cases ha:v.agg with
 |true=>
  refine⟨.agg cs.toArray,?_,rfl⟩;simp only[bO,cU,run_sizeOf hi,cm,hs,<-hl,run_loadCells_list w _ cs Lr];rfl
 |false=>
  have h1:v.size=1:=aN.au1 ha;obtain⟨y,rfl⟩:∃y,cs=[y]:=by
   match cs,hl with
   |[y],_=>exact⟨y,rfl⟩
   |[],hh=>simp[h1]at hh
   |_::_::_,hh=>simp[h1]at hh
  refine⟨y,?_,rfl⟩;have:=hc 0 y rfl;rw[cD]at this;simp[this]
theorem Kg{T:TypeId}{v:aN}{E:Env}(hf:fits P T v=bm){cs:List Value}{y:Value}(hV:V E v cs)(ho:gY v.agg cs y){b off:Nat}{cur:Array Value}{e:TypeId}
  (hh:w.heap[b]? =av (.cells cur e (0,0))) (hle:off+cs.length<=cur.size):
  (storeVar T ⟨b,off,aH⟩ y).run P w= .ok () (w.setRow b (dV cur.toList off cs).toArray):=by
 obtain⟨_,i,hi,hs,_⟩:=vg hf;have aKi:y.cells=cs.toArray:=ho.cells hV.one;have hl:=hV.size;have xZ:=run_storeCells_at P b off e cs 0 cur w hh (by simpa using hle) hV.one;simp only[cD]at xZ;unfold storeVar;simp only[aKi,cU,run_sizeOf hi,cm,iM,hl,hs,ne_eq,qA,bC];simpa[dV]using xZ
theorem z8(w:cO)(ob:Obj){b:Nat}(h:b < w.heap.size):(w.alloc ob).heap[b]? =w.heap[b]? :=by
 show(w.heap.push ob)[b]? =w.heap[b]?
 rw[Array.getElem?_push,if_neg (Nat.ne_of_lt h)]
theorem De(w:cO)(ob:Obj):(w.alloc ob).heap[w.heap.size]? =av ob:=by
 show(w.heap.push ob)[w.heap.size]? =av ob
 simp
theorem Trans.alloc(w:cO)(g:Nat->qs)(ob:Obj)(l:qs):Trans w (w.alloc ob) g (yc g w.heap.size l):=by
 refine⟨rfl,rfl,⟨rfl,az _⟩,by simp,λb hb=> ?_⟩;rw[iR _ _ _ aq,z8 w ob hb];cases g b with
 |free=>exact⟨rfl,rfl⟩
 |own o k=>cases o with
  |gf=>exact⟨rfl,rfl⟩
  |id i=>exact⟨.inr ⟨i,k,rfl,az _⟩,λoff v _ hv=>by rw[World.cell?_alloc_lt w ob _ hb];exact hv⟩
theorem Trans.drew(w:cO)(g:Nat->qs):Trans w w.drew g g:=Trans.refl w g |> λh=>⟨h.os,h.tape,⟨h.output.1,vH _⟩,h.size,h.BE⟩
theorem ku.same{w':cO}{g':Nat->qs}(h:ku (s.env w g β))(he:dI (s.env w g β) (s.env w' g' β))(hb:∀i ver fr c pl,s.cJ i=av (.obj ver fr c)->β i=av pl->w'.heap[pl.b]? =w.heap[pl.b]? /\g' pl.b=g pl.b):ku (s.env w' g' β):=λi ver fr c hi=>(h i ver fr c hi).mono he rfl (λpl hp=>hb i ver fr c pl hi hp) λq vq k v l hq _=>⟨⟨k,v,l,hq⟩,λpl hp=>hb q vq bm _ pl hq hp⟩
theorem dI.same{w':cO}{g':Nat->qs}(ht:Trans w w' g g'):dI (s.env w g β) (s.env w' g' β):=⟨Trans.mem ht,λ_ _ h=>h,λ_ _ _ h=>⟨h,rfl⟩⟩
theorem Inv.NS(h:Inv C g β s a w)(ob:Obj):Inv C (yc g w.heap.size .free) β s a (w.alloc ob):=by have ht:=Trans.alloc w g ob .free;have he:dI (s.env w g β) (s.env (w.alloc ob) (yc g w.heap.size .free) β):=dI.same ht;refine h.step rfl ht he (ku.same h.cg he λi ver fr c pl hi hp=> ?_);have hl:=((h.cg i ver fr c hi).label (pl:=pl) hp).1;have hl':pl.b < w.heap.size:=hl;exact⟨z8 w ob hl',iR _ _ _ aq⟩
theorem Inv.drew(h:Inv C g β s a w):Inv C g β s a w.drew:=by have ht:=Trans.drew w g;have he:dI (s.env w g β) (s.env w.drew g β):=dI.same ht;exact h.step rfl ht he (ku.same h.cg he λ_ _ _ _ _ _ _=>⟨rfl,rfl⟩)
theorem lU{q:Nat}(h:s.eQ q=bm):(∀j,s.cJ (.new q j)=aH)/\q < s.news.length:=by
 unfold AS.eQ at h;split at h
 ·rename_i hn;refine⟨λj=> ?_,(ek.1 hn).1⟩;simp[AS.cJ,bh,hn]
 ·cases h
theorem BZ{q:Nat}(hq:q < s.news.length)(es:List eJ)(j:Nat):(s.born q es).cJ (.new q j)=es[j]? :=by simp[AS.cJ,AS.born,bh,hq]
theorem jO{q:Nat}(es:List eJ){id:Id}(h:∀j,id≠ .new q j):(s.born q es).cJ id=s.cJ id:=by
 cases id with
 |bP k=>rfl
 |new i j=>
  have:i≠q:=λe=>h j (by rw[e])
  simp only[AS.cJ,AS.born,bh];rw[fy (Ne.symm this)]
def OU(β:Id->Option Pl)(id:Id)(p:Option Pl):Id->Option Pl:=λi=>if i=id then p else β i
@[simp] theorem oF(β:Id->Option Pl)(id:Id)(p:Option Pl):OU β id p id=p:=by simp[OU]
theorem Ey(β:Id->Option Pl)(id:Id)(p:Option Pl){i:Id}(h:i≠id):OU β id p i=β i:=by simp[OU,h]
theorem Inv.acq(h:Inv C g β s a w){q:Nat}(hq:s.eQ q=bm){w':cO}{g':Nat->qs}{c:aN}{p:Option Pl}(ht:Trans w w' g g')
  (hb:∀b,b < w.heap.size->w'.heap[b]? =w.heap[b]? /\g' b=g b)
  (ho:dI (s.env w g β) ((s.born q [.obj 0 aZ c]).env w' g' (OU β (.new q 0) p))->Dc ((s.born q [.obj 0 aZ c]).env w' g' (OU β (.new q 0) p)) (.new q 0) aZ c):
  Inv C g' (OU β (.new q 0) p) (s.born q [.obj 0 aZ c]) a w'/\dI (s.env w g β) ((s.born q [.obj 0 aZ c]).env w' g' (OU β (.new q 0) p)):=by
 obtain⟨hv,hl⟩:=lU hq;have jk:∀id,s.cJ id≠aH->∀j,id≠ .new q j:=λid dL j e=>dL (by rw[e];exact hv j)
 have he:dI (s.env w g β) ((s.born q [.obj 0 aZ c]).env w' g' (OU β (.new q 0) p)):=by
  refine⟨Trans.mem ht,λid ver aEd=> ?_,λid ver aEd hc=> ?_⟩
  ·have dL:=jk id aEd.1;have e:=jO (s:=s) [.obj 0 aZ c] dL;exact⟨by show(s.born q _).cJ id≠aH;rw[e];exact aEd.1,λv fr c' hh=>aEd.2 v fr c' (e.symm.trans hh)⟩
  ·have dL:=jk id aEd.1;have e:=jO (s:=s) [.obj 0 aZ c] dL;obtain⟨fr,c',hc⟩:=hc;exact⟨⟨fr,c',e.symm.trans hc⟩,Ey _ _ _ (dL 0)⟩
 refine⟨h.step rfl ht he λid ver fr c' dL=> ?_,he⟩;have hid':(s.born q [.obj 0 aZ c]).cJ id=av (.obj ver fr c'):=dL;by_cases hi:∃j,id= .new q j
 ·obtain⟨j,rfl⟩:=hi;rw[BZ hl]at hid';cases j with
  |zero=>
   simp only[gw,ax,eJ.obj.injEq]at hid';obtain⟨rfl,rfl,rfl⟩:=hid';exact ho he
  |succ j=>simp at hid'
 ·have hi':∀j,id≠ .new q j:=λj e=>hi ⟨j,e⟩
  rw[jO _ hi']at hid';refine(h.cg id ver fr c' hid').mono he (Ey _ _ _ (hi' 0)) (λpl hp=> ?_) λq2 vq k v l ake _=> ?_
  ·exact hb pl.b ((h.cg id ver fr c' hid').label (pl:=pl) hp).1
  ·have aZT:s.cJ q2=av (.obj vq bm (.mp k v l)):=ake;refine⟨⟨k,v,l,by show(s.born q _).cJ q2=_;rw[jO _ (jk q2 (by rw[aZT];simp))];exact aZT⟩,λpl hp=>hb pl.b ((h.cg q2 vq bm _ aZT).label (pl:=pl) hp).1⟩
theorem wW{q:Nat}(hq:s.eQ q=bm)(c:aN)(w':cO)(g':Nat->qs)(β':Id->Option Pl):((s.born q [.obj 0 aZ c]).env w' g' β').KE (.new q 0) 0:=by have e:=BZ (s:=s) (lU hq).2 [.obj 0 aZ c] 0;refine⟨by show(s.born q [.obj 0 aZ c]).cJ (.new q 0)≠aH;rw[e];simp,λv fr c' _=>aL _⟩
theorem Inv.aBu(h:Inv C g β s a w){q:Nat}(hq:s.eQ q=bm){v:aN}{cs:List Value}{e:TypeId}(hk:∀pl n,v.KV pl n e)(hN:∀n,v.Ac n=n)(hv:V (s.env w g β) v.strip cs):
  ∃g' β',Inv C g' β' (s.born q [.obj 0 aZ v]) a (w.alloc (.cells cs.toArray e))/\
   VS ((s.born q [.obj 0 aZ v]).env (w.alloc (.cells cs.toArray e)) g' β') (.ptr (.new q 0) 0 [] 0) (.pointer (av ⟨w.heap.size,0,aH⟩)):=by
 have ht:=Trans.alloc w g (.cells cs.toArray e) (.own (.id (.new q 0)) 0);obtain⟨h1,h2⟩:=h.acq hq (c:=v) (p:=av ⟨w.heap.size,0⟩) ht (λb hb=>⟨z8 w _ hb,iR _ _ _ aq⟩) (λhe=>
  Wg.obj ⟨⟨w.heap.size,0⟩,cs.toArray,e,oF _ _ _,De w _,iG _ _ _,hk _ _,by rw[hN,show cs.toArray.toList.take cs.toArray.size=cs by simp];exact hv.mono he⟩)
 refine⟨_,_,h1,?_⟩;refine⟨[.pointer (av ⟨w.heap.size,0,aH⟩)],?_,rfl⟩;simp only[V];exact⟨_,rfl,wW hq _ _ _ _,λ_=>⟨_,oF _ _ _,rfl⟩⟩
theorem Inv.aVk(h:Inv C g β s a w){q:Nat}(hq:s.eQ q=bm){v:aN}{cs:List Value}(hv:V (s.env w g β) v cs)(e:TypeId):
  ∃g' β',Inv C g' β' (s.born q [.obj 0 aZ v]) a (w.alloc (.cells cs.toArray e))/\
   VS ((s.born q [.obj 0 aZ v]).env (w.alloc (.cells cs.toArray e)) g' β') (.ptr (.new q 0) 0 [] 0) (.pointer (av ⟨w.heap.size,0,aH⟩)):=
 h.aBu hq (λpl n=>Wv hv.DR pl n e) (λn=>acr hv.DR n) (by rw[X7 hv.DR];exact hv)
theorem aIC(P:bj)(T:TypeId){z:aN}{E:Env}{cs:List Value}(hv:V E z cs):(∀pl n,(boxed P T z).KV pl n T)/\(∀n,(boxed P T z).Ac n=n)/\V E (boxed P T z).strip cs:=by
 unfold boxed;split
 ·exact⟨λ_ _=>rfl,λ_=>rfl,hv⟩
 ·exact⟨λpl n=>Wv hv.DR pl n T,λn=>acr hv.DR n,by rw[X7 hv.DR];exact hv⟩
theorem Inv.aQ8(h:Inv C g β s a w){t:Ty}{x:t.den}{cs:List Value}(hv:c9 (s.env w g β) t cs x)(e:TypeId):
  ∃g',Inv C g' β s a (w.alloc (.cells cs.toArray e))/\dI (s.env w g β) (s.env (w.alloc (.cells cs.toArray e)) g' β)/\
   VS (s.env (w.alloc (.cells cs.toArray e)) g' β) (.dz t x) (.pointer (av ⟨w.heap.size,0,aH⟩)):=by
 have ht:=Trans.alloc w g (.cells cs.toArray e) .free;have he:dI (s.env w g β) (s.env (w.alloc (.cells cs.toArray e)) (yc g w.heap.size .free) β):=dI.same ht;refine⟨_,h.NS _,he,[.pointer (av ⟨w.heap.size,0,aH⟩)],?_,rfl⟩;simp only[V];refine⟨w.heap.size,0,cs,rfl,λi v hi=>⟨_,_,rfl,?_,?_⟩,hv.mono he.mem⟩
 ·show(w.alloc (.cells cs.toArray e)).cell? ⟨w.heap.size,0+i,aH⟩=av v;rw[World.cell?_alloc_new,aV];simpa using hi
 ·show Am (yc g w.heap.size .free) w.heap.size (0+i);unfold Am;rw[iG];trivial
theorem agF(T:TypeId)(y:Value)(w:cO):(newVar T y).run P w= .ok ⟨w.heap.size,0,aH⟩ (w.alloc (.cells y.cells T)):=by simp[newVar,newRow]
theorem avU(h:Inv C g β s a w){T:TypeId}(ho:o.op= .alloc T){z:aN}{q:Nat}(hq:s.eQ q=bm)(hz:ap1 P T z=bm):
  il P o a w (ka C ((s.born q [.obj 0 aZ (boxed P T z)]).put o.dst (.ptr (.new q 0) 0 [] 0))):=by
 obtain⟨i,zv,hi,avG,hV,hO⟩:=yU hz (s.env w g β);obtain⟨hk,hN,hV⟩:=aIC P T hV;obtain⟨g',β',h1,h2⟩:=h.aBu hq hk hN hV;refine .inl ⟨.pointer (av ⟨w.heap.size,0,aH⟩),w.alloc (.cells zv.cells T),?_,g',β',?_⟩
 ·refine fE (f:=Instr.alloc T bm (.tuple #[])) (by simp only[execOp,ho]) ?_
  simp[Instr.alloc,zeroValue,typeInfo,hi,avG,agF]
 ·have:=h1.put o.dst h2;simpa using this
theorem VS.aXM{E:Env}{t:Ty}{x:t.den}{y:Value}(h:VS E (.dz t x) y)(dt:Bool):VS E (aUa dt t x) y:=by
 cases dt with
 |false=>exact h
 |true=>
  obtain⟨cs,hv,ho⟩:=h;simp only[V]at hv;refine⟨cs,?_,ho⟩;simp only[aUa,V,c9];simpa using hv
theorem akd{E:Env}{t:Ty}{y:Value}(h:VS E (.d (.qE t) aH) y):y= .pointer aH:=by obtain⟨cs,hv,ho⟩:=h;simp only[V,c9]at hv;have ho':cs=[y]:=ho;have e:=hv.1 trivial;rw[e]at ho';simpa using ho'.symm
theorem TB{E:Env}{t:Ty}{x:t.den}{y:Value}(h:VS E (.d (.qE t) (av x)) y):VS E (.dz t x) y:=by obtain⟨cs,hv,ho⟩:=h;simp only[V,c9]at hv;refine⟨cs,?_,ho⟩;simp only[V];simpa using hv
theorem akj{E:Env}{t:Ty}{y:Value}(h:VS E (.d (.iv t) aH) y):y= .pointer aH:=by obtain⟨cs,hv,ho⟩:=h;simp only[V,c9]at hv;have ho':cs=[y]:=ho;have e:=hv.1 trivial;rw[e]at ho';simpa using ho'.symm
theorem aQO{E:Env}{t:Ty}{x:Nat×t.den}{y:Value}(h:VS E (.d (.iv t) (av x)) y):y= .pointer (av ⟨x.1,0,aH⟩)/\(∃ca T,E.g x.1= .free/\E.w.heap[x.1]? =av (.cells ca T (0,0)))/\VS E (.dz t x.2) y:=by obtain⟨cs,hv,ho⟩:=h;simp only[V,c9]at hv;have ho':cs=[y]:=ho;obtain⟨ca,T,vs,e,h0,hr,hR⟩:=hv.2 x rfl;refine⟨by rw[e]at ho';simpa using ho'.symm,⟨ca,T,h0⟩,cs,?_,ho⟩;simp only[V];exact⟨_,_,vs,e,hr,hR⟩
theorem TO{E:Env}{t:Ty}{x:Nat×t.den}{y:Value}(h:VS E (.d (.iv t) (av x)) y):VS E (.dz t x.2) y:=(aQO h).2.2
theorem aIB(h:Inv C g β s a w){T:TypeId}{x:cr}{obj dt:Bool}(ho:o.op= .box T x){s':AS}(he:(aqN P s obj dt o.dst T (s.ev x)).eval=av s'):il P o a w (ka C s'):=by
 unfold aqN at he;cases hd:o.dst with
 |none=>rw[hd]at he;simp only[aG]at he
 |some q=>
  rw[hd]at he;have aO0:=h.ev x;have sr:∀cs:List Value,(a.eval x).cells=cs.toArray->(execOp a.eval o).run P w= .ok (.value (.pointer (av ⟨w.heap.size,0,aH⟩))) (w.alloc (.cells cs.toArray T)):=by
   intro cs aKi;refine fE (f:=Instr.box T (a.eval x)) (by simp only[execOp,ho]) ?_
   simp[Instr.box,agF,aKi]
  cases obj with
  |true=>
   obtain⟨hg,gX⟩:=aR.1 he;obtain rfl:=aD.1 gX;simp only[aw]at hg;obtain⟨hq,hf⟩:=hg;obtain⟨hc,_⟩:=vg hf;obtain⟨cs,hV,hO⟩:=aO0.fD hc;obtain⟨g',β',h1,h2⟩:=h.aVk hq hV T;refine .inl ⟨_,_,sr cs (hO.cells hV.one),g',β',?_⟩;rw[hd];exact h1.put (av q) h2
  |false=>
   simp only at he;cases ht:aAg P depth T with
   |none=>rw[ht]at he;simp only[aG]at he
   |some t=>
    rw[ht]at he;obtain⟨_,he⟩:=aR.1 he;obtain⟨y,h1,h2⟩:=aC.1 he;obtain rfl:=aD.1 h2;obtain⟨g1,i1,e1,t1,cs,hR,hO⟩:=JN h aO0 h1;obtain⟨g2,i2,e2,hv⟩:=i1.aQ8 hR T;refine .inl ⟨_,_,sr cs (hO.cells hR.one),g2,β,?_⟩;rw[hd];exact i2.put (av q) (hv.aXM dt)
theorem pR{E:Env}{t:Ty}{x:t.den}{y:Value}(h:VS E (.dz t x) y):∃b off vs,y= .pointer (av ⟨b,off,aH⟩)/\Bi E (av ⟨b,off,aH⟩) vs/\c9 E t vs x:=by obtain⟨cs,hv,ho⟩:=h;simp only[V]at hv;obtain⟨b,off,vs,e,hr,hx⟩:=hv;have ho':cs=[y]:=ho;rw[e]at ho';exact⟨b,off,vs,by simpa using ho'.symm,hr,hx⟩
theorem Gw{E:Env}{id:Id}{ver n:Nat}{p:List Se}{y:Value}(h:VS E (.ptr id ver p n) y):
  ∃a,y= .pointer (av a)/\E.KE id ver/\(E.cur id ver->∃pl,E.β id=av pl/\a=⟨pl.b,n,aH⟩):=by
 obtain⟨cs,hv,ho⟩:=h;simp only[V]at hv;obtain⟨a,e,hb,hc⟩:=hv;have ho':cs=[y]:=ho;rw[e]at ho';exact⟨a,by simpa using ho'.symm,hb,hc⟩
theorem zQ{E:Env}{id:Id}{ver c i len:Nat}{p:List Se}{y:Value}(h:VS E (.bU id ver p c i len) y):
  ∃a cap,y= .slice a len cap/\len<=cap/\(0 < len->a.isSome=bm)/\E.KE id ver/\
   (E.cur id ver->match E.β id with
    |some pl=>(0 < len\/i=0->a=av ⟨pl.b,c,aH⟩)/\(p=[]->i=0->cap=pl.cap)
    |none=>a=aH/\len=0/\cap=0):=by
 obtain⟨cs,hv,ho⟩:=h;simp only[V]at hv;obtain⟨a,cap,e,rest⟩:=hv;have ho':cs=[y]:=ho;rw[e]at ho';exact⟨a,cap,by simpa using ho'.symm,rest⟩
theorem xL{E:Env}{t:Ty}{l:List t.den}{y:Value}(h:VS E (.d (.slice t) l) y):
  ∃a cap vs,y= .slice a l.length cap/\l.length<=cap/\(0 < l.length->a.isSome=bm)/\Bi E a vs/\bH (c9 E t) vs l:=by
 obtain⟨cs,hv,ho⟩:=h;simp only[V,c9]at hv;obtain⟨a,cap,vs,e,rest⟩:=hv;have ho':cs=[y]:=ho;rw[e]at ho';exact⟨a,cap,vs,by simpa using ho'.symm,rest⟩
theorem mX{E:Env}{y:Value}(h:VS E .dJ y):y= .slice aH 0 0:=by obtain⟨cs,hv,ho⟩:=h;simp only[V]at hv;have ho':cs=[y]:=ho;rw[hv]at ho';simpa using ho'.symm
theorem aE5{E:Env}{id:Id}{fr:Bool}{c:aN}(h:Dc E id fr c){p:List Se}{n:Nat}{v:aN}(hl:(loc c.strip p).eval=av (n,v))(hf:v.fD=bm):
  ∃pl cur e,E.β id=av pl/\E.w.heap[pl.b]? =av (.cells cur e (0,0))/\V E v ((cur.toList.drop n).take v.size)/\n+v.size<=cur.size:=by
 by_cases hn:c.iW=aZ
 ·obtain⟨pl,cur,e,hp,hh,hg,hk,hV⟩:=h.box hn;have hN:=aby hk;generalize c.Ac cur.size=N at hN hV;have hNl:(cur.toList.take N).length=N:=by rw[bV,dv];omega
  obtain⟨u,hu⟩:∃u,c.strip=u:=⟨_,rfl⟩;rw[hu]at hV hl;rcases vW p u (cur.toList.take N) n v (VO.of hV) hl with⟨rfl,rfl⟩ | ⟨h1,h2⟩
  ·have hs:=hV.size;rw[hNl]at hs;refine⟨pl,cur,e,hp,hh,?_,aq⟩;rw[ay,<-hs];exact hV
  ·rw[hNl]at h2;rw[wF,qL,iU aq]at h1;exact⟨pl,cur,e,hp,hh,h1,aq⟩
 ·cases c <;> first | (exact absurd rfl hn) | skip
  rotate_left
  ·have hl:(loc (.mp _ _ _) p).eval=_:=hl;obtain⟨_,rfl⟩:=anH hl;simp[aN.fD]at hf
  ·have hl:(loc (.tP _ _ _ _ _ _) p).eval=_:=hl;obtain⟨_,rfl⟩:=abK hl;simp[aN.fD]at hf
  rename_i e t l;obtain⟨hz,h⟩:=h;cases hp:E.β id with
  |none=>
   rw[hp]at h;have:l=[]:=h;subst this;obtain⟨_,rfl⟩:=adI hl;simp[aN.fD]at hf
  |some pl=>
   rw[hp]at h;obtain⟨cur,k,q1,q2,q3,q4,q5,q6,q7,q8⟩:=h;have hlen:=bH.length (λc x hx=>c9.size hx) q8;have AL:l.length*t.size<=cur.size:=by rw[q2];exact dE _ q3
   rcases vW (E:=E) p (.vec e t l) _ n v q8 hl with⟨rfl,rfl⟩ | ⟨h1,h2⟩
   ·simp[aN.fD]at hf
   ·rw[hlen]at h2;rw[wF,qL,iU aq]at h1;exact⟨pl,cur,e,rfl,q1,h1,aq⟩
theorem aE1{E:Env}{v v':aN}(h:(aVm v).eval=av v'):(∀cs,V E v cs->V E v' cs)/\v'.agg=v.agg:=by
 unfold aVm at h;split at h
 ·rename_i t l;obtain⟨h1,h2⟩:=cW.1 h;obtain rfl:=aD.1 h2;refine⟨λcs hv=> ?_,rfl⟩;simp only[V,c9]at hv ⊢;exact hv.1 (Option.isNone_iff_eq_none.1 h1)
 ·obtain rfl:=aD.1 h;exact⟨λ_ h=>h,rfl⟩
theorem adH(h:Inv C g β s a w){T:TypeId}{x:aN}{y:Value}(hx:VS (s.env w g β) x y){v:aN}(he:(TU P s T x).eval=av v):
  ∃ad z,y= .pointer (av ad)/\(loadVar T ad).run P w= .ok z w/\VS (s.env w g β) v z:=by
 unfold TU at he;split at he
 ·rename_i id ver p n;cases qF:s.obj id with
  |none=>rw[qF]at he;simp only[aG]at he
  |some r=>
   obtain⟨v0,fr,c⟩:=r;rw[qF]at he;obtain⟨h1,h2⟩:=aR.1 he;obtain⟨⟨n',v'⟩,h3,h4⟩:=aC.1 h2;obtain⟨h5,h6⟩:=aR.1 h4;obtain⟨h7,h8⟩:=cW.1 h6;obtain⟨n1,n2⟩:=aE1 (E:=s.env w g β) h8;simp only[bt]at h7;have aWq:v0=ver:=by simpa using h1
   subst aWq h7;have dQ:=fT qF;obtain⟨ad,rfl,hb,hc⟩:=Gw hx;obtain⟨pl,hp,rfl⟩:=hc ⟨fr,c,dQ⟩;obtain⟨awV,_⟩:=vg h5;obtain⟨pl',cur,e,hp',hh,hV,hle⟩:=aE5 (h.cg id v0 fr c dQ) h3 awV;rw[hp]at hp';obtain rfl:pl=pl':=by simpa using hp'
   obtain⟨z,We,TK⟩:=xG (P:=P) (w:=w) h5 (b:=pl.b) (off:=n') hV.size (λj x hj=>by
    rw[cell_of_row w pl.b (n'+j) cur e (0,0) hh];rw[dY]at hj;split at hj
    ·rw[fW]at hj;simpa using hj
    ·cases hj)
   exact⟨_,z,rfl,We,VS.of (n1 _ hV) (by rw[n2];exact TK)⟩
 ·rename_i t x';obtain⟨h1,h2⟩:=aR.1 he;obtain rfl:=aD.1 h2;obtain⟨b,off,vs,rfl,hr,hR⟩:=pR hx;obtain⟨z,We,TK⟩:=xG (P:=P) (w:=w) h1 (b:=b) (off:=off) hR.size (λj x hj=>by
   obtain⟨b',off',e,hh⟩:=hr j x hj;simp only[ax,Addr.mk.injEq,eS]at e;obtain⟨rfl,rfl⟩:=e;exact hh.1)
  exact⟨_,z,rfl,We,VS.of (by simpa only[V]using hR) TK⟩
 ·rename_i t x';obtain⟨u,e,he⟩:=og.1 he;subst e;have hx:=TB hx;obtain⟨h1,h2⟩:=aR.1 he;obtain rfl:=aD.1 h2;obtain⟨b,off,vs,rfl,hr,hR⟩:=pR hx;obtain⟨z,We,TK⟩:=xG (P:=P) (w:=w) h1 (b:=b) (off:=off) hR.size (λj x hj=>by
   obtain⟨b',off',e,hh⟩:=hr j x hj;simp only[ax,Addr.mk.injEq,eS]at e;obtain⟨rfl,rfl⟩:=e;exact hh.1)
  exact⟨_,z,rfl,We,VS.of (by simpa only[V]using hR) TK⟩
 ·rename_i t x';obtain⟨u,e,he⟩:=og.1 he;subst e;have hx:=TO hx;obtain⟨h1,h2⟩:=aR.1 he;obtain rfl:=aD.1 h2;obtain⟨b,off,vs,rfl,hr,hR⟩:=pR hx;obtain⟨z,We,TK⟩:=xG (P:=P) (w:=w) h1 (b:=b) (off:=off) hR.size (λj x hj=>by
   obtain⟨b',off',e,hh⟩:=hr j x hj;simp only[ax,Addr.mk.injEq,eS]at e;obtain⟨rfl,rfl⟩:=e;exact hh.1)
  exact⟨_,z,rfl,We,VS.of (by simpa only[V]using hR) TK⟩
 ·simp only[aG]at he
theorem aED(h:Inv C g β s a w){T:TypeId}{x:cr}(ho:o.op= .load T x){v:aN}(he:(TU P s T (s.ev x)).eval=av v):il P o a w (ka C (s.put o.dst v)):=by obtain⟨ad,z,hy,hr,hv⟩:=adH h (h.ev x) he;refine h.value hv (fE (f:=Instr.loadAt T (a.eval x)) (by simp only[execOp,ho]) ?_);simp[Instr.loadAt,Instr.sureAddr,hy,hr]
theorem Trans.setRow(w:cO){b:Nat}{i:Id}(hg:g b= .own (.id i) 0)(cur:Array Value):Trans w (w.setRow b cur) g g:=by
 refine⟨by simp,by simp,by simp,by simp,λb' hb=> ?_⟩;by_cases he:b'=b
 ·subst he;rw[hg];exact⟨.inr ⟨i,0,rfl,az _⟩,λ_ _ hh=>aq⟩
 ·rw[setRow_other w b b' cur he];cases adm:g b' with
  |free=>exact⟨rfl,rfl⟩
  |own o' k=>cases o' with
   |gf=>exact⟨rfl,rfl⟩
   |id i'=>exact⟨.inr ⟨i',k,rfl,az _⟩,λoff v _ hv=>by rw[cell_setRow_other w b cur _ he];exact hv⟩
theorem Inv.apart(h:Inv C g β s a w){id:Id}{k:Nat}{b:Nat}(hg:g b= .own (.id id) k){i:Id}{ver:Nat}{fr:Bool}{c:aN}{pl:Pl}(hi:i≠id)(hs:s.cJ i=av (.obj ver fr c))(hp:β i=av pl):pl.b≠b:=by
 intro hb;have hl:(∃k,g pl.b= .own (.id i) k)\/(fr=bm/\g pl.b= .free):=((h.cg i ver fr c hs).label (pl:=pl) hp).2;rw[hb,hg]at hl;rcases hl with⟨k',hk⟩ | ⟨_,hk⟩
 ·simp only[qs.own.injEq,Own.id.injEq]at hk;exact hi hk.1.symm
 ·cases hk
theorem au9(h:Inv C g β s a w){T:TypeId}{x v:aN}{y z:Value}(hx:VS (s.env w g β) x y)(hz:VS (s.env w g β) v z){s':AS}(he:(Nt P s T x v).eval=av s'):
  ∃ad w',y= .pointer (av ad)/\(storeVar T ad z).run P w= .ok () w'/\∃g' β',Inv C g' β' s' a w':=by
 unfold Nt at he;split at he
 ·rename_i id ver p n;cases qF:s.obj id with
  |none=>rw[qF]at he;simp only[aG]at he
  |some r=>
   obtain⟨v0,fr,c⟩:=r;rw[qF]at he;obtain⟨h1,h2⟩:=aR.1 he;obtain⟨⟨n',o'⟩,h3,h4⟩:=aC.1 h2;obtain⟨h5,h6⟩:=aR.1 h4;obtain⟨h7,h8⟩:=cW.1 h6;obtain⟨c',h9,aWZ⟩:=aC.1 h8;obtain rfl:=aD.1 aWZ;simp only[bt]at h7;simp only[aw,eZ,di]at h1;obtain⟨⟨aWq,aZw⟩,adl⟩:=h1;subst aWq h7 aZw;have dQ:=fT qF;obtain⟨ad,rfl,hb,hc⟩:=Gw hx;obtain⟨pl,hp,rfl⟩:=hc ⟨aZ,c,dQ⟩;have hp:β id=av pl:=hp;obtain⟨awV,_⟩:=vg adl;obtain⟨cs,hV,hO⟩:=hz.fD awV;have hOb:=h.cg id v0 aZ c dQ;obtain⟨hcel',_⟩:=vg h5;have aQB:c.iW=aZ\/c.iW=bm:=by cases c.iW <;> simp
   rcases aQB with hn | hn
   ·obtain⟨pl',cur,e,hp',hh,hg,hk,hVc⟩:=hOb.box hn;have hp':β id=av pl':=hp';rw[hp]at hp';obtain rfl:pl=pl':=by simpa using hp'
    have hg:g pl.b= .own (.id id) 0:=hg;have hh:w.heap[pl.b]? =av (.cells cur e (0,0)):=hh
    have hN:=aby hk;have hNl:(cur.toList.take (c.Ac cur.size)).length=c.Ac cur.size:=by rw[bV,dv];omega
    obtain⟨u1,u2,u3⟩:=tf p c.strip (cur.toList.take (c.Ac cur.size)) n' o' v c' cs (VO.of hVc) h3 hV h9;have u4:=u2.to (u3.xf hVc.xf);have AL:c'.size=c.strip.size:=by have e1:=u4.size;have e2:=hVc.size;rw[kY u1]at e1;omega
    rw[hNl]at u1;have aEi:(dV cur.toList n' cs).length=cur.toList.length:=kY (by have e1:cur.toList.length=cur.size:=dv;omega);have aZX:(dV cur.toList n' cs).take (c.Ac cur.size)=dV (cur.toList.take (c.Ac cur.size)) n' cs:=by
     conv=>lhs;rw[<-eC (c.Ac cur.size) cur.toList]
     rw[FW (by rw[hNl];exact u1),jI (by rw[kY (by rw[hNl];exact u1),hNl];exact az _)];exact bu (by rw[kY (by rw[hNl];exact u1),hNl];exact az _)
    have sr:=Kg (P:=P) (w:=w) adl hV hO (b:=pl.b) (off:=n') hh (by have e1:cur.toList.length=cur.size:=dv;have e2:cs.toArray.size=cs.length:=iM;omega);have ht:=Trans.setRow w hg (dV cur.toList n' cs).toArray;have hle:dI (s.env w g β) ((s.bI id (.obj v0 aZ (c.wrap c'))).env (w.setRow pl.b (dV cur.toList n' cs).toArray) g β):=dI.bI dQ (az _) ht (λ_ _=>rfl) (λ_=>rfl);refine⟨_,_,rfl,sr,g,β,h.step (eo _ _ _) ht hle (ku.bI h.cg (by rw[dQ];simp) hle (λ_ _=>rfl) (λi ver fr c pl2 hi ahW YT=>⟨setRow_other w pl.b pl2.b _ (h.apart hg hi ahW YT),rfl⟩) ?_ (sB dQ λk v1 l e=>by rw[e]at hn;simp[aN.iW]at hn))⟩;exact Wg.obj ⟨pl,_,e,hp,setRow_heap w pl.b cur _ e (0,0) hh,hg,by rw[iM,aEi,dv];exact Qt hk u4.DR AL,by
     rw[R1 c u4.DR,iM,aEi,dv,Wu u4.DR AL,show(dV cur.toList n' cs).toArray.toList=dV cur.toList n' cs from rfl,aZX];exact V.mono hle u4⟩
   ·cases c <;> first | (simp[aN.iW]at hn;done) | skip
    rotate_left
    ·have h3:(loc (.mp _ _ _) p).eval=_:=h3;obtain⟨_,rfl⟩:=anH h3;simp[aN.fD]at hcel'
    ·have h3:(loc (.tP _ _ _ _ _ _) p).eval=_:=h3;obtain⟨_,rfl⟩:=abK h3;simp[aN.fD]at hcel'
    rename_i e t l;obtain⟨avH,hOb⟩:=hOb;have hOb:(match β id with
     |none=>l=[]
     |some pl=>∃cur k,w.heap[pl.b]? =av (.cells cur e (0,0))/\cur.size=pl.cap*t.size/\l.length<=pl.cap/\pl.cap<=maxLen/\g pl.b= .own (.id id) k/\
       k<=l.length*t.size/\(aZ=aZ->k=0)/\bH (c9 (s.env w g β) t) (cur.toList.take (l.length*t.size)) l):=hOb
    rw[hp]at hOb;obtain⟨cur,k,q1,q2,q3,q4,q5,q6,q7,q8⟩:=hOb;have hk:=q7 rfl;subst hk;have hlen:=bH.length (λc x hx=>c9.size hx) q8;have AL:l.length*t.size<=cur.size:=by rw[q2];exact dE _ q3
    obtain⟨u1,u2,u3⟩:=tf (E:=s.env w g β) p (.vec e t l) _ n' o' v c' cs q8 h3 hV h9;rw[hlen]at u1;have sr:=Kg (P:=P) (w:=w) adl hV hO (b:=pl.b) (off:=n') q1 aq;cases c' <;> first | (exact u3.elim) | skip
    rename_i e' t' l';obtain⟨rfl,rfl,hl'⟩:=u3;have ht:=Trans.setRow w q5 (dV cur.toList n' cs).toArray;have hle:dI (s.env w g β) ((s.bI id (.obj v0 aZ (.vec e' t' l'))).env (w.setRow pl.b (dV cur.toList n' cs).toArray) g β):=dI.bI dQ (az _) ht (λ_ _=>rfl) (λ_=>rfl);refine⟨_,_,rfl,sr,g,β,h.step (eo _ _ _) ht hle (ku.bI h.cg (by rw[dQ];simp) hle (λ_ _=>rfl) (λi ver fr c pl2 hi ahW YT=>⟨setRow_other w pl.b pl2.b _ (h.apart q5 hi ahW YT),rfl⟩) ?_ (sB dQ λk v1 l e=>by cases e))⟩;refine⟨avH,?_⟩;show(match β id with
     |none=>l'=[]
     |some pl=>_)
    rw[hp];have aEi:(dV cur.toList n' cs).length=cur.toList.length:=kY (by simp;omega);refine⟨_,0,setRow_heap w pl.b cur _ e' (0,0) q1,by rw[iM,aEi];simpa using q2,aq,q4,q5,aq,λ_=>rfl,?_⟩;have e2:(dV cur.toList n' cs).take (l'.length*t'.size)=dV (cur.toList.take (l.length*t'.size)) n' cs:=by
     rw[hl']
     conv=>lhs;rw[<-eC (l.length*t'.size) cur.toList]
     rw[FW (by rw[hlen];exact u1),jI (by rw[kY (by rw[hlen];exact u1),hlen];exact az _)];exact bu (by rw[kY (by rw[hlen];exact u1),hlen];exact az _)
    rw[show(dV cur.toList n' cs).toArray.toList=dV cur.toList n' cs from rfl,e2];exact bH.mono (λ_ _ hx=>hx.mono hle.mem) u2
 ·simp only[aG]at he
theorem az0(h:Inv C g β s a w){T:TypeId}{x v:cr}(ho:o.op= .store T x v){s':AS}(he:(Nt P s T (s.ev x) (s.ev v)).eval=av s'):il P o a w (ka C (s'.put o.dst .undef)):=by obtain⟨ad,w',hy,hr,g',β',hi⟩:=au9 h (h.ev x) (h.ev v) he;refine .inr (.inl ⟨w',aj1 (f:=Instr.storeAt T (a.eval x) (a.eval v)) (by simp only[execOp,ho]) ?_,g',β',hi.put o.dst VS.undef⟩);simp[Instr.storeAt,Instr.sureAddr,hy,hr]
end
end Go.Ab
namespace Go.Ab
section
variable {P:bj} {C:Ctx} {g:Nat->qs} {β:Id->Option Pl} {s:AS} {a:Act} {w:cO} {o:Oper}
theorem akt(h:Inv C g β s a w){x:cr}(ho:o.op= .move x\/o.op= .assign x):il P o a w (ka C (s.put o.dst (s.ev x))):=by
 refine h.value (h.ev x) ?_
 rcases ho with ho | ho <;> simp[execOp,ho]
theorem aFr(h:Inv C g β s a w){c x y:cr}(ho:o.op= .pick c x y){v:aN}(he:(aBM (s.ev c) (s.ev x) (s.ev y)).eval=av v):il P o a w (ka C (s.put o.dst v)):=by
 have hc:=h.ev c;have hx:=h.ev x;have hy:=h.ev y;unfold aBM at he;split at he
 ·rename_i b hb;rw[hb]at hc;have bbR:=abx hc;have hr:(execOp a.eval o).run P w= .ok (.value (if b then a.eval x else a.eval y)) w:=by simp[execOp,ho,bbR,asBool]
  split at he
  ·rename_i bx by' aZq bbO;obtain rfl:=aD.1 he;rw[aZq]at hx;rw[bbO]at hy;refine h.value ?_ hr
   cases b
   ·simpa using hy
   ·simpa using hx
  ·cases b with
   |true=>
    simp only[Out.eval,ax]at he;subst he;exact h.value (by simpa using hx) hr
   |false=>
    simp only[Out.eval,ax]at he;subst he;exact h.value (by simpa using hy) hr
 ·simp only[aG]at he
theorem aid(h:Inv C g β s a w){x:cr}(ho:o.op= .nilCheck x){s':AS}(he:(match s.ev x with
  | .ptr id v p n=>Out.ok (s.put o.dst (.ptr id v p n))
  | .dz t y=> .ok (s.put o.dst (.dz t y))
  | .d (.qE t) y=> .get (y:Option t.den) λy=> .ok (s.put o.dst (.dz t y))
  | .d (.iv t) y=> .get (y:Option (Nat×t.den)) λy=> .ok (s.put o.dst (.dz t y.2))
  | .fn f c=> .ok (s.put o.dst (.fn f c))
  |_=> .fail).eval=av s'):il P o a w (ka C s'):=by
 have hx:=h.ev x;split at he
 ·rename_i id v p n hv;obtain rfl:=aD.1 he;rw[hv]at hx;obtain⟨ad,hy,_⟩:=Gw hx;exact h.value hx (by simp[execOp,ho,hy])
 ·rename_i t y hv;obtain rfl:=aD.1 he;rw[hv]at hx;obtain⟨b,off,vs,hy,_⟩:=pR hx;exact h.value hx (by simp[execOp,ho,hy])
 ·rename_i t y hv;obtain⟨z,e,he⟩:=og.1 he;subst e;obtain rfl:=aD.1 he;rw[hv]at hx;have hx:=TB hx;obtain⟨b,off,vs,hy,_⟩:=pR hx;exact h.value hx (by simp[execOp,ho,hy])
 ·rename_i t y hv;obtain⟨z,e,he⟩:=og.1 he;subst e;obtain rfl:=aD.1 he;rw[hv]at hx;have hx:=TO hx;obtain⟨b,off,vs,hy,_⟩:=pR hx;exact h.value hx (by simp[execOp,ho,hy])
 ·rename_i f c hv;obtain rfl:=aD.1 he;rw[hv]at hx;obtain⟨cs,hV,hO⟩:=hx.fD rfl;simp only[V]at hV;obtain⟨vs,e,hc⟩:=hV;have hO':cs=[a.eval x]:=hO;rw[e]at hO';have hy:a.eval x= .func (.func f) #[] vs.toArray:=by simpa using hO'.symm
  refine h.value (v:= .fn f c) ⟨cs,by simp only[V];exact⟨vs,e,hc⟩,hO⟩ (by simp[execOp,ho,hy])
 ·simp only[aG]at he
theorem asg{op:BinOp}{k k':lW}{x y:Int}{v:aN}(he:(aKI op k x k' y).eval=av v)(T:TypeId)(E:Env):
  ∃z,(binOp op T (.int k x) (.int k' y)).run P w= .ok z w/\VS E v z:=by
 unfold aKI at he;have same:∀(hk:decide (k=k')=bm),k=k':=λhk=>by simpa using hk
 cases op with
 |shl=>
  obtain⟨h1,h2⟩:=cW.1 he;obtain rfl:=aD.1 h2;have h1:¬y < 0:=by simpa using h1
  exact⟨_,by simp[binOp,Op.shift,h1],nE _ _⟩
 |shr=>
  obtain⟨h1,h2⟩:=cW.1 he;obtain rfl:=aD.1 h2;have h1:¬y < 0:=by simpa using h1
  exact⟨_,by simp[binOp,Op.shift,h1],nE _ _⟩
 |quo=>
  obtain⟨h1,h2⟩:=aR.1 he;obtain rfl:=same h1;obtain⟨h3,h4⟩:=cW.1 h2;obtain rfl:=aD.1 h4;have h3:y≠0:=by simpa using h3
  exact⟨_,by simp[binOp,Op.intDiv,h3],nE _ _⟩
 |rem=>
  obtain⟨h1,h2⟩:=aR.1 he;obtain rfl:=same h1;obtain⟨h3,h4⟩:=cW.1 h2;obtain rfl:=aD.1 h4;have h3:y≠0:=by simpa using h3
  exact⟨_,by simp[binOp,Op.intDiv,h3],nE _ _⟩
 |add | sub | mul=>
  obtain⟨h1,h2⟩:=aR.1 he;obtain rfl:=same h1;obtain rfl:=aD.1 h2;exact⟨_,by simp[binOp,Op.intArith],nE _ _⟩
 |and | or | xor | andNot=>
  obtain⟨h1,h2⟩:=aR.1 he;obtain rfl:=same h1;obtain rfl:=aD.1 h2;refine⟨_,?_,nE _ _⟩;unfold binOp Op.intBits;simp[cX]
 |eql | neq | lss | leq | gtr | geq=>
  obtain⟨h1,h2⟩:=aR.1 he;obtain rfl:=same h1;obtain rfl:=aD.1 h2;refine⟨_,?_,Io _⟩;simp[binOp,Op.intCmp]
theorem ava{op:BinOp}{x y:ByteArray}{v:aN}(he:(aOh op x y).eval=av v)(T:TypeId)(E:Env):
  ∃z,(binOp op T (.string x) (.string y)).run P w= .ok z w/\VS E v z:=by
 unfold aOh at he;cases op <;> simp only[aG]at he
 case add=>
  obtain⟨h1,h2⟩:=cW.1 he;obtain rfl:=aD.1 h2;have h1:¬((x.size+y.size:Nat):Int) > IntKind.i64.max:=by simpa using h1
  refine⟨.string (x++y),?_,avR _⟩;show(Op.stringOp .add x y).run P w=_;unfold Op.stringOp;simp only[h1,bC];rfl
 all_goals
  obtain rfl:=aD.1 he;exact⟨_,by simp[binOp,Op.stringOp],Io _⟩
theorem tN{op:BinOp}{T:TypeId}{x y:cr}{u v:Value}(h1:u≠ .nilIface)(h2:vm u=aZ):(eqGuard op T x y u v).run P w= .ok () w:=by
 unfold eqGuard;cases op <;> simp
 all_goals (cases u <;> simp_all [vm])
theorem Cd{T:TypeId}{b:Bool}(h:Q9 P T b=bm):∃i,P.info? T=av i/\∀w,(isAgg T).run P w= .ok b w:=by
 unfold Q9 at h;cases hu:P.underlying T with
 |none=>rw[hu]at h;cases h
 |some d=>
  obtain⟨i,hi⟩:=aBg hu;refine⟨i,hi,λw=> ?_⟩;rw[hu]at h;unfold isAgg;rw[cU,run_underlying hu w];cases d <;> simp at h <;> simp[h]
theorem AB{T:TypeId}{b:Bool}(h:Q9 P T b=bm){cs:List Value}{off n:Nat}(hn:P.cellsOf T=n)(hb:b=aZ->n=1)(hl:off+n<=cs.length):
  ∃y,(part T cs.toArray off).run P w= .ok y w/\gY b ((cs.drop off).take n) y:=by
 obtain⟨i,hi,arV⟩:=Cd h;rw[qP hi]at hn;unfold part;rw[cU,arV w];simp only[cm];cases b with
 |true=>
  refine⟨.agg ((cs.drop off).take n).toArray,?_,rfl⟩;simp only[bO,cU,run_sizeOf hi,cm,hn,eK];simp[List.extract_eq_take_drop]
 |false=>
  have h1:=hb rfl;subst h1;have fF:off < cs.length:=aq;refine⟨cs[off],?_,?_⟩
  ·simp[fF]
  ·show(cs.drop off).take 1=[cs[off]];rw[au fF,List.take_succ_cons,dD]
theorem AE{t:Ty}(h:t.agg=aZ):t.size=1:=by cases t <;> first | rfl | (simp[Ty.agg]at h)
theorem adF{α:Type}(f:α->α->Bool)(x y:α)(xs ys:List α):pC f (x::xs) (y::ys)=(f x y && pC f xs ys):=rfl
theorem adA{E:Env}(hE:E.w=w){T U:TypeId}(hT:P.underlying T=av (.pointer U))(hU:aRH P U=bm){t:Ty}(hn:t.aBv=bm){x y:(Ty.iv t).den}{cx cy:List Value}(hx:c9 E (.iv t) cx x)(hy:c9 E (.iv t) cy y){u v:Value}(hu:cx=[u])(hv:cy=[v]):
  (∃a,u= .pointer a)/\(∃b,v= .pointer b)/\∀d,(dG (d+1) T u v).run P w= .ok ((Ty.iv t).beq x y) w:=by
 unfold aRH at hU;split at hU <;> try (cases hU;done)
 rename_i i hi;have AL:i.size≠0:=by simpa using hU
 subst hu hv;have yes:u=v->(Ty.iv t).beq x y=bm:=λe=>by subst e;exact @lH _ ((Ty.iv t).aHN x y) (c9.uniq (t:= .iv t) (by simpa only[Ty.aBv]using hn) hx hy)
 have no:x≠y->(Ty.iv t).beq x y=aZ:=λe=> @hJ _ ((Ty.iv t).aHN x y) e
 simp only[c9]at hx hy;cases aEk:(x:Option (Nat×t.den)) with
 |none=>
  have e1:=hx.1 aEk;simp only[cR,eS]at e1;subst e1;cases aQC:(y:Option (Nat×t.den)) with
  |none=>
   have e2:=hy.1 aQC;simp only[cR,eS]at e2;subst e2;exact⟨⟨_,rfl⟩,⟨_,rfl⟩,λd=>by rw[aEk,aQC]at yes;rw[yes rfl];simp[dG,run_underlying hT]⟩
  |some b=>
   obtain⟨cb,Tb,vb,e2,hb,_⟩:=hy.2 b aQC;simp only[cR,eS]at e2;subst e2;exact⟨⟨_,rfl⟩,⟨_,rfl⟩,λd=>by rw[aEk,aQC]at no;rw[no (λe=>by cases e)];simp[dG,run_underlying hT]⟩
 |some a=>
  obtain⟨ca,Ta,va,e1,ha,_⟩:=hx.2 a aEk;simp only[cR,eS]at e1;subst e1;cases aQC:(y:Option (Nat×t.den)) with
  |none=>
   have e2:=hy.1 aQC;simp only[cR,eS]at e2;subst e2;exact⟨⟨_,rfl⟩,⟨_,rfl⟩,λd=>by rw[aEk,aQC]at no;rw[no (λe=>by cases e)];simp[dG,run_underlying hT]⟩
  |some b=>
   obtain⟨cb,Tb,vb,e2,hb,_⟩:=hy.2 b aQC;simp only[cR,eS]at e2;subst e2;refine⟨⟨_,rfl⟩,⟨_,rfl⟩,λd=> ?_⟩;rw[aEk,aQC]at yes no;by_cases ap4:a.1=b.1
   ·rw[yes (by rw[ap4])];simp[dG,run_underlying hT,run_sizeOf hi,AL,ap4,run_sameAddr_same]
   ·rw[no (λe=>ap4 (bW Prod.fst (bf e)))];have hd:=run_sameAddr_other (P:=P) w (a:=⟨a.1,0,aH⟩) (b:=⟨b.1,0,aH⟩) (by intro e;exact ap4 (bW Addr.block e)) (hE▸ha.2) (hE▸hb.2);simp[dG,run_underlying hT,run_sizeOf hi,AL,hd]
theorem y6(E:Env)(hE:E.w=w):∀(n:Nat) (T:TypeId) (t:Ty),vT P n T t=bm->∀(d:Nat),n<=d->∀(cx cy:List Value) (x y:t.den) (u v:Value),c9 E t cx x->c9 E t cy y->gY t.agg cx u->gY t.agg cy v->
  (dG d T u v).run P w= .ok (t.beq x y) w
 | 0,T,t,h,_,_,_,_,_,_,_,_,_,_,_,_=>by simp[vT]at h
 |n+1,T,t,h,0,hd,_,_,_,_,_,_,_,_,_,_=>aq
 |n+1,T,t,h,d+1,hd,cx,cy,x,y,u,v,hx,hy,hu,hv=>by
  simp only[vT]at h;split at h
  ·rename_i k k' hT;simp only[c9]at hx hy;have e1:cx=[u]:=hu;have e2:cy=[v]:=hv;rw[hx]at e1;rw[hy]at e2;simp only[cR,eS]at e1 e2;subst e1 e2;rw[run_equalIn_int w d T _ _ _ _ hT];rfl
  ·rename_i hT;simp only[c9]at hx hy;have e1:cx=[u]:=hu;have e2:cy=[v]:=hv;rw[hx]at e1;rw[hy]at e2;simp only[cR,eS]at e1 e2;subst e1 e2;rw[run_equalIn_bool' w d T _ _ hT];rfl
  ·rename_i hT;simp only[c9]at hx hy;have e1:cx=[u]:=hu;have e2:cy=[v]:=hv;rw[hx]at e1;rw[hy]at e2;simp only[cR,eS]at e1 e2;subst e1 e2;rw[run_equalIn_string w d T _ _ hT];rfl
  ·rename_i U t' hT;simp only[aw]at h;exact(adA hE hT h.1 h.2 hx hy hu hv).2.2 d
  ·rename_i m e m' t' hT;simp only[aw,eZ]at h;obtain⟨⟨⟨⟨rfl,aWs⟩,AL⟩,Sf⟩,B4⟩:=h;simp only[c9]at hx hy;obtain⟨aZH,aZt⟩:=hx;obtain⟨bb6,bbS⟩:=hy;have e1:u= .agg cx.toArray:=hu;have e2:v= .agg cy.toArray:=hv;subst e1 e2;obtain⟨i,hi,arV⟩:=Cd Sf;have hsz':=AL;rw[qP hi]at hsz';simp only[dG,cU,run_underlying hT,cm,run_sizeOf hi,hsz'];simp only[Std.Legacy.Range.forIn_eq_forIn_range'];have hm:([:m]:Std.Legacy.Range).size=m:=by simp[Std.Legacy.Range.size]
   rw[hm];have avH:∀c z,c9 E t' c z->c.length=t'.size:=λc z hz=>hz.size
   have bx:t'.agg=aZ->t'.size=1:=AE
   have key:∀(k:Nat) (x y:List t'.den) (j:Nat),x.length=k->y.length=k->bH (c9 E t') (cx.drop (j*t'.size)) x->bH (c9 E t') (cy.drop (j*t'.size)) y->
     (forIn (List.range' j k) ((aH,()):Option Bool×Unit) λi __s=>(do
      let __do_lift <-part e cx.toArray (i*t'.size)
      let __do_lift_1 <-part e cy.toArray (i*t'.size)
      let __do_lift <-dG d e __do_lift __do_lift_1
      if(!__do_lift)=bm then pure (ForInStep.done (av aZ,())) else pure (ForInStep.yield (aH,())):Sem (ForInStep (Option Bool×Unit)))).run P w= .ok (if pC t'.beq x y then aH else av aZ,()) w:=by
    intro k
    induction k with
    |zero=>
     intro x y j hx hy _ _;rw[List.length_eq_zero_iff.1 hx,List.length_eq_zero_iff.1 hy];rfl
    |succ k ih=>
     intro x y j hx hy hcx' hcy';cases x with
     |nil=>simp at hx
     |cons x0 xs=>
      cases y with
      |nil=>simp at hy
      |cons y0 ys=>
       have gx:=bH.get avH hcx' 0 (by simp);have gy:=bH.get avH hcy' 0 (by simp);simp only[pf,ay,List.getElem_cons_zero]at gx gy;have lenx:((cx.drop (j*t'.size)).take t'.size).length=t'.size:=gx.size;have leny:((cy.drop (j*t'.size)).take t'.size).length=t'.size:=gy.size;have We:t'.size≠0:=by simpa using aWs
       have aZD:j*t'.size+t'.size<=cx.length:=by simp only[bV,du]at lenx;omega
       have bb4:j*t'.size+t'.size<=cy.length:=by simp only[bV,du]at leny;omega
       obtain⟨ux,h1,o1⟩:=AB (w:=w) Sf AL bx (cs:=cx) (off:=j*t'.size) aZD;obtain⟨uy,h2,o2⟩:=AB (w:=w) Sf AL bx (cs:=cy) (off:=j*t'.size) bb4;have h3:=y6 E hE n e t' B4 d aq _ _ x0 y0 ux uy gx gy o1 o2;have nx:bH (c9 E t') (cx.drop ((j+1)*t'.size)) xs:=by have:=bH.drop avH 1 hcx';rw[gE]at this;simpa[fg]using this
       have ny:bH (c9 E t') (cy.drop ((j+1)*t'.size)) ys:=by have:=bH.drop avH 1 hcy';rw[gE]at this;simpa[fg]using this
       have:=ih xs ys (j+1) (by simpa using hx) (by simpa using hy) nx ny;rw[List.range'_succ,List.forIn_cons];simp only[cU,h1,h2,h3,cm,adF];rcases jw (t'.beq x0 y0) with hb | hb
       ·simp only[hb,bT,bG,bC,eK,cm,bM];exact this
       ·simp only[hb,dX,bO,eK,cm,dA,bG,bC]
   have:=key m x y 0 aZH bb6 (by simpa using aZt) (by simpa using bbS);rw[this];show _=Result.ok (pC t'.beq x y) w;cases pC t'.beq x y <;> rfl
  ·rename_i t0 _ _ fs hT;simp only[aw,di]at h;obtain⟨xZ,aUJ⟩:=h;have hF:P.fieldsOf T=fs:=by simp[Program.fieldsOf,hT]
   have hT':P.underlying T=av (.struct (P.fieldsOf T)):=by rw[hF];exact hT
   have key:∀(fl:List Field) (t:Ty) (off:Nat),QS P (vT P n) fl t off=bm->∀(x y:t.den),c9 E t (cx.drop off) x->c9 E t (cy.drop off) y->
     (Op.eqFields d cx.toArray cy.toArray fl).run P w= .ok (t.beq x y) w:=by
    intro fl
    induction fl with
    |nil=>
     intro t off hc x y _ _;cases t <;> first | (simp[QS]at hc;done) | rfl
    |cons f fl ih=>
     intro t off hc x y hx hy;cases t <;> first | (simp[QS]at hc;done) | skip
     rename_i ta tb;simp only[QS,aw,di,eZ,tq]at hc;obtain⟨⟨⟨⟨⟨⟨aZL,aQt⟩,hz⟩,AL⟩,Sf⟩,B4⟩,aKp⟩:=hc;simp only[c9]at hx hy;obtain⟨xa,xb,ex,aXJ,aZ4⟩:=hx;obtain⟨ya,yb,ey,bbu,bct⟩:=hy;have bx:ta.agg=aZ->ta.size=1:=AE;have lx:xa.length=ta.size:=aXJ.size;have ly:ya.length=ta.size:=bbu.size;have split:∀(cs xa xb:List Value),cs.drop off=xa++xb->xa.length=ta.size->(cs.drop off).take ta.size=xa/\cs.drop (off+ta.size)=xb/\off+ta.size<=cs.length:=by intro cs xa xb e l;refine⟨by rw[e];exact ml l,by rw[<-gE,e];exact mj l,?_⟩;have:=bW ae e;simp only[du,ak]at this;omega
     obtain⟨sx1,sx2,sx3⟩:=split cx xa xb ex lx;obtain⟨sy1,sy2,sy3⟩:=split cy ya yb ey ly;obtain⟨ux,h1,o1⟩:=AB (w:=w) Sf AL bx (cs:=cx) (off:=off) sx3;obtain⟨uy,h2,o2⟩:=AB (w:=w) Sf AL bx (cs:=cy) (off:=off) sy3;rw[sx1]at o1;rw[sy1]at o2;have h3:=y6 E hE n f.type ta B4 d aq _ _ x.1 y.1 ux uy aXJ bbu o1 o2;have h4:=ih tb (off+ta.size) aKp x.2 y.2 (by rw[sx2];exact aZ4) (by rw[sy2];exact bct);simp only[Op.eqFields,ne_eq,aZL,qz,bO,cU,aQt,h1,h2,h3,cm];show _=Result.ok (ta.beq x.1 y.1 && tb.beq x.2 y.2) w;rcases jw (ta.beq x.1 y.1) with hb | hb
     ·simp only[hb,bT,bG,bC,bM];exact h4
     ·simp[hb]
   have Sf:t0.agg=bm:=by cases hl:fs.toList <;> rw[hl]at aUJ <;> cases t0 <;> first | rfl | (simp[QS]at aUJ;done)
   rw[Sf]at hu hv;have e1:u= .agg cx.toArray:=hu;have e2:v= .agg cy.toArray:=hv;subst e1 e2;rw[run_equalIn_struct w d T _ _ hT' xZ,hF];exact key fs.toList t0 0 aUJ x y (by simpa using hx) (by simpa using hy)
  ·cases h
end
end Go.Ab
namespace Go.Ab
section
variable {P:bj} {C:Ctx} {g:Nat->qs} {β:Id->Option Pl} {s:AS} {a:Act} {w:cO} {o:Oper}
theorem aLD{E:Env}{v:aN}{y c:Value}(h:VS E v y)(hc:v.fD=bm)(ha:v.agg=aZ)(hV:∀cs,V E v cs->cs=[c]):y=c:=by have:=h.single hc ha;simpa using hV _ this
theorem E4{E:Env}{y:Value}(h:VS E .jW y):y= .pointer aH:=aLD h rfl rfl λcs hv=>by simpa only[V]using hv
theorem abN{E:Env}{y:Value}(h:VS E .AV y):y= .nilFunc:=aLD h rfl rfl λcs hv=>by simpa only[V]using hv
theorem arP{E:Env}{f:gC}{c:aN}{y:Value}(h:VS E (.fn f c) y):∃vs,y= .func (.func f) #[] vs.toArray/\VC E c vs:=by have h1:=h.single rfl rfl;simp only[V]at h1;obtain⟨vs,e,hc⟩:=h1;exact⟨vs,by simpa using e,hc⟩
theorem fh{T:TypeId}{u v:Value}{b:Bool}(h:∀d,(dG (d+1) T u v).run P w= .ok b w):(Op.equal T u v).run P w= .ok b w:=h 9999
theorem ac4{T:TypeId}{x y:aN}{u v:Value}{E:Env}(hx:VS E x u)(hy:VS E y v){b:Bool}(he:(B1 P T x y).eval=av b)(hE:E.w=w):
  (Op.equal T u v).run P w= .ok b w/\u≠ .nilIface/\(vm u=aZ\/(vm v=bm/\P.eqGuardType P.depth T=aZ))/\
   (∀op,binOp op T u v=(match op with | .eql=>do pure (.bool (<-Op.equal T u v)) | .neq=>do pure (.bool (!(<-Op.equal T u v))) | _=>binOp op T u v)):=by
 unfold B1 at he;split at he
 ·rename_i t x' t' y';obtain⟨y'',h1,h2⟩:=aC.1 he;obtain⟨e,h1⟩:=jN (jP.1 h1);obtain rfl:t'=t:=Ty.iv.inj e;simp only at h1;subst h1;obtain⟨h3,h4⟩:=aR.1 h2;obtain rfl:=aD.1 h4;simp only[aw]at h3;obtain⟨h1,hn⟩:=h3;unfold aXO at h1;split at h1 <;> try (cases h1;done)
  rename_i U hT;obtain⟨cx,hVx,hOx⟩:=hx.fD rfl;obtain⟨cy,hVy,hOy⟩:=hy.fD rfl;simp only[V]at hVx hVy;obtain⟨⟨_,rfl⟩,⟨_,rfl⟩,hr⟩:=adA hE hT h1 hn hVx hVy hOx hOy;exact⟨fh hr,by simp,.inl rfl,λop=>by cases op <;> rfl⟩
 ·rename_i t x' t' y' _;obtain⟨y'',h1,h2⟩:=aC.1 he;obtain⟨rfl,h1⟩:=jN (jP.1 h1);simp only at h1;subst h1;obtain⟨h3,h4⟩:=aR.1 h2;obtain rfl:=aD.1 h4;simp only[aw,iT,di,bt]at h3;obtain⟨h3,h5⟩:=h3;obtain⟨cx,hVx,hOx⟩:=hx.fD rfl;obtain⟨cy,hVy,hOy⟩:=hy.fD rfl;simp only[V]at hVx hVy;have hr:=y6 (w:=w) E hE depth T t' h5 10000 eX cx cy x' y' u v hVx hVy hOx hOy;refine⟨hr,?_⟩;rcases h3 with⟨Sf,bbY⟩ | rfl
  ·have hOx':gY t'.agg cx u:=hOx;have hOy':gY t'.agg cy v:=hOy;rw[Sf]at hOx' hOy';have e1:u= .agg cx.toArray:=hOx';have e2:v= .agg cy.toArray:=hOy';subst e1 e2;exact⟨by simp,.inr ⟨rfl,bbY⟩,λop=>by cases op <;> rfl⟩
  ·simp only[c9]at hVx hVy;have e1:cx=[u]:=hOx;have e2:cy=[v]:=hOy;rw[hVx]at e1;rw[hVy]at e2;simp only[cR,eS]at e1 e2;subst e1 e2;exact⟨by simp,.inl rfl,λop=>by cases op <;> rfl⟩
 ·obtain⟨h1,h2⟩:=aR.1 he;obtain rfl:=aD.1 h2;rw[mX hx,mX hy];unfold B1.isSl at h1;split at h1 <;> try (cases h1;done)
  rename_i e hT;exact⟨fh λd=>by simp[dG,run_underlying hT],by simp,.inl rfl,λop=>by cases op <;> rfl⟩
 ·obtain⟨h1,h2⟩:=aR.1 he;obtain⟨h3,h4⟩:=cW.1 h2;obtain rfl:=aD.1 h4;obtain⟨ad,cap,vs,rfl,_,hs,_⟩:=xL hx;rw[mX hy];have hs:=hs (by simpa using h3);obtain⟨ad',rfl⟩:=bZ.1 hs;unfold B1.isSl at h1;split at h1 <;> try (cases h1;done)
  rename_i e hT;exact⟨fh λd=>by simp[dG,run_underlying hT],by simp,.inl rfl,λop=>by cases op <;> rfl⟩
 ·obtain⟨h1,h2⟩:=aR.1 he;obtain⟨h3,h4⟩:=cW.1 h2;obtain rfl:=aD.1 h4;obtain⟨ad,cap,vs,rfl,_,hs,_⟩:=xL hy;rw[mX hx];have hs:=hs (by simpa using h3);obtain⟨ad',rfl⟩:=bZ.1 hs;unfold B1.isSl at h1;split at h1 <;> try (cases h1;done)
  rename_i e hT;exact⟨fh λd=>by simp[dG,run_underlying hT],by simp,.inl rfl,λop=>by cases op <;> rfl⟩
 ·obtain⟨h1,h2⟩:=aR.1 he;obtain⟨h3,h4⟩:=cW.1 h2;obtain rfl:=aD.1 h4;obtain⟨ad,cap,rfl,_,hs,_⟩:=zQ hx;rw[mX hy];have hs:=hs (by simpa using h3);obtain⟨ad',rfl⟩:=bZ.1 hs;unfold B1.isSl at h1;split at h1 <;> try (cases h1;done)
  rename_i e hT;exact⟨fh λd=>by simp[dG,run_underlying hT],by simp,.inl rfl,λop=>by cases op <;> rfl⟩
 ·obtain⟨h1,h2⟩:=aR.1 he;obtain⟨h3,h4⟩:=cW.1 h2;obtain rfl:=aD.1 h4;obtain⟨ad,cap,rfl,_,hs,_⟩:=zQ hy;rw[mX hx];have hs:=hs (by simpa using h3);obtain⟨ad',rfl⟩:=bZ.1 hs;unfold B1.isSl at h1;split at h1 <;> try (cases h1;done)
  rename_i e hT;exact⟨fh λd=>by simp[dG,run_underlying hT],by simp,.inl rfl,λop=>by cases op <;> rfl⟩
 ·obtain⟨h1,h2⟩:=aR.1 he;obtain rfl:=aD.1 h2;rw[E4 hx,E4 hy];unfold B1.isPt at h1;split at h1 <;> try (cases h1;done)
  rename_i e hT;exact⟨fh λd=>by simp[dG,run_underlying hT],by simp,.inl rfl,λop=>by cases op <;> rfl⟩
 ·obtain⟨h1,h2⟩:=aR.1 he;obtain rfl:=aD.1 h2;obtain⟨ad,rfl,_⟩:=Gw hx;rw[E4 hy];unfold B1.isPt at h1;split at h1 <;> try (cases h1;done)
  rename_i e hT;exact⟨fh λd=>by simp[dG,run_underlying hT],by simp,.inl rfl,λop=>by cases op <;> rfl⟩
 ·obtain⟨h1,h2⟩:=aR.1 he;obtain rfl:=aD.1 h2;obtain⟨ad,rfl,_⟩:=Gw hy;rw[E4 hx];unfold B1.isPt at h1;split at h1 <;> try (cases h1;done)
  rename_i e hT;exact⟨fh λd=>by simp[dG,run_underlying hT],by simp,.inl rfl,λop=>by cases op <;> rfl⟩
 ·rename_i t q;obtain⟨h1,h2⟩:=aR.1 he;obtain rfl:=aD.1 h2;unfold B1.isPt at h1;split at h1 <;> try (cases h1;done)
  rename_i e hT;rw[E4 hy];cases q with
  |none=>
   rw[akd hx];exact⟨fh λd=>by simp[dG,run_underlying hT],by simp,.inl rfl,λop=>by cases op <;> rfl⟩
  |some z=>
   obtain⟨b,off,vs,rfl,_⟩:=pR (TB hx);exact⟨fh λd=>by simp[dG,run_underlying hT],by simp,.inl rfl,λop=>by cases op <;> rfl⟩
 ·rename_i t q;obtain⟨h1,h2⟩:=aR.1 he;obtain rfl:=aD.1 h2;unfold B1.isPt at h1;split at h1 <;> try (cases h1;done)
  rename_i e hT;rw[E4 hx];cases q with
  |none=>
   rw[akd hy];exact⟨fh λd=>by simp[dG,run_underlying hT],by simp,.inl rfl,λop=>by cases op <;> rfl⟩
  |some z=>
   obtain⟨b,off,vs,rfl,_⟩:=pR (TB hy);exact⟨fh λd=>by simp[dG,run_underlying hT],by simp,.inl rfl,λop=>by cases op <;> rfl⟩
 ·rename_i t q;obtain⟨h1,h2⟩:=aR.1 he;obtain rfl:=aD.1 h2;unfold B1.isPt at h1;split at h1 <;> try (cases h1;done)
  rename_i e hT;rw[E4 hy];cases q with
  |none=>
   rw[akj hx];exact⟨fh λd=>by simp[dG,run_underlying hT],by simp,.inl rfl,λop=>by cases op <;> rfl⟩
  |some z=>
   obtain⟨b,off,vs,rfl,_⟩:=pR (TO hx);exact⟨fh λd=>by simp[dG,run_underlying hT],by simp,.inl rfl,λop=>by cases op <;> rfl⟩
 ·rename_i t q;obtain⟨h1,h2⟩:=aR.1 he;obtain rfl:=aD.1 h2;unfold B1.isPt at h1;split at h1 <;> try (cases h1;done)
  rename_i e hT;rw[E4 hx];cases q with
  |none=>
   rw[akj hy];exact⟨fh λd=>by simp[dG,run_underlying hT],by simp,.inl rfl,λop=>by cases op <;> rfl⟩
  |some z=>
   obtain⟨b,off,vs,rfl,_⟩:=pR (TO hy);exact⟨fh λd=>by simp[dG,run_underlying hT],by simp,.inl rfl,λop=>by cases op <;> rfl⟩
 ·obtain⟨h1,h2⟩:=aR.1 he;obtain rfl:=aD.1 h2;rw[abN hx,abN hy];unfold B1.isFn at h1;split at h1 <;> try (cases h1;done)
  rename_i hT;exact⟨fh λd=>by simp[dG,run_underlying hT],by simp,.inl rfl,λop=>by cases op <;> rfl⟩
 ·obtain⟨h1,h2⟩:=aR.1 he;obtain rfl:=aD.1 h2;obtain⟨vs,rfl,_⟩:=arP hx;rw[abN hy];unfold B1.isFn at h1;split at h1 <;> try (cases h1;done)
  rename_i hT;exact⟨fh λd=>by simp[dG,run_underlying hT],by simp,.inl rfl,λop=>by cases op <;> rfl⟩
 ·obtain⟨h1,h2⟩:=aR.1 he;obtain rfl:=aD.1 h2;obtain⟨vs,rfl,_⟩:=arP hy;rw[abN hx];unfold B1.isFn at h1;split at h1 <;> try (cases h1;done)
  rename_i hT;exact⟨fh λd=>by simp[dG,run_underlying hT],by simp,.inl rfl,λop=>by cases op <;> rfl⟩
 ·simp only[aG]at he
theorem arH{op:BinOp}{T:TypeId}{x y:cr}{u v:Value}(hu:vm u=bm)(hv:vm v=bm)(hm:P.eqGuardType P.depth T=aZ):(eqGuard op T x y u v).run P w= .ok () w:=by
 cases u <;> first | (simp[vm]at hu;done) | skip
 cases v <;> first | (simp[vm]at hv;done) | skip
 exact run_eqGuard_agg w op T x y _ _ hm
theorem av4(h:Inv C g β s a w){op:BinOp}{T U:TypeId}{x y:cr}(ho:o.op= .binOp op T x y U){v:aN}(he:(aT6 P T op (s.ev x) (s.ev y)).eval=av v):il P o a w (ka C (s.put o.dst v)):=by
 have hx:=h.ev x;have hy:=h.ev y;have fin:∀z,(binOp op T (a.eval x) (a.eval y)).run P w= .ok z w->(eqGuard op T x y (a.eval x) (a.eval y)).run P w= .ok () w->VS (s.env w g β) v z->il P o a w (ka C (s.put o.dst v)):=by
  intro z h1 h2 h3;refine h.value h3 ?_
  simp[execOp,ho,h1,h2]
 unfold aT6 at he;split at he
 ·rename_i k n k' m hn hm;rw[hn]at hx;rw[hm]at hy;have e1:=AT hx;have e2:=AT hy;obtain⟨z,h1,h2⟩:=asg (P:=P) (w:=w) he T (s.env w g β);exact fin z (by rw[e1,e2];exact h1) (by rw[e1,e2];exact tN (by simp) rfl) h2
 ·rename_i n m hn hm;rw[hn]at hx;rw[hm]at hy;have e1:=Nu hx;have e2:=Nu hy;obtain⟨z,h1,h2⟩:=ava (P:=P) (w:=w) he T (s.env w g β);exact fin z (by rw[e1,e2];exact h1) (by rw[e1,e2];exact tN (by simp) rfl) h2
 ·have grd:(vm (a.eval x)=aZ\/(vm (a.eval y)=bm/\P.eqGuardType P.depth T=aZ))->a.eval x≠ .nilIface->(eqGuard op T x y (a.eval x) (a.eval y)).run P w= .ok () w:=by
   intro hh jk;rcases hh with hh | ⟨hh,hm⟩
   ·exact tN jk hh
   ·rcases jw (vm (a.eval x)) with hx | hx
    ·exact arH hx hh hm
    ·exact tN jk hx
  split at he
  ·obtain⟨b,h1,h2⟩:=aC.1 he;obtain rfl:=aD.1 h2;obtain⟨q1,q2,q3,q4⟩:=ac4 (w:=w) hx hy h1 rfl;refine fin (.bool b) ?_ (grd q3 q2) (Io b)
   rw[q4 .eql];simp[q1]
  ·obtain⟨b,h1,h2⟩:=aC.1 he;obtain rfl:=aD.1 h2;obtain⟨q1,q2,q3,q4⟩:=ac4 (w:=w) hx hy h1 rfl;refine fin (.bool (!b)) ?_ (grd q3 q2) (Io (!b))
   rw[q4 .neq];simp[q1]
  ·simp only[aG]at he
theorem aHD(h:Inv C g β s a w){op:UnOp}{T:TypeId}{x:cr}(ho:o.op= .unOp op T x){v:aN}(he:(aYW op (s.ev x)).eval=av v):il P o a w (ka C (s.put o.dst v)):=by
 have hx:=h.ev x;unfold aYW at he;split at he
 ·rename_i b hb;rw[hb]at hx;obtain rfl:=aD.1 he;exact h.value (Io _) (by simp[execOp,ho,abx hx,Op.unary])
 ·rename_i k n hb;rw[hb]at hx;obtain rfl:=aD.1 he;exact h.value (nE _ _) (by simp[execOp,ho,AT hx,Op.unary,Op.intArith])
 ·rename_i k n hb;rw[hb]at hx;obtain rfl:=aD.1 he;refine h.value (nE _ _) ?_
  simp only[execOp,ho,AT hx,Op.unary,Op.intBits];simp[cX]
 ·simp only[aG]at he
end
end Go.Ab
namespace Go.Ab
section
variable {P:bj} {C:Ctx} {g:Nat->qs} {β:Id->Option Pl} {s:AS} {a:Act} {w:cO} {o:Oper}
theorem Df{E:Env}{v:aN}{y:Value}(h:VS E v y){n:Int}(he:(asInt v).eval=av n):∃k,y= .int k n:=by
 unfold asInt at he;split at he
 ·rename_i k m;obtain rfl:=aD.1 he;exact⟨k,AT h⟩
 ·simp only[aG]at he
theorem C7{k:lW}{i:Int}{y:Nat}(code:BoundsCode)(h:0<=i/\i<=(y:Int)):(Instr.sliceBound (.int k i) y code).run P w= .ok i.toNat w:=run_sliceBound w k i y code h.1 h.2
theorem BF(h:Inv C g β s a w){n cap:Nat}(hn:n<=cap){lo hi:Option cr}{r:Nat×Nat}(he:(bounds s n lo hi).eval=av r)(isS:Bool){mx:Option Value}{cap':Nat}
  (hm:(mx=aH/\cap'=cap)\/∃k mv,hi.isSome=bm/\mx=av (.int k mv)/\(r.2:Int)<=mv/\mv<=n/\cap'=mv.toNat):
  (Instr.sliceBounds isS n cap (lo.map a.eval) (hi.map a.eval) mx).run P w= .ok (r.1,r.2,cap') w/\r.1<=r.2/\r.2<=n:=by
 unfold bounds at he;obtain⟨hh,h1,h2⟩:=aC.1 he;obtain⟨ll,h3,h4⟩:=aC.1 h2;obtain rfl:=aD.1 h4;have aXj:hh<=n/\∀y,hi.map a.eval=av y->∃k i,y= .int k i/\0<=i/\i<=(n:Int)/\hh=i.toNat:=by
  cases hi with
  |none=>
   simp only at h1;obtain rfl:=aD.1 h1;exact⟨az _,λy hy=>by cases hy⟩
  |some x=>
   simp only at h1;obtain⟨i,q1,q2⟩:=aC.1 h1;obtain⟨q3,q4⟩:=cW.1 q2;obtain rfl:=aD.1 q4;simp only[bt]at q3;obtain⟨k,hk⟩:=Df (h.ev x) q1;refine⟨aq,λy hy=> ?_⟩;simp only[eN,ax]at hy;exact⟨k,i,by rw[<-hy];exact hk,q3.1,q3.2,rfl⟩
 have aUM:hi.map a.eval=aH->hh=n:=by
  intro hy;cases hi with
  |none=>simp only at h1;exact(aD.1 h1).symm
  |some x=>cases hy
 have lo1:ll<=hh/\∀y,lo.map a.eval=av y->∃k i,y= .int k i/\0<=i/\i<=(hh:Int)/\ll=i.toNat:=by
  cases lo with
  |none=>
   simp only at h3;obtain rfl:=aD.1 h3;exact⟨aL _,λy hy=>by cases hy⟩
  |some x=>
   simp only at h3;obtain⟨i,q1,q2⟩:=aC.1 h3;obtain⟨q3,q4⟩:=cW.1 q2;obtain rfl:=aD.1 q4;simp only[bt]at q3;obtain⟨k,hk⟩:=Df (h.ev x) q1;refine⟨aq,λy hy=> ?_⟩;simp only[eN,ax]at hy;exact⟨k,i,by rw[<-hy];exact hk,q3.1,q3.2,rfl⟩
 have lo0:lo.map a.eval=aH->ll=0:=by
  intro hy;cases lo with
  |none=>simp only at h3;exact(aD.1 h3).symm
  |some x=>cases hy
 refine⟨?_,lo1.1,aXj.1⟩;unfold Instr.sliceBounds;rcases hm with⟨rfl,rfl⟩ | ⟨k2,mv,hs,rfl,bbj,bb7,rfl⟩
 ·cases aYC:hi.map a.eval with
  |none=>
   obtain rfl:=aUM aYC;cases abF:lo.map a.eval with
   |none=>
    obtain rfl:=lo0 abF;rfl
   |some y=>
    obtain⟨k,i,rfl,q1,q2,rfl⟩:=lo1.2 y abF;simp only[cU,eK,cm,C7 _ ⟨q1,q2⟩]
  |some z=>
   obtain⟨k',i',rfl,p1,p2,rfl⟩:=aXj.2 z aYC;have hb:∀code,(Instr.sliceBound (.int k' i') cap' code).run P w= .ok i'.toNat w:=λcode=>C7 code ⟨p1,aq⟩
   cases abF:lo.map a.eval with
   |none=>
    obtain rfl:=lo0 abF;simp only[cU,eK,cm,hb]
   |some y=>
    obtain⟨k,i,rfl,q1,q2,rfl⟩:=lo1.2 y abF;simp only[cU,eK,cm,hb,C7 _ ⟨q1,q2⟩]
 ·cases aYC:hi.map a.eval with
  |none=>cases hi <;> simp_all
  |some z=>
   obtain⟨k',i',rfl,p1,p2,rfl⟩:=aXj.2 z aYC;have bbj:((i'.toNat:Nat):Int)<=mv:=bbj;have h0:∀code,(Instr.sliceBound (.int k2 mv) cap code).run P w= .ok mv.toNat w:=λcode=>C7 code ⟨aq,aq⟩
   have hb:∀code,(Instr.sliceBound (.int k' i') mv.toNat code).run P w= .ok i'.toNat w:=λcode=>C7 code ⟨p1,aq⟩
   cases abF:lo.map a.eval with
   |none=>
    obtain rfl:=lo0 abF;simp only[cU,eK,cm,hb,h0]
   |some y=>
    obtain⟨k,i,rfl,q1,q2,rfl⟩:=lo1.2 y abF;simp only[cU,eK,cm,hb,h0,C7 _ ⟨q1,q2⟩]
theorem qY{T:TypeId}{z:Nat}(h1:mN P T=av z)(h2:Bl P T=aH):∃e,P.underlying T=av (.slice e)/\P.cellsOf e=z/\0 < z:=by
 unfold mN at h1;unfold Bl at h2;split at h1
 ·rename_i n e hT;rw[hT]at h2;cases h2
 ·rename_i e hT;cases hc:P.cellsOf e with
  |zero=>rw[hc]at h1;cases h1
  |succ k=>
   rw[hc]at h1;simp only[ax]at h1;exact⟨e,hT,aq,aq⟩
 ·cases h1
theorem BY{T:TypeId}{z n:Nat}(h1:mN P T=av z)(h2:Bl P T=av n):∃e,P.underlying T=av (.array n e)/\P.cellsOf e=z/\0 < z:=by
 unfold mN at h1;unfold Bl at h2;split at h1
 ·rename_i n e hT;rw[hT]at h2;simp only[ax]at h2;subst h2;cases hc:P.cellsOf e with
  |zero=>rw[hc]at h1;cases h1
  |succ k=>
   rw[hc]at h1;simp only[ax]at h1;exact⟨e,hT,aq,aq⟩
 ·rename_i e hT;rw[hT]at h2;cases h2
 ·cases h1
theorem rN{e:TypeId}{z:Nat}(h:P.cellsOf e=z)(hz:0 < z)(w:cO):(sizeOf e).run P w= .ok z w:=by
 unfold Program.cellsOf at h;cases hi:P.info? e with
 |none=>rw[hi]at h;simp at h;omega
 |some i=>rw[hi]at h;rw[run_sizeOf hi];simpa using h
set_option maxHeartbeats 1000000 in
theorem agP(h:Inv C g β s a w){T:TypeId}{x:cr}{lo hi mx:Option cr}(ho:o.op= .slice T x lo hi mx)
  (hm:mx=aH\/∃m y hv mv,mx=av m/\hi=av y/\(asInt (s.ev y)).eval=av hv/\(asInt (s.ev m)).eval=av mv/\0<=hv/\hv<=mv/\mv<=aQU (s.ev x))
  {v:aN} (he:(Nr P s T (s.ev x) lo hi).eval=av v):il P o a w (ka C (s.put o.dst (ary mx v))):=by
 have hx:=h.ev x;have fin:∀z,(Instr.sliceAt T (a.eval x) (lo.map a.eval) (hi.map a.eval) (mx.map a.eval)).run P w= .ok z w->VS (s.env w g β) (ary mx v) z->il P o a w (ka C (s.put o.dst (ary mx v))):=by intro z h1 h2;exact h.value h2 (fE (f:=Instr.sliceAt T (a.eval x) (lo.map a.eval) (hi.map a.eval) (mx.map a.eval)) (by simp only[execOp,ho]) h1)
 have no:∀ {q:Prop},aQU (s.ev x)= -1->(mx=aH->q)->q:=by
  intro q h1 h2;rcases hm with h3 | ⟨_,_,hv,mv,_,_,_,_,h3,h4,h5⟩
  ·exact h2 h3
  ·omega
 have sl:∀(e:TypeId) (z:Nat) (ad:Option Addr) (len cap:Nat) (b:Nat×Nat),aQU (s.ev x)=(len:Int)->P.underlying T=av (.slice e)->P.cellsOf e=z->0 < z->a.eval x= .slice ad len cap->len<=cap->(bounds s len lo hi).eval=av b->
   ∃cap',(Instr.sliceAt T (a.eval x) (lo.map a.eval) (hi.map a.eval) (mx.map a.eval)).run P w= .ok (.slice (if cap'=b.1 then ad else ad.map (·.add (b.1*z))) (b.2 - b.1) (cap' - b.1)) w/\b.1<=b.2/\b.2<=len/\b.2<=cap'/\cap'<=cap/\(mx=aH->cap'=cap):=by
  intro e z ad len cap b hL hT hz vi hy aO1 hb;rcases hm with rfl | ⟨m,y,hv,mv,rfl,rfl,q1,q2,q3,q4,q5⟩
  ·obtain⟨h1,h2,h3⟩:=BF (P:=P) h aO1 hb bm (.inl ⟨rfl,rfl⟩);refine⟨cap,?_,h2,h3,aq,az _,λ_=>rfl⟩;rw[hy];simp[Instr.sliceAt,Instr.slice,run_underlying hT,h1,rN hz vi]
  ·obtain⟨k,hk⟩:=Df (h.ev m) q2;have AR:(b.2:Int)<=mv:=by obtain⟨hh,h1,h2⟩:=aC.1 hb;obtain⟨i,r1,r2⟩:=aC.1 h1;obtain⟨r3,r4⟩:=cW.1 r2;obtain rfl:=aD.1 r4;obtain⟨ll,_,h4⟩:=aC.1 h2;obtain rfl:=aD.1 h4;rw[q1]at r1;obtain rfl:=bf r1;show((hv.toNat:Nat):Int)<=mv;omega
   obtain⟨h1,h2,h3⟩:=BF (P:=P) h aO1 hb bm (mx:=av (.int k mv)) (cap':=mv.toNat) (.inr ⟨k,mv,rfl,rfl,AR,aq,rfl⟩);refine⟨mv.toNat,?_,h2,h3,aq,aq,λh=>by cases h⟩;rw[hy,eN (a:=m),hk];simp[Instr.sliceAt,Instr.slice,run_underlying hT,rN hz vi];simp only[eN]at h1;simp[h1]
 have ar:∀(e:TypeId) (z n:Nat) (ad:Addr) (b:Nat×Nat),mx=aH->P.underlying T=av (.array n e)->P.cellsOf e=z->0 < z->a.eval x= .pointer (av ad)->(bounds s n lo hi).eval=av b->
   (Instr.sliceAt T (a.eval x) (lo.map a.eval) (hi.map a.eval) (mx.map a.eval)).run P w= .ok (.slice (av (if n=b.1 then ad else ad.add (b.1*z))) (b.2 - b.1) (n - b.1)) w/\b.1<=b.2/\b.2<=n:=by
  intro e z n ad b hN hT hz vi hy hb;obtain⟨h1,h2,h3⟩:=BF (P:=P) h (az n) hb aZ (.inl ⟨rfl,rfl⟩);refine⟨?_,h2,h3⟩;rw[hy,hN];simp[Instr.sliceAt,Instr.sureAddr,run_underlying hT,h1,rN hz vi]
 have cutR:∀(t:Ty) (z:Nat) (ad ad':Option Addr) (len' cap':Nat) (vs:List Value) (l:List t.den) (b:Nat×Nat),z=t.size->Bi (s.env w g β) ad vs->bH (c9 (s.env w g β) t) vs l->b.1<=b.2->b.2<=l.length->
   (∀bb off,ad=av ⟨bb,off,aH⟩->b.1 < b.2->ad'=av ⟨bb,off+b.1*z,aH⟩)->(b.1 < b.2->ad'.isSome=bm)->len'=b.2 - b.1->len'<=cap'->VS (s.env w g β) (.d (.slice t) (cut l b.1 (b.2 - b.1))) (.slice ad' len' cap'):=by
  intro t z ad ad' len' cap' vs l b hz hr hc h1 h2 aZm w6 hlen hle;subst hz hlen;have aHP:(cut l b.1 (b.2 - b.1)).length=b.2 - b.1:=IG aq;refine⟨_,?_,rfl⟩;simp only[V,c9];refine⟨ad',cap',(vs.drop (b.1*t.size)).take ((b.2 - b.1)*t.size),by rw[aHP],aq,by rw[aHP];intro hp;exact w6 aq,?_,Qw hc b.1 _⟩;intro i v hi;rw[dY]at hi;split at hi
  ·rename_i bb0;rw[fW]at hi;obtain⟨bb,off,e,hh⟩:=hr _ v hi;have fF:b.1 < b.2:=by
    rcases r0 b.1 b.2 with h' | h'
    ·exact h'
    ·rw[lZ h',pf]at bb0;omega
   exact⟨bb,_,aZm bb off e fF,by rw[fB];exact hh⟩
  ·cases hi
 unfold Nr at he;split at he
 ·rename_i st xZ;rw[xZ]at hx;have e1:=Nu hx;obtain⟨h1,h2⟩:=aR.1 he;obtain⟨b,h3,h4⟩:=aC.1 h2;obtain rfl:=aD.1 h4;split at h1 <;> try (cases h1;done)
  rename_i hT;obtain⟨q1,q2,q3⟩:=BF (P:=P) h (az _) h3 aZ (.inl ⟨rfl,rfl⟩);refine no (by rw[xZ];rfl) λhN=> ?_
  subst hN;refine fin (.string (st.extract b.1 b.2)) ?_ (avR _)
  rw[e1];simp[Instr.sliceAt,Instr.slice,run_underlying hT,q1]
 ·rename_i t l hl;rw[hl]at hx;obtain⟨ad,cap,vs,hy,aO1,w6,vj,B4⟩:=xL hx;obtain⟨h1,h2⟩:=aR.1 he;obtain⟨b,h3,h4⟩:=aC.1 h2;obtain rfl:=aD.1 h4;split at h1 <;> try (cases h1;done)
  rename_i z We TK;obtain⟨e,hT,hz,vi⟩:=qY We TK;have aEm:z=t.size:=by simpa using h1
  obtain⟨cap',q1,q2,q3,q4,_,_⟩:=sl e z ad _ cap b (by rw[hl];rfl) hT hz vi hy aO1 h3;refine fin _ q1 ?_
  rw[show ary mx (.d (.slice t) (cut l b.1 (b.2 - b.1)))= .d (.slice t) (cut l b.1 (b.2 - b.1)) by cases mx <;> rfl];refine cutR t z ad _ _ _ vs l b aEm vj B4 q2 q3 ?_ ?_ rfl aq
  ·intro bb off e1 fF;rw[if_neg aq,e1];simp[Addr.add_lit]
  ·intro fF;rw[if_neg aq];have:=w6 aq;cases ad <;> simp_all
 ·rename_i hl;rw[hl]at hx;have hy:=mX hx;obtain⟨h1,h2⟩:=aR.1 he;obtain⟨b,h3,h4⟩:=aC.1 h2;obtain rfl:=aD.1 h4;split at h1 <;> try (cases h1;done)
  rename_i z We TK;obtain⟨e,hT,hz,vi⟩:=qY We TK;obtain⟨cap',q1,q2,q3,q4,q6,q5⟩:=sl e z aH 0 0 b (by rw[hl];rfl) hT hz vi hy (az _) h3;have Wc:b.1=0:=aq;have AR:b.2=0:=aq;have abE:cap'=0:=aq;refine fin _ q1 ?_
  rw[show ary mx .dJ= .dJ by cases mx <;> rfl,Wc,AR,abE];exact⟨_,by simp[V],rfl⟩
 ·rename_i id ver p c i len hl;rw[hl]at hx;obtain⟨ad,cap,hy,aO1,w6,adj,im⟩:=zQ hx;obtain⟨r,aUU,he⟩:=aC.1 he;obtain⟨h1,h2⟩:=aR.1 he;obtain⟨b,h3,h4⟩:=aC.1 h2;obtain rfl:=aD.1 h4;split at h1 <;> try (cases h1;done)
  rename_i z We TK;obtain⟨e,hT,hz,vi⟩:=qY We TK;have aEm:z=r.2.1.size:=by simpa using h1
  obtain⟨cap',q1,q2,q3,q4,q6,q5⟩:=sl e z ad _ cap b (by rw[hl];rfl) hT hz vi hy aO1 h3;obtain⟨p',aZQ,YT⟩:∃p',ary mx (.bU id ver p (c+b.1*r.2.1.size) (i+b.1) (b.2 - b.1))= .bU id ver p' (c+b.1*r.2.1.size) (i+b.1) (b.2 - b.1)/\(p'=[]->p=[]/\mx=aH):=by
   cases mx with
   |none=>exact⟨p,rfl,λh=>⟨h,rfl⟩⟩
   |some m=>exact⟨p++ [.arr],rfl,λh=>by simp at h⟩
  refine fin _ q1 ?_
  rw[aZQ];refine⟨_,?_,rfl⟩;simp only[V];refine⟨_,_,rfl,aq,?_,adj,λhc=> ?_⟩
  ·intro fF;rw[if_neg aq];have:=w6 aq;cases ad <;> simp_all
  ·have im:=im hc;cases hp:β id with
   |none=>
    have hp':(s.env w g β).β id=aH:=hp;rw[hp']at im ⊢;simp only at im ⊢;obtain⟨rfl,rfl,rfl⟩:=im;have abE:cap'=0:=aq;refine⟨by simp,aq,aq⟩
   |some pl=>
    have hp':(s.env w g β).β id=av pl:=hp;rw[hp']at im ⊢;simp only at im ⊢;refine⟨λhh=> ?_,λaZS aUM=> ?_⟩
    ·by_cases aUH:cap'=b.1
     ·rw[if_pos aUH];have aYv:b.1=0:=aq;rw[aYv,pf,cD];exact im.1 (.inr aq)
     ·rw[if_neg aUH,im.1 aq,<-aEm];simp[Addr.add_lit]
    ·obtain⟨e1,e2⟩:=YT aZS;have:=im.2 e1 aq;have:=q5 e2;omega
 ·rename_i id ver p n hl;rw[hl]at hx;obtain⟨ad,hy,adj,im⟩:=Gw hx;obtain⟨r,aUU,he⟩:=aC.1 he;obtain⟨h1,h2⟩:=aR.1 he;obtain⟨h5,h6⟩:=cW.1 h2;obtain⟨b,h3,h4⟩:=aC.1 h6;obtain rfl:=aD.1 h4;split at h1 <;> try (cases h1;done)
  rename_i z m We TK;obtain⟨e,hT,hz,vi⟩:=BY We TK;have aEm:z=r.2.1.size:=by simpa using h1
  rw[TK,ed]at h3;refine no (by rw[hl];rfl) λhN=> ?_
  obtain⟨q1,q2,q3⟩:=ar e z m ad b hN hT hz vi hy h3;subst hN;obtain⟨fr,c0,dQ,_⟩:=XU rfl h.cg aUU;obtain⟨pl,hp,aEa⟩:=im ⟨fr,c0,dQ⟩;refine fin _ q1 ⟨_,?_,rfl⟩;simp only[ary,V];refine⟨_,_,rfl,aq,λ_=>rfl,adj,λ_=> ?_⟩;rw[hp];simp only;refine⟨λhh=> ?_,λaZS=>by simp at aZS⟩;rw[aEa];by_cases aUH:m=b.1
  ·have aYv:b.1=0:=aq;rw[if_pos aUH,aYv,pf,cD]
  ·rw[if_neg aUH,<-aEm,Addr.add_lit]
 ·rename_i n t l hl;rw[hl]at hx;obtain⟨bb,off,vs,hy,vj,hR⟩:=pR hx;obtain⟨h1,h2⟩:=aR.1 he;obtain⟨b,h3,h4⟩:=aC.1 h2;obtain rfl:=aD.1 h4;split at h1 <;> try (cases h1;done)
  rename_i z m We TK;obtain⟨e,hT,hz,vi⟩:=BY We TK;simp only[aw,eZ]at h1;obtain⟨aEm,rfl⟩:=h1;refine no (by rw[hl];rfl) λhN=> ?_
  obtain⟨q1,q2,q3⟩:=ar e z m _ b hN hT hz vi hy h3;subst hN;simp only[c9]at hR;obtain⟨hlen,B4⟩:=hR;refine fin _ q1 (cutR t z (av ⟨bb,off,aH⟩) _ _ _ vs l b aEm vj B4 q2 aq ?_ (λ_=>rfl) rfl aq);intro bb' off' e1 fF;simp only[ax,Addr.mk.injEq,eS]at e1;obtain⟨rfl,rfl⟩:=e1;rw[if_neg aq,Addr.add_lit]
 ·simp only[aG]at he
end
end Go.Ab
namespace Go.Ab
section
variable {P:bj} {C:Ctx} {g:Nat->qs} {β:Id->Option Pl} {s:AS} {a:Act} {w:cO} {o:Oper}
theorem ads(h:Inv C g β s a w){T:TypeId}{x y:cr}(ho:o.op= .indexAddr T x y){i:Int}(hi:(asInt (s.ev y)).eval=av i){v:aN}(he:(vl P s T (s.ev x) i).eval=av v):il P o a w (ka C (s.put o.dst v)):=by
 have hx:=h.ev x;obtain⟨k,hy⟩:=Df (h.ev y) hi;have fin:∀z,(Instr.indexAt T (a.eval x) (a.eval y)).run P w= .ok z w->VS (s.env w g β) v z->il P o a w (ka C (s.put o.dst v)):=by intro z h1 h2;exact h.value h2 (fE (f:=Instr.indexAt T (a.eval x) (a.eval y)) (by simp only[execOp,ho]) h1)
 have sl:∀(e:TypeId) (z:Nat) (ad:Addr) (len cap:Nat),P.underlying T=av (.slice e)->P.cellsOf e=z->0 < z->a.eval x= .slice (av ad) len cap->0<=i/\i < (len:Int)->
   (Instr.indexAt T (a.eval x) (a.eval y)).run P w= .ok (.pointer (av (ad.add (i.toNat*z)))) w:=by
  intro e z ad len cap hT hz vi hv hb;rw[hv,hy];simp[Instr.indexAt,asIntOf,run_underlying hT,hb,rN hz vi]
 have ar:∀(e:TypeId) (z n:Nat) (ad:Addr),P.underlying T=av (.array n e)->P.cellsOf e=z->0 < z->a.eval x= .pointer (av ad)->0<=i/\i < (n:Int)->
   (Instr.indexAt T (a.eval x) (a.eval y)).run P w= .ok (.pointer (av (ad.add (i.toNat*z)))) w:=by
  intro e z n ad hT hz vi hv hb;rw[hv,hy];simp[Instr.indexAt,Instr.sureAddr,asIntOf,run_underlying hT,hb,rN hz vi]
 have elt:∀(t:Ty) (z:Nat) (bb off:Nat) (vs:List Value) (l:List t.den),z=t.size->Bi (s.env w g β) (av ⟨bb,off,aH⟩) vs->bH (c9 (s.env w g β) t) vs l->0<=i/\i < (l.length:Int)->
   VS (s.env w g β) (.dz t (nth t l i.toNat)) (.pointer (av ⟨bb,off+i.toNat*z,aH⟩)):=by
  intro t z bb off vs l hz hr hc hb;subst hz;have fF:i.toNat < l.length:=aq;rw[aer fF];obtain⟨hp,_⟩:=Vp hc fF;refine⟨_,?_,rfl⟩;simp only[V];refine⟨_,_,_,rfl,λj v hj=> ?_,hp⟩;rw[dY]at hj;split at hj
  ·rw[fW]at hj;obtain⟨b',o',e,hh⟩:=hr _ v hj;simp only[ax,Addr.mk.injEq,eS]at e;obtain⟨rfl,rfl⟩:=e;exact⟨_,_,rfl,by rw[fB];exact hh⟩
  ·cases hj
 unfold vl at he;split at he
 ·rename_i t l hl;rw[hl]at hx;obtain⟨ad,cap,vs,hv,aO1,w6,vj,B4⟩:=xL hx;obtain⟨h1,h2⟩:=aR.1 he;obtain⟨h3,h4⟩:=cW.1 h2;obtain rfl:=aD.1 h4;simp only[bt]at h3;split at h1 <;> try (cases h1;done)
  rename_i z We TK;obtain⟨e,hT,hz,vi⟩:=qY We TK;have aEm:z=t.size:=by simpa using h1
  have hlen:=bH.length (λc x hx=>c9.size hx) B4;have fF:i.toNat < l.length:=aq;have h0:0 < vs.length:=by rw[hlen];exact Nat.mul_pos aq aq
  obtain⟨bb,off,e1,_⟩:=vj 0 vs[0] (by simp[h0]);subst e1;have:=sl e z _ _ cap hT hz vi hv h3;rw[Addr.add_lit]at this;exact fin _ this (elt t z bb off vs l aEm vj B4 h3)
 ·rename_i n t l hl;rw[hl]at hx;obtain⟨bb,off,vs,hv,vj,hR⟩:=pR hx;obtain⟨h1,h2⟩:=aR.1 he;obtain⟨h3,h4⟩:=cW.1 h2;obtain rfl:=aD.1 h4;simp only[bt]at h3;split at h1 <;> try (cases h1;done)
  rename_i z m We TK;obtain⟨e,hT,hz,vi⟩:=BY We TK;simp only[aw,eZ]at h1;obtain⟨aEm,rfl⟩:=h1;simp only[c9]at hR;have:=ar e z m _ hT hz vi hv h3;rw[Addr.add_lit]at this;exact fin _ this (elt t z bb off vs l aEm vj hR.2 (by rw[hR.1];exact h3))
 ·rename_i id ver p c j len hl;rw[hl]at hx;obtain⟨ad,cap,hv,aO1,w6,adj,im⟩:=zQ hx;obtain⟨r,aUU,he⟩:=aC.1 he;obtain⟨h1,h2⟩:=aR.1 he;obtain⟨h3,h4⟩:=cW.1 h2;obtain rfl:=aD.1 h4;simp only[bt]at h3;split at h1 <;> try (cases h1;done)
  rename_i z We TK;obtain⟨e,hT,hz,vi⟩:=qY We TK;have aEm:z=r.2.1.size:=by simpa using h1
  have hs:=w6 aq;obtain⟨ad',rfl⟩:=bZ.1 hs;refine fin _ (sl e z ad' len cap hT hz vi hv h3) ⟨_,?_,rfl⟩;simp only[V];refine⟨_,rfl,adj,λhc=> ?_⟩;have im:=im hc;cases hp:β id with
  |none=>
   have hp':(s.env w g β).β id=aH:=hp;rw[hp']at im;exact absurd im.1 (by simp)
  |some pl=>
   have hp':(s.env w g β).β id=av pl:=hp;rw[hp']at im;have e1:=im.1 (.inl aq);simp only[ax]at e1;exact⟨pl,hp,by rw[e1,Addr.add_lit,aEm]⟩
 ·rename_i id ver p n hl;rw[hl]at hx;obtain⟨ad,hv,adj,im⟩:=Gw hx;obtain⟨h1,h2⟩:=aR.1 he;obtain⟨h3,h4⟩:=cW.1 h2;obtain rfl:=aD.1 h4;simp only[bt]at h3;split at h1 <;> try (cases h1;done)
  rename_i z m We TK;obtain⟨e,hT,hz,vi⟩:=BY We TK;rw[TK,ed]at h3;refine fin _ (ar e z m ad hT hz vi hv h3) ⟨_,?_,rfl⟩;simp only[V];refine⟨_,rfl,adj,λhc=> ?_⟩;obtain⟨pl,hp,aEa⟩:=im hc;exact⟨pl,hp,by rw[aEa,Addr.add_lit,We,ed]⟩
 ·simp only[aG]at he
theorem JY{T:TypeId}{f off:Nat}{ft:TypeId}(h:fieldInfo P T f=av (off,ft)):∃fs fd,P.underlying T=av (.struct fs)/\fs[f]? =av fd/\fd.offset=off/\fd.type=ft:=by
 unfold fieldInfo at h;split at h
 ·rename_i fs hT;split at h
  ·rename_i fd hf;simp only[ax,de]at h;exact⟨fs,fd,hT,hf,h.1,h.2⟩
  ·cases h
 ·cases h
theorem Co{E:Env}:∀(x:aN) (f off:Nat) (v:aN) (cs:List Value),V E x cs->partOf x f=av (off,v)->V E v ((cs.drop off).take v.size)/\off+v.size<=cs.length:=by
 intro x f
 induction f generalizing x with
 |zero=>
  intro off v cs hx h;cases x with
  |d t y=>
   cases t <;> simp only[partOf,reduceCtorEq]at h;rename_i ta tb;simp only[ax,de]at h;obtain⟨rfl,rfl⟩:=h;simp only[V,c9]at hx ⊢;obtain⟨ca,cb,rfl,ha,hb⟩:=hx;have:=ha.size;simp only[aN.size,ay,ak,aV];rw[ml this];exact⟨ha,aq⟩
  |pr b c=>
   simp only[partOf,ax,de]at h;obtain⟨rfl,rfl⟩:=h;simp only[V]at hx;obtain⟨ca,cb,rfl,ha,hb⟩:=hx;have:=ha.size;simp only[ay,ak,aV];rw[ml this];exact⟨ha,aq⟩
  |_=>simp only[partOf,reduceCtorEq]at h
 |succ f ih=>
  intro off v cs hx h;have second:∀(ca cb:List Value) (n:Nat) (b:aN),cs=ca++cb->ca.length=n->V E b cb->(match partOf b f with | some (o,v)=>av (n+o,v) | none=>aH)=av (off,v)->V E v ((cs.drop off).take v.size)/\off+v.size<=cs.length:=by
   intro ca cb n b e hl hb hh;cases hp:partOf b f with
   |none=>rw[hp]at hh;cases hh
   |some r=>
    obtain⟨o',v'⟩:=r;rw[hp]at hh;simp only[ax,de]at hh;obtain⟨rfl,rfl⟩:=hh;obtain⟨h1,h2⟩:=ih b o' v' cb hb hp;subst e;rw[<-hl,lh,dO aq,aY,Nat.add_sub_cancel_left];exact⟨h1,by simp only[ak];omega⟩
  cases x with
  |d t y=>
   cases t with
   |pair ta tb=>
    simp only[partOf]at h;simp only[V,c9]at hx;obtain⟨ca,cb,e,ha,hb⟩:=hx;exact second ca cb ta.size (.d tb y.2) e ha.size (by simpa only[V]using hb) h
   |_=>simp only[partOf,reduceCtorEq]at h
  |pr b c=>
   simp only[partOf]at h;simp only[V]at hx;obtain⟨ca,cb,e,ha,hb⟩:=hx;exact second ca cb b.size c e ha.size hb h
  |_=>simp only[partOf,reduceCtorEq]at h
theorem ac7(h:Inv C g β s a w){T:TypeId}{x:cr}{f:Nat}(ho:o.op= .fieldAddr T x f){v:aN}(he:(IS P T (s.ev x) f).eval=av v):il P o a w (ka C (s.put o.dst v)):=by
 have hx:=h.ev x;unfold IS at he;split at he
 ·rename_i off ft hf;obtain⟨fs,fd,hT,aYz,rfl,rfl⟩:=JY hf;obtain⟨h1,h2⟩:=aR.1 he;have hz:P.cellsOf fd.type≠0:=by simpa using h1
  have run:∀bb n,a.eval x= .pointer (av ⟨bb,n,aH⟩)->(Instr.fieldAt T (a.eval x) f).run P w= .ok (.pointer (av ⟨bb,n+fd.offset,aH⟩)) w:=by intro bb n hy;rw[hy];simp[Instr.fieldAt,run_underlying hT,aYz,Instr.sureAddr,fieldPlace,rN (P:=P) (e:=fd.type) rfl aq,hz,Addr.add_lit]
  have runS:∀ad,a.eval x= .pointer (av ad)->(Instr.fieldAt T (a.eval x) f).run P w= .ok (.pointer (av (ad.add fd.offset))) w:=by intro ad hy;rw[hy];simp[Instr.fieldAt,run_underlying hT,aYz,Instr.sureAddr,fieldPlace,rN (P:=P) (e:=fd.type) rfl aq,hz]
  have fin:∀z,(Instr.fieldAt T (a.eval x) f).run P w= .ok z w->VS (s.env w g β) v z->il P o a w (ka C (s.put o.dst v)):=by intro z h1 h2;exact h.value h2 (fE (f:=Instr.fieldAt T (a.eval x) f) (by simp only[execOp,ho]) h1)
  split at h2
  ·rename_i id ver p n hl;rw[hl]at hx;obtain rfl:=aD.1 h2;obtain⟨ad,hy,adj,im⟩:=Gw hx;refine fin _ (runS ad hy) ⟨_,?_,rfl⟩;simp only[V];refine⟨_,rfl,adj,λhc=> ?_⟩;obtain⟨pl,hp,aEa⟩:=im hc;exact⟨pl,hp,by rw[aEa,Addr.add_lit]⟩
  ·rename_i t y hl;rw[hl]at hx;obtain⟨bb,off,vs,hy,vj,hR⟩:=pR hx;split at h2
   ·rename_i o' t' y' hp;obtain⟨h3,h4⟩:=aR.1 h2;obtain rfl:=aD.1 h4;have h3:fd.offset=o':=by simpa using h3
    obtain⟨hV,hle⟩:=Co (.d t y) f o' (.d t' y') vs (by simpa only[V]using hR) hp;refine fin _ (run bb off hy) ⟨_,?_,rfl⟩;simp only[V]at hV ⊢;refine⟨_,_,_,rfl,λj u hj=> ?_,hV⟩;rw[dY]at hj;split at hj
    ·rw[fW]at hj;obtain⟨b',o'',e,hh⟩:=vj _ u hj;simp only[ax,Addr.mk.injEq,eS]at e;obtain⟨rfl,rfl⟩:=e;exact⟨_,_,rfl,by rw[h3,fB];exact hh⟩
    ·cases hj
   ·simp only[aG]at h2
  ·rename_i t q hl;obtain⟨y,e,h5⟩:=og.1 h2;subst e;rw[hl]at hx;have hx:=TB hx;obtain⟨bb,off,vs,hy,vj,hR⟩:=pR hx;split at h5
   ·rename_i o' t' y' hp;obtain⟨h3,h4⟩:=aR.1 h5;obtain rfl:=aD.1 h4;have h3:fd.offset=o':=by simpa using h3
    obtain⟨hV,hle⟩:=Co (.d t y) f o' (.d t' y') vs (by simpa only[V]using hR) hp;refine fin _ (run bb off hy) ⟨_,?_,rfl⟩;simp only[V]at hV ⊢;refine⟨_,_,_,rfl,λj u hj=> ?_,hV⟩;rw[dY]at hj;split at hj
    ·rw[fW]at hj;obtain⟨b',o'',e,hh⟩:=vj _ u hj;simp only[ax,Addr.mk.injEq,eS]at e;obtain⟨rfl,rfl⟩:=e;exact⟨_,_,rfl,by rw[h3,fB];exact hh⟩
    ·cases hj
   ·simp only[aG]at h5
  ·rename_i t q hl;obtain⟨y,e,h5⟩:=og.1 h2;subst e;rw[hl]at hx;have hx:=TO hx;obtain⟨bb,off,vs,hy,vj,hR⟩:=pR hx;split at h5
   ·rename_i o' t' y' hp;obtain⟨h3,h4⟩:=aR.1 h5;obtain rfl:=aD.1 h4;have h3:fd.offset=o':=by simpa using h3
    obtain⟨hV,hle⟩:=Co (.d t y.2) f o' (.d t' y') vs (by simpa only[V]using hR) hp;refine fin _ (run bb off hy) ⟨_,?_,rfl⟩;simp only[V]at hV ⊢;refine⟨_,_,_,rfl,λj u hj=> ?_,hV⟩;rw[dY]at hj;split at hj
    ·rw[fW]at hj;obtain⟨b',o'',e,hh⟩:=vj _ u hj;simp only[ax,Addr.mk.injEq,eS]at e;obtain⟨rfl,rfl⟩:=e;exact⟨_,_,rfl,by rw[h3,fB];exact hh⟩
    ·cases hj
   ·simp only[aG]at h5
  ·simp only[aG]at h2
 ·simp only[aG]at he
theorem ahG{x:aN}{f:Nat}{r:Nat×aN}(h:partOf x f=av r):x.agg=bm/\x.fD=bm:=by
 cases x with
 |d t y=>cases t <;> cases f <;> simp[partOf]at h <;> exact⟨rfl,rfl⟩
 |pr b c=>exact⟨rfl,rfl⟩
 |_=>cases f <;> simp[partOf]at h
theorem Lm{T:TypeId}{v:aN}(h:fits P T v=bm):Q9 P T v.agg=bm/\P.cellsOf T=v.size/\v.fD=bm:=by unfold fits at h;simp only[aw,eZ]at h;exact⟨h.2,h.1.2,h.1.1⟩
theorem awL(h:Inv C g β s a w){T:TypeId}{x:cr}{f:Nat}(ho:o.op= .field T x f){v:aN}(he:(ane P T (s.ev x) f).eval=av v):il P o a w (ka C (s.put o.dst v)):=by
 have hx:=h.ev x;unfold ane at he;split at he
 ·rename_i off ft o' v' hf hp;obtain⟨fs,fd,hT,aYz,rfl,rfl⟩:=JY hf;obtain⟨h1,h2⟩:=aR.1 he;obtain rfl:=aD.1 h2;simp only[aw,eZ]at h1;obtain⟨rfl,adl⟩:=h1;obtain⟨Sf,awV⟩:=ahG hp;obtain⟨cs,hV,hO⟩:=hx.fD awV;rw[Sf]at hO;have hy:a.eval x= .agg cs.toArray:=hO;obtain⟨hVp,hle⟩:=Co _ _ _ _ cs hV hp;obtain⟨q1,q2,q3⟩:=Lm adl;obtain⟨y,hr,hOy⟩:=AB (w:=w) q1 q2 (λhh=>aN.au1 hh) hle;refine h.value (VS.of hVp hOy) (fE (f:=Instr.field T (a.eval x) f) (by simp only[execOp,ho]) ?_);rw[hy];simp[Instr.field,run_underlying hT,aYz,asAgg,hr]
 ·simp only[aG]at he
theorem aw9(h:Inv C g β s a w){T:TypeId}{x y:cr}(ho:o.op= .index T x y){i:Int}(hi:(asInt (s.ev y)).eval=av i){v:aN}(he:(anu P T (s.ev x) i).eval=av v):il P o a w (ka C (s.put o.dst v)):=by
 have hx:=h.ev x;obtain⟨k,hy⟩:=Df (h.ev y) hi;have fin:∀z,(Instr.index T (a.eval x) (a.eval y)).run P w= .ok z w->VS (s.env w g β) v z->il P o a w (ka C (s.put o.dst v)):=by intro z h1 h2;exact h.value h2 (fE (f:=Instr.index T (a.eval x) (a.eval y)) (by simp only[execOp,ho]) h1)
 unfold anu at he;split at he
 ·rename_i n t l m e hl hT;rw[hl]at hx;obtain⟨h1,h2⟩:=aR.1 he;obtain⟨h3,h4⟩:=cW.1 h2;obtain rfl:=aD.1 h4;simp only[aw,eZ,bt]at h1 h3;obtain⟨rfl,adl⟩:=h1;obtain⟨q1,q2,q3⟩:=Lm adl;obtain⟨cs,hV,hO⟩:=hx.fD rfl;have bcu:a.eval x= .agg cs.toArray:=hO;simp only[V,c9]at hV;obtain⟨hlen,B4⟩:=hV;have fF:i.toNat < l.length:=aq;obtain⟨hp,hle⟩:=Vp B4 fF;have q2':P.cellsOf e=t.size:=q2;have q1':Q9 P e t.agg=bm:=q1;obtain⟨y',hr,hOy⟩:=AB (w:=w) q1' q2' AE hle;obtain⟨j,hj,_⟩:=Cd q1';rw[<-aer fF]at hp;refine fin y' ?_ (VS.of (by simpa only[V]using hp) hOy)
  rw[bcu,hy];have AL:=run_sizeOf hj w;rw[<-qP hj,q2']at AL;simp[Instr.index,asIntOf,run_underlying hT,h3,AL,hr]
 ·rename_i st hl hT;rw[hl]at hx;obtain⟨h3,h4⟩:=cW.1 he;obtain rfl:=aD.1 h4;simp only[bt]at h3;have e1:=Nu hx;have fF:i.toNat < st.data.toList.length:=by
   have:st.size=st.data.toList.length:=by rw[dv];rfl
   omega
  have aZy:st[i.toNat]? =av (st.data.toList[i.toNat]):=by have hlt':i.toNat < st.size:=aq;rw[getElem?_pos st i.toNat hlt'];rfl
  refine fin (.int .u8 ((st.data.toList.getD i.toNat 0).toNat:Int)) ?_ (nE _ _)
  rw[e1,hy];simp[Instr.index,asIntOf,run_underlying hT,h3.1,aZy,bh,cn fF]
 ·simp only[aG]at he
theorem aTZ{E:Env}:∀(c:aN) (vs:List Value) (i:Nat) (v:aN),VC E c vs->c.list[i]? =av v->∃y,vs[i]? =av y/\VS E v y:=by
 intro c
 induction c with
 |cons x y _ ih=>
  intro vs i v hc hi;simp only[VC]at hc;obtain⟨u,vs',cs,rfl,hV,hO,hc⟩:=hc;cases i with
  |zero=>
   simp only[aN.list,gw,ax]at hi;subst hi;exact⟨u,rfl,VS.of hV hO⟩
  |succ i=>
   simp only[aN.list,nZ]at hi ⊢;exact ih vs' i v hc hi
 |_=>intro vs i v hc hi;simp[aN.list]at hi
theorem am5(h:Inv C g β s a w){x:cr}{i:Nat}(ho:o.op= .extract x i){v:aN}(he:(Out.opt ((s.ev x).list[i]?)).eval=av v):il P o a w (ka C (s.put o.dst v)):=by
 have hx:=h.ev x;have he:=jP.1 he;cases hc:s.ev x with
 |cons p q=>
  rw[hc]at hx he;obtain⟨vs,hy,hVC⟩:=hx;obtain⟨y,hv,hVS⟩:=aTZ _ vs i v hVC he;refine h.value hVS (fE (f:=Instr.extract (a.eval x) i) (by simp only[execOp,ho]) ?_);rw[hy];simp[Instr.extract,hv]
 |_=>rw[hc]at he;simp[aN.list]at he
theorem aAp(h:Inv C g β s a w):∀(l:List cr),Dp (u6 s l)=bm->VC (s.env w g β) (u6 s l) (l.map a.eval)
 |[],_=>by simp[u6,VC]
 |x::xs,hc=>by simp only[u6,Dp,aw]at hc;obtain⟨cs,hV,hO⟩:=(h.ev x).fD hc.1;simp only[u6,VC,cj];exact⟨_,_,cs,rfl,hV,hO,aAp h xs hc.2⟩
theorem ah7(h:Inv C g β s a w){f:gC}{first caps:Array cr}(ho:o.op= .makeFunc (.func f) first caps)(h1:first.isEmpty=bm)(h2:Dp (u6 s caps.toList)=bm):
  il P o a w (ka C (s.put o.dst (.fn f (u6 s caps.toList)))):=by
 have hf:first= #[]:=by simpa using h1
 refine h.value (x:= .func (.func f) #[] (caps.toList.map a.eval).toArray) ⟨_,?_,rfl⟩ (fE (f:=Instr.makeFunc (.func f) (first.map a.eval) (caps.map a.eval)) (by simp only[execOp,ho]) ?_)
 ·simp only[V];exact⟨_,rfl,aAp h _ h2⟩
 ·subst hf;have:caps.map a.eval=(caps.toList.map a.eval).toArray:=by apply hZ;simp
  simp[Instr.makeFunc,this]
end
end Go.Ab
namespace Go.Ab
theorem adG{α:Type}{f:α->α->Bool}(hf:∀x y,f x y=bm->x=y):∀ {xs ys:List α},pC f xs ys=bm->xs=ys
 |[],[],_=>rfl
 |x::xs,y::ys,h=>by simp only[pC,aw]at h;rw[hf _ _ h.1,adG hf h.2]
 |[],_::_,h=>by simp[pC]at h
 |_::_,[],h=>by simp[pC]at h
theorem beq_eq:∀(t:Ty) (x y:t.den),t.comp=bm->t.beq x y=bm->x=y
 | .int _,x,y,_,h=>by simpa[Ty.beq]using h
 | .bool,x,y,_,h=>by simpa[Ty.beq]using h
 | .str,x,y,_,h=>by
  have h:(x:ByteArray).toList=(y:ByteArray).toList:=by simpa[Ty.beq]using h
  rw[Go.ByteArray.toList_eq,Go.ByteArray.toList_eq]at h;exact ByteArray.ext (Array.toList_inj.1 h)
 | .slice _,_,_,h,_=>by simp[Ty.comp]at h
 | .unit,_,_,_,_=>rfl
 | .pair a b,x,y,hc,h=>by simp only[Ty.comp,aw]at hc;simp only[Ty.beq,aw]at h;exact Prod.ext (beq_eq a _ _ hc.1 h.1) (beq_eq b _ _ hc.2 h.2)
 | .arr _ t,x,y,hc,h=>adG (λx y=>beq_eq t x y hc) h
 | .iv t,x,y,_,h=> @of_decide_eq_true _ ((Ty.iv t).aHN x y) h
theorem c9.anx{E:Env}{t:Ty}{cs:List Value}{x:(Ty.iv t).den}(h:c9 E (.iv t) cs x):cs=[.pointer ((x:Option (Nat×t.den)).map λp=>⟨p.1,0,aH⟩)]:=by
 simp only[c9]at h;cases hx:(x:Option (Nat×t.den)) with
 |none=>exact h.1 hx
 |some u=>
  obtain⟨_,_,_,e,_⟩:=h.2 u hx;exact e
def Plain(c:Value):Prop:=∀n,Instr.sameBits n c c=bm
theorem c9.plain{E:Env}:∀ {t:Ty} {cs:List Value} {x:t.den},t.comp=bm->c9 E t cs x->∀c∈cs,Plain c
 | .int _,_,_,_,h,c,hc,n=>by simp only[c9]at h;rw[h,bB]at hc;subst hc;cases n <;> simp[Instr.sameBits]
 | .bool,_,_,_,h,c,hc,n=>by simp only[c9]at h;rw[h,bB]at hc;subst hc;cases n <;> simp[Instr.sameBits]
 | .str,_,_,_,h,c,hc,n=>by simp only[c9]at h;rw[h,bB]at hc;subst hc;cases n <;> exact(Go.MapKept.bytes_beq _ _).2 rfl
 | .slice _,_,_,hc,_,_,_,_=>by simp[Ty.comp]at hc
 | .unit,_,_,_,h,c,hc,_=>by simp only[c9]at h;rw[h]at hc;cases hc
 | .pair a b,_,_,hp,h,c,hc,n=>by
  simp only[Ty.comp,aw]at hp;simp only[c9]at h;obtain⟨ca,cb,rfl,ha,hb⟩:=h;rcases bR.1 hc with hc | hc
  ·exact c9.plain hp.1 ha c hc n
  ·exact c9.plain hp.2 hb c hc n
 | .arr _ t,_,_,hp,h,c,hc,n=>by simp only[c9]at h;exact bH.all (p:=Plain) (λc x hx v hv=>c9.plain (t:=t) hp hx v hv) h.2 c hc n
 | .iv t,_,x,_,h,c,hc,n=>by rw[h.anx,bB]at hc;subst hc;cases n <;> simp[Instr.sameBits]
theorem c9.aWc{E:Env}:∀ {t:Ty} {cs cs':List Value} {x:t.den},t.comp=bm->c9 E t cs x->c9 E t cs' x->cs=cs'
 | .int _,_,_,_,_,h,h'=>by simp only[c9]at h h';rw[h,h']
 | .bool,_,_,_,_,h,h'=>by simp only[c9]at h h';rw[h,h']
 | .str,_,_,_,_,h,h'=>by simp only[c9]at h h';rw[h,h']
 | .slice _,_,_,_,hc,_,_=>by simp[Ty.comp]at hc
 | .unit,_,_,_,_,h,h'=>by simp only[c9]at h h';rw[h,h']
 | .pair a b,_,_,_,hp,h,h'=>by simp only[Ty.comp,aw]at hp;simp only[c9]at h h';obtain⟨ca,cb,rfl,ha,hb⟩:=h;obtain⟨ca',cb',rfl,ha',hb'⟩:=h';rw[c9.aWc hp.1 ha ha',c9.aWc hp.2 hb hb']
 | .arr _ t,cs,cs',x,hp,h,h'=>by
  simp only[c9]at h h';have key:∀(l:List t.den) (cs cs':List Value),bH (c9 E t) cs l->bH (c9 E t) cs' l->cs=cs':=by
   intro l
   induction l with
   |nil=>intro cs cs' h h';have h:cs=[]:=h;have h':cs'=[]:=h';rw[h,h']
   |cons x l ih=>
    intro cs cs' h h';obtain⟨c,r,rfl,hx,hr⟩:=h;obtain⟨c',r',rfl,hx',hr'⟩:=h';rw[c9.aWc (t:=t) hp hx hx',ih _ _ hr hr']
  exact key _ _ _ h.2 h'.2
 | .iv t,_,_,_,_,h,h'=>by rw[h.anx,h'.anx]
theorem Hf.aWc{E:Env}{t:Ty}{v v':Value}{x:t.den}(hc:t.comp=bm)(h:Hf E t v x)(h':Hf E t v' x):v=v':=by
 obtain⟨cs,h1,h2⟩:=h;obtain⟨cs',h1',h2'⟩:=h';have e:=c9.aWc hc h1 h1';subst e;unfold gY at h2 h2';cases ha:t.agg with
 |true=>rw[ha]at h2 h2';rw[h2,h2']
 |false=>
  rw[ha]at h2 h2';have h2:cs=[v]:=h2;have h2':cs=[v']:=h2';rw[h2]at h2';simpa using h2'
theorem Hf.same{E:Env}{t:Ty}{v:Value}{x:t.den}(hc:t.comp=bm)(h:Hf E t v x):Instr.sameBits 10000 v v=bm:=by
 obtain⟨cs,h1,h2⟩:=h;have hp:=c9.plain hc h1;unfold gY at h2;cases ha:t.agg with
 |true=>
  rw[ha]at h2;have h2:v= .agg cs.toArray:=h2;subst h2;simp only[Instr.sameBits,beq_self_eq_true,bM,dr];intro p hp';obtain⟨a,b⟩:=p;have:∀(l:List Value),(a,b)∈l.zip l->a∈l/\a=b:=by
   intro l
   induction l with
   |nil=>intro h;simp at h
   |cons y l ih=>
    intro h;simp only[List.zip_cons_cons,cq,de]at h;rcases h with⟨rfl,rfl⟩ | h
    ·exact⟨aU,rfl⟩
    ·exact⟨aP _ (ih h).1,(ih h).2⟩
  obtain⟨hm,rfl⟩:=this _ hp';exact hp a (by simpa using hm) _
 |false=>
  rw[ha]at h2;have h2:cs=[v]:=h2;subst h2;exact hp v (by simp) _
theorem aGV{P:bj}{w:cO}{E:Env}{t:Ty}{v:Value}{x:t.den}(hc:t.comp=bm)(h:Hf E t v x):(Instr.keyThatStays v v).run P w= .ok v w:=by unfold Instr.keyThatStays;rw[if_pos (h.same hc)];rfl
section
variable {P:bj} {w:cO} {E:Env}
theorem DC:∀(n:Nat) (T:TypeId) (t:Ty),vT P n T t=bm->t.comp=bm
 | 0,T,t,h=>by simp[vT]at h
 |n+1,T,t,h=>by
  simp only[vT]at h;split at h
  ·rfl
  ·rfl
  ·rfl
  ·rfl
  ·rename_i m e m' t' hT;simp only[aw]at h;exact DC n e t' h.2
  ·rename_i t0 _ _ fs hT;simp only[aw]at h;have key:∀(fl:List Field) (t:Ty) (off:Nat),QS P (vT P n) fl t off=bm->t.comp=bm:=by
    intro fl
    induction fl with
    |nil=>intro t off hc;cases t <;> first | rfl | (simp[QS]at hc;done)
    |cons f fl ih=>
     intro t off hc;cases t <;> first | (simp[QS]at hc;done) | skip
     rename_i ta tb;simp only[QS,aw]at hc;simp only[Ty.comp,aw];exact⟨DC n _ _ hc.1.2,ih tb _ hc.2⟩
   exact key _ _ _ h.2
  ·cases h
theorem qQ(em:Bool):∀(n:Nat) (T:TypeId) (t:Ty),vT P n T t=bm->∀(d:Nat),n<=d->∀(v:Value) (x:t.den),Hf E t v x->(Instr.checkKey em d T v).run P w= .ok () w
 | 0,T,t,h,_,_,_,_,_=>by simp[vT]at h
 |n+1,T,t,h,0,hd,_,_,_=>aq
 |n+1,T,t,h,d+1,hd,v,x,⟨cs,hx,hv⟩=>by
  simp only[vT]at h;split at h
  ·rename_i hT;simp only[c9]at hx;have e1:cs=[v]:=hv;rw[hx]at e1;simp only[cR,eS]at e1;subst e1;simp[Instr.checkKey,run_underlying hT]
  ·rename_i hT;simp only[c9]at hx;have e1:cs=[v]:=hv;rw[hx]at e1;simp only[cR,eS]at e1;subst e1;simp[Instr.checkKey,run_underlying hT]
  ·rename_i hT;simp only[c9]at hx;have e1:cs=[v]:=hv;rw[hx]at e1;simp only[cR,eS]at e1;subst e1;simp[Instr.checkKey,run_underlying hT]
  ·rename_i U t' hT;simp only[c9]at hx;have e1:cs=[v]:=hv;subst e1;cases aEk:(x:Option (Nat×t'.den)) with
   |none=>
    have e2:=hx.1 aEk;simp only[cR,eS]at e2;subst e2;simp[Instr.checkKey,run_underlying hT]
   |some a=>
    obtain⟨_,_,_,e2,_⟩:=hx.2 a aEk;simp only[cR,eS]at e2;subst e2;simp[Instr.checkKey,run_underlying hT]
  ·rename_i m e m' t' hT;simp only[aw,eZ]at h;obtain⟨⟨⟨⟨rfl,aWs⟩,AL⟩,Sf⟩,B4⟩:=h;simp only[c9]at hx;obtain⟨aZH,aZt⟩:=hx;have e1:v= .agg cs.toArray:=hv;subst e1;obtain⟨i,hi,arV⟩:=Cd Sf;have hsz':=AL;rw[qP hi]at hsz';simp only[Instr.checkKey,cU,run_underlying hT,cm];simp only[Std.Legacy.Range.forIn_eq_forIn_range'];have hm:([:m]:Std.Legacy.Range).size=m:=by simp[Std.Legacy.Range.size]
   rw[hm];have avH:∀c z,c9 E t' c z->c.length=t'.size:=λc z hz=>hz.size
   have bx:t'.agg=aZ->t'.size=1:=AE
   have key:∀(k:Nat) (x:List t'.den) (j:Nat),x.length=k->bH (c9 E t') (cs.drop (j*t'.size)) x->
     (forIn (List.range' j k) () λi __s=>(do
      let __do_lift <-sizeOf e
      let __do_lift <-part e cs.toArray (i*__do_lift)
      Instr.checkKey em d e __do_lift
      pure (ForInStep.yield ()):Sem (ForInStep Unit))).run P w= .ok () w:=by
    intro k
    induction k with
    |zero=>intro x j _ _;rfl
    |succ k ih=>
     intro x j hx hcx';cases x with
     |nil=>simp at hx
     |cons x0 xs=>
      have gx:=bH.get avH hcx' 0 (by simp);simp only[pf,ay,List.getElem_cons_zero]at gx;have lenx:((cs.drop (j*t'.size)).take t'.size).length=t'.size:=gx.size;have We:t'.size≠0:=by simpa using aWs
      have aZD:j*t'.size+t'.size<=cs.length:=by simp only[bV,du]at lenx;omega
      obtain⟨ux,h1,o1⟩:=AB (w:=w) Sf AL bx (cs:=cs) (off:=j*t'.size) aZD;have h3:=qQ em n e t' B4 d aq ux x0 ⟨_,gx,o1⟩;have nx:bH (c9 E t') (cs.drop ((j+1)*t'.size)) xs:=by have:=bH.drop avH 1 hcx';rw[gE]at this;simpa[fg]using this
      have:=ih xs (j+1) (by simpa using hx) nx;rw[List.range'_succ,List.forIn_cons];simp only[cU,run_sizeOf hi,hsz',h1,h3,cm,eK];exact this
   exact(bW (λr:Result Unit=>r.andThen λ_ w'=>Sem.run P (pure ()) w') (key m x 0 aZH (by simpa using aZt))).trans rfl
  ·rename_i t0 _ _ fs hT;simp only[aw,di]at h;obtain⟨xZ,aUJ⟩:=h;have Sf:t0.agg=bm:=by cases hl:fs.toList <;> rw[hl]at aUJ <;> cases t0 <;> first | rfl | (simp[QS]at aUJ;done)
   rw[Sf]at hv;have e1:v= .agg cs.toArray:=hv;subst e1
   have key:∀(fl:List Field) (t:Ty) (off:Nat),QS P (vT P n) fl t off=bm->∀(x:t.den),c9 E t (cs.drop off) x->
     (forIn fl () λf __s=>(do
      if f.name≠ "_" then
       let __do_lift <-part f.type cs.toArray f.offset
       Instr.checkKey em d f.type __do_lift
       pure (ForInStep.yield ())
      else pure (ForInStep.yield ()):Sem (ForInStep Unit))).run P w= .ok () w:=by
    intro fl
    induction fl with
    |nil=>intro t off _ x _;rfl
    |cons f fl ih=>
     intro t off hc x hx;cases t <;> first | (simp[QS]at hc;done) | skip
     rename_i ta tb;simp only[QS,aw,di,eZ,tq]at hc;obtain⟨⟨⟨⟨⟨⟨aZL,aQt⟩,hz⟩,AL⟩,Sf⟩,B4⟩,aKp⟩:=hc;simp only[c9]at hx;obtain⟨xa,xb,ex,aXJ,aZ4⟩:=hx;have bx:ta.agg=aZ->ta.size=1:=AE;have lx:xa.length=ta.size:=aXJ.size;have sx1:(cs.drop off).take ta.size=xa:=by rw[ex];exact ml lx
     have sx2:cs.drop (off+ta.size)=xb:=by rw[<-gE,ex];exact mj lx
     have sx3:off+ta.size<=cs.length:=by have:=bW ae ex;simp only[du,ak]at this;omega
     obtain⟨ux,h1,o1⟩:=AB (w:=w) Sf AL bx (cs:=cs) (off:=off) sx3;rw[sx1]at o1;have h3:=qQ em n f.type ta B4 d aq ux x.1 ⟨_,aXJ,o1⟩;have h4:=ih tb (off+ta.size) aKp x.2 (by rw[sx2];exact aZ4);rw[List.forIn_cons];simp only[ne_eq,aZL,qz,bO,cU,aQt,h1,h3,cm,eK];exact h4
   have:=key fs.toList t0 0 aUJ x (by simpa using hx);simp only[Instr.checkKey,cU,run_underlying hT,cm,Array.forIn_toList]at this ⊢;exact(bW (λr:Result Unit=>r.andThen λ_ w'=>Sem.run P (pure ()) w') this).trans rfl
  ·cases h
theorem Ss{K:TypeId}{kt vt:Ty}(hK:vT P depth K kt=bm){v:Value}{x:kt.den}(hx:Hf E kt v x)(hE:E.w=w):∀(es:List gl) (l:List (kt.den×vt.den)) (i:Nat),Alike (Im E kt vt) es l->
  ∃r,(Instr.findAsking K v es i).run P w= .ok r w/\match r with | none=>jt kt x l=aH | some (j,u)=>∃n e,jt kt x l=av n/\j=i+n/\es[n]? =av e/\u=e.val
 |[],[],i,_=>⟨aH,by simp[Instr.findAsking],rfl⟩
 |e::es,p::l,i,⟨he,hr⟩=>by
  have hx':=hx;obtain⟨c1,r1,o1⟩:=hx';obtain⟨c2,r2,o2⟩:=he.1;have heq:(Op.equal K v e.key).run P w= .ok (kt.beq x p.1) w:=y6 E hE depth K kt hK 10000 eX c1 c2 x p.1 v e.key r1 r2 o1 o2;cases hb:kt.beq x p.1 with
  |true=>
   rw[hb]at heq;refine⟨av (i,e.val),by simp[Instr.findAsking,heq],0,e,by simp[jt,hb],rfl,rfl,rfl⟩
  |false=>
   rw[hb]at heq;obtain⟨r,h1,h2⟩:=Ss hK hx hE es l (i+1) hr;refine⟨r,by simp[Instr.findAsking,heq,h1],?_⟩;cases r with
   |none=>simp only at h2 ⊢;simp[jt,hb,h2]
   |some u=>
    obtain⟨j,u⟩:=u;obtain⟨n,e',g1,g2,g3,g4⟩:=h2;exact⟨n+1,e',by simp[jt,hb,g1],aq,by simpa using g3,g4⟩
 |[],_::_,_,h=>h.elim
 |_::_,[],_,h=>h.elim
theorem akE{d:TypeDesc}{kt vt:Ty}{v:Value}{x:kt.den}(hd:∀u y,Hf E kt u y->Instr.sameNow d v u=av (kt.beq x y)):∀(es:List gl) (l:List (kt.den×vt.den)) (i:Nat),Alike (Im E kt vt) es l->
  ∃r,Instr.findNow d v es i=av r/\match r with | none=>jt kt x l=aH | some (j,u)=>∃n e,jt kt x l=av n/\j=i+n/\es[n]? =av e/\u=e.val
 |[],[],i,_=>⟨aH,rfl,rfl⟩
 |e::es,p::l,i,⟨he,hr⟩=>by
  have h0:=hd e.key p.1 he.1;cases hb:kt.beq x p.1 with
  |true=>
   rw[hb]at h0;exact⟨av (i,e.val),by simp[Instr.findNow,h0],0,e,by simp[jt,hb],rfl,rfl,rfl⟩
  |false=>
   rw[hb]at h0;obtain⟨r,h1,h2⟩:=akE hd es l (i+1) hr;refine⟨r,by simp[Instr.findNow,h0,h1],?_⟩;cases r with
   |none=>simp only at h2 ⊢;simp[jt,hb,h2]
   |some u=>
    obtain⟨j,u⟩:=u;obtain⟨n,e',g1,g2,g3,g4⟩:=h2;exact⟨n+1,e',by simp[jt,hb,g1],aq,by simpa using g3,g4⟩
 |[],_::_,_,h=>h.elim
 |_::_,[],_,h=>h.elim
theorem QZ{K:TypeId}{kt vt:Ty}(hK:vT P depth K kt=bm){v:Value}{x:kt.den}(hx:Hf E kt v x)(hE:E.w=w){es:List gl}{l:List (kt.den×vt.den)}(h:Alike (Im E kt vt) es l):
  ∃r,(Instr.findKey K v es).run P w= .ok r w/\match r with | none=>jt kt x l=aH | some (j,u)=>∃e,jt kt x l=av j/\es[j]? =av e/\u=e.val:=by
 have fin:∀r:Option (Nat×Value),(match r with | none=>jt kt x l=aH | some (j,u)=>∃n e,jt kt x l=av n/\j=0+n/\es[n]? =av e/\u=e.val)->match r with | none=>jt kt x l=aH | some (j,u)=>∃e,jt kt x l=av j/\es[j]? =av e/\u=e.val:=by
  intro r hr;cases r with
  |none=>exact hr
  |some u=>
   obtain⟨j,u⟩:=u;obtain⟨n,e,g1,g2,g3,g4⟩:=hr;obtain rfl:j=n:=aq;exact⟨e,g1,g3,g4⟩
 have scalar:∀d,P.underlying K=av d->(∀u y,Hf E kt u y->Instr.sameNow d v u=av (kt.beq x y))->∃r,(Instr.findKey K v es).run P w= .ok r w/\match r with | none=>jt kt x l=aH | some (j,u)=>∃e,jt kt x l=av j/\es[j]? =av e/\u=e.val:=by intro d hd hs;obtain⟨r,h1,h2⟩:=akE hs es l 0 h;exact⟨r,by simp[Instr.findKey,run_underlying hd,h1],fin r h2⟩
 have agg:∀d,P.underlying K=av d->(∀u y,Hf E kt u y->Instr.sameNow d v u=aH)->∃r,(Instr.findKey K v es).run P w= .ok r w/\match r with | none=>jt kt x l=aH | some (j,u)=>∃e,jt kt x l=av j/\es[j]? =av e/\u=e.val:=by
  intro d hd hs;cases es with
  |nil=>
   cases l with
   |nil=>exact⟨aH,by simp[Instr.findKey,run_underlying hd,Instr.findNow],rfl⟩
   |cons _ _=>exact h.elim
  |cons e es=>
   cases l with
   |nil=>exact h.elim
   |cons p l=>
    have hn:Instr.findNow d v (e::es) 0=aH:=by simp[Instr.findNow,hs e.key p.1 h.1.1]
    obtain⟨r,h1,h2⟩:=Ss (w:=w) (vt:=vt) hK hx hE (e::es) (p::l) 0 h;exact⟨r,by simp[Instr.findKey,run_underlying hd,hn,h1],fin r h2⟩
 have hK0:=hK;unfold depth at hK0;simp only[vT]at hK0;obtain⟨cx,rx,ox⟩:=hx;split at hK0
 ·rename_i k k' hT;refine scalar _ hT λu y ⟨cy,ry,oy⟩=> ?_
  simp only[c9]at rx ry;have e1:cx=[v]:=ox;have e2:cy=[u]:=oy;rw[rx]at e1;rw[ry]at e2;simp only[cR,eS]at e1 e2;subst e1 e2;simp[Instr.sameNow,Ty.beq]
 ·rename_i hT;refine scalar _ hT λu y ⟨cy,ry,oy⟩=> ?_
  simp only[c9]at rx ry;have e1:cx=[v]:=ox;have e2:cy=[u]:=oy;rw[rx]at e1;rw[ry]at e2;simp only[cR,eS]at e1 e2;subst e1 e2;simp[Instr.sameNow,Ty.beq]
 ·rename_i hT;refine scalar _ hT λu y ⟨cy,ry,oy⟩=> ?_
  simp only[c9]at rx ry;have e1:cx=[v]:=ox;have e2:cy=[u]:=oy;rw[rx]at e1;rw[ry]at e2;simp only[cR,eS]at e1 e2;subst e1 e2;have hs:∀a b:ByteArray,(a==b)=(a.toList==b.toList):=λa b=>by
   by_cases ap4:a=b
   ·subst ap4;rw[(Go.MapKept.bytes_beq a a).2 rfl];simp
   ·have h1:(a==b)=aZ:=by
     cases h:(a==b) with
     |false=>rfl
     |true=>exact absurd ((Go.MapKept.bytes_beq a b).1 h) ap4
    have h2:(a.toList==b.toList)=aZ:=by
     cases h:(a.toList==b.toList) with
     |false=>rfl
     |true=>exact absurd (beq_eq .str a b rfl h) ap4
    rw[h1,h2]
  simp[Instr.sameNow,Ty.beq,hs]
 ·rename_i U t' hT;exact agg _ hT λu y _=>by simp[Instr.sameNow]
 ·rename_i m e m' t' hT;exact agg _ hT λu y _=>by simp[Instr.sameNow]
 ·rename_i t0 _ _ fs hT;exact agg _ hT λu y _=>by simp[Instr.sameNow]
 ·cases hK0
end
section
variable {α β:Type} {R:α->β->Prop}
theorem Alike.get:∀ {xs:List α} {ys:List β} {i:Nat} {x:α},Alike R xs ys->xs[i]? =av x->∃y,ys[i]? =av y/\R x y
 |[],_,_,_,_,h=>by simp at h
 |_::_,[],_,_,h,_=>h.elim
 |x::xs,y::ys,0,z,⟨h1,_⟩,h=>by simp at h;subst h;exact⟨y,rfl,h1⟩
 |x::xs,y::ys,i+1,z,⟨_,h2⟩,h=>by simp at h;simpa using Alike.get h2 h
theorem Alike.set{x:α}{y:β}(hx:R x y):∀ {xs:List α} {ys:List β} (i:Nat),Alike R xs ys->Alike R (xs.set i x) (ys.set i y)
 |[],[],_,_=>trivial
 |[],_::_,_,h=>h.elim
 |_::_,[],_,h=>h.elim
 |_::_,_::_,0,⟨_,h2⟩=>⟨hx,h2⟩
 |_::_,_::_,i+1,⟨h1,h2⟩=>⟨h1,Alike.set hx i h2⟩
theorem Alike.push{x:α}{y:β}(hx:R x y):∀ {xs:List α} {ys:List β},Alike R xs ys->Alike R (xs++ [x]) (ys++ [y])
 |[],[],_=>⟨hx,trivial⟩
 |[],_::_,h=>h.elim
 |_::_,[],h=>h.elim
 |_::_,_::_,⟨h1,h2⟩=>⟨h1,Alike.push hx h2⟩
theorem Alike.erase:∀ {xs:List α} {ys:List β} (i:Nat),Alike R xs ys->Alike R (xs.eraseIdx i) (ys.eraseIdx i)
 |[],[],_,_=>by simp[Alike]
 |[],_::_,_,h=>h.elim
 |_::_,[],_,h=>h.elim
 |_::_,_::_,0,⟨_,h2⟩=>h2
 |_::_,_::_,i+1,⟨h1,h2⟩=>⟨h1,Alike.erase i h2⟩
end
theorem TT{α:Type}{f:α->α->Bool}(hf:∀x,f x x=bm):∀xs:List α,pC f xs xs=bm
 |[]=>rfl
 |x::xs=>by simp[pC,hf x,TT hf xs]
theorem beq_refl:∀(t:Ty) (x:t.den),t.comp=bm->t.beq x x=bm
 | .int _,x,_=>by simp[Ty.beq]
 | .bool,x,_=>by simp[Ty.beq]
 | .str,x,_=>by simp[Ty.beq]
 | .slice _,_,h=>by simp[Ty.comp]at h
 | .gG _,_,h | .qE _,_,h=>by simp[Ty.comp]at h
 | .iv t,x,_=> @lH _ ((Ty.iv t).aHN x x) rfl
 | .unit,_,_=>rfl
 | .pair a b,x,h=>by simp only[Ty.comp,aw]at h;simp only[Ty.beq,beq_refl a _ h.1,beq_refl b _ h.2,Bool.and_self]
 | .arr _ t,x,h=>by simp only[Ty.comp]at h;exact TT (λy=>beq_refl t y h) x
section
variable {β:Type} {kt:Ty}
theorem yq{x:kt.den}:cw kt x ([]:List (kt.den×β))=aH:=rfl
theorem fm{x:kt.den}{p:kt.den×β}{l:List (kt.den×β)}:cw kt x (p::l)=if kt.beq x p.1=bm then av p.2 else cw kt x l:=by
 unfold cw;cases h:kt.beq x p.1 with
 |true=>simp[jt,h]
 |false=>
  simp only[jt,h];cases jt kt x l <;> simp
theorem W6{x:kt.den}{v:β}:fp kt x v []=[(x,v)]:=rfl
theorem DN{x:kt.den}{v:β}{p:kt.den×β}{l:List (kt.den×β)}:fp kt x v (p::l)=if kt.beq x p.1=bm then(x,v)::l else p::fp kt x v l:=by
 unfold fp;cases h:kt.beq x p.1 with
 |true=>simp[jt,h]
 |false=>
  simp only[jt,h];cases jt kt x l <;> simp
theorem aES{x:kt.den}:kH kt x ([]:List (kt.den×β))=[]:=rfl
theorem I4{x:kt.den}{p:kt.den×β}{l:List (kt.den×β)}:kH kt x (p::l)=if kt.beq x p.1=bm then l else p::kH kt x l:=by
 unfold kH;cases h:kt.beq x p.1 with
 |true=>simp[jt,h]
 |false=>
  simp only[jt,h];cases jt kt x l <;> simp
theorem Om{x:kt.den}{v:β}:∀l:List (kt.den×β),(fp kt x v l).Perm ((x,v)::kH kt x l)
 |[]=>lE _
 |p::l=>by
  rw[DN,I4];split
  ·exact lE _
  ·exact((Om l).cons p).trans (List.Perm.swap _ _ _)
theorem xd(hc:kt.comp=bm){x:kt.den}:∀ {l:List (kt.den×β)},(l.map (·.1)).Nodup->kH kt x l=l.filter λp=> !kt.beq x p.1
 |[],_=>rfl
 |p::l,hn=>by
  rw[cj,dx]at hn;rw[I4,List.filter_cons];by_cases h:kt.beq x p.1=bm
  ·rw[if_pos h];simp only[h,bT,bG,bC];have hx:=beq_eq kt _ _ hc h;exact(kh.2 λq hq=>by
    simp only[di];rw[Bool.eq_false_iff];intro hb;have:=beq_eq kt _ _ hc hb;exact hn.1 (by rw[<-hx,this];exact dy.2 ⟨q,hq,rfl⟩)).symm
  ·have h':kt.beq x p.1=aZ:=by simpa using h
   rw[if_neg h];simp only[h',dX,bO];rw[xd hc hn.2]
theorem mq(hc:kt.comp=bm){x:kt.den}{v:β}:∀ {l:List (kt.den×β)},(l.map (·.1)).Nodup->(cw kt x l=av v↔(x,v)∈l)
 |[],_=>by simp[yq]
 |p::l,hn=>by
  rw[cj,dx]at hn;rw[fm,cq];by_cases h:kt.beq x p.1=bm
  ·rw[if_pos h];have hx:=beq_eq kt _ _ hc h;constructor
   ·intro e;left;rw[hx,<-bf e]
   ·rintro(e | e)
    ·rw[<-e]
    ·exact absurd (dy.2 ⟨_,e,rfl⟩) (by rw[<-hx]at hn;exact hn.1)
  ·rw[if_neg h,mq hc hn.2];constructor
   ·exact .inr
   ·rintro(e | e)
    ·exact absurd (by rw[<-e];exact beq_refl kt x hc) h
    ·exact e
theorem adX(hc:kt.comp=bm){x:kt.den}{l l':List (kt.den×β)}(hn:(l.map (·.1)).Nodup)(hp:l'.Perm l):cw kt x l'=cw kt x l:=by apply Option.ext;intro v;rw[mq hc ((hp.map _).nodup_iff.2 hn),mq hc hn,hp.mem_iff]
theorem adW(hc:kt.comp=bm){x:kt.den}{l l':List (kt.den×β)}(hn:(l.map (·.1)).Nodup)(hp:l'.Perm l):(kH kt x l').Perm (kH kt x l):=by rw[xd hc ((hp.map _).nodup_iff.2 hn),xd hc hn];exact hp.filter _
theorem axs(hc:kt.comp=bm){x:kt.den}{v:β}{l l':List (kt.den×β)}(hn:(l.map (·.1)).Nodup)(hp:l'.Perm l):(fp kt x v l').Perm (fp kt x v l):=
 (Om l').trans (((adW hc hn hp).cons _).trans (Om l).symm)
theorem LM(hc:kt.comp=bm){x:kt.den}{l:List (kt.den×β)}(hn:(l.map (·.1)).Nodup):((kH kt x l).map (·.1)).Nodup:=by rw[xd hc hn];exact hn.sublist (List.filter_sublist.map _)
theorem Zi(hc:kt.comp=bm){x:kt.den}{v:β}{l:List (kt.den×β)}(hn:(l.map (·.1)).Nodup):((fp kt x v l).map (·.1)).Nodup:=by rw[((Om l).map _).nodup_iff,cj,dx];refine⟨λh=> ?_,LM hc hn⟩;obtain⟨p,hp,he⟩:=dy.1 h;rw[xd hc hn,uj]at hp;have:=hp.2;have he:p.1=x:=he;rw[he,beq_refl kt x hc]at this;cases this
end
theorem RH{E:Env}:∀(v:aN) (t:Ty) (x:t.den) (cs:List Value),V E v cs->(tx t v).eval=av x->c9 E t cs x/\v.agg=t.agg/\v.fD=bm
 | .d t' x',t,x,cs,hv,h=>by
  have h':(Out.opt (wN t' t x')).eval=av x:=by cases t <;> simpa only[tx]using h
  obtain⟨rfl,h'⟩:=jN (jP.1 h');simp only at h';subst h';simp only[V]at hv;exact⟨hv,rfl,rfl⟩
 | .dJ,.slice t,x,cs,hv,h=>by simp only[tx,aD]at h;subst h;simp only[V]at hv;simp only[c9];exact⟨⟨aH,0,[],by simpa using hv,by simp,by simp,λi v hh=>by simp at hh,rfl⟩,rfl,rfl⟩
 | .pr a b,.pair ta tb,x,cs,hv,h=>by simp only[tx]at h;obtain⟨x1,h1,h2⟩:=aC.1 h;obtain⟨x2,h3,h4⟩:=aC.1 h2;obtain rfl:=aD.1 h4;simp only[V]at hv;obtain⟨ca,cb,rfl,ha,hb⟩:=hv;simp only[c9];exact⟨⟨ca,cb,rfl,(RH a ta x1 ca ha h1).1,(RH b tb x2 cb hb h3).1⟩,rfl,rfl⟩
 | .dJ,.int _,_,_,_,h | .dJ,.bool,_,_,_,h | .dJ,.str,_,_,_,h | .dJ,.unit,_,_,_,h | .dJ,.pair _ _,_,_,_,h | .dJ,.arr _ _,_,_,_,h=>by simp only[tx,aG]at h
 | .pr _ _,.int _,_,_,_,h | .pr _ _,.bool,_,_,_,h | .pr _ _,.str,_,_,_,h | .pr _ _,.unit,_,_,_,h | .pr _ _,.slice _,_,_,_,h | .pr _ _,.arr _ _,_,_,_,h=>by simp only[tx,aG]at h
 | .undef,t,_,_,_,h | .gone,t,_,_,_,h | .jW,t,_,_,_,h | .AV,t,_,_,_,h | .HB,t,_,_,_,h | .ptr ..,t,_,_,_,h | .dz ..,t,_,_,_,h | .bU ..,t,_,_,_,h | .fn ..,t,_,_,_,h
 | .cons ..,t,_,_,_,h | .nil,t,_,_,_,h | .vec ..,t,_,_,_,h | .bx ..,t,_,_,_,h | .c7 ..,t,_,_,_,h | .mp ..,t,_,_,_,h | .tP ..,t,_,_,_,h=>by cases t <;> simp only[tx,aG]at h
theorem air{v:aN}{t:Ty}{x:t.den}(h:(tx t v).eval=av x):v.fD=bm:=by cases v <;> first | rfl | (cases t <;> simp only[tx,aG]at h)
theorem Jg{E:Env}{v:aN}{y:Value}(hv:VS E v y){t:Ty}{x:t.den}(h:(tx t v).eval=av x):Hf E t y x:=by obtain⟨cs,h1,h2⟩:=hv.fD (air h);obtain⟨h3,h4,_⟩:=RH v t x cs h1 h;exact⟨cs,h3,by rw[<-h4];exact h2⟩
theorem E2{P:bj}{T K V':TypeId}{kt vt:Ty}(h:mapOf P T=av (K,V',kt,vt)):P.underlying T=av (.map K V')/\vT P depth K kt=bm/\ap1 P V' (.d vt vt.zero)=bm:=by
 unfold mapOf at h;split at h
 ·rename_i K0 V0 hT;split at h
  ·split at h
   ·rename_i hc;simp only[ax,de]at h;obtain⟨rfl,rfl,rfl,rfl⟩:=h;rw[aw]at hc;exact⟨hT,hc.1,hc.2⟩
   ·cases h
  ·cases h
 ·cases h
theorem Yy{k v k' v':Ty}{l:List (k.den×v.den)}{l':List (k'.den×v'.den)}(h:awq k v k' v' l=av l'):∃(e1:k=k') (e2:v=v'),(e1▸e2▸l)=l':=by
 unfold awq at h;split at h
 ·rename_i e;exact⟨e.1,e.2,by simpa using h⟩
 ·cases h
section
variable {P:bj} {C:Ctx} {g:Nat->qs} {β:Id->Option Pl} {s:AS} {a:Act} {w:cO} {o:Oper}
theorem Ci(h:Inv C g β s a w){id:Id}{ver:Nat}{kt vt:Ty}{l:List (kt.den×vt.den)}(ho:(s.tt id ver kt vt).eval=av l){y:Value}(hv:VS (s.env w g β) (.c7 id ver) y):
  ∃fr pl es clock,s.cJ id=av (.obj ver fr (.mp kt vt l))/\β id=av pl/\y= .map (av pl.b)/\w.heap[pl.b]? =av (.map es clock)/\g pl.b= .own (.id id) 0/\al9 (s.env w g β) kt vt es.toList l/\qH es.toList clock/\(l.map (·.1)).Nodup:=by
 unfold AS.tt at ho;split at ho
 ·rename_i v fr k' v' l' qF;obtain⟨aKt,aZO⟩:=aR.1 ho;have aKt:v=ver:=by simpa using aKt
  obtain⟨rfl,rfl,rfl⟩:=Yy (jP.1 aZO);subst aKt;have dQ:=fT qF;obtain⟨pl,es,clock,h1,h2,h3,h4⟩:=h.cg id v fr _ dQ;have hs:=hv.single rfl rfl;simp only[V]at hs;obtain⟨b,hb,_,hc⟩:=hs;obtain⟨pl',h5,h6⟩:=hc ⟨fr,_,dQ⟩;have h1:β id=av pl:=h1;have h5:β id=av pl':=h5;rw[h1]at h5;obtain rfl:pl=pl':=by simpa using h5
  refine⟨fr,pl,es,clock,dQ,h1,?_,h2,h3,h4.1.1,h4.2,h4.1.2⟩;have hb:y= .map (av b):=by simpa using hb
  rw[hb,h6]
 ·simp only[aG]at ho
theorem anR(h:Inv C g β s a w){T:TypeId}(dW:o.op= .makeMap T aH){s':AS}(he:(LI P s o.dst T).eval=av s'):il P o a w (ka C s'):=by
 unfold LI at he;split at he
 ·rename_i K V' kt vt q hm hd;obtain⟨hq,he⟩:=aR.1 he;obtain rfl:=aD.1 he;have ht:=Trans.alloc w g (.map #[] 0) (.own (.id (.new q 0)) 0);obtain⟨h1,h2⟩:=h.acq hq (c:= .mp kt vt []) (p:=av ⟨w.heap.size,0⟩) ht (λb hb=>⟨z8 w _ hb,iR _ _ _ aq⟩) (λ_=>
   ⟨⟨w.heap.size,0⟩,#[],0,oF _ _ _,De w _,iG _ _ _,⟨⟨[],trivial,lE _⟩,jH⟩,qH.nil _⟩)
  refine .inl ⟨.map (av w.heap.size),w.alloc (.map #[] 0),?_,_,_,h1.put o.dst (v:= .c7 (.new q 0) 0) ⟨[.map (av w.heap.size)],?_,rfl⟩⟩
  ·refine fE (f:=Instr.makeMap T aH) (by simp only[execOp,dW];rfl) ?_
   simp[Instr.makeMap,run_newObj_alloc]
  ·simp only[V];exact⟨_,rfl,wW hq _ _ _ _,λ_=>⟨_,oF _ _ _,rfl⟩⟩
 ·simp only[aG]at he
theorem Hf.vs{E:Env}{t:Ty}{v:Value}{x:t.den}(h:Hf E t v x):VS E (.d t x) v:=by obtain⟨cs,h1,h2⟩:=h;exact⟨cs,by simpa only[V]using h1,h2⟩
theorem ast(h:Inv C g β s a w){T:TypeId}{x i:cr}{ok:Bool}(dW:o.op= .lookup T x i ok){v:aN}(he:(IW P s T (s.ev x) (s.ev i) ok).eval=av v):il P o a w (ka C (s.put o.dst v)):=by
 unfold IW at he;split at he
 ·rename_i K V' kt vt id ver hm hx;obtain⟨l,h1,he⟩:=aC.1 he;obtain⟨k,h2,he⟩:=aC.1 he;obtain rfl:=aD.1 he;obtain⟨hT,hK,hz⟩:=E2 hm;have ar9:=h.ev x;rw[hx]at ar9;obtain⟨fr,pl,es,clock,g1,g2,g3,g4,g5,g6,g7,gn⟩:=Ci h h1 ar9;have Pq:=DC depth K kt hK;obtain⟨l0,g6,gp⟩:=g6;rw[<-adX Pq gn gp];clear gn h1;generalize l0=l at g6;have hk:=Jg (h.ev i) h2;have adk:=qQ (P:=P) (w:=w) es.isEmpty depth K kt hK 10000 eX _ _ hk;obtain⟨r,hf,hr⟩:=QZ (P:=P) (w:=w) hK hk rfl g6;obtain⟨iz,zv,z1,z2,z3,z4⟩:=yU hz (s.env w g β);have aEl:Hf (s.env w g β) vt zv vt.zero:=⟨_,by simpa only[V]using z3,z4⟩;have hzero:(zeroValue V').run P w= .ok zv w:=by simp[zeroValue,typeInfo,z1,z2]
  obtain⟨val,sr,DG⟩:∃val:Value×Bool,(Instr.lookup T (a.eval x) (a.eval i) ok).run P w= .ok (if ok then .tuple #[val.1,.bool val.2] else val.1) w/\Hf (s.env w g β) vt val.1 ((cw kt k l).getD vt.zero)/\val.2=(cw kt k l).isSome:=by
   cases r with
   |none=>
    simp only at hr;have hg:cw kt k l=aH:=by simp[cw,hr]
    refine⟨(zv,aZ),?_,by rw[hg];exact aEl,by rw[hg];rfl⟩;simp[Instr.lookup,run_underlying hT,g3,Go.MapKept.run_getObj_map g4,adk,hf,hzero]
   |some u=>
    obtain⟨j,u⟩:=u;obtain⟨e,m1,m2,rfl⟩:=hr;obtain⟨p,m3,m4⟩:=g6.get m2;have hg:cw kt k l=av p.2:=by simp[cw,m1,m3]
    refine⟨(e.val,bm),?_,by rw[hg];exact m4.2,by rw[hg];rfl⟩;simp[Instr.lookup,run_underlying hT,g3,Go.MapKept.run_getObj_map g4,adk,hf]
  refine h.value (x:=if ok then .tuple #[val.1,.bool val.2] else val.1) ?_ (fE (f:=Instr.lookup T (a.eval x) (a.eval i) ok) (by simp only[execOp,dW]) sr)
  unfold aTx;cases ok with
  |true=>
   obtain⟨cs,c1,c2⟩:=DG.1;refine⟨[val.1,.bool val.2],rfl,?_⟩;simp only[VC];refine⟨_,_,cs,rfl,by simpa only[V]using c1,c2,_,_,[.bool val.2],rfl,?_,rfl,rfl⟩;simp only[V,c9,DG.2]
  |false=>exact DG.1.vs
 ·simp only[aG]at he
theorem Inv.aN1(h:Inv C g β s a w){id:Id}{ver:Nat}{fr:Bool}{kt vt:Ty}{l l':List (kt.den×vt.den)}{pl:Pl}{es es':Array gl}{clock clock':Nat}(dQ:s.cJ id=av (.obj ver fr (.mp kt vt l)))(hp:β id=av pl)
  (hb:w.heap[pl.b]? =av (.map es clock)) (hg:g pl.b= .own (.id id) 0) (hr:al9 (s.env w g β) kt vt es'.toList l') (aQq:(l'.map (·.1)).Nodup) (aW5:qH es'.toList clock') (aUY:s.xU id=bm):
  Inv C g β (s.bI id (.obj ver aZ (.mp kt vt l'))) a {w with heap:=w.heap.setIfInBounds pl.b (.map es' clock')}:=by
 have fF:pl.b < w.heap.size:=(cS.1 hb).1;have hother:∀b',b'≠pl.b->({w with heap:=w.heap.setIfInBounds pl.b (.map es' clock')}:cO).heap[b']? =w.heap[b']? :=λb' jk=>by
  show(w.heap.setIfInBounds pl.b _)[b']? =_
  rw[fZ,if_neg (λe=>jk e.symm)]
 have ht:Trans w {w with heap:=w.heap.setIfInBounds pl.b (.map es' clock')} g g:=by
  refine⟨rfl,rfl,⟨rfl,az _⟩,by simp,λb' _=> ?_⟩;by_cases he:b'=pl.b
  ·subst he;rw[hg];exact⟨.inr ⟨id,0,rfl,az _⟩,λ_ _ hh=>aq⟩
  ·rw[hother b' he];cases adm:g b' with
   |free=>exact⟨rfl,rfl⟩
   |own o' k=>cases o' with
    |gf=>exact⟨rfl,rfl⟩
    |id i'=>exact⟨.inr ⟨i',k,rfl,az _⟩,λoff v _ hv=>by simpa only[World.cell?,hother b' he]using hv⟩
 have hle:dI (s.env w g β) ((s.bI id (.obj ver aZ (.mp kt vt l'))).env {w with heap:=w.heap.setIfInBounds pl.b (.map es' clock')} g β):=dI.bI dQ (az _) ht (λ_ _=>rfl) (λ_=>rfl);refine h.step (eo _ _ _) ht hle (ku.bI h.cg (by rw[dQ];simp) hle (λ_ _=>rfl) (λi ver fr c pl2 hi ahW YT=>⟨hother _ (h.apart hg hi ahW YT),rfl⟩) ?_ (by obtain rfl:=Ex dQ aUY;exact anE dQ));refine⟨pl,es',clock',hp,?_,hg,⟨hr.mono hle.mem,aQq⟩,aW5⟩;show(w.heap.setIfInBounds pl.b _)[pl.b]? =_
 rw[fZ,if_pos rfl,if_pos fF]
theorem asA(h:Inv C g β s a w){T:TypeId}{m k x:cr}(dW:o.op= .mapUpdate T m k x){s':AS}(he:(I1 P s T (s.ev m) (s.ev k) (s.ev x)).eval=av s'):il P o a w (ka C (s'.put o.dst .undef)):=by
 unfold I1 at he;split at he
 ·rename_i K V' kt vt id ver hm hx;obtain⟨l,h1,he⟩:=aC.1 he;obtain⟨kx,h2,he⟩:=aC.1 he;obtain⟨vx,h3,he⟩:=aC.1 he;obtain⟨aUY,he⟩:=aR.1 he;obtain rfl:=aD.1 he;obtain⟨hT,hK,_⟩:=E2 hm;have ar9:=h.ev m;rw[hx]at ar9;obtain⟨fr,pl,es,clock,g1,g2,g3,g4,g5,g6,g7,gn⟩:=Ci h h1 ar9;obtain⟨l0,g6,gp⟩:=g6;have hk:=Jg (h.ev k) h2;have hv:=Jg (h.ev x) h3;have adk:=qQ (P:=P) (w:=w) aZ depth K kt hK 10000 eX _ _ hk;obtain⟨r,hf,hr⟩:=QZ (P:=P) (w:=w) hK hk rfl g6;have Pq:=DC depth K kt hK
  have fin:∀(es':Array gl) (clock':Nat),(Instr.mapUpdate T (a.eval m) (a.eval k) (a.eval x)).run P w= .ok () {w with heap:=w.heap.setIfInBounds pl.b (.map es' clock')}->Alike (Im (s.env w g β) kt vt) es'.toList (fp kt kx vx l0)->qH es'.toList clock'->
    il P o a w (ka C ((s.bI id (.obj ver aZ (.mp kt vt (fp kt kx vx l)))).put o.dst .undef)):=λes' clock' sr aKf aW5=>
   .inr (.inl ⟨_,aj1 (f:=Instr.mapUpdate T (a.eval m) (a.eval k) (a.eval x)) (by simp only[execOp,dW]) sr,g,β,(h.aN1 g1 g2 g4 g5 ⟨_,aKf,axs Pq gn gp⟩ (Zi Pq gn) aW5 aUY).put o.dst VS.undef⟩)
  cases r with
  |none=>
   simp only at hr;refine fin (es.push {key:=a.eval k,val:=a.eval x,born:=clock}) (clock+1) ?_ ?_ (by rw[Array.toList_push];exact g7.push rfl)
   ·simp[Instr.mapUpdate,run_underlying hT,g3,Go.MapKept.run_getObj_map g4,adk,hf,Go.MapKept.run_setObj_map _ g4]
   ·simp only[fp,hr,Array.toList_push];exact g6.push ⟨hk,hv⟩
  |some u=>
   obtain⟨j,u⟩:=u;obtain⟨e,m1,m2,rfl⟩:=hr;obtain⟨p,m3,m4⟩:=g6.get m2;have aZp:kt.beq kx p.1=bm:=by
    have:∀(l:List (kt.den×vt.den)) (j:Nat),jt kt kx l=av j->∀p,l[j]? =av p->kt.beq kx p.1=bm:=by
     intro l
     induction l with
     |nil=>intro j hj;simp[jt]at hj
     |cons q l ih=>
      intro j hj p hp;simp only[jt]at hj;cases hb:kt.beq kx q.1 with
      |true=>
       rw[hb]at hj;simp only[ax]at hj;subst hj;simp at hp;subst hp;exact hb
      |false=>
       rw[hb]at hj;simp only[fX]at hj;obtain⟨j',hj',rfl⟩:=hj;exact ih j' hj' p (by simpa using hp)
    exact this l0 j m1 p m3
   have aEk:=beq_eq kt kx p.1 Pq aZp;have aZE:e.key=a.eval k:=Hf.aWc Pq (aEk▸m4.1) hk;have m2':es[j]? =av e:=by simpa using m2
   refine fin (es.modify j λe=> {e with key:=a.eval k,val:=a.eval x}) clock ?_ ?_ (by rw[Array.toList_modify,Go.ChangeMaps.modify_eq_set _ _ _ _ m2];exact g7.set m2 rfl)
   ·simp[Instr.mapUpdate,run_underlying hT,g3,Go.MapKept.run_getObj_map g4,adk,hf,m2',aZE,aGV Pq hk,Go.MapKept.run_setObj_map _ g4]
   ·simp only[fp,m1,Array.toList_modify];rw[Go.ChangeMaps.modify_eq_set _ _ _ _ m2];exact Alike.set (R:=Im (s.env w g β) kt vt) ⟨hk,hv⟩ j g6
 ·simp only[aG]at he
end
end Go.Ab
end
