/-
  Made short by a program of mine (wip/tools/mini.py).
-/
import Derived.WalkKit
import Derived.KernelRfl
import Derived.OrdersIn
import Derived.LoopNIn
import Derived.TacticsIn
import Derived.RangeFuncCalls
import Derived.RangeFuncLeaves
import Derived.RangeFuncRecord
import Derived.LaidEql
set_option linter.unusedVariables false
set_option linter.unusedSimpArgs false
set_option maxRecDepth 100000
set_option synthInstance.maxSize 5000
open Go renaming IntKind->kN,FuncId->jF,Operand->bH,Program->aR,World->cj,MapEntry->fi
open List renaming replicate->ag,map->dH,set->eE,length->ae
open BitVec renaming ofInt->bk
open Nat renaming beq->iL
open Go.Value renaming oneCell'->c6
open Go.World renaming cell?->eQ
open Go.Sem renaming run_bind->cg,run_pure->dF
open Go.Result renaming andThen_ok->bE
open Go.Addr renaming add_lit->eO
open Go.Op renaming equalIn->de
open Option renaming some->aw,none->aF
open Bool renaming true->aW,false->aQ
noncomputable section
namespace Go.Ab
theorem gj:type_of% @Array.ext':= @Array.ext'
theorem du:type_of% @Array.getD_eq_getD_getElem?:= @Array.getD_eq_getD_getElem?
theorem kT:type_of% @Array.getElem?_eq_getElem:= @Array.getElem?_eq_getElem
theorem bY:type_of% @Array.getElem?_eq_some_iff:= @Array.getElem?_eq_some_iff
theorem kM:type_of% @Array.getElem?_modify:= @Array.getElem?_modify
theorem eL:type_of% @Array.getElem?_setIfInBounds:= @Array.getElem?_setIfInBounds
theorem cG:type_of% @Array.length_toList:= @Array.length_toList
theorem bZ:type_of% @Array.toList_append:= @Array.toList_append
theorem iU:type_of% @BitVec.ofInt_natCast:= @BitVec.ofInt_natCast
theorem si:type_of% @BitVec.toNat_ofInt:= @BitVec.toNat_ofInt
theorem ki:type_of% @BitVec.toNat_ofNat:= @BitVec.toNat_ofNat
theorem al:type_of% @Bool.and_eq_true:= @Bool.and_eq_true
theorem oq:type_of% @Bool.and_self:= @Bool.and_self
theorem dN:type_of% @Bool.eq_false_or_eq_true:= @Bool.eq_false_or_eq_true
theorem dG:type_of% @Bool.false_and:= @Bool.false_and
theorem bU:type_of% @Bool.false_eq_true:= @Bool.false_eq_true
theorem cD:type_of% @Bool.not_eq_true':= @Bool.not_eq_true'
theorem eP:type_of% @Bool.not_false:= @Bool.not_false
theorem cd:type_of% @Bool.not_true:= @Bool.not_true
theorem ju:type_of% @Bool.or_eq_true:= @Bool.or_eq_true
theorem bI:type_of% @Bool.true_and:= @Bool.true_and
theorem lk:type_of% @Int.add_emod:= @Int.add_emod
theorem np:type_of% @Int.dvd_refl:= @Int.dvd_refl
theorem fK:type_of% @Int.emod_emod_of_dvd:= @Int.emod_emod_of_dvd
theorem dU:type_of% @Int.emod_eq_of_lt:= @Int.emod_eq_of_lt
theorem iE:type_of% @Int.emod_lt_of_pos:= @Int.emod_lt_of_pos
theorem jv:type_of% @Int.emod_nonneg:= @Int.emod_nonneg
theorem kj:type_of% @Int.fdiv_eq_ediv_of_nonneg:= @Int.fdiv_eq_ediv_of_nonneg
theorem wx:type_of% @Int.le_refl:= @Int.le_refl
theorem lY:type_of% @Int.mul_assoc:= @Int.mul_assoc
theorem jG:type_of% @Int.mul_comm:= @Int.mul_comm
theorem gH:type_of% @Int.mul_emod:= @Int.mul_emod
theorem sL:type_of% @Int.mul_one:= @Int.mul_one
theorem pM:type_of% @Int.natCast_emod:= @Int.natCast_emod
theorem jw:type_of% @Int.natCast_mul:= @Int.natCast_mul
theorem gJ:type_of% @Int.natCast_nonneg:= @Int.natCast_nonneg
theorem kW:type_of% @Int.natCast_pow:= @Int.natCast_pow
theorem fA:type_of% @Int.pow_succ:= @Int.pow_succ
theorem ln:type_of% @Int.pow_zero:= @Int.pow_zero
theorem iK:type_of% @Int.sub_zero:= @Int.sub_zero
theorem kk:type_of% @Int.tdiv_eq_ediv_of_nonneg:= @Int.tdiv_eq_ediv_of_nonneg
theorem gX:type_of% @Int.tmod_eq_emod_of_nonneg:= @Int.tmod_eq_emod_of_nonneg
theorem aa:type_of% @Int.toNat_natCast:= @Int.toNat_natCast
theorem aS:type_of% @Int.toNat_zero:= @Int.toNat_zero
theorem tl:type_of% @List.Perm.refl:= @List.Perm.refl
theorem fp:type_of% @List.all_cons:= @List.all_cons
theorem cf:type_of% @List.all_eq_true:= @List.all_eq_true
theorem oK:type_of% @List.any_eq_false:= @List.any_eq_false
theorem aC:type_of% @List.append_assoc:= @List.append_assoc
theorem bn:type_of% @List.append_nil:= @List.append_nil
theorem bF:type_of% @List.cons.injEq:= @List.cons.injEq
theorem mz:type_of% @List.cons_append:= @List.cons_append
theorem iG:type_of% @List.drop_append:= @List.drop_append
theorem fL:type_of% @List.drop_drop:= @List.drop_drop
theorem aq:type_of% @List.drop_eq_getElem_cons:= @List.drop_eq_getElem_cons
theorem kX:type_of% @List.drop_left':= @List.drop_left'
theorem aN:type_of% @List.drop_length:= @List.drop_length
theorem dh:type_of% @List.drop_of_length_le:= @List.drop_of_length_le
theorem tm:type_of% @List.drop_take:= @List.drop_take
theorem aM:type_of% @List.drop_zero:= @List.drop_zero
theorem bP:type_of% @List.eq_nil_of_length_eq_zero:= @List.eq_nil_of_length_eq_zero
theorem pN:type_of% @List.ext_getElem:= @List.ext_getElem
theorem jA:type_of% @List.filter_eq_self:= @List.filter_eq_self
theorem cI:type_of% @List.flatMap_cons:= @List.flatMap_cons
theorem pO:type_of% @List.flatMap_nil:= @List.flatMap_nil
theorem lp:type_of% @List.flatten_cons:= @List.flatten_cons
theorem pP:type_of% @List.flatten_nil:= @List.flatten_nil
theorem cS:type_of% @List.foldl_cons:= @List.foldl_cons
theorem fM:type_of% @List.foldl_nil:= @List.foldl_nil
theorem qB:type_of% @List.getD_cons_succ:= @List.getD_cons_succ
theorem jB:type_of% @List.getD_cons_zero:= @List.getD_cons_zero
theorem aK:type_of% @List.getD_eq_getElem?_getD:= @List.getD_eq_getElem?_getD
theorem iy:type_of% @List.getElem?_append_left:= @List.getElem?_append_left
theorem mA:type_of% @List.getElem?_cons_succ:= @List.getElem?_cons_succ
theorem fF:type_of% @List.getElem?_cons_zero:= @List.getElem?_cons_zero
theorem fN:type_of% @List.getElem?_drop:= @List.getElem?_drop
theorem cn:type_of% @List.getElem?_eq_getElem:= @List.getElem?_eq_getElem
theorem dZ:type_of% @List.getElem?_eq_none:= @List.getElem?_eq_none
theorem dE:type_of% @List.getElem?_eq_some_iff:= @List.getElem?_eq_some_iff
theorem dK:type_of% @List.getElem?_map:= @List.getElem?_map
theorem ek:type_of% @List.getElem?_set_ne:= @List.getElem?_set_ne
theorem cW:type_of% @List.getElem?_take:= @List.getElem?_take
theorem ba:type_of% @List.getElem_mem:= @List.getElem_mem
theorem ai:type_of% @List.length_append:= @List.length_append
theorem aE:type_of% @List.length_cons:= @List.length_cons
theorem da:type_of% @List.length_drop:= @List.length_drop
theorem bR:type_of% @List.length_map:= @List.length_map
theorem bj:type_of% @List.length_nil:= @List.length_nil
theorem cO:type_of% @List.length_replicate:= @List.length_replicate
theorem ed:type_of% @List.length_set:= @List.length_set
theorem ct:type_of% @List.length_take:= @List.length_take
theorem hZ:type_of% @List.map_congr_left:= @List.map_congr_left
theorem bS:type_of% @List.map_cons:= @List.map_cons
theorem jP:type_of% @List.map_id:= @List.map_id
theorem lq:type_of% @List.map_map:= @List.map_map
theorem eX:type_of% @List.map_nil:= @List.map_nil
theorem bJ:type_of% @List.mem_append:= @List.mem_append
theorem cz:type_of% @List.mem_cons:= @List.mem_cons
theorem aV:type_of% @List.mem_cons_of_mem:= @List.mem_cons_of_mem
theorem bf:type_of% @List.mem_cons_self:= @List.mem_cons_self
theorem nY:type_of% @List.mem_filter:= @List.mem_filter
theorem gL:type_of% @List.mem_flatMap:= @List.mem_flatMap
theorem kO:type_of% @List.mem_iff_getElem?:= @List.mem_iff_getElem?
theorem fm:type_of% @List.mem_map:= @List.mem_map
theorem cE:type_of% @List.mem_of_getElem?:= @List.mem_of_getElem?
theorem cX:type_of% @List.mem_singleton:= @List.mem_singleton
theorem aO:type_of% @List.nil_append:= @List.nil_append
theorem ia:type_of% @List.nodup_cons:= @List.nodup_cons
theorem j9:type_of% @List.not_mem_nil:= @List.not_mem_nil
theorem fw:type_of% @List.set_getElem_self:= @List.set_getElem_self
theorem bQ:type_of% @List.singleton_append:= @List.singleton_append
theorem gm:type_of% @List.size_toArray:= @List.size_toArray
theorem mB:type_of% @List.take_append:= @List.take_append
theorem dm:type_of% @List.take_append_drop:= @List.take_append_drop
theorem iV:type_of% @List.take_append_of_le_length:= @List.take_append_of_le_length
theorem kY:type_of% @List.take_left':= @List.take_left'
theorem bt:type_of% @List.take_length:= @List.take_length
theorem bg:type_of% @List.take_of_length_le:= @List.take_of_length_le
theorem dV:type_of% @List.take_succ_eq_append_getElem:= @List.take_succ_eq_append_getElem
theorem mC:type_of% @List.take_take:= @List.take_take
theorem dI:type_of% @List.take_zero:= @List.take_zero
theorem dz:type_of% @Nat.add_assoc:= @Nat.add_assoc
theorem eG:type_of% @Nat.add_mul:= @Nat.add_mul
theorem bM:type_of% @Nat.add_zero:= @Nat.add_zero
theorem fx:type_of% @Nat.eq_of_beq_eq_true:= @Nat.eq_of_beq_eq_true
theorem nq:type_of% @Nat.eq_zero_or_pos:= @Nat.eq_zero_or_pos
theorem gz:type_of% @Nat.le_of_ble_eq_true:= @Nat.le_of_ble_eq_true
theorem az:type_of% @Nat.le_refl:= @Nat.le_refl
theorem iM:type_of% @Nat.lt_irrefl:= @Nat.lt_irrefl
theorem pQ:type_of% @Nat.lt_or_ge:= @Nat.lt_or_ge
theorem fS:type_of% @Nat.min_eq_left:= @Nat.min_eq_left
theorem mD:type_of% @Nat.mod_eq_of_lt:= @Nat.mod_eq_of_lt
theorem nr:type_of% @Nat.mul_comm:= @Nat.mul_comm
theorem cM:type_of% @Nat.mul_le_mul_right:= @Nat.mul_le_mul_right
theorem lr:type_of% @Nat.mul_mod:= @Nat.mul_mod
theorem gq:type_of% @Nat.mul_one:= @Nat.mul_one
theorem rv:type_of% @Nat.not_lt_zero:= @Nat.not_lt_zero
theorem iW:type_of% @Nat.one_mul:= @Nat.one_mul
theorem oX:type_of% @Nat.pow_add:= @Nat.pow_add
theorem lu:type_of% @Nat.pow_le_pow_right:= @Nat.pow_le_pow_right
theorem tn:type_of% @Nat.pow_succ:= @Nat.pow_succ
theorem kP:type_of% @Nat.sub_eq_zero_of_le:= @Nat.sub_eq_zero_of_le
theorem nu:type_of% @Nat.sub_zero:= @Nat.sub_zero
theorem aH:type_of% @Nat.zero_add:= @Nat.zero_add
theorem aL:type_of% @Nat.zero_le:= @Nat.zero_le
theorem nv:type_of% @Nat.zero_mul:= @Nat.zero_mul
theorem eM:type_of% @Option.getD_some:= @Option.getD_some
theorem cv:type_of% @Option.isSome_iff_exists:= @Option.isSome_iff_exists
theorem di:type_of% @Option.map_eq_some_iff:= @Option.map_eq_some_iff
theorem eZ:type_of% @Option.map_some:= @Option.map_some
theorem bu:type_of% @Option.some.inj:= @Option.some.inj
theorem aA:type_of% @Option.some.injEq:= @Option.some.injEq
theorem cT:type_of% @Prod.mk.injEq:= @Prod.mk.injEq
theorem dW:type_of% @Sum.getRight?_inr:= @Sum.getRight?_inr
theorem fb:type_of% @Sum.isLeft_inr:= @Sum.isLeft_inr
theorem eW:type_of% @and_self:= @and_self
theorem eF:type_of% @and_true:= @and_true
theorem fv:type_of% @beq_eq_false_iff_ne:= @beq_eq_false_iff_ne
theorem dp:type_of% @beq_iff_eq:= @beq_iff_eq
theorem c7:type_of% @congrArg:= @congrArg
theorem rz:type_of% @decide_eq_false:= @decide_eq_false
theorem pa:type_of% @decide_eq_true:= @decide_eq_true
theorem bh:type_of% @decide_eq_true_eq:= @decide_eq_true_eq
theorem bA:type_of% @decide_true:= @decide_true
theorem mG:type_of% @false_and:= @false_and
theorem bz:type_of% @if_false:= @if_false
theorem bN:type_of% @if_true:= @if_true
theorem hJ:type_of% @true_and:= @true_and
end Go.Ab
namespace Go.Ab
theorem gw{p:Prop}(h:p:=by decide):p:=h
theorem ak{p:Prop}(h:p:=by omega):p:=h
theorem cK{p:Prop}(h:p:=by kernel_rfl):p:=h
inductive Ty where
 |int (k:kN) | bool | str | slice (t:Ty) | unit | pair (a b:Ty) | arr (n:Nat) (t:Ty)
 |fo (t:Ty)
 |mR (t:Ty)
 |gC (t:Ty)
 |eK (t:Ty)
 |js (z:Nat)
 |jp (n:Nat)
 deriving DecidableEq,Inhabited
@[reducible] def Ty.den:Ty->Type
 | .int _=>Int
 | .bool=>Bool
 | .str=>ByteArray
 | .slice t=>List t.den
 | .unit=>Unit
 | .pair a b=>a.den×b.den
 | .arr _ t=>List t.den
 | .fo t=>Option (List t.den)
 | .mR t=>Option t.den
 | .gC t=>Option (Nat×t.den)
 | .eK t=>Bool×List t.den
 | .js _=>Nat
 | .jp _=>Unit
def Ty.size:Ty->Nat
 | .unit=>0
 | .pair a b=>a.size+b.size
 | .arr n t=>n*t.size
 | .int _ | .bool | .str | .slice _ | .fo _ | .mR _ | .gC _ | .eK _ | .js _ | .jp _=>1
def Ty.agg:Ty->Bool
 | .unit | .pair _ _ | .arr _ _=>aW
 | .int _ | .bool | .str | .slice _ | .fo _ | .mR _ | .gC _ | .eK _ | .js _ | .jp _=>aQ
def Ty.zero:(t:Ty)->t.den
 | .int _=>(0:Int)
 | .bool=>aQ
 | .str=>ByteArray.empty
 | .slice _=> []
 | .unit=>()
 | .pair a b=>(a.zero,b.zero)
 | .arr n t=>ag n t.zero
 | .fo _=>aF
 | .mR _=>aF
 | .gC _=>aF
 | .eK _=>(aW,[])
 | .js _=>(0:Nat)
 | .jp _=>()
def Ty.comp:Ty->Bool
 | .slice _ | .fo _ | .mR _ | .eK _ | .js _ | .jp _=>aQ
 | .pair a b=>a.comp && b.comp
 | .arr _ t=>t.comp
 | .int _ | .bool | .str | .unit | .gC _=>aW
def nE{α:Type}(f:α->α->Bool):List α->List α->Bool
 |[],[]=>aW
 |x::xs,y::ys=>f x y && nE f xs ys
 |_,_=>aQ
def Ty.ap2:(t:Ty)->(x y:t.den)->Decidable (x=y)
 | .int _,x,y=>inferInstanceAs (Decidable (@Eq Int x y))
 | .bool,x,y=>inferInstanceAs (Decidable (@Eq Bool x y))
 | .str,x,y=>inferInstanceAs (Decidable (@Eq ByteArray x y))
 | .slice t,x,y=> @instDecidableEqList t.den t.ap2 x y
 | .unit,_,_=>isTrue rfl
 | .pair a b,x,y=> @instDecidableEqProd a.den b.den a.ap2 b.ap2 x y
 | .arr _ t,x,y=> @instDecidableEqList t.den t.ap2 x y
 | .fo t,x,y=>letI:DecidableEq t.den:=t.ap2;inferInstanceAs (Decidable (@Eq (Option (List t.den)) x y))
 | .mR t,x,y=>letI:DecidableEq t.den:=t.ap2;inferInstanceAs (Decidable (@Eq (Option t.den) x y))
 | .gC t,x,y=>letI:DecidableEq t.den:=t.ap2;inferInstanceAs (Decidable (@Eq (Option (Nat×t.den)) x y))
 | .eK t,x,y=>letI:DecidableEq t.den:=t.ap2;inferInstanceAs (Decidable (@Eq (Bool×List t.den) x y))
 | .js _,x,y=>inferInstanceAs (Decidable (@Eq Nat x y))
 | .jp _,_,_=>isTrue rfl
def Ty.aoN:Ty->Bool
 | .fo _ | .eK _ | .js _ | .jp _=>aQ
 | .slice t | .arr _ t | .mR t | .gC t=>t.aoN
 | .pair a b=>a.aoN && b.aoN
 | .int _ | .bool | .str | .unit=>aW
def Ty.beq:(t:Ty)->t.den->t.den->Bool
 | .int _,x,y=>(x:Int)==y
 | .bool,x,y=>(x:Bool)==y
 | .str,x,y=>(x:ByteArray).toList==(y:ByteArray).toList
 | .slice t,x,y=>nE t.beq x y
 | .unit,_,_=>aW
 | .pair a b,x,y=>a.beq x.1 y.1 && b.beq x.2 y.2
 | .arr _ t,x,y=>nE t.beq x y
 | .fo t,x,y=>nE t.beq (x.getD []) (y.getD [])
 | .mR _,_,_ | .eK _,_,_ | .js _,_,_ | .jp _,_,_=>aQ
 | .gC t,x,y=> @decide (x=y) ((Ty.gC t).ap2 x y)
def tt(t t':Ty)(x:t.den):Option t'.den:=if h:t=t' then aw (h▸x) else aF
def Un:(a b:Ty)->Option (a.den->b.den)
 | .fo t,.slice t'=>if h:t=t' then aw λo=>cast (c7 (λt:Ty=>List t.den) h) (o.getD []) else aF
 | .slice t,.fo t'=>if h:t=t' then aw λl=>aw (cast (c7 (λt:Ty=>List t.den) h) l) else aF
 | .pair a b,.pair c d=>match Un a c,Un b d with
  |some f,aw k=>aw λx=>(f x.1,k x.2)
  |_,_=>aF
 | .slice a,.slice b=>match Un a b with
  |some f=>aw (dH f)
  |none=>aF
 | .slice t,.eK t'=>if h:t=t' then aw λl=>(aQ,cast (c7 (λt:Ty=>List t.den) h) l) else aF
 |a,b=>if h:a=b then aw (cast (c7 Ty.den h)) else aF
def aBr(a b:Ty)(x:a.den):b.den:=match Un a b with | some f=>f x | none=>b.zero
def xv(t t':Ty)(x:t.den):Option t'.den:=
 match tt t t' x with
 |some y=>aw y
 |none=>match Un t t' with
  |some f=>aw (f x)
  |none=>aF
def Ty.pj:Ty->Bool
 | .eK _=>aQ
 | .slice t | .arr _ t | .fo t | .mR t | .gC t=>t.pj
 | .pair a b=>a.pj && b.pj
 | .int _ | .bool | .str | .unit | .js _ | .jp _=>aW
def Ty.Tk:Ty->Ty
 | .eK t=> .js t.size
 | .pair a b=> .pair a.Tk b.Tk
 |t=>t
def Ty.fW:(t:Ty)->t.den->Bool
 | .eK t,x=>x.1 && !(t.size==0)
 | .pair a b,x=>a.fW x.1 && b.fW x.2
 |t,_=>t.pj
def Ty.om:(t:Ty)->t.den->t.Tk.den
 | .eK t,x=>(x:Bool×List t.den).2.length
 | .pair a b,x=>(a.om x.1,b.om x.2)
 | .int _,x | .bool,x | .str,x | .slice _,x | .unit,x | .arr _ _,x | .fo _,x | .mR _,x | .gC _,x | .js _,x | .jp _,x=>x
def Ty.Zd:Ty->Ty
 | .eK t=> .slice t
 | .pair a b=> .pair a.Zd b.Zd
 |t=>t
def Ty.KU:(t:Ty)->t.den->t.Zd.den
 | .eK t,x=>(x:Bool×List t.den).2
 | .pair a b,x=>(a.KU x.1,b.KU x.2)
 | .int _,x | .bool,x | .str,x | .slice _,x | .unit,x | .arr _ _,x | .fo _,x | .mR _,x | .gC _,x | .js _,x | .jp _,x=>x
def nth(t:Ty)(l:List t.den)(i:Nat):t.den:=l.getD i t.zero
inductive Id where
 |eC (k:Nat)
 |new (site j:Nat)
 deriving DecidableEq,Inhabited
inductive C1 where
 |fst | snd
 |idx (i:Nat)
 |arr
structure uZ where
 y:Nat
 ps:Array Tmp
 as:Code
 b:Code
inductive aB where
 |undef
 |gone
 |cw | kq | vh | zZ
 |d (t:Ty) (x:t.den)
 |pr (a b:aB)
 |ptr (id:Id) (ver:Nat) (p:List C1) (n:Nat)
 |dB (t:Ty) (x:t.den)
 |dx (id:Id) (ver:Nat) (p:List C1) (c i len:Nat)
 |fn (f:jF) (caps:aB)
 |cons (a b:aB)
 |nil
 |vec (e:TypeId) (t:Ty) (l:List t.den)
 |sb (l:List Int)
 |bx (e:TypeId) (z:Nat) (c:aB)
 |sG (id:Id) (ver:Nat)
 |mp (k v:Ty) (l:List (k.den×v.den))
 |rA (q:Id) (ver:Nat) (k v:Ty) (rest:List (k.den×v.den)) (cur:Option (k.den×v.den))
 |yl (id:Id) (ver:Nat)
 |xx (c:uZ) (frame:aB) (p:Nat)
inductive dP where
 |dead
 |obj (ver:Nat) (fr:Bool) (c:aB)
def EJ(c:aB):dP:= .obj 0 aQ c
def cH(c:aB):List dP:=[.obj 0 aQ c]
def dX(q:Nat):aB:= .ptr (.new q 0) 0 [] 0
def iw(q n:Nat):aB:= .dx (.new q 0) 0 [] 0 0 n
def YQ:aB:= .d .unit ()
def bK:aB:= .undef
structure AS where
 ck:List aB
 dg:List dP
 news:List (List dP)
def a9(n:Nat)(l:List aB):List aB:=ag n .undef++l
def bC(n:Nat)(l:List (List dP)):List (List dP):=ag n []++l
inductive Out(α:Type):Type 1 where
 |ok (a:α)
 |fail
 |sQ (c:Bool) (r:Out α)
 |get {β:Type} (x:Option β) (f:β->Out α)
 |br (c:Bool) (a b:Out α)
def Out.eval{α:Type}:Out α->Option α
 | .ok a=>aw a
 | .fail=>aF
 | .sQ c r=>match c with | true=>r.eval | false=>aF
 | .get x f=>match x with | some y=>(f y).eval | none=>aF
 | .br c a b=>match c with | true=>a.eval | false=>b.eval
def aG{α:Type}(c:Bool)(x y:Option α):Option α:=match c with | true=>x | false=>y
def aj{α β:Type}(x:Option α)(f:α->Option β):Option β:=match x with | some a=>f a | none=>aF
def Out.run{α R:Type}:Out α->(α->Option R)->Option R
 | .ok a,k=>k a
 | .fail,_=>aF
 | .sQ c r,k=>aG c (r.run k) aF
 | .get x f,k=>aj x λy=>(f y).run k
 | .br c a b,k=>aG c (a.run k) (b.run k)
def Out.bind{α β:Type}:Out α->(α->Out β)->Out β
 | .ok a,f=>f a
 | .fail,_=> .fail
 | .sQ c r,f=> .sQ c (r.bind f)
 | .get x g,f=> .get x λy=>(g y).bind f
 | .br c a b,f=> .br c (a.bind f) (b.bind f)
def Out.opt{α:Type}:Option α->Out α
 |some a=> .ok a
 |none=> .fail
def Out.guard{α:Type}(c:Bool)(r:Out α):Out α:=match c with | true=>r | false=> .fail
def aB.size:aB->Nat
 | .d t _=>t.size
 | .pr a b=>a.size+b.size
 |_=>1
def aB.agg:aB->Bool
 | .d t _=>t.agg
 | .pr _ _=>aW
 |_=>aQ
def aB.ee:aB->Bool
 | .undef | .cons _ _ | .nil | .vec .. | .bx .. | .mp .. | .rA .. | .xx .. =>aQ
 |_=>aW
def aB.strip:aB->aB
 | .bx _ _ c=>c
 |c=>c
def aB.wrap:aB->aB->aB
 | .bx e z _,c=> .bx e z c
 |_,c=>c
def MQ:aB->aB->aB
 | .d a x,.d b y=> .d (.pair a b) (x,y)
 |a,b=> .pr a b
def ofConst:Value->aB
 | .bool b=> .d .bool b
 | .int k n=> .d (.int k) n
 | .string s=> .d .str s
 | .slice aF 0 0=> .cw
 | .pointer aF=> .kq
 | .nilFunc=> .vh
 | .map aF=> .zZ
 |_=> .undef
def AS.slot(s:AS)(i:Nat):aB:=s.ck.getD i .undef
def AS.ev(s:AS):bH->aB
 | .tmp t=>s.slot t
 | .const v=>ofConst v
 | .func f=> .fn f .nil
 | .global _=> .undef
def AS.put(s:AS)(dst:Option Tmp)(v:aB):AS:=
 match dst with
 |some t=> {s with ck:=s.ck.set t v}
 |none=>s
def AS.bV(s:AS):Id->Option dP
 | .eC k=>s.dg[k]?
 | .new i j=>(s.news.getD i [])[j]?
def AS.aZ(s:AS)(id:Id)(e:dP):AS:=
 match id with
 | .eC k=> {s with dg:=s.dg.set k e}
 | .new i j=> {s with news:=s.news.set i ((s.news.getD i []).set j e)}
def AS.ej(s:AS)(i:Nat):Bool:=match s.news[i]? with | some []=>aW | _=>aQ
def AS.born(s:AS)(i:Nat)(es:List dP):AS:= {s with news:=s.news.set i es}
def AS.obj(s:AS)(id:Id):Option (Nat×Bool×aB):=
 match s.bV id with
 |some (.obj v f c)=>aw (v,f,c)
 |_=>aF
def aJx:List Nat:=[]
def YB(P:aR)(nl:Bool):Nat->TypeId->Option Ty
 | 0,_=>aF
 |n+1,T=>
  match P.underlying T with
  |some (.int k)=>aw (.int k)
  |some .bool=>aw .bool
  |some .string=>aw .str
  |some (.slice e)=>match YB P aQ n e with | some t=>aw (match nl with | true=> .fo t | false=> .slice t) | none=>aF
  |some (.array k e)=>match YB P nl n e with | some t=>aw (.arr k t) | none=>aF
  |some (.pointer e)=>match YB P aQ n e with | some t=>aw (match aJx.contains T with | true=> .gC t | false=> .mR t) | none=>aF
  |some (.struct fs)=>fs.toList.foldr (λf acc=>match YB P nl n f.type,acc with | some a,aw b=>aw (.pair a b) | _,_=>aF) (aw .unit)
  |_=>aF
def ajI(P:aR):Nat->TypeId->Option Ty:=YB P aQ
def zeroOf(P:aR):Nat->TypeId->Option aB
 | 0,_=>aF
 |n+1,T=>
  match P.underlying T with
  |some (.int k)=>aw (.d (.int k) (0:Int))
  |some .bool=>aw (.d .bool aQ)
  |some .string=>aw (.d .str ByteArray.empty)
  |some (.slice _)=>aw .cw
  |some (.pointer _)=>aw .kq
  |some (.map _ _)=>aw .zZ
  |some (.func _ _ _)=>aw .vh
  |some (.array k e)=>match ajI P n e with | some t=>aw (.d (.arr k t) (ag k t.zero)) | none=>aF
  |some (.struct fs)=>fs.toList.foldr (λf acc=>match zeroOf P n f.type,acc with | some a,aw b=>aw (MQ a b) | _,_=>aF) (aw (.d .unit ()))
  |_=>aF
def depth:Nat:=12
def fits(P:aR)(T:TypeId)(v:aB):Bool:=
 v.ee && (P.cellsOf T==v.size) &&
 (match P.underlying T with | some (.struct _)=>v.agg | some (.array _ _)=>v.agg | some _=> !v.agg | none=>aQ)
def ov:Nat->List C1
 | 0=> [.fst]
 |n+1=> .snd::ov n
def loc:aB->List C1->Out (Nat×aB)
 |c,[]=> .ok (0,c)
 |c,.arr::p=>loc c p
 | .pr a _,.fst::p=>loc a p
 | .pr a b,.snd::p=>(loc b p).bind λ(n,v)=> .ok (a.size+n,v)
 | .d (.pair a _) x,.fst::p=>loc (.d a x.1) p
 | .d (.pair a b) x,.snd::p=>(loc (.d b x.2) p).bind λ(n,v)=> .ok (a.size+n,v)
 | .d (.arr _ t) l,.idx i::p=> .sQ (decide (i < (l:List t.den).length)) ((loc (.d t (nth t l i)) p).bind λ(n,v)=> .ok (i*t.size+n,v))
 | .vec _ t l,.idx i::p=> .sQ (decide (i < l.length)) ((loc (.d t (nth t l i)) p).bind λ(n,v)=> .ok (i*t.size+n,v))
 |_,_::_=> .fail
def xz:aB->List C1->aB->Out aB
 |c,.arr::p,v=>xz c p v
 | .vec ..,[],_=> .fail
 | .mp ..,[],_=> .fail
 | .rA ..,[],_=> .fail
 | .xx ..,[],_=> .fail
 |c,[],v=> .guard (v.ee && (c.size==v.size)) (.ok v)
 | .pr a b,.fst::p,v=>(xz a p v).bind λa'=> .ok (MQ a' b)
 | .pr a b,.snd::p,v=>(xz b p v).bind λb'=> .ok (MQ a b')
 | .d (.pair a b) x,.fst::p,v=>(xz (.d a x.1) p v).bind λa'=> .ok (MQ a' (.d b x.2))
 | .d (.pair a b) x,.snd::p,v=>(xz (.d b x.2) p v).bind λb'=> .ok (MQ (.d a x.1) b')
 | .d (.arr n t) l,.idx i::p,v=> .sQ (decide (i < (l:List t.den).length)) ((xz (.d t (nth t l i)) p v).bind fun
   | .d t' y=>(Out.opt (tt t' t y)).bind λy=> .ok (.d (.arr n t) ((l:List t.den).set i y))
   |_=> .fail)
 | .vec e t l,.idx i::p,v=> .sQ (decide (i < l.length)) ((xz (.d t (nth t l i)) p v).bind fun
   | .d t' y=>(Out.opt (tt t' t y)).bind λy=> .ok (.vec e t (l.set i y))
   |_=> .fail)
 |_,_::_,_=> .fail
def AS.row(s:AS)(id:Id)(ver:Nat)(p:List C1):Out (Nat×(t:Ty)×List t.den):=
 match s.obj id with
 |some (v,_,c)=> .guard (v==ver) ((loc c.strip p).bind fun
  | (n,.d (.arr _ t) l)=> .ok (n,⟨t,l⟩)
  | (n,.vec _ t l)=> .ok (n,⟨t,l⟩)
  |_=> .fail)
 |none=> .fail
def cut{α:Type}(l:List α)(i len:Nat):List α:=(l.drop i).take len
def AS.ix(s:AS):(t:Ty)->aB->Out t.den
 |t,.d t' x=>Out.opt (xv t' t x)
 | .slice _,.cw=> .ok []
 | .fo _,.cw=> .ok aF
 | .mR _,.kq=> .ok aF
 | .gC _,.kq=> .ok aF
 | .eK _,.cw=> .ok (aW,[])
 | .slice t,.dx id ver p c i len=>(s.row id ver p).bind λr=> .sQ (decide (r.1+i*r.2.1.size=c/\i+len<=r.2.2.length)) (Out.opt (xv (.slice r.2.1) (.slice t) (cut r.2.2 i len)))
 | .fo t,.dx id ver p c i len=>(s.row id ver p).bind λr=> .sQ (decide (r.1+i*r.2.1.size=c/\i+len<=r.2.2.length)) (Out.opt (xv (.slice r.2.1) (.fo t) (cut r.2.2 i len)))
 | .pair a b,.pr x y=>(s.ix a x).bind λx=>(s.ix b y).bind λy=> .ok (x,y)
 |_,_=> .fail
def aB.shared:aB->List Id
 | .dx id _ _ _ _ _=> [id]
 | .pr a b=>a.shared++b.shared
 |_=> []
def AS.freeze(s:AS)(id:Id):AS:=
 match s.bV id with
 |some (.obj v _ c)=>s.aZ id (.obj v aW c)
 |_=>s
def AS.bq(s:AS):List Id->AS
 |[]=>s
 |id::ids=>(s.freeze id).bq ids
end Go.Ab
namespace Go.Ab
def au5{α:Type}(f:α->List Value->Option (List Value)):List α->List Value->Option (List Value)
 |[],cs=>aw cs
 |x::xs,cs=>match f x cs with | some r=>au5 f xs r | none=>aF
def qC:(t:Ty)->t.den->List Value->Option (List Value)
 | .int k,x,.int k' n::r=>match decide (k=k'),decide (n=(x:Int)) with | true,aW=>aw r | _,_=>aF
 | .bool,x,.bool b::r=>match decide (b=(x:Bool)) with | true=>aw r | false=>aF
 | .str,x,.string s::r=>match decide (s=(x:ByteArray)) with | true=>aw r | false=>aF
 | .slice _,[],.slice aF 0 0::r=>aw r
 | .fo _,aF,.slice aF 0 0::r=>aw r
 | .mR _,aF,.pointer aF::r=>aw r
 | .gC _,aF,.pointer aF::r=>aw r
 | .eK _,(aW,[]),.slice aF 0 0::r=>aw r
 | .unit,_,r=>aw r
 | .pair a b,x,r=>match qC a x.1 r with | some r'=>qC b x.2 r' | none=>aF
 | .arr n t,l,r=>match decide ((l:List t.den).length=n) with | true=>au5 (qC t) l r | false=>aF
 |_,_,_=>aF
def SE:aB->List Value->Option (List Value)
 | .d t x,r=>qC t x r
 | .cw,.slice aF 0 0::r=>aw r
 | .kq,.pointer aF::r=>aw r
 | .vh,.nilFunc::r=>aw r
 | .zZ,.map aF::r=>aw r
 | .pr a b,r=>match SE a r with | some r'=>SE b r' | none=>aF
 |_,_=>aF
def sC:Value->Bool | .agg _=>aW | _=>aQ
def afB(P:aR)(T:TypeId)(z:aB):Bool:=
 match P.info? T with
 |some i=>match i.zero with
  |some zv=>(match SE z zv.cells.toList with | some []=>aW | _=>aQ) && (sC zv==z.agg)
  |none=>aQ
 |none=>aQ
structure oH where
 val:aB
 dg:List dP
 news:List dP
structure Entry where
 params:List (Option Ty)
 X:Type
 run:List aB->List dP->Option X
 out:List aB->List dP->X->oH
 sp:X->Out X:= .ok
 ajb:∀x y,(sp x).eval=aw y->y=x:=by exact λx y h=>(bu h).symm
 rel:Bool:=aQ
 set:List aB->List dP->X->Prop:=λ_ _ _=>False
abbrev uO:=jF->List aB->Option Entry
def aB.ids:aB->List Id
 | .ptr id _ _ _=> [id]
 | .dx id _ _ _ _ _=> [id]
 | .pr a b=>a.ids++b.ids
 | .cons a b=>a.ids++b.ids
 | .fn _ c=>c.ids
 | .bx _ _ c=>c.ids
 | .sG id _=> [id]
 | .yl id _=> [id]
 | .xx _ f _=>f.ids
 | .rA id _ _ _ _ _=> [id]
 |_=> []
def dP.ids:dP->List Id
 | .obj _ _ c=>c.ids
 | .dead=> []
def AS.reach(s:AS):Nat->List Id->List Id->List Id
 | 0,_,acc=>acc
 |_+1,[],acc=>acc
 |n+1,id::todo,acc=>if acc.contains id then s.reach n todo acc else s.reach n (((s.bV id).getD .dead).ids++todo) (acc++ [id])
def idxOf(id:Id):List Id->Option Nat
 |[]=>aF
 |x::xs=>if x=id then aw 0 else(idxOf id xs).map (· +1)
def aB.iI(ρ:Id->Nat->Option (Id×Nat)):aB->aB
 | .ptr id ver p n=>match ρ id ver with | some r=> .ptr r.1 r.2 p n | none=> .gone
 | .dx id ver p c i len=>match ρ id ver with | some r=> .dx r.1 r.2 p c i len | none=> .gone
 | .pr a b=> .pr (a.iI ρ) (b.iI ρ)
 | .cons a b=> .cons (a.iI ρ) (b.iI ρ)
 | .fn f c=> .fn f (c.iI ρ)
 | .bx e z c=> .bx e z (c.iI ρ)
 | .sG id ver=>match ρ id ver with | some r=> .sG r.1 r.2 | none=> .gone
 | .yl id ver=>match ρ id ver with | some r=> .yl r.1 r.2 | none=> .gone
 | .xx k f p=> .xx k (f.iI ρ) p
 | .rA id _ k v rest cur=> .rA id 0 k v rest cur
 |v=>v
def AS.wS(s:AS)(ids:List Id)(id:Id)(ver:Nat):Option (Id×Nat):=
 match idxOf id ids,s.obj id with
 |some k,aw (v,_,_)=>if v=ver then aw (.eC k,0) else aF
 |_,_=>aF
def AS.mW(s:AS)(ids:List Id)(id:Id):dP:=
 match s.bV id with
 |some (.obj _ fr c)=> .obj 0 fr (c.iI (s.wS ids))
 |_=> .dead
def AS.A6(s:AS)(id:Id):Nat:=match s.obj id with | some (v,_,_)=>v | none=>0
def aBM(ids:List Id)(dst:Nat):Id->Id
 | .eC k=>ids.getD k (.eC 0)
 | .new _ j=> .new dst j
def AS.vy(s:AS)(ids:List Id)(dst:Nat):Id->Nat->Option (Id×Nat)
 | .eC k,v=>match ids[k]? with | some id=>aw (id,s.A6 id+v) | none=>aF
 | .new _ j,v=>aw (.new dst j,v)
def AS.sw(s:AS)(ids:List Id)(dst:Nat)(ver:Nat):dP->dP
 | .obj v fr c=> .obj (ver+v) fr (c.iI (s.vy ids dst))
 | .dead=> .dead
def AS.conv(s:AS):List (Option Ty)->List aB->Out (List aB×List Id)
 |[],[]=> .ok ([],[])
 |some t::ps,v::vs=>(s.ix t v).bind λx=>(s.conv ps vs).bind λr=> .ok (.d t x::r.1,v.shared++r.2)
 |none::ps,v::vs=>(s.conv ps vs).bind λr=> .ok (v::r.1,r.2)
 |_,_=> .fail
def AS.jM(s0:AS)(all:List Id)(dst:Nat)(s:AS):List Id->List dP->AS
 |id::ids,e::es=>AS.jM s0 all dst (s.aZ id (s0.sw all dst (s0.A6 id) e)) ids es
 |_,_=>s
def aB.list:aB->List aB
 | .cons a b=>a::b.list
 |_=> []
def AS.made(s:AS)(ids:List Id)(t:Nat):List dP->AS
 |[]=>s
 |e::es=>s.born t ((e::es).map (s.sw ids t 0))
def AS.back(s:AS)(ids:List Id)(dst:Option Tmp)(g:oH):Out AS:=
 match dst with
 |some t=> .guard ((g.dg.length==ids.length) && (g.news.isEmpty || s.ej t))
   (.ok ((AS.jM s ids t (s.made ids t g.news) ids g.dg).put dst (g.val.iI (s.vy ids t))))
 |none=> .guard ((g.dg.length==ids.length) && g.news.isEmpty) (.ok (AS.jM s ids 0 s ids g.dg))
def AS.aa8(s:AS)(vs:List aB):List Id:=s.reach 64 (vs.flatMap aB.ids) []
def aB.pj:aB->Bool
 | .d t _ | .dB t _=>t.pj
 | .pr a b | .cons a b=>a.pj && b.pj
 | .fn _ c=>c.pj
 | .bx _ _ c=>c.pj
 | .vec _ t _=>t.pj
 | .mp k v _=>k.pj && v.pj
 | .rA _ _ k v _ _=>k.pj && v.pj
 | .xx _ f _=>f.pj
 |_=>aW
def AS.Dj(s:AS)(id:Id):Bool:=match s.obj id with | some (_,aW,.mp ..)=>aQ | some (_,_,c)=>c.pj | none=>aW
def AS.enter(s:AS)(en:Entry)(dst:Option Tmp)(ids:List Id)(vs:List aB):Out AS:= .guard ((ids.all λid=>(s.obj id).isSome && s.Dj id) && vs.all aB.pj) (.get (en.run (vs.map (aB.iI (s.wS ids))) (ids.map (s.mW ids))) λx=>(en.sp x).bind λx=>s.back ids dst (en.out (vs.map (aB.iI (s.wS ids))) (ids.map (s.mW ids)) x))
def AS.call(s:AS)(en:Entry)(dst:Option Tmp)(vs:List aB):Out AS:=(s.conv en.params vs).bind λr=>(s.bq r.2).enter en dst ((s.bq r.2).aa8 r.1) r.1
def cF(op:BinOp)(k:kN)(x y:Int):Int:=
 match op with
 | .and=>k.wrap ((bk k.bits x &&& bk k.bits y).toNat)
 | .or=>k.wrap ((bk k.bits x ||| bk k.bits y).toNat)
 | .xor=>k.wrap ((bk k.bits x^^^bk k.bits y).toNat)
 |_=>k.wrap ((bk k.bits x &&& ~~~bk k.bits y).toNat)
def avU(op:BinOp)(k:kN)(x:Int)(k':kN)(y:Int):Out aB:=
 match op with
 | .shl=> .sQ (decide (0<=y)) (.ok (.d (.int k) (k.wrap (x*2^(min y.toNat k.bits)))))
 | .shr=> .sQ (decide (0<=y)) (.ok (.d (.int k) (x.fdiv (2^(min y.toNat k.bits)))))
 |_=> .guard (decide (k=k')) (match op with
  | .add=> .ok (.d (.int k) (k.wrap (x+y)))
  | .sub=> .ok (.d (.int k) (k.wrap (x - y)))
  | .mul=> .ok (.d (.int k) (k.wrap (x*y)))
  | .quo=> .sQ (!(decide (y=0))) (.ok (.d (.int k) (k.wrap (x.tdiv y))))
  | .rem=> .sQ (!(decide (y=0))) (.ok (.d (.int k) (x.tmod y)))
  | .eql=> .ok (.d .bool (x==y))
  | .neq=> .ok (.d .bool (x !=y))
  | .lss=> .ok (.d .bool (decide (x < y)))
  | .leq=> .ok (.d .bool (decide (x<=y)))
  | .gtr=> .ok (.d .bool (decide (x > y)))
  | .geq=> .ok (.d .bool (decide (x>=y)))
  |op=> .ok (.d (.int k) (cF op k x y)))
def ayg(op:BinOp)(x y:ByteArray):Out aB:=
 match op with
 | .add=> .sQ (decide (((x.size+y.size:Nat):Int)<=IntKind.i64.max)) (.ok (.d .str (x++y)))
 | .eql=> .ok (.d .bool (x.toList==y.toList))
 | .neq=> .ok (.d .bool (!(x.toList==y.toList)))
 | .lss=> .ok (.d .bool (Op.bytesLess x.toList y.toList))
 | .geq=> .ok (.d .bool (!(Op.bytesLess x.toList y.toList)))
 |_=> .fail
def KE(P:aR)(T:TypeId)(b:Bool):Bool:=
 match P.underlying T with | some (.struct _)=>b | some (.array _ _)=>b | some _=> !b | none=>aQ
def Kt(P:aR)(sQ:TypeId->Ty->Bool):List Field->Ty->Nat->Bool
 |[],.unit,_=>aW
 |f::fs,.pair a b,off=> !(f.name== "_") && (f.offset==off) && !(a.size==0) && (P.cellsOf f.type==a.size) && KE P f.type a.agg && sQ f.type a && Kt P sQ fs b (off+a.size)
 |_,_,_=>aQ
def aAC(P:aR)(u:TypeId):Bool:=match P.info? u with | some i=> !(i.size==0) | none=>aQ
def aFm(P:aR)(T:TypeId):Bool:=match P.underlying T with | some (.pointer u)=>aAC P u | _=>aQ
def sR(P:aR):Nat->TypeId->Ty->Bool
 | 0,_,_=>aQ
 |n+1,T,t=>match P.underlying T,t with
  |some (.int _),.int _=>aW
  |some .bool,.bool=>aW
  |some .string,.str=>aW
  |some (.pointer u),.gC t=>aAC P u && t.aoN
  |some (.array m e),.arr m' t'=>(m==m') && !(t'.size==0) && (P.cellsOf e==t'.size) && KE P e t'.agg && sR P n e t'
  |some (.struct fs),t=> !P.stoodInHeld T && Kt P (sR P n) fs.toList t 0
  |_,_=>aQ
def aFy(P:aR)(T:TypeId):Bool:=match P.underlying T with | some (.pointer u)=>(P.info? u).isSome | _=>aQ
def xM(P:aR)(T:TypeId):aB->aB->Out Bool
 | .d (.gC t) x,.d (.gC t') y=>(Out.opt (tt (.gC t') (.gC t) y)).bind λy=> .guard (aFm P T && t.aoN) (.ok ((Ty.gC t).beq x y))
 | .d t x,.d t' y=>(Out.opt (tt t' t y)).bind λy=> .guard ((t.agg && !P.eqGuardType P.depth T || decide (t= .bool)) && sR P depth T t) (.ok (t.beq x y))
 | .cw,.cw=> .guard (isSl P T) (.ok aW)
 | .d (.slice t) l,.cw=> .guard (isSl P T) (.sQ (decide (0 < (l:List t.den).length)) (.ok aQ))
 | .cw,.d (.slice t) l=> .guard (isSl P T) (.sQ (decide (0 < (l:List t.den).length)) (.ok aQ))
 | .dx _ _ _ _ _ len,.cw=> .guard (isSl P T) (.sQ (decide (0 < len)) (.ok aQ))
 | .cw,.dx _ _ _ _ _ len=> .guard (isSl P T) (.sQ (decide (0 < len)) (.ok aQ))
 | .kq,.kq=> .guard (isPt P T) (.ok aW)
 | .ptr ..,.kq=> .guard (isPt P T) (.ok aQ)
 | .kq,.ptr .. => .guard (isPt P T) (.ok aQ)
 | .d (.mR t) x,.kq=> .guard (isPt P T) (.ok (x:Option t.den).isNone)
 | .kq,.d (.mR t) x=> .guard (isPt P T) (.ok (x:Option t.den).isNone)
 | .d (.gC t) x,.kq=> .guard (isPt P T) (.ok (x:Option (Nat×t.den)).isNone)
 | .kq,.d (.gC t) x=> .guard (isPt P T) (.ok (x:Option (Nat×t.den)).isNone)
 | .vh,.vh=> .guard (isFn P T) (.ok aW)
 | .fn ..,.vh=> .guard (isFn P T) (.ok aQ)
 | .vh,.fn .. => .guard (isFn P T) (.ok aQ)
 |_,_=> .fail
where
 isSl (P:aR) (T:TypeId):Bool:=match P.underlying T with | some (.slice _)=>aW | _=>aQ
 isPt (P:aR) (T:TypeId):Bool:=match P.underlying T with | some (.pointer _)=>aW | _=>aQ
 isFn (P:aR) (T:TypeId):Bool:=match P.underlying T with | some (.func _ _ _)=>aW | _=>aQ
def aB9(P:aR)(T:TypeId)(op:BinOp)(x y:aB):Out aB:=
 match x,y with
 | .d (.int k) a,.d (.int k') b=>avU op k a k' b
 | .d .str a,.d .str b=>ayg op a b
 |x,y=>match op with
  | .eql=>(xM P T x y).bind λb=> .ok (.d .bool b)
  | .neq=>(xM P T x y).bind λb=> .ok (.d .bool (!b))
  |_=> .fail
def aGl(op:UnOp)(x:aB):Out aB:=
 match op,x with
 | .not,.d .bool b=> .ok (.d .bool (!b))
 | .neg,.d (.int k) n=> .ok (.d (.int k) (k.wrap (0 - n)))
 | .xor,.d (.int k) n=> .ok (.d (.int k) (cF .xor k (if k.signed then -1 else k.max) n))
 |_,_=> .fail
def bw(s:ByteArray):List Int:=s.data.toList.map λb=>(b.toNat:Int)
def cY(l:List Int):ByteArray:=⟨(l.map λn=>UInt8.ofNat n.toNat).toArray⟩
def AS.Gu(s:AS)(t:Ty)(v:aB):Out t.den:=s.ix t v
def auM(P:aR)(s:AS)(obj:Bool)(src dst:TypeId)(x:aB):Out aB:=
 match x,P.underlying dst,P.underlying src with
 | .d (.int _) n,aw (.int k),aw _=> .ok (.d (.int k) (k.wrap n))
 | .d .str a,aw .string,aw _=> .ok (.d .str a)
 | .d .str a,aw (.slice e),aw _=>match P.underlying e with
  |some (.int .u8)=>match obj with | true=> .ok (.sb (bw a)) | false=> .ok (.d (.slice (.int .u8)) (bw a))
  |_=> .fail
 |x,aw .string,aw (.slice e)=>match P.underlying e with
  |some (.int .u8)=>(s.Gu (.slice (.int .u8)) x).bind λl=> .ok (.d .str (cY l))
  |_=> .fail
 |_,_,_=> .fail
def auN(P:aR)(src dst:TypeId)(l:List Int):Out aB:=
 match P.underlying dst,P.underlying src with
 |some (.slice e),aw (.slice _)=>match P.underlying e with
  |some (.int .u8)=> .guard (src==dst) (.ok (.d (.slice (.int .u8)) l))
  |_=> .fail
 |_,_=> .fail
def aaL(P:aR)(s:AS)(obj:Bool)(src dst:TypeId)(x:aB):Out aB:=
 match x with
 | .sb l=>auN P src dst l
 |x=>auM P s obj src dst x
def agc(P:aR)(s:AS)(d:Option Tmp)(src dst:TypeId)(id:Id)(ver len:Nat):Out AS:=
 match s.obj id,P.underlying dst with
 |some (v,aQ,.vec _ (.int .u8) l),aw (.slice e)=>match P.underlying e with
  |some (.int .u8)=> .guard ((v==ver) && (src==dst)) (.sQ (decide (0 < len/\len=(l:List Int).length)) (.ok ((s.aZ id .dead).put d (.d (.slice (.int .u8)) l))))
  |_=> .fail
 |_,_=> .fail
def aaM(P:aR)(s:AS)(src dst:TypeId)(id:Id)(ver:Nat):Out aB:=
 match s.obj id with
 |some (v,_,.bx e 0 c)=>match P.underlying src,P.underlying dst with
  |some (.pointer t),aw .unsafePointer=> .guard ((v==ver) && !(P.cellsOf t==0) && !(c.size==0)) (.ok (.ptr id ver [] 0))
  |some .unsafePointer,aw (.pointer u)=> .guard ((v==ver) && !(P.cellsOf u==0) && liesAt P P.depth e (c.size / P.cellsOf e) 0 u 1) (.ok (.ptr id ver [] 0))
  |_,_=> .fail
 |_=> .fail
def aDI(P:aR)(s:AS)(T:TypeId)(op:BinOp)(i:Id)(v:Nat)(j:Id)(w:Nat):Out aB:=
 match s.obj i with
 |some (v',_,_)=> .guard (decide (i=j) && (v==w) && (v==v') && aFy P T) (match op with | .eql=> .ok (.d .bool aW) | .neq=> .ok (.d .bool aQ) | _=> .fail)
 |none=> .fail
def ajp(P:aR)(s:AS)(d:Option Tmp)(T:TypeId)(id:Id)(ver:Nat)(n:Int):Out AS:=
 match s.obj id,P.underlying T with
 |some (v,aQ,.vec e (.int .u8) l),aw (.pointer u)=> .guard ((v==ver) && (u==e) && (P.cellsOf e==1))
   (.sQ (decide (0 < n/\n<=((l:List Int).length:Int))) (.ok ((s.aZ id .dead).put d (.d .str (cY ((l:List Int).take n.toNat))))))
 |_,_=> .fail
def asInt:aB->Out Int
 | .d (.int _) n=> .ok n
 |_=> .fail
def bounds(s:AS)(n:Nat)(lo hi:Option bH):Out (Nat×Nat):=
 (match hi with
  |some h=>(asInt (s.ev h)).bind λh=> .sQ (decide (0<=h/\h<=(n:Int))) (.ok h.toNat)
  |none=> .ok n).bind λh=>
 (match lo with
  |some l=>(asInt (s.ev l)).bind λl=> .sQ (decide (0<=l/\l<=(h:Int))) (.ok l.toNat)
  |none=> .ok 0).bind λl=> .ok (l,h)
def km(P:aR)(T:TypeId):Option Nat:=
 match P.underlying T with
 |some (.array _ e)=>match P.cellsOf e with | 0=>aF | z+1=>aw (z+1)
 |some (.slice e)=>match P.cellsOf e with | 0=>aF | z+1=>aw (z+1)
 |_=>aF
def wG(P:aR)(T:TypeId):Option Nat:=
 match P.underlying T with
 |some (.array n _)=>aw n
 |_=>aF
def HG(P:aR)(s:AS)(T:TypeId)(x:aB)(lo hi:Option bH):Out aB:=
 match x with
 | .d .str a=> .guard (match P.underlying T with | some .string=>aW | _=>aQ) ((bounds s a.size lo hi).bind λb=> .ok (.d .str (a.extract b.1 b.2)))
 | .d (.slice t) l=> .guard (match km P T,wG P T with | some z,aF=>z==t.size | _,_=>aQ)
   ((bounds s (l:List t.den).length lo hi).bind λb=> .ok (.d (.slice t) (cut l b.1 (b.2 - b.1))))
 | .cw=> .guard (match km P T,wG P T with | some _,aF=>aW | _,_=>aQ) ((bounds s 0 lo hi).bind λ_=> .ok .cw)
 | .dx id ver p c i len=>(s.row id ver p).bind λr=> .guard (match km P T,wG P T with | some z,aF=>z==r.2.1.size | _,_=>aQ)
   ((bounds s len lo hi).bind λb=> .ok (.dx id ver p (c+b.1*r.2.1.size) (i+b.1) (b.2 - b.1)))
 | .ptr id ver p n=>(s.row id ver p).bind λr=> .guard (match km P T,wG P T with | some z,aw _=>z==r.2.1.size | _,_=>aQ)
   (.sQ (decide (wG P T=aw r.2.2.length/\r.1=n)) ((bounds s ((wG P T).getD 0) lo hi).bind λb=> .ok (.dx id ver (p++ [.arr]) (n+b.1*r.2.1.size) b.1 (b.2 - b.1))))
 | .dB (.arr n t) l=> .guard (match km P T,wG P T with | some z,aw m=>(z==t.size) && (m==n) | _,_=>aQ)
   ((bounds s n lo hi).bind λb=> .ok (.d (.slice t) (cut l b.1 (b.2 - b.1))))
 |_=> .fail
def az6:aB->Int
 | .d (.slice t) l=>((l:List t.den).length:Int)
 | .dx _ _ _ _ _ len=>(len:Int)
 | .cw=>0
 |_=> -1
def agi:Option bH->aB->aB
 |some _,.dx id ver p c i len=> .dx id ver (p++ [.arr]) c i len
 |_,v=>v
def Of(P:aR)(s:AS)(T:TypeId)(x:aB)(lo:Option bH)(h m:bH):Out aB:=(asInt (s.ev h)).bind λhv=>(asInt (s.ev m)).bind λmv=> .sQ (decide (0<=hv/\hv<=mv/\mv<=az6 x)) ((HG P s T x lo (aw h)).bind λv=> .ok (agi (aw m) v))
def sA(P:aR)(s:AS)(T:TypeId)(x:aB)(i:Int):Out aB:=
 match x with
 | .d (.slice t) l=> .guard (match km P T,wG P T with | some z,aF=>z==t.size | _,_=>aQ)
   (.sQ (decide (0<=i/\i < ((l:List t.den).length:Int))) (.ok (.dB t (nth t l i.toNat))))
 | .dB (.arr n t) l=> .guard (match km P T,wG P T with | some z,aw m=>(z==t.size) && (m==n) | _,_=>aQ)
   (.sQ (decide (0<=i/\i < (n:Int))) (.ok (.dB t (nth t l i.toNat))))
 | .dx id ver p c j len=>(s.row id ver p).bind λr=> .guard (match km P T,wG P T with | some z,aF=>z==r.2.1.size | _,_=>aQ)
   (.sQ (decide (0<=i/\i < (len:Int))) (.ok (.ptr id ver (p++ [.idx (j+i.toNat)]) (c+i.toNat*r.2.1.size))))
 | .d (.js z) n=> .guard (match km P T,wG P T with | some z',aF=>z'==z | _,_=>aQ)
   (.sQ (decide (0<=i/\i < ((n:Nat):Int))) (.ok (.d (.jp z) ())))
 | .ptr id ver p n=> .guard (match km P T,wG P T with | some _,aw _=>aW | _,_=>aQ)
   (.sQ (decide (0<=i/\i < (((wG P T).getD 0:Nat):Int))) (.ok (.ptr id ver (p++ [.idx i.toNat]) (n+i.toNat*(km P T).getD 0))))
 |_=> .fail
def fieldInfo(P:aR)(T:TypeId)(f:Nat):Option (Nat×TypeId):=
 match P.underlying T with
 |some (.struct fs)=>match fs[f]? with | some x=>aw (x.offset,x.type) | none=>aF
 |_=>aF
def partOf:aB->Nat->Option (Nat×aB)
 | .d (.pair a _) x,0=>aw (0,.d a x.1)
 | .d (.pair a b) x,n+1=>match partOf (.d b x.2) n with | some (o,v)=>aw (a.size+o,v) | none=>aF
 | .pr a _,0=>aw (0,a)
 | .pr a b,n+1=>match partOf b n with | some (o,v)=>aw (a.size+o,v) | none=>aF
 |_,_=>aF
def Dh(P:aR)(T:TypeId)(x:aB)(f:Nat):Out aB:=
 match fieldInfo P T f with
 |some (o,ft)=> .guard (!(P.cellsOf ft==0)) (match x with
  | .ptr id ver p n=> .ok (.ptr id ver (p++ov f) (n+o))
  | .d (.jp n) _=> .guard (Nat.ble (o+P.cellsOf ft) n) (.ok (.d (.jp (P.cellsOf ft)) ()))
  | .dB t x=>match partOf (.d t x) f with
   |some (o',.d t' y)=> .guard (o==o') (.ok (.dB t' y))
   |_=> .fail
  | .d (.mR t) x=> .get (x:Option t.den) λx=>match partOf (.d t x) f with
   |some (o',.d t' y)=> .guard (o==o') (.ok (.dB t' y))
   |_=> .fail
  | .d (.gC t) x=> .get (x:Option (Nat×t.den)) λx=>match partOf (.d t x.2) f with
   |some (o',.d t' y)=> .guard (o==o') (.ok (.dB t' y))
   |_=> .fail
  |_=> .fail)
 |none=> .fail
def ac6(P:aR)(T:TypeId)(x:aB)(f:Nat):Out aB:=
 match fieldInfo P T f,partOf x f with
 |some (o,ft),aw (o',v)=> .guard ((o==o') && fits P ft v) (.ok v)
 |_,_=> .fail
def ado(P:aR)(T:TypeId)(x:aB)(i:Int):Out aB:=
 match x,P.underlying T with
 | .d (.arr n t) l,aw (.array m e)=> .guard ((n==m) && fits P e (.d t t.zero)) (.sQ (decide (0<=i/\i < (n:Int))) (.ok (.d t (nth t l i.toNat))))
 | .d .str a,aw .string=> .sQ (decide (0<=i/\i < (a.size:Int))) (.ok (.d (.int .u8) ((a.data.toList.getD i.toNat 0).toNat:Int)))
 |_,_=> .fail
def aC6:aB->Out aB
 | .d (.fo t) l=> .sQ (l:Option (List t.den)).isNone (.ok .cw)
 | .d (.eK t) x=> .sQ (!(x:Bool×List t.den).1) (.ok (.d (.slice t) (x:Bool×List t.den).2))
 |v=> .ok v
def MM(P:aR)(s:AS)(T:TypeId)(x:aB):Out aB:=
 match x with
 | .ptr id ver p n=>match s.obj id with
  |some (v,_,c)=> .guard (v==ver) ((loc c.strip p).bind λr=> .guard (fits P T r.2) (.sQ (decide (r.1=n)) (aC6 r.2)))
  |none=> .fail
 | .dB t y=> .guard (fits P T (.d t y)) (.ok (.d t y))
 | .d (.mR t) y=> .get (y:Option t.den) λy=> .guard (fits P T (.d t y)) (.ok (.d t y))
 | .d (.gC t) y=> .get (y:Option (Nat×t.den)) λy=> .guard (fits P T (.d t y.2)) (.ok (.d t y.2))
 |_=> .fail
def HI(P:aR)(s:AS)(T:TypeId)(x v:aB):Out AS:=
 match x with
 | .ptr id ver p n=>match s.obj id with
  |some (ve,fr,c)=> .guard ((ve==ver) && !fr && fits P T v) ((loc c.strip p).bind λr=> .guard (fits P T r.2) (.sQ (decide (r.1=n)) ((xz c.strip p v).bind λc'=> .ok (s.aZ id (.obj ve fr (c.wrap c'))))))
  |none=> .fail
 |_=> .fail
def az5(P:aR)(T:TypeId)(x:aB):Out aB:=
 match P.underlying T,x with
 |some .string,.d .str a=> .ok (.d (.int .i64) (a.size:Int))
 |some (.slice _),.d (.slice t) l=> .ok (.d (.int .i64) ((l:List t.den).length:Int))
 |some (.slice _),.cw=> .ok (.d (.int .i64) (0:Int))
 |some (.slice _),.dx _ _ _ _ _ len=> .ok (.d (.int .i64) (len:Int))
 |some (.slice _),.d (.js _) n=> .ok (.d (.int .i64) ((n:Nat):Int))
 |some (.array n _),_=> .ok (.d (.int .i64) (n:Int))
 |_,_=> .fail
def Gn(P:aR)(s:AS)(t:Ty)(X:TypeId)(x:aB):Out (List t.den):=
 match x with
 | .d .str a=>match P.underlying X with
  |some .string=>Out.opt (tt (.slice (.int .u8)) (.slice t) (bw a))
  |_=> .fail
 |x=>match P.underlying X with
  |some (.slice _)=>s.Gu (.slice t) x
  |_=> .fail
def db(n b:Nat):Bool:=decide (n*b<=140737488355328/\n<=9223372036854775807)
def Df(P:aR)(nl:Bool)(T:TypeId):Option (TypeId×Ty×Nat):=
 match P.underlying T with
 |some (.slice e)=>match YB P nl depth e with
  |some t=>match(P.cellsOf e==t.size) && !(t.size==0) && afB P e (.d t t.zero) with | true=>aw (e,t,P.bytesOf e) | false=>aF
  |none=>aF
 |_=>aF
def Tt(P:aR)(T:TypeId):Option (TypeId×Ty×Nat):=Df P aQ T
def acY(P:aR)(T:TypeId):Option (TypeId×Ty×Nat):=
 match Nat.ble 100000 T with
 |true=>Df P aW (T - 100000)
 |false=>Df P aQ T
def agu(P:aR)(s:AS)(dst:Option Tmp)(T X:TypeId)(n:Int):Out AS:=
 match Tt P T,dst,P.underlying X with
 |some (e,t,b),aw q,aw (.int _)=> .guard (s.ej q) (.sQ (decide (0 < n) && db n.toNat b)
   (.ok ((s.born q [.obj 0 aQ (.vec e t (ag n.toNat t.zero))]).put dst (.dx (.new q 0) 0 [] 0 0 n.toNat))))
 |_,_,_=> .fail
def aqS(mx:Bool):List aB->Out aB
 |[.d (.int k) x,.d (.int k') y]=> .guard (decide (k=k')) (.ok (.d (.int k) (match mx with | true=>(if x < y then y else x) | false=>(if y < x then y else x))))
 |[.d (.int k) x,.d (.int k') y,.d (.int k2) z]=> .guard (decide (k=k') && decide (k=k2)) (.ok (.d (.int k) (match mx with | true=>(if(if x < y then y else x) < z then z else(if x < y then y else x)) | false=>(if z < (if y < x then y else x) then z else(if y < x then y else x)))))
 |_=> .fail
def xB(P:aR)(s:AS)(nl dt:Bool)(dst:Option Tmp)(T X:TypeId)(x y:aB):Out AS:=
 match Df P nl T,dst with
 |some (e,t,b),aw q=>(Gn P s t X y).bind λm=>
  match x with
  | .cw=>match dt with
   |true=> .sQ (db m.length b && decide (0 < m.length)) (.ok (s.put dst (.d (.fo t) (aw m))))
   |false=> .guard (s.ej q) (.sQ (db m.length b) (.ok ((s.born q [.obj 0 aQ (.vec e t m)]).put dst (.dx (.new q 0) 0 [] 0 0 m.length))))
  | .dx id ver [] 0 0 len=>match s.obj id with
   |some (v,fr,.vec e' t' l)=> .guard ((v==ver) && (e==e')) ((Out.opt (tt (.slice t') (.slice t) l)).bind λl=>
     .sQ (decide (len<=l.length)) <| .sQ ((!fr) || decide (len=l.length)) (.sQ (db (len+m.length) b)
      (.ok ((s.aZ id (.obj (v+1) fr (.vec e t (l.take len++m)))).put dst (.dx id (v+1) [] 0 0 (len+m.length))))))
   |_=> .fail
  |_=> .fail
 |_,_=> .fail
def Uj(P:aR)(s:AS)(dst:Option Tmp)(T X:TypeId)(x y:aB):Out AS:=
 match Tt P T,x with
 |some (_,t,_),.dx id ver [.arr] 0 0 len=>(Gn P s t X y).bind λm=>match s.obj id with
  |some (ve,aQ,.d (.arr n t') l)=> .guard ((ve==ver) && (len==n)) ((Out.opt (tt (.slice t') (.slice t) l)).bind λl=> .sQ (decide (m.length<=n))
    (.ok ((s.aZ id (.obj ve aQ (.d (.arr n t) (m++(l:List t.den).drop m.length)))).put dst (.d (.int .i64) (m.length:Int)))))
  |_=> .fail
 |_,_=> .fail
def jD(t:Ty)(s:AS):List (Nat×bH)->List t.den->Out (List t.den×List Id)
 |[],l=> .ok (l,[])
 | (i,x)::ps,l=> .guard (decide (i < l.length)) ((s.ix t (s.ev x)).bind λy=>(jD t s ps (l.set i y)).bind λr=> .ok (r.1,(s.ev x).shared++r.2))
def qq(P:aR)(fs:Array Field)(s:AS):List (Nat×bH)->aB->Out aB
 |[],v=> .ok v
 | (i,x)::ps,v=>match fs[i]?,partOf v i with
  |some f,aw (o,eC)=> .guard ((f.offset==o) && fits P f.type eC && fits P f.type (s.ev x)) ((xz v (ov i) (s.ev x)).bind λv'=>qq P fs s ps v')
  |_,_=> .fail
def FY(P:aR)(s:AS)(dst:Option Tmp)(T:TypeId)(parts:List (Nat×bH)):Out AS:=
 match P.underlying T with
 |some (.struct fs)=>match zeroOf P depth T with
  |some z=> .guard (afB P T z && z.agg && fs.toList.all λf=>(P.info? f.type).isSome)
    ((qq P fs s parts z).bind λv=> .ok (s.put dst v))
  |none=> .fail
 |some (.array n e)=>match ajI P depth e with
  |some t=> .guard ((P.cellsOf e==t.size) && afB P T (.d (.arr n t) (ag n t.zero))) ((jD t s parts (ag n t.zero)).bind λr=> .ok ((s.bq r.2).put dst (.d (.arr n t) r.1)))
  |none=> .fail
 |_=> .fail
def mV(P:aR)(s:AS)(nl obj:Bool)(dst:Option Tmp)(T:TypeId)(n:Nat)(parts:List (Nat×bH)):Out AS:=
 match Df P nl T,dst with
 |some (e,t,_),aw q=> .guard (decide (n*t.size<=16777216)) ((jD t s parts (ag n t.zero)).bind λr=>
   match obj with
   |true=> .guard (s.ej q) (.ok (((s.bq r.2).born q [.obj 0 aQ (.vec e t r.1)]).put dst (.dx (.new q 0) 0 [] 0 0 r.1.length)))
   |false=> .ok ((s.bq r.2).put dst (.d (.slice t) r.1)))
 |_,_=> .fail
def sF(P:aR)(s:AS)(dst:Option Tmp)(T:TypeId)(len cap:Int):Out AS:=
 match Tt P T,dst with
 |some (e,t,b),aw q=> .guard (s.ej q) (.sQ (decide (0<=len/\len<=cap) && db cap.toNat b)
   (.ok ((s.born q [.obj 0 aQ (.vec e t (ag len.toNat t.zero))]).put dst (.dx (.new q 0) 0 [] 0 0 len.toNat))))
 |_,_=> .fail
def aAW(P:aR)(T:TypeId):Bool:=
 match P.underlying T with
 |some (.struct fs)=>fs.toList.any λf=>match P.underlying f.type with | some (.pointer u)=>decide (u=T) | _=>aQ
 |_=>aQ
def boxed(P:aR)(T:TypeId)(z:aB):aB:=match aAW P T with | true=> .bx T 0 z | false=>z
def aCa(dt:Bool)(t:Ty)(x:t.den):aB:=match dt with | true=> .d (.mR t) (aw x) | false=> .dB t x
def afW(P:aR)(s:AS)(obj dt:Bool)(dst:Option Tmp)(T:TypeId)(v:aB):Out AS:=
 match dst with
 |some q=>match obj with
  |true=> .guard (s.ej q && fits P T v) (.ok ((s.born q [.obj 0 aQ v]).put dst (.ptr (.new q 0) 0 [] 0)))
  |false=>match ajI P depth T with
   |some t=> .guard (fits P T (.d t t.zero)) ((s.ix t v).bind λx=> .ok ((s.bq v.shared).put dst (aCa dt t x)))
   |none=> .fail
 |none=> .fail
def Lv(P:aR)(s:AS)(dst:Option Tmp)(T:TypeId)(x:aB):Out AS:=
 match P.underlying T with
 |some (.array n e)=>match ajI P depth e with
  |some t=> .guard ((P.cellsOf e==t.size) && !(n==0) && !(t.size==0)) ((s.ix (.slice t) x).bind λl=> .sQ (decide (n<=(l:List t.den).length)) (.ok ((s.bq x.shared).put dst (.dB (.arr n t) (l.take n)))))
  |none=> .fail
 |_=> .fail
def so(s:AS):List bH->aB
 |[]=> .nil
 |x::xs=> .cons (s.ev x) (so s xs)
def yQ:aB->Bool
 | .cons a b=>a.ee && yQ b
 | .nil=>aW
 |_=>aQ
def aoT(c a b:aB):Out aB:=
 match c with
 | .d .bool c=>match a,b with
  | .d .bool x,.d .bool y=> .ok (.d .bool (bif c then x else y))
  |a,b=> .br c (.ok a) (.ok b)
 |_=> .fail
def isObj(bD:List Nat):Option Tmp->Bool
 |some q=>bD.any λx=>decide (x=q)
 |none=>aQ
def aqy(bD:List Nat)(dst:Option Tmp):Bool:=isObj bD (dst.map (· +100000))
def akW(bD:List Nat)(dst:Option Tmp):Bool:=isObj bD (dst.map (· +200000))
def aFn(bD:List Nat)(dst:Option Tmp):Bool:=isObj bD (dst.map (· +300000))
def qK:(t:Ty)->aB->Out t.den
 |t,.d t' x=>Out.opt (tt t' t x)
 | .slice _,.cw=> .ok []
 | .pair a b,.pr x y=>(qK a x).bind λx=>(qK b y).bind λy=> .ok (x,y)
 |_,_=> .fail
def mapOf(P:aR)(T:TypeId):Option (TypeId×TypeId×Ty×Ty):=
 match P.underlying T with
 |some (.map K V)=>match ajI P depth K,ajI P depth V with
  |some kt,aw vt=>match sR P depth K kt && afB P V (.d vt vt.zero) with | true=>aw (K,V,kt,vt) | false=>aF
  |_,_=>aF
 |_=>aF
def iJ{β:Type}(kt:Ty)(x:kt.den):List (kt.den×β)->Option Nat
 |[]=>aF
 |p::l=>match kt.beq x p.1 with | true=>aw 0 | false=>(iJ kt x l).map (· +1)
def sX{β:Type}(kt:Ty)(x:kt.den)(l:List (kt.den×β)):Option β:=(iJ kt x l).bind λi=>(l[i]?).map (·.2)
def sY{β:Type}(kt:Ty)(x:kt.den)(v:β)(l:List (kt.den×β)):List (kt.den×β):=
 match iJ kt x l with | some i=>l.set i (x,v) | none=>l++ [(x,v)]
def Cn{β:Type}(kt:Ty)(x:kt.den)(l:List (kt.den×β)):List (kt.den×β):=
 match iJ kt x l with | some i=>l.eraseIdx i | none=>l
def aki(k v k' v':Ty)(l:List (k.den×v.den)):Option (List (k'.den×v'.den)):=if h:k=k'/\v=v' then aw (h.1▸h.2▸l) else aF
def AS.qH(s:AS)(id:Id)(ver:Nat)(kt vt:Ty):Out (List (kt.den×vt.den)):=
 match s.obj id with
 |some (v,_,.mp k' v' l)=> .guard (v==ver) (Out.opt (aki k' v' kt vt l))
 |_=> .fail
def AS.uN(s:AS)(id:Id):Bool:=match s.obj id with | some (_,fr,_)=> !fr | none=>aQ
def aBU(vt:Ty)(ok:Bool)(r:Option vt.den):aB:=
 match ok with
 |true=> .cons (.d vt (r.getD vt.zero)) (.cons (.d .bool r.isSome) .nil)
 |false=> .d vt (r.getD vt.zero)
def Gl(P:aR)(s:AS)(dst:Option Tmp)(T:TypeId):Out AS:=
 match mapOf P T,dst with
 |some (_,_,kt,vt),aw q=> .guard (s.ej q) (.ok ((s.born q [.obj 0 aQ (.mp kt vt [])]).put dst (.sG (.new q 0) 0)))
 |_,_=> .fail
def Dm(P:aR)(s:AS)(T:TypeId)(m k:aB)(ok:Bool):Out aB:=
 match mapOf P T,m with
 |some (_,_,kt,vt),.sG id ver=>(s.qH id ver kt vt).bind λl=>(qK kt k).bind λk=> .ok (aBU vt ok (sX kt k l))
 |_,_=> .fail
def Dr(P:aR)(s:AS)(T:TypeId)(m k v:aB):Out AS:=
 match mapOf P T,m with
 |some (_,_,kt,vt),.sG id ver=>(s.qH id ver kt vt).bind λl=>(qK kt k).bind λk=>(qK vt v).bind λv=> .guard (s.uN id) (.ok (s.aZ id (.obj ver aQ (.mp kt vt (sY kt k v l)))))
 |_,_=> .fail
def Dq(P:aR)(s:AS)(T:TypeId)(m k:aB):Out AS:=
 match mapOf P T,m with
 |some (_,_,kt,vt),.sG id ver=>(s.qH id ver kt vt).bind λl=>(qK kt k).bind λk=> .guard (s.uN id) (.ok (s.aZ id (.obj ver aQ (.mp kt vt (Cn kt k l)))))
 |_,_=> .fail
def AS.agW(s:AS)(id:Id)(ver:Nat):Bool:=match s.obj id with | some (v,aW,.mp ..)=>v==ver | _=>aQ
def dP.avW(q:Id):dP->Bool
 | .obj _ _ (.rA q' ver _ _ _ _)=>decide (q'=q) && !(ver==0)
 |_=>aQ
def AS.W0(s:AS)(q:Id):Bool:=s.dg.any (dP.avW q) || s.news.any λes=>es.any (dP.avW q)
def adM(kt vt:Ty)(l:List (kt.den×vt.den))(j:Nat):kt.den×vt.den:=l.getD j (kt.zero,vt.zero)
def P7(P:aR)(s:AS)(dst:Option Tmp)(T:TypeId)(m:aB):Out AS:=
 match mapOf P T,m,dst with
 |some (_,_,kt,vt),.sG id ver,aw q=>(s.qH id ver kt vt).bind λl=> .guard (s.uN id && s.ej q)
   (.ok (((s.aZ id (.obj ver aW (.mp kt vt l))).born q [.obj 0 aQ (.rA id (ver+1) kt vt l aF)]).put dst (.ptr (.new q 0) 0 [] 0)))
 |_,_,_=> .fail
structure apr where
 i:Id
 v:Nat
 fr:Bool
 q:Id
 vr:Nat
 kt:Ty
 vt:Ty
 rest:List (kt.den×vt.den)
 cur:Option (kt.den×vt.den)
def AS.avV(s:AS)(x:aB):Option apr:=
 match x with
 | .ptr i ver [] 0=>match s.obj i with
  |some (v,fr,.rA q (vr+1) kt vt rest cur)=>match v==ver,s.agW q vr with
   |true,aW=>aw ⟨i,v,fr,q,vr,kt,vt,rest,cur⟩
   |_,_=>aF
  |_=>aF
 |_=>aF
def aku(s:AS)(x:aB):Out aB:=
 match s.avV x with
 |some ⟨_,_,_,_,_,kt,vt,_,aw c⟩=> .ok (.cons (.d kt c.1) (.cons (.d vt c.2) .nil))
 |_=> .fail
def AS.drawn(s:AS)(t:apr)(dst:Option Tmp)(j:Nat):AS:=(s.aZ t.i (.obj t.v t.fr (.rA t.q (t.vr+1) t.kt t.vt (t.rest.eraseIdx j) (aw (adM t.kt t.vt t.rest j))))).put dst (.cons (.d .bool aW) (.cons (.d t.kt (adM t.kt t.vt t.rest j).1) (.cons (.d t.vt (adM t.kt t.vt t.rest j).2) .nil)))
def AS.unlock(s:AS)(id:Id):AS:=match s.obj id with | some (v,_,c)=>s.aZ id (.obj v aQ c) | none=>s
def AS.aAr(s:AS)(t:apr)(dst:Option Tmp):Option AS:=
 match(s.aZ t.i (.obj t.v t.fr (.rA t.q 0 t.kt t.vt [] aF))).W0 t.q with
 |false=>aw (((s.aZ t.i (.obj t.v t.fr (.rA t.q 0 t.kt t.vt [] aF))).unlock t.q).put dst (.cons (.d .bool aQ) .nil))
 |true=>aF
open Classical in
def aGx{R:Type}(n:Nat)(k:Nat->Option R):Option R:=if h:∃r,0 < n/\∀j,j < n->k j=aw r then aw h.choose else aF
open Classical in
def auZ{X R:Type}(S:X->Prop)(k:X->Option R):Option R:=if h:∃r,(∃x,S x)/\∀x,S x->k x=aw r then aw h.choose else aF
def awp{R:Type}(s:AS)(dst:Option Tmp)(t:apr)(k:AS->Option R):Option R:=
 aG (decide (0 < t.rest.length)) (aGx t.rest.length λj=>k (s.drawn t dst j)) (match s.aAr t dst with | some s'=>k s' | none=>aF)
def AS.adv(s:AS)(ids:List Id):Bool:=ids.all λid=>(s.obj id).isSome && s.Dj id
def AS.au7{R:Type}(s:AS)(en:Entry)(dst:Option Tmp)(ids:List Id)(vs:List aB)(k:AS->Option R):Option R:=auZ (en.set (vs.map (aB.iI (s.wS ids))) (ids.map (s.mW ids))) λx=>((en.sp x).bind λx=>s.back ids dst (en.out (vs.map (aB.iI (s.wS ids))) (ids.map (s.mW ids)) x)).run k
def AS.QU{R:Type}(s:AS)(en:Entry)(dst:Option Tmp)(vs:List aB)(k:AS->Option R):Option R:=((s.conv en.params vs).bind λr=> .guard ((s.bq r.2).adv ((s.bq r.2).aa8 r.1) && r.1.all aB.pj) (.ok r)).run λr=>(s.bq r.2).au7 en dst ((s.bq r.2).aa8 r.1) r.1 k
def AS.A2(s:AS):(t:Ty)->aB->Out t.den
 |t,.d t' x=> .guard t'.Zd.pj (Out.opt (xv t'.Zd t (t'.KU x)))
 | .slice t,.dx id ver p c i len=>(s.row id ver p).bind λr=> .sQ (decide (r.1+i*r.2.1.size=c/\i+len<=r.2.2.length)) (.guard r.2.1.Zd.pj (Out.opt (xv (.slice r.2.1.Zd) (.slice t) (cut (r.2.2.map r.2.1.KU) i len))))
 | .slice _,.cw=> .ok []
 | .pair a b,.pr x y=>(s.A2 a x).bind λx=>(s.A2 b y).bind λy=> .ok (x,y)
 |_,_=> .fail
def AS.VL(s:AS):List (Option Ty)->List aB->Out (List aB)
 |[],[]=> .ok []
 |some t::ps,v::vs=>(s.A2 t v).bind λx=>(s.VL ps vs).bind λr=> .ok (.d t x::r)
 |_,_=> .fail
def aB.flat:aB->Bool
 | .d (.int _) _=>aW
 | .d .bool _=>aW
 |_=>aQ
def AS.aaF(s:AS)(en:Entry)(dst:Option Tmp)(vs:List aB):Out AS:=(s.VL en.params vs).bind λvs=> .get (en.run vs []) λx=>(en.sp x).bind λx=> .guard (en.out vs [] x).val.flat (.ok (s.put dst (en.out vs [] x).val))
def AS.aBq{R:Type}(s:AS)(en:Entry)(dst:Option Tmp)(vs:List aB)(k:AS->Option R):Option R:=
 match en.rel with | true=>s.QU en dst vs k | false=>(s.call en dst vs).run k
def yB:Nat:=4294967296
def pL(P:aR)(Γ:uO)(bD:List Nat)(o:Oper)(s:AS):Out AS:=
 match o.op with
 | .move x=> .ok (s.put o.dst (s.ev x))
 | .assign x=> .ok (s.put o.dst (s.ev x))
 | .pick c a b=>(aoT (s.ev c) (s.ev a) (s.ev b)).bind λv=> .ok (s.put o.dst v)
 | .alloc T=>match zeroOf P depth T,o.dst with
  |some z,aw q=> .guard (s.ej q && afB P T z) (.ok ((s.born q [.obj 0 aQ (boxed P T z)]).put o.dst (.ptr (.new q 0) 0 [] 0)))
  |_,_=> .fail
 | .box T x=>afW P s (isObj bD o.dst) (akW bD o.dst) o.dst T (s.ev x)
 | .build T parts=>FY P s o.dst T parts.toList
 | .buildSlice T n parts=>mV P s (aqy bD o.dst) (isObj bD o.dst) o.dst T n parts.toList
 | .load T x=>(MM P s T (s.ev x)).bind λv=> .ok (s.put o.dst v)
 | .store T x v=>(HI P s T (s.ev x) (s.ev v)).bind λs'=> .ok (s'.put o.dst .undef)
 | .nilCheck x=>match s.ev x with
  | .ptr id v p n=> .ok (s.put o.dst (.ptr id v p n))
  | .dB t y=> .ok (s.put o.dst (.dB t y))
  | .d (.mR t) y=> .get (y:Option t.den) λy=> .ok (s.put o.dst (.dB t y))
  | .d (.gC t) y=> .get (y:Option (Nat×t.den)) λy=> .ok (s.put o.dst (.dB t y.2))
  | .d (.jp n) _=> .ok (s.put o.dst (.d (.jp n) ()))
  | .fn f c=> .ok (s.put o.dst (.fn f c))
  |_=> .fail
 | .binOp op T x y _=>match s.ev x,s.ev y with
  | .ptr i v [] 0,.ptr j w [] 0=>(aDI P s T op i v j w).bind λv=> .ok (s.put o.dst v)
  |_,_=>(aB9 P T op (s.ev x) (s.ev y)).bind λv=> .ok (s.put o.dst v)
 | .unOp op _ x=>(aGl op (s.ev x)).bind λv=> .ok (s.put o.dst v)
 | .convert src dst x=>match src==dst,s.ev x with
  |true,.dx id ver [] 0 0 len=>agc P s o.dst src dst id ver len
  |_,.ptr id ver [] 0=>(aaM P s src dst id ver).bind λv=> .ok (s.put o.dst v)
  |_,_=>(aaL P s (isObj bD o.dst) src dst (s.ev x)).bind λv=> .ok (s.put o.dst v)
 | .sliceToArrayPointer T x=>Lv P s o.dst T (s.ev x)
 | .makeFunc (.func f) first caps=> .guard (first.isEmpty && yQ (so s caps.toList)) (.ok (s.put o.dst (.fn f (so s caps.toList))))
 | .makeSlice T l c=>(asInt (s.ev l)).bind λl=>(asInt (s.ev c)).bind λc=>sF P s o.dst T l c
 | .slice T x lo hi aF=>(HG P s T (s.ev x) lo hi).bind λv=> .ok (s.put o.dst v)
 | .slice T x lo (aw h) (aw m)=>(Of P s T (s.ev x) lo h m).bind λv=> .ok (s.put o.dst v)
 | .fieldAddr T x f=>(Dh P T (s.ev x) f).bind λv=> .ok (s.put o.dst v)
 | .field T x f=>(ac6 P T (s.ev x) f).bind λv=> .ok (s.put o.dst v)
 | .indexAddr T x i=>(asInt (s.ev i)).bind λi=>(sA P s T (s.ev x) i).bind λv=> .ok (s.put o.dst v)
 | .index T x i=>(asInt (s.ev i)).bind λi=>(ado P T (s.ev x) i).bind λv=> .ok (s.put o.dst v)
 | .extract x i=>(Out.opt ((s.ev x).list[i]?)).bind λv=> .ok (s.put o.dst v)
 | .makeMap T aF=>Gl P s o.dst T
 | .lookup T x i ok=>(Dm P s T (s.ev x) (s.ev i) ok).bind λv=> .ok (s.put o.dst v)
 | .mapUpdate T m k x=>(Dr P s T (s.ev m) (s.ev k) (s.ev x)).bind λs'=> .ok (s'.put o.dst .undef)
 | .range T m=>P7 P s o.dst T (s.ev m)
 | .call c=>match c.callee with
  | .builtin .delete=>match c.args.toList,c.argTypes.toList with
   |[m,k],[T,_]=>(Dq P s T (s.ev m) (s.ev k)).bind λs'=> .ok (s'.put o.dst .nil)
   |_,_=> .fail
  | .builtin .copy=>match c.args.toList,c.argTypes.toList with
   |[x,y],[T,X]=>Uj P s o.dst T X (s.ev x) (s.ev y)
   |_,_=> .fail
  | .builtin .len=>match c.args.toList,c.argTypes.toList with
   |[x],[T]=>(az5 P T (s.ev x)).bind λv=> .ok (s.put o.dst v)
   |_,_=> .fail
  | .builtin .append=>match c.args.toList,c.argTypes.toList with
   |[x,y],[T,X]=>match s.ev x,s.ev y with
    | .cw,.d (.int _) n=>agu P s o.dst T X n
    |_,_=>xB P s (aqy bD o.dst) (akW bD o.dst) o.dst T X (s.ev x) (s.ev y)
   |_,_=> .fail
  | .builtin .cap=>match c.args.toList,c.argTypes.toList with
   |[x],[T]=>match s.ev x,P.underlying T with
    | .cw,aw (.slice _)=> .ok (s.put o.dst (.d (.int .i64) (0:Int)))
    |_,_=> .fail
   |_,_=> .fail
  | .builtin .max=>(aqS aW (c.args.toList.map s.ev)).bind λv=> .ok (s.put o.dst v)
  | .builtin .min=>(aqS aQ (c.args.toList.map s.ev)).bind λv=> .ok (s.put o.dst v)
  | .builtin .unsafeSliceData=>match c.args.toList with
   |[x]=>match s.ev x with
    | .dx id ver [] 0 0 len=> .sQ (decide (0 < len)) (.ok (s.put o.dst (.ptr id ver [.idx 0] 0)))
    |_=> .fail
   |_=> .fail
  | .builtin .unsafeString=>match c.args.toList,c.argTypes.toList with
   |[x,y],[T,_]=>match s.ev x,s.ev y with
    | .ptr id ver [.idx 0] 0,.d (.int .i64) n=>ajp P s o.dst T id ver n
    |_,_=> .fail
   |_,_=> .fail
  | .value f=>match s.ev f with
   | .fn f caps=>match Γ f (c.args.toList.map s.ev++caps.list) with
    |some en=> .guard (Nat.blt f yB) (s.call en o.dst (c.args.toList.map s.ev++caps.list))
    |none=> .fail
   |_=> .fail
  |_=> .fail
 |_=> .fail
def TK(xs:Array bH):List Nat:=xs.toList.filterMap λ | .tmp t=>aw t | _=>aF
def Pg(ops:Array Oper)(o:Oper):List Nat:=
 match o.guard with
 |some (j,_)=>match(ops[j]?).bind (·.dst) with | some t=> [t] | none=> []
 |none=> []
def atX{R:Type}(P:aR)(Γ:uO)(bD:List Nat)(ops:Array Oper)(o:Oper)(s:AS)(k:AS->Option R):Option R:=
 match o.guard with
 |none=>(pL P Γ bD o s).run k
 |some (j,want)=>match(ops[j]?).bind (·.dst) with
  |some q=>match s.slot q with
   | .d .bool b=>match want with
    |true=>aG b ((pL P Γ bD o (s.put (aw q) (.d .bool aW))).run k) (k ((s.put (aw q) (.d .bool aQ)).put o.dst .nil))
    |false=>aG b (k ((s.put (aw q) (.d .bool aW)).put o.dst .nil)) ((pL P Γ bD o (s.put (aw q) (.d .bool aQ))).run k)
   | .nil=>k (s.put o.dst .nil)
   |_=>aF
  |none=>aF
def Vy(s:AS)(x y:bH):Option Nat:=
 match s.ev x,s.ev y with
 | .d (.slice t) l,.cw=>aw (l:List t.den).length
 | .cw,.d (.slice t) l=>aw (l:List t.den).length
 | .dx _ _ _ _ _ len,.cw=>aw len
 | .cw,.dx _ _ _ _ _ len=>aw len
 |_,_=>aF
open Classical in
def nd{R:Type}(x y:Option R):Option R:=if x=y then x else aF
def R7:Code->List (Array Tmp×Code×Code)
 | .seq a b=>R7 a++R7 b
 | .cond _ a b=>R7 a++R7 b
 | .block _ b=>R7 b
 | .scope b=>R7 b
 | .loop b=>R7 b
 | .rangeFunc _ ps as b=> [(ps,as,b)]
 |_=> []
def aHB(fn:Func)(i y:Nat):uZ:=match fn.body with
 |some c=>match(R7 c)[i]? with
  |some x=>⟨y,x.1,x.2.1,x.2.2⟩
  |none=>⟨y,#[],.skip,.skip⟩
 |none=>⟨y,#[],.skip,.skip⟩
def amV(P:aR)(y:Nat):uZ:=match P.funcs[y%yB / 16]? with
 |some fn=>aHB fn (y%16) y
 |none=>⟨y,#[],.skip,.skip⟩
open Classical in
def same{R:Type}(c c':uZ)(x:Option R):Option R:=if c=c' then x else aF
def AS.yielded(s:AS)(F:aB)(n:Nat):Option (Id×Nat×uZ×aB):=
 match F with
 | .yl id ver=>match s.obj id with
  |some (v,aQ,.xx c f 0)=>match v==ver && n==c.ps.size && Nat.ble yB c.y with
   |true=>aw (id,ver,c,f)
   |false=>aF
  |_=>aF
 |_=>aF
def ao4(Γ:uO)(F:aB)(vs:List aB):Option (Entry×List aB):=
 match F with
 | .fn f caps=>match Γ f (vs++caps.list) with
  |some en=>match en.rel && Nat.blt f yB with | true=>aw (en,vs++caps.list) | false=>aF
  |none=>aF
 |_=>aF
def aB.adr:aB->Option Nat
 | .d (.jp n) _=>aw n
 |_=>aF
def ad4(Γ:uO)(b:Bool)(F:aB)(vs:List aB):Option (Entry×List aB):=
 match b,F with
 |true,.fn f caps=>match Γ f (vs++caps.list) with
  |some en=>match Nat.blt f yB with | true=>aw (en,vs++caps.list) | false=>aF
  |none=>aF
 |_,_=>aF
def azC{R:Type}(P:aR)(Γ:uO)(bD:List Nat)(ops:Array Oper)(o:Oper)(s:AS)(k:AS->Option R):Option R:=
 match o.guard,o.op with
 |none,.binOp .eql T x y _=>match Vy s x y,xM.isSl P T with
  |some n,aW=>aG (decide (0 < n)) (k (s.put o.dst (.d .bool aQ))) (nd (k (s.put o.dst (.d .bool aW))) (k (s.put o.dst (.d .bool aQ))))
  |_,_=>atX P Γ bD ops o s k
 |none,.binOp .neq T x y _=>match Vy s x y,xM.isSl P T with
  |some n,aW=>aG (decide (0 < n)) (k (s.put o.dst (.d .bool aW))) (nd (k (s.put o.dst (.d .bool aW))) (k (s.put o.dst (.d .bool aQ))))
  |_,_=>atX P Γ bD ops o s k
 |none,.range T m=>(P7 P s o.dst T (s.ev m)).run k
 |none,.entry x=>((aku s (s.ev x)).bind λv=> .ok (s.put o.dst v)).run k
 |none,.next x aQ=>match s.avV (s.ev x) with
  |some t=>awp s o.dst t k
  |none=>aF
 |none,.call c=>match c.callee with
  | .value F=>match s.yielded (s.ev F) c.args.size with
   |some (id,ver,rc,f)=>match Γ rc.y (.yl id ver::(c.args.toList.map s.ev++f.list)) with
    |some en=>same rc (amV P rc.y) ((s.call en o.dst (.yl id ver::(c.args.toList.map s.ev++f.list))).run k)
    |none=>aF
   |none=>match ad4 Γ (aFn bD o.dst) (s.ev F) (c.args.toList.map s.ev) with
    |some (en,vs)=>(s.aaF en o.dst vs).run k
    |none=>match ao4 Γ (s.ev F) (c.args.toList.map s.ev) with
     |some (en,vs)=>s.QU en o.dst vs k
     |none=>atX P Γ bD ops o s k
  |_=>atX P Γ bD ops o s k
 |none,.store T x v=>match(s.ev x).adr with
  |some n=>match fits P T (s.ev v) && (P.cellsOf T==n) with | true=>k (s.put o.dst .undef) | false=>aF
  |none=>atX P Γ bD ops o s k
 |some (j,want),.call c=>match c.callee with
  | .value F=>match ad4 Γ (aFn bD o.dst) (s.ev F) (c.args.toList.map s.ev),(ops[j]?).bind (·.dst) with
   |some (en,vs),aw q=>match s.slot q with
    | .d .bool b=>match want with
     |true=>aG b (((s.put (aw q) (.d .bool aW)).aaF en o.dst vs).run k) (k ((s.put (aw q) (.d .bool aQ)).put o.dst .nil))
     |false=>aG b (k ((s.put (aw q) (.d .bool aW)).put o.dst .nil)) (((s.put (aw q) (.d .bool aQ)).aaF en o.dst vs).run k)
    | .nil=>k (s.put o.dst .nil)
    |_=>aF
   |_,_=>match ao4 Γ (s.ev F) (c.args.toList.map s.ev),(ops[j]?).bind (·.dst) with
    |some (en,vs),aw q=>match s.slot q with
     | .d .bool b=>match want with
      |true=>aG b ((s.put (aw q) (.d .bool aW)).QU en o.dst vs k) (k ((s.put (aw q) (.d .bool aQ)).put o.dst .nil))
      |false=>aG b (k ((s.put (aw q) (.d .bool aW)).put o.dst .nil)) ((s.put (aw q) (.d .bool aQ)).QU en o.dst vs k)
     | .nil=>k (s.put o.dst .nil)
     |_=>aF
    |_,_=>atX P Γ bD ops o s k
  |_=>atX P Γ bD ops o s k
 |_,_=>atX P Γ bD ops o s k
def seen{α R:Type}(l:List α):(List α->R)->R:=List.rec (motive:=λ_=>(List α->R)->R) (λk=>k []) (λx _ ih k=>ih λl'=>k (x::l')) l
theorem N3{α R:Type}:∀(l:List α) (k:List α->R),seen l k=k l
 |[],_=>rfl
 |_::l,k=>N3 l _
def AS.seen{R:Type}(s:AS)(k:AS->R):R:=Go.Ab.seen s.ck λl=>k ⟨l,s.dg,s.news⟩
theorem AS.N3{R:Type}(s:AS)(k:AS->R):s.seen k=k s:=Go.Ab.N3 _ _
def azD{R:Type}(P:aR)(Γ:uO)(bD:List Nat)(ops:Array Oper):List Oper->AS->(AS->Option R)->Option R
 |[],s,k=>k s
 |o::l,s,k=>azC P Γ bD ops o s λs'=>s'.seen λs'=>azD P Γ bD ops l s' k
def acE(acc:List Nat)(o:Oper):Nat:=(o.after.toList.filter (Region.binds .any)).foldr (λe m=>Nat.lor (Nat.lor (Nat.pow 2 e.on) (acc.getD e.on 0)) m) 0
def afL(ops:List Oper):List Nat:=ops.foldl (λacc o=>acc++ [acE acc o]) []
structure FN where
 dst:Option Tmp
 ck:List Nat
 rs:List Id
 ws:List Id
def abe:Op->Bool
 | .move _=>aW
 |_=>aQ
def ahs(s:AS)(o:Oper):List Id:=match abe o.op with | true=> [] | false=>(TK o.op.operands).flatMap λi=>(s.slot i).ids
def vK:List (Option Ty)->List aB->List Id
 |none::ps,v::vs=>v.ids++vK ps vs
 |some _::ps,_::vs=>vK ps vs
 |_,_=> []
def writes(Γ:uO)(s:AS)(o:Oper):List Id:=
 match o.op with
 | .store _ x _=>(s.ev x).ids
 | .mapUpdate _ m _ _=>(s.ev m).ids
 | .range _ m=>(s.ev m).ids
 | .convert src dst x=>match src==dst with | true=>(s.ev x).ids | false=> []
 | .call c=>match c.callee with
  | .builtin .append=>match c.args.toList with | x::_=>(s.ev x).ids | []=> []
  | .builtin .delete=>match c.args.toList with | x::_=>(s.ev x).ids | []=> []
  | .builtin .copy=>match c.args.toList with | x::_=>(s.ev x).ids | []=> []
  | .builtin .unsafeString=>match c.args.toList with | x::_=>(s.ev x).ids | []=> []
  | .value F=>match s.ev F with
   | .fn f caps=>match Γ f (c.args.toList.map s.ev++caps.list) with
    |some en=>s.reach 64 (vK en.params (c.args.toList.map s.ev++caps.list)) []
    |none=> []
   |_=> []
  |_=> []
 |_=> []
def gM(Γ:uO)(ops:Array Oper)(s:AS)(o:Oper):FN:= {dst:=o.dst,ck:=TK o.op.operands++Pg ops o,rs:=ahs s o++writes Γ s o,ws:=writes Γ s o}
def meets(xs ys:List Id):Bool:=xs.any λx=>ys.any λy=>decide (x=y)
def FN.aE0(f g:FN):Bool:=
 match f.dst with
 |some t=>(g.ck.any λx=>decide (x=t)) || decide (g.dst=aw t)
 |none=>aQ
def XA(d:Option Tmp)(ids:List Id):Bool:=
 match d with
 |some q=>ids.any λx=>match x with | .new i _=>decide (i=q) | .eC _=>aQ
 |none=>aQ
def FN.indep(f g:FN):Bool:= !f.aE0 g && !g.aE0 f && !meets f.ws g.rs && !meets g.ws f.rs && !XA f.dst g.rs && !XA g.dst f.rs
def aaU{R:Type}(P:aR)(Γ:uO)(bD:List Nat)(ops:Array Oper)(anc:List Nat):Nat->List Oper->List (Nat×FN)->AS->(AS->Option R)->Option R
 |_,[],_,s,k=>k s
 |i,o::l,fs,s,k=>
  match fs.all λx=>(anc.getD i 0).testBit x.1 || x.2.indep (gM Γ ops s o) with
  |true=>atX P Γ bD ops o s λs'=>s'.seen λs'=>aaU P Γ bD ops anc (i+1) l ((i,gM Γ ops s o)::fs) s' k
  |false=>aF
def acX(ops:List Oper):Bool:=ops.zipIdx.all λx=>x.1.after.toList.all λe=> !Region.binds .any e || decide (e.on < x.2)
structure at7 where
 j:Nat
 p:List C1
 q:Nat
 T:TypeId
structure aFX where
 j:Nat
 p:List C1
 t:Ty
structure ru where
 aY:List Nat:=[]
 sites:List Nat:=[]
 aon:List Id:=[]
 data:List (Nat×Ty):=[]
 owns:List at7:=[]
 Ch:List aFX:=[]
 aJr:List Nat:=[]
 aEq:List Id:=[]
 aIZ:List Nat:=[]
 aJw:List Nat:=[]
 aFZ:List (Nat×Nat):=[]
 aI0:Option Nat:=aF
 aq7:List (Nat×List C1):=[]
 Tk:Bool:=aQ
 aHH:List (Id×Ty):=[]
structure eu where
 X:Type
 run:AS->Option X
 out:X->Out (Exit×AS)
 set:Option (AS->X->Prop):=aF
structure ay0 where
 an:ru
 X:Type
 aHp:Exit->AS->Option X
 out:X->Out (Exit×AS)
 ok:∀e s x,aHp e s=aw x->(out x).eval=aw (e,s)
structure aEj where
 j:Nat
 t:Ty
 r:Nat
def iv:(t:Ty)->t.den->List Nat
 | .gC t,x=>match(x:Option (Nat×t.den)) with | some p=>p.1::iv t p.2 | none=> []
 | .slice t,x=>(x:List t.den).flatMap (iv t)
 | .arr _ t,x=>(x:List t.den).flatMap (iv t)
 | .pair a b,x=>iv a x.1++iv b x.2
 | .fo t,x=>((x:Option (List t.den)).getD []).flatMap (iv t)
 | .mR t,x=>match(x:Option t.den) with | some y=>iv t y | none=> []
 | .eK t,x=>(x:Bool×List t.den).2.flatMap (iv t)
 | .int _,_ | .bool,_ | .str,_ | .unit,_ | .js _,_ | .jp _,_=> []
def AS.PJ(s:AS):aB->List Nat
 | .d t x=>iv t x
 | .dx id _ _ _ _ _=>match s.obj id with | some (_,_,.vec _ t l)=>(l:List t.den).flatMap (iv t) | _=> []
 |_=> []
def aB.aEp:aB->Bool
 | .vec .. | .mp .. | .rA .. | .xx .. =>aQ
 |_=>aW
def aww{R:Type}(s:AS)(x:aEj)(k:AS->Option R):Option R:=
 match s.slot x.j with
 | .ptr id ver [] 0=>match s.obj id with
  |some (v,aQ,c)=>((s.ix x.t c.strip).bind λy=> .guard ((v==ver) && c.aEp && !c.strip.shared.contains id) (.ok y)).run λy=>
    auZ (λn=>n ∉ s.PJ (s.slot x.r)) λn=>k (((s.bq c.strip.shared).freeze id).put (aw x.j) (.d (.gC x.t) (aw (n,y))))
  |_=>aF
 |_=>aF
def awx{R:Type}:List aEj->AS->(AS->Option R)->Option R
 |[],s,k=>k s
 |x::l,s,k=>aww s x λs'=>awx l s' k
structure Ih where
 bD:List Nat:=[]
 loops:Nat->ru:=λ_=> {}
 outs:Nat->Bool->ru:=λ_ _=> {}
 fE:Nat->Option eu:=λ_=>aF
 owns:List at7:=[]
 trim:List Nat:=[]
 res:List (Option Ty):=[]
 Ch:List aFX:=[]
 aq7:List (Nat×List C1):=[]
 aFo:Nat->Option ay0:=λ_=>aF
 aFp:Nat->Option ay0:=λ_=>aF
 rf:Nat->Option (Nat×List Nat):=λ_=>aF
 aKk:Nat->Option (List at7):=λ_=>aF
 lX:Option Nat:=aF
 aFZ:List (Nat×Nat):=[]
 SK:Nat->List aEj:=λ_=> []
def dS:Code->Nat
 | .region id _ _=>id
 | .seq a _=>dS a
 | .block _ b=>dS b
 | .loop b=>dS b
 | .scope b=>dS b
 | .cond _ a b=>match dS a with | 0=>dS b | n=>n
 |_=>0
def eN(aY:List Nat):Nat->List aB->List aB
 |_,[]=> []
 |i,v::vs=>(match aY.any (λx=>decide (x=i)) with | true=>v | false=> .undef)::eN aY (i+1) vs
def ow(aY:List Nat):Nat->List (List dP)->List (List dP)
 |_,[]=> []
 |i,v::vs=>(match aY.any (λx=>decide (x=i)) with | true=>v | false=> [])::ow aY (i+1) vs
def aB.head:aB->Option (Id×Nat)
 | .dx id ver [] 0 0 _=>aw (id,ver)
 | .ptr id ver [] 0=>aw (id,ver)
 |_=>aF
def NK(es:List dP)(b q:Nat)(i:Id)(ver:Nat):Option (Id×Nat):=
 match i with
 | .eC k=>aw (.eC k,ver)
 | .new x j=>match decide (x=b) with
  |true=>(match es[j]? with | some (.obj v _ _)=>(match ver==v with | true=>aw (.new q j,0) | false=>aF) | _=>aF)
  |false=>(match decide (x=q) with | true=>aF | false=>aw (.new x j,ver))
def dP.W8(ρ:Id->Nat->Option (Id×Nat)):dP->dP
 | .obj _ fr c=> .obj 0 fr (c.iI ρ)
 | .dead=> .dead
def aB.asF(ρ:Id->Nat->Option (Id×Nat))(kp:Id->Bool):aB->aB
 | .rA q ver k v rest cur=>match kp q with | true=> .rA q ver k v rest cur | false=> .rA q 0 k v rest cur
 |c=>c.iI ρ
def dP.ZY(ρ:Id->Nat->Option (Id×Nat))(kp:Id->Bool):dP->dP
 | .obj v fr c=> .obj v fr (c.asF ρ kp)
 | .dead=> .dead
def Iy(b q:Nat):Id->Bool | .eC _=>aW | .new x _=> !decide (x=b) && !decide (x=q)
def AS.Ho(s:AS)(b q:Nat)(es:List dP):AS:= {ck:=s.ck.map (aB.iI (NK es b q)),dg:=s.dg.map (dP.ZY (NK es b q) (Iy b q)),news:=((s.news.map λes'=>es'.map (dP.ZY (NK es b q) (Iy b q))).set b []).set q (es.map (dP.W8 (NK es b q)))}
def AS.at(s:AS)(j:Nat):List C1->Out aB
 |[]=> .ok (s.slot j)
 |p=>match s.slot j with
  | .ptr id ver p0 _=>match s.obj id with
   |some (v,_,c)=> .guard (v==ver) ((loc c.strip (p0++p)).bind λr=> .ok r.2)
   |none=> .fail
  |_=> .fail
def AS.putAt(s:AS)(j:Nat)(v:aB):List C1->Out AS
 |[]=> .ok (s.put (aw j) v)
 |p=>match s.slot j with
  | .ptr id _ p0 _=>match s.obj id with
   |some (ver,fr,c)=>match c.strip with
    | .vec .. => .fail
    |c1=>(xz c1 (p0++p) v).bind λc'=> .ok (s.aZ id (.obj ver fr (c.wrap c')))
   |none=> .fail
  |_=> .fail
def AS.still(s:AS):List Nat->AS
 |[]=>s
 |q::l=>(match s.obj (.new q 0) with | some (v,fr,.rA i ver k t r _)=>s.aZ (.new q 0) (.obj v fr (.rA i ver k t r aF)) | _=>s).still l
def awN(α:Type):Setoid (List α):=⟨List.Perm,tl,List.Perm.symm,List.Perm.trans⟩
def akh{α:Type}(l:List α):List α:=(Quotient.exists_rep (Quotient.mk (awN α) l)).choose
def AS.canon(s:AS):List Id->AS
 |[]=>s
 |id::l=>(match s.obj id with | some (v,fr,.mp k t r)=>s.aZ id (.obj v fr (.mp k t (akh r))) | _=>s).canon l
def Q0(s:AS):List aFX->Out AS
 |[]=> .ok s
 |o::l=>match o.p,s.slot o.j with
  |_::_,.kq=>Q0 s l
  |_,_=>(s.at o.j o.p).bind λu=>(s.ix o.t u).bind λx=>((s.bq u.shared).putAt o.j (.d o.t x) o.p).bind λs'=>Q0 s' l
def ahm(s:AS):List (Nat×List C1)->Out AS
 |[]=> .ok s
 |o::l=>(s.at o.1 o.2).bind λu=>match u with
  | .dx id ver [] 0 0 len=>match s.obj id with
   |some (v,aQ,.vec _ t r)=> .guard (v==ver) (.sQ (decide (len=r.length)) (((s.aZ id .dead).putAt o.1 (.d (.eK t) (aW,r)) o.2).bind λs'=>ahm s' l))
   |_=> .fail
  |_=>ahm s l
def ana(s:AS):List (Id×Ty)->Out AS
 |[]=> .ok s
 |o::l=>match s.obj o.1 with
  |some (v,fr,.vec e t r)=>cond (t==o.2.Tk) (ana s l) (.guard (o.2.size==t.size) ((Out.opt (xv (.slice t) (.slice o.2) r)).bind λr'=>ana (s.aZ o.1 (.obj v fr (.vec e o.2 r'))) l))
  |_=>ana s l
def aB.quiet:aB->Bool
 | .xx .. | .rA .. =>aQ
 |_=>aW
def dP.fW:dP->Bool
 | .obj _ _ (.vec _ t l)=>(l:List t.den).all t.fW
 | .obj _ _ c=>c.pj && c.quiet
 | .dead=>aW
def dP.Tk:dP->dP
 | .obj v fr (.vec e t l)=> .obj v fr (.vec e t.Tk ((l:List t.den).map t.om))
 |e=>e
def aFI(b:Bool)(s:AS):Out AS:=match b with
 |true=> .guard (s.ck.all aB.pj) (.sQ (s.dg.all dP.fW && s.news.all λes=>es.all dP.fW) (.ok ⟨s.ck,s.dg.map dP.Tk,s.news.map λes=>es.map dP.Tk⟩))
 |false=> .ok s
def FD:(t:Ty)->t.den->Out aB
 | .fo t,x=> .sQ (x:Option (List t.den)).isNone (.ok .cw)
 | .pair a b,x=>(FD a x.1).bind λu=>(FD b x.2).bind λv=> .ok (MQ u v)
 |t,x=> .ok (.d t x)
def aqc(s:AS):List Nat->Out AS
 |[]=> .ok s
 |j::l=>match s.slot j with
  | .ptr id ver (.idx k::p) n=>match s.obj id with
   |some (v,aQ,.vec e t r)=> .guard (v==ver) (.sQ (decide (k < r.length)) ((FD t (nth t r k)).bind λu=>
     aqc ((s.aZ id (.obj v aQ (.bx e t.size (.pr (.d (.arr k t) (r.take k)) (.pr u (.d (.arr (r.drop (k+1)).length t) (r.drop (k+1)))))))).put (aw j) (.ptr id ver (.snd:: .fst::p) n)) l))
   |_=> .fail
  | .ptr _ _ (.snd::_) _=>aqc s l
  |_=> .fail
def ayH(s:AS):List Nat->Out AS
 |[]=> .ok s
 |j::l=>match s.slot j with
  | .ptr id ver (.snd:: .fst::p) n=>match s.obj id with
   |some (v,aQ,.bx e z (.pr (.d (.arr k t) l1) (.pr u (.d (.arr _ t') l2))))=> .guard ((v==ver) && (z==t.size) && !(z==0) && !(u.shared.any λi=>decide (i=id)))
     ((Out.opt (tt (.slice t') (.slice t) l2)).bind λl2=>(s.ix t u).bind λx=>
      ayH (((s.bq u.shared).aZ id (.obj v aQ (.vec e t (l1++x::l2)))).put (aw j) (.ptr id ver (.idx k::p) n)) l)
   |_=> .fail
  |_=> .fail
def vS(P:aR)(s:AS):List at7->Out AS
 |[]=> .ok s
 |o::l=>match o.p,s.slot o.j with
  |_::_,.kq=>vS P s l
  |_,_=>(s.at o.j o.p).bind λu=>match u with
  | .cw=>match acY P o.T,s.ej o.q with
   |some (e,t,_),aW=>((s.born o.q [.obj 0 aQ (.vec e t [])]).putAt o.j (.dx (.new o.q 0) 0 [] 0 0 0) o.p).bind λs'=>vS P s' l
   |_,_=> .fail
  |u=>match u.head with
   |some (.new b j,ver)=>match s.obj (.new b j),decide (o.q < s.news.length) with
    |some (v,_,_),aW=>match v==ver with
     |true=>vS P (s.Ho b o.q (s.news.getD b [])) l
     |false=> .fail
    |_,_=> .fail
   |_=> .fail
def acn(s:AS):List Nat->Out AS
 |[]=> .ok s
 |j::l=>match s.slot j with
  | .dx id ver [] 0 0 len=>match s.obj id with
   |some (v,aQ,.vec e t r)=>match v==ver with
    |true=> .sQ (decide (len<=r.length)) (acn (s.aZ id (.obj v aQ (.vec e t (r.take len)))) l)
    |false=> .fail
   |_=> .fail
  |_=> .fail
def asData(s:AS):List (Nat×Ty)->Out AS
 |[]=> .ok s
 | (j,t)::l=>(s.ix t (s.slot j)).bind λx=>asData ((s.bq (s.slot j).shared).put (aw j) (.d t x)) l
def aB.there(s:AS):aB->Bool
 | .ptr id _ _ _=>(s.obj id).isSome
 | .dx id _ _ _ _ _=>(s.obj id).isSome
 | .pr a b=>a.there s && b.there s
 | .cons a b=>a.there s && b.there s
 | .fn _ c=>c.there s
 | .bx _ _ c=>c.there s
 | .sG id _=>(s.obj id).isSome
 | .yl id _=>(s.obj id).isSome
 | .xx _ f _=>f.there s
 | .rA .. =>aQ
 |_=>aW
def dP.there(s:AS):dP->Bool
 | .obj _ _ (.rA id _ _ _ _ _)=>(s.obj id).isSome
 | .obj _ _ c=>c.there s
 | .dead=>aW
def MI(an:ru)(s:AS):AS:= {ck:=eN an.aY 0 s.ck,dg:=s.dg,news:=ow an.sites 0 s.news}
def AS.afJ(s:AS):Bool:=(s.ck.all (aB.there s)) && (s.dg.all (dP.there s)) && (s.news.all λes=>es.all (dP.there s))
def uT(k v n:Nat)(i:Id)(ver:Nat):Option (Id×Nat):=match i with
 | .eC j=>match iL j k with
  |true=>match iL ver v with | true=>aw (.eC j,n) | false=>aF
  |false=>aw (.eC j,ver)
 |i=>aw (i,ver)
def Ga(k:Nat):Id->Bool | .eC j=> !iL j k | _=>aW
def dP.amU(ρ:Id->Nat->Option (Id×Nat))(kp:Id->Bool):dP->dP
 | .obj v fr c=> .obj v fr (c.asF ρ kp)
 | .dead=> .dead
def AS.auy(s:AS)(k n:Nat):Out AS:=match s.bV (.eC k) with
 |some (.obj v fr c)=> .guard (Nat.ble v n || Nat.ble 1 n) (.ok {ck:=s.ck.map (aB.iI (uT k v n)),dg:=(s.dg.map (dP.amU (uT k v n) (Ga k))).set k (.obj n fr (c.iI (uT k v n))),news:=s.news.map λes=>es.map (dP.amU (uT k v n) (Ga k))})
 |_=> .fail
def af4(s:AS):List (Nat×Nat)->Out AS
 |[]=> .ok s
 |x::l=>(s.auy x.1 x.2).bind λs=>af4 s l
def AS.aEx(s:AS):List Id:=(s.reach 64 (s.ck.flatMap aB.ids++s.dg.flatMap dP.ids) []).filter λid=>match id with | .new _ _=>aW | .eC _=>aQ
def aqk(s:AS)(ids:List Id)(q:Nat):Id->Nat->Option (Id×Nat)
 | .eC k,ver=>aw (.eC k,ver)
 | .new x y,ver=>match idxOf (.new x y) ids,s.obj (.new x y) with
  |some j,aw (v,_,_)=>match ver==v with | true=>aw (.new q j,0) | false=>aF
  |_,_=>aF
def dP.axz(ρ:Id->Nat->Option (Id×Nat)):dP->dP
 | .obj v fr c=> .obj v fr (c.iI ρ)
 | .dead=> .dead
def AS.F5(s:AS)(ids:List Id)(q:Nat):AS:= {ck:=s.ck.map (aB.iI (aqk s ids q)),dg:=s.dg.map (dP.axz (aqk s ids q)),news:=(s.news.map λ_=> []).set q (ids.map λid=>((s.bV id).getD .dead).W8 (aqk s ids q))}
def AS.ada(s:AS):Option Nat->Out AS
 |none=> .ok s
 |some q=> .guard (Nat.blt q s.news.length) (.ok (s.F5 s.aEx q))
def norm(P:aR)(an:ru)(s:AS):Out AS:=(af4 s an.aFZ).bind λs=>(ayH (((s.bq an.aon).still an.aJr).canon an.aEq) an.aJw).bind λs=>(ahm s an.aq7).bind λs=>(Q0 s an.Ch).bind λs=>(asData s an.data).bind λs=> .guard (MI an s).afJ ((aqc (MI an s) an.aIZ).bind λs=>(vS P s an.owns).bind λs=>(ana s an.aHH).bind λs=>(aFI an.Tk s).bind λs=>s.ada an.aI0)
def Rj{R:Type}(nrm:AS->Out AS)(nrmX:Exit->AS->Out AS)(body:AS->(Exit->AS->Option R)->Option R):Nat->AS->(Exit->AS->Option R)->Option R
 | 0,_,_=>aF
 |n+1,s,k=>body s λe s'=>match e with
  | .normal=>(nrm s').run λs1=>Rj nrm nrmX body n s1 k
  |e=>(nrmX e s').run (k e)
def agO:Exit->Bool | .ret=>aW | _=>aQ
def ayJ{R:Type}(le:eu)(s:AS)(k:Exit->AS->Option R):Option R:=
 match le.set with
 |none=>aj (le.run s) λx=>(le.out x).run λr=>k r.1 r.2
 |some S=>auZ (S s) λx=>(le.out x).run λr=>k r.1 r.2
def adq{R:Type}(P:aR)(j:Option ay0)(run: {R:Type}->(Exit->AS->Option R)->Option R)(k:Exit->AS->Option R):Option R:=
 match j with
 |none=>run k
 |some j=>aj (run λe s=>(norm P j.an s).run (j.aHp e)) λx=>(j.out x).run λr=>k r.1 r.2
def L9:List aB->aB
 |[]=> .nil
 |a::l=> .cons a (L9 l)
def aix(P:aR)(h:jF):Bool:=match P.funcs[h]? with
 |some fn=> !(fn.name== "runtime.NumGoroutine") && fn.body.isSome
 |none=>aQ
def Ee{R:Type}(P:aR)(Γ:uO)(an:Ih)(s:AS)(f:bH)(ps:Array Tmp)(as b:Code)(k:Exit->AS->Option R):Option R:=
 match an.lX,an.rf (ps.getD 0 0),s.ev f with
 |none,aw (y,aY),.fn h caps=>match aix P h && s.ej (ps.getD 0 0) && Nat.blt (ps.getD 0 0) s.ck.length && Nat.blt h yB,Γ h (.yl (.new (ps.getD 0 0) 0) 0::caps.list) with
  |true,aw en=>((s.born (ps.getD 0 0) [.obj 0 aQ (.xx ⟨y,ps,as,b⟩ (L9 (eN aY 0 s.ck)) 0)]).put (aw (ps.getD 0 0)) (.yl (.new (ps.getD 0 0) 0) 0)).aBq en aF (.yl (.new (ps.getD 0 0) 0) 0::caps.list) λs3=>
   match s3.bV (.new (ps.getD 0 0) 0),s3.slot (ps.getD 0 0) with
   |some (.obj 0 aQ (.xx _ _ p)),.yl (.new q' 0) 0=>match iL q' (ps.getD 0 0),p with
    |true,0=>k .normal ((s3.aZ (.new (ps.getD 0 0) 0) .dead).put (aw (ps.getD 0 0)) .undef)
    |true,2=>k .ret ((s3.aZ (.new (ps.getD 0 0) 0) .dead).put (aw (ps.getD 0 0)) .undef)
    |true,i+3=>k (.exit i) ((s3.aZ (.new (ps.getD 0 0) 0) .dead).put (aw (ps.getD 0 0)) .undef)
    |_,_=>aF
   |_,_=>aF
  |_,_=>aF
 |_,_,_=>aF
def ev(P:aR)(Γ:uO)(an:Ih)(N:Nat):Code-> {R:Type}->AS->(Exit->AS->Option R)->Option R
 | .skip,_,s,k=>k .normal s
 | .region id ops draw,_,s,k=>awx (an.SK id) s λs=>adq P (an.aFo id) (λk=>match draw with
  |true=>(match acX ops.toList with
   |true=>aaU P Γ an.bD ops (afL ops.toList) 0 ops.toList [] s λs'=>k .normal s'
   |false=>aF)
  |false=>azD P Γ an.bD ops ops.toList s λs'=>k .normal s') k
 | .seq a b,_,s,k=>adq P (an.aFp (dS b)) (λk=>ev P Γ an N a s k) λe s'=>match e with | .normal=>ev P Γ an N b s' k | e=>k e s'
 | .cond c x y,_,s,k=>match s.ev c with
  | .d .bool b=>aG b (ev P Γ an N x s k) (ev P Γ an N y s k)
  |_=>aF
 | .block id b,_,s,k=>ev P Γ an N b s λe s'=>match e with | .exit i=>(match decide (i=id) with | true=>k .normal s' | false=>k (.exit i) s') | e=>k e s'
 | .loop b,_,s,k=>(norm P (an.loops (dS b)) s).run λs1=>match an.fE (dS b) with
  |some le=>ayJ le s1 k
  |none=>Rj (norm P (an.loops (dS b))) (λe=>norm P (an.outs (dS b) (agO e))) (ev P Γ an N b) N s1 k
 | .scope b,_,s,k=>ev P Γ an N b s λe s'=>match e with | .goto _=>aF | e=>k e s'
 | .label _,_,s,k=>k .normal s
 | .exit id,_,s,k=>k (.exit id) s
 | .ret,_,s,k=>k .ret s
 | .rangeFunc f ps as b,_,s,k=>(vS P s ((an.aKk (ps.getD 0 0)).getD [])).run λs=>Ee P Γ an s f ps as b k
 |_,_,_,_=>aF
def Xc(P:aR)(s:AS):ResultVar->Out aB
 | .tmp t=> .ok (s.slot t)
 | .cell a T=>MM P s T (s.slot a)
def Xb(P:aR)(s:AS)(r:ResultVar):Option Ty->Out (AS×aB)
 |none=>(Xc P s r).bind λv=> .ok (s,v)
 |some t=>(Xc P s r).bind λv=>(s.ix t v).bind λx=> .ok (s.bq v.shared,.d t x)
def NN(P:aR)(s:AS):List ResultVar->List (Option Ty)->Out (AS×aB)
 |[],_=> .ok (s,.nil)
 |r::rs,ts=>(Xb P s r (ts.headD aF)).bind λx=> .guard x.2.ee ((NN P x.1 rs ts.tail).bind λy=> .ok (y.1,.cons x.2 y.2))
def aeL(P:aR)(fn:Func)(ts:List (Option Ty))(s:AS):Out (AS×aB):=
 match fn.results.toList with
 |[r]=>Xb P s r (ts.headD aF)
 |rs=>NN P s rs ts
def mw:Code->List Code
 | .seq a b=>mw a++mw b
 | .cond _ a b=>mw a++mw b
 | .block _ b=>mw b
 | .scope b=>mw b
 | .loop b=>b::mw b
 |_=> []
def sy(fn:Func)(i:Nat):Code:=match fn.body with | some c=>(mw c).getD i .skip | none=> .skip
def PC(P:aR)(Γ:uO)(an:Ih)(N:Nat)(fn:Func)(i:Nat){R:Type}(s:AS)(kn:AS->Option R)(kx:Exit->AS->Option R):Option R:=
 ev P Γ an N (sy fn i) s λe s'=>match e with
  | .normal=>(norm P (an.loops (dS (sy fn i))) s').run kn
  |e=>(norm P (an.outs (dS (sy fn i)) (agO e)) s').run (kx e)
def ag1(P:aR)(Γ:uO)(an:Ih)(N:Nat)(fn:Func)(i:Nat){R:Type}(n:Nat)(s:AS)(k:Exit->AS->Option R):Option R:=Rj (norm P (an.loops (dS (sy fn i)))) (λe=>norm P (an.outs (dS (sy fn i)) (agO e))) (ev P Γ an N (sy fn i)) n s k
def Id.aBP:Id->Bool | .new _ _=>aW | .eC _=>aQ
def AS.Pc(s:AS)(v:aB):List Id:=(s.reach 64 (v.ids++s.dg.flatMap dP.ids) []).filter Id.aBP
def Kv(ids:List Id):Id->Nat->Option (Id×Nat)
 | .eC k,v=>aw (.eC k,v)
 |id,v=>match idxOf id ids with | some j=>aw (.new 0 j,v) | none=>aF
def dP.fin(ids:List Id):dP->dP
 | .obj v fr c=> .obj v fr (c.iI (Kv ids))
 | .dead=> .dead
def AS.aBs(s:AS)(ids:List Id)(v:aB):oH:= {val:=v.iI (Kv ids),dg:=s.dg.map (dP.fin ids),news:=ids.map λid=>((s.bV id).getD .dead).fin ids}
def AS.fin(s:AS)(v:aB):oH:=s.aBs (s.Pc v) v
def start(fn:Func)(args:List aB)(dg:List dP):AS:= {ck:=args++ag (fn.ntmps - args.length) .undef,dg,news:=ag fn.ntmps []}
def axA(fn:Func):List Nat:=fn.results.toList.map λr=>match r with | .tmp t=>t | .cell a _=>a
def AS.drop(s:AS)(ks:List Nat):AS:= {ck:=eN ks 0 s.ck,dg:=s.dg,news:=s.news}
def finish(P:aR)(an:Ih)(fn:Func)(s:AS):Out oH:=(ahm s an.aq7).bind λs=>(Q0 s an.Ch).bind λs=>(vS P (s.drop (axA fn)) an.owns).bind λs=>(acn s an.trim).bind λs=>(af4 s an.aFZ).bind λs=>(aeL P fn an.res s).bind λr=> .ok (r.1.fin r.2)
def AS.axw(s:AS)(q p:Nat):Option AS:=match s.bV (.eC 0) with
 |some (.obj 0 aQ (.xx c f q'))=>(match iL q q' with | true=>aw (s.aZ (.eC 0) (.obj 0 aQ (.xx c f p))) | false=>aF)
 |_=>aF
def apb:List (Tmp×aB)->List aB->List aB
 |[],l=>l
 |x::xs,l=>apb xs (l.set x.1 x.2)
def aDs(ps:List Tmp)(args:List aB)(dg:List dP):AS:= {ck:=apb (ps.zip (args.take ps.length)) (args.drop ps.length),dg,news:=ag (args.drop ps.length).length []}
def aEv:Exit->Option Nat
 | .normal=>aw 0
 | .ret=>aw 2
 | .exit i=>aw (i+3)
 |_=>aF
def azu(P:aR)(an:Ih)(s:AS)(v:aB):Out oH:=(ahm s an.aq7).bind λs=>(Q0 s an.Ch).bind λs=>(vS P (s.drop []) an.owns).bind λs=>(acn s an.trim).bind λs=>(af4 s an.aFZ).bind λs=> .ok (s.fin v)
def dP.first:dP->Bool
 | .obj v _ _=>iL v 0
 | .dead=>aW
def aDf(P:aR)(Γ:uO)(an:Ih)(N:Nat)(c:uZ)(args:List aB)(dg:List dP){R:Type}(k:oH->Option R):Option R:=
 match args with
 | .yl (.eC 0) 0::args=>match dg.all dP.first with | false=>aF | true=>ev P Γ an N c.as (aDs c.ps.toList args dg) λe s=>match e with
  | .normal=>aj (s.axw 0 1) λs=>ev P Γ an N c.b s λe s=>aj (aEv e) λp=>aj (s.axw 1 p) λs=>(azu P an s (.d .bool (iL p 0))).run k
  |_=>aF
 |_=>aF
def auc(P:aR)(Γ:uO)(an:Ih)(N:Nat)(fn:Func)(args:List aB)(dg:List dP){R:Type}(k:oH->Option R):Option R:=
 match an.lX with
 |some y=>aDf P Γ an N (amV P y) args dg k
 |none=>match fn.body with
 |some c=>match dg.all dP.first with | false=>aF | true=>ev P Γ an N c (start fn args dg) λe s=>match e with
  | .normal=>(finish P an fn s).run k
  | .ret=>(finish P an fn s).run k
  |_=>aF
 |none=>aF
end Go.Ab
namespace Go.Ab
inductive Own where
 |dT
 |id (i:Id)
inductive iF where
 |free
 |own (o:Own) (k:Nat)
 |fresh
 |gg
structure Pl where
 b:Nat
 cap:Nat
structure Env where
 w:cj
 g:Nat->iF
 β:Id->Option Pl
 s:Id->Option dP
def kr(g:Nat->iF)(b off:Nat):Prop:=match g b with | .free=>True | .own _ k=>off < k | .fresh | .gg=>False
def Env.has(E:Env)(b off:Nat)(v:Value):Prop:=E.w.cell? ⟨b,off,aF⟩=aw v/\kr E.g b off
def bp{α:Type}(R:List Value->α->Prop):List Value->List α->Prop
 |cs,[]=>cs=[]
 |cs,x::xs=>∃c cs',cs=c++cs'/\R c x/\bp R cs' xs
def wz(E:Env)(a:Option Addr)(vs:List Value):Prop:=∀i v,vs[i]? =aw v->∃b off,a=aw ⟨b,off,aF⟩/\E.has b (off+i) v
def ay1(E:Env)(a:Option Addr)(vs:List Value):Prop:=∀i v,vs[i]? =aw v->∃b off,a=aw ⟨b,off,aF⟩/\E.w.cell? ⟨b,off+i,aF⟩=aw v/\E.g b= .fresh/\∃cur e,E.w.heap[b]? =aw (.cells cur e (0,0))
def ajZ(E:Env)(b m:Nat):Prop:=E.g b= .gg/\∃cur e,E.w.heap[b]? =aw (.cells cur e (0,0))/\m<=cur.size
def cq(E:Env):(t:Ty)->List Value->t.den->Prop
 | .int k,cs,x=>cs=[.int k x]
 | .bool,cs,x=>cs=[.bool x]
 | .str,cs,x=>cs=[.string x]
 | .slice t,cs,l=>∃a cap vs,cs=[.slice a (l:List t.den).length cap]/\(l:List t.den).length<=cap/\(0 < (l:List t.den).length->a.isSome=aW)/\wz E a vs/\bp (cq E t) vs l
 | .unit,cs,_=>cs=[]
 | .pair a b,cs,x=>∃ca cb,cs=ca++cb/\cq E a ca x.1/\cq E b cb x.2
 | .arr n t,cs,l=>(l:List t.den).length=n/\bp (cq E t) cs l
 | .fo t,cs,x=>((x:Option (List t.den))=aF->cs=[.slice aF 0 0])/\∀l:List t.den,(x:Option (List t.den))=aw l->
   ∃a cap vs,cs=[.slice a l.length cap]/\l.length<=cap/\(0 < l.length->a.isSome=aW)/\wz E a vs/\bp (cq E t) vs l
 | .mR t,cs,x=>((x:Option t.den)=aF->cs=[.pointer aF])/\∀y:t.den,(x:Option t.den)=aw y->
   ∃b off vs,cs=[.pointer (aw ⟨b,off,aF⟩)]/\wz E (aw ⟨b,off,aF⟩) vs/\cq E t vs y
 | .gC t,cs,x=>((x:Option (Nat×t.den))=aF->cs=[.pointer aF])/\∀y:Nat×t.den,(x:Option (Nat×t.den))=aw y->
   ∃ca T vs,cs=[.pointer (aw ⟨y.1,0,aF⟩)]/\(E.g y.1= .free/\E.w.heap[y.1]? =aw (.cells ca T (0,0)))/\wz E (aw ⟨y.1,0,aF⟩) vs/\cq E t vs y.2
 | .eK t,cs,x=>∃a cap vs,cs=[.slice a (x:Bool×List t.den).2.length cap]/\(x:Bool×List t.den).2.length<=cap/\(0 < (x:Bool×List t.den).2.length->a.isSome=aW)/\
   bp (cq E t) vs (x:Bool×List t.den).2/\((x:Bool×List t.den).1=aQ->wz E a vs)/\((x:Bool×List t.den).1=aW->ay1 E a vs)
 | .js z,cs,n=>∃a cap,cs=[.slice a (n:Nat) cap]/\(n:Nat)<=cap/\(0 < (n:Nat)->∃b off,a=aw ⟨b,off,aF⟩/\ajZ E b (off+(n:Nat)*z))
 | .jp n,cs,_=>∃b off,cs=[.pointer (aw ⟨b,off,aF⟩)]/\ajZ E b (off+n)
section
variable {α:Type} {R R':List Value->α->Prop} {z:Nat}
theorem bp.mono(h:∀c x,R c x->R' c x):∀ {cs:List Value} {l:List α},bp R cs l->bp R' cs l
 |_,[],hc=>hc
 |_,_::_,⟨c,cs',e,hx,hr⟩=>⟨c,cs',e,h _ _ hx,bp.mono h hr⟩
theorem bp.length(h:∀c x,R c x->c.length=z):∀ {cs:List Value} {l:List α},bp R cs l->cs.length=l.length*z
 |cs,[],hc=>by have:cs=[]:=hc;simp[this]
 |_,x::xs,⟨c,cs',e,hx,hr⟩=>by rw[e,ai,h c x hx,bp.length h hr,aE,eG,iW,Nat.add_comm]
theorem bp.all{p:Value->Prop}(h:∀c x,R c x->∀v∈c,p v):∀ {cs:List Value} {l:List α},bp R cs l->∀v∈cs,p v
 |cs,[],hc,v,hv=>by have:cs=[]:=hc;simp[this]at hv
 |_,_::_,⟨c,cs',e,hx,hr⟩,v,hv=>by
  rw[e]at hv;rcases bJ.1 hv with hv | hv
  ·exact h _ _ hx v hv
  ·exact bp.all h hr v hv
theorem bp.append:∀ {cs:List Value} {l:List α} {cs':List Value} {l':List α},bp R cs l->bp R cs' l'->bp R (cs++cs') (l++l')
 |cs,[],_,_,hc,h'=>by have:cs=[]:=hc;simpa[this]using h'
 |_,x::xs,_,_,⟨c,cs1,e,hx,hr⟩,h'=>⟨c,cs1++_,by rw[e,aC],hx,bp.append hr h'⟩
theorem bp.take(h:∀c x,R c x->c.length=z):∀ {cs:List Value} {l:List α} (n:Nat),bp R cs l->bp R (cs.take (n*z)) (l.take n)
 |cs,[],n,hc=>by have:cs=[]:=hc;simp[this,bp]
 |_,x::xs,0,_=>by simp[bp]
 |_,x::xs,n+1,⟨c,cs',e,hx,hr⟩=>by refine⟨c,cs'.take (n*z),?_,hx,bp.take h n hr⟩;rw[e,mB,h c x hx,eG,iW,bg (by rw[h c x hx];omega),Nat.add_sub_cancel]
theorem bp.drop(h:∀c x,R c x->c.length=z):∀ {cs:List Value} {l:List α} (n:Nat),bp R cs l->bp R (cs.drop (n*z)) (l.drop n)
 |cs,[],n,hc=>by have:cs=[]:=hc;simp[this,bp]
 |_,x::xs,0,hc=>by simpa using hc
 |_,x::xs,n+1,⟨c,cs',e,hx,hr⟩=>by rw[e,iG,h c x hx,eG,iW,dh (by rw[h c x hx];omega),Nat.add_sub_cancel];simpa using bp.drop h n hr
theorem bp.get(h:∀c x,R c x->c.length=z){cs:List Value}{l:List α}(hc:bp R cs l)(i:Nat)(hi:i < l.length):R ((cs.drop (i*z)).take z) l[i]:=by have h1:=bp.take h 1 (bp.drop h i hc);rw[aq hi]at h1;simp only[iW,List.take_succ_cons,dI]at h1;obtain⟨c,cs',e,hx,hr⟩:=h1;have:cs'=[]:=hr;rw[e,this,bn];exact hx
theorem bp.set(h:∀c x,R c x->c.length=z){cs:List Value}{l:List α}(hc:bp R cs l)(i:Nat)(hi:i < l.length){c:List Value}{x:α}(hx:R c x):
  bp R (cs.take (i*z)++c++cs.drop (i*z+c.length)) (l.set i x):=by
 rw[List.set_eq_take_append_cons_drop,if_pos hi,h c x hx];have h1:=bp.take h i hc;have h2:=bp.drop h (i+1) hc;rw[eG,iW]at h2;have h3:bp R (c++cs.drop (i*z+z)) (x::l.drop (i+1)):=⟨c,_,rfl,hx,h2⟩;rw[aC];exact bp.append h1 h3
theorem bp.one{c:List Value}{x:α}(h:R c x):bp R c [x]:=⟨c,[],by simp,h,rfl⟩
end
theorem cq.size{E:Env}:∀ {t:Ty} {cs:List Value} {x:t.den},cq E t cs x->cs.length=t.size
 | .int _,_,_,h=>by simp only[cq]at h;simp[h,Ty.size]
 | .bool,_,_,h=>by simp only[cq]at h;simp[h,Ty.size]
 | .str,_,_,h=>by simp only[cq]at h;simp[h,Ty.size]
 | .slice t,_,_,h=>by simp only[cq]at h;obtain⟨a,cap,vs,rfl,_⟩:=h;simp[Ty.size]
 | .unit,_,_,h=>by simp only[cq]at h;simp[h,Ty.size]
 | .pair a b,_,_,h=>by simp only[cq]at h;obtain⟨ca,cb,rfl,ha,hb⟩:=h;simp[Ty.size,cq.size ha,cq.size hb]
 | .arr n t,_,_,h=>by simp only[cq]at h;rw[bp.length (λc x hx=>cq.size hx) h.2,h.1,Ty.size]
 | .fo t,_,x,h=>by
  simp only[cq]at h;obtain⟨h1,h2⟩:=h;cases hx:(x:Option (List t.den)) with
  |none=>rw[h1 hx];rfl
  |some l=>obtain⟨a,cap,vs,rfl,_⟩:=h2 l hx;rfl
 | .mR t,_,x,h=>by
  simp only[cq]at h;obtain⟨h1,h2⟩:=h;cases hx:(x:Option t.den) with
  |none=>rw[h1 hx];rfl
  |some l=>obtain⟨b,off,vs,rfl,_⟩:=h2 l hx;rfl
 | .gC t,_,x,h=>by
  simp only[cq]at h;obtain⟨h1,h2⟩:=h;cases hx:(x:Option (Nat×t.den)) with
  |none=>rw[h1 hx];rfl
  |some l=>obtain⟨ca,T,vs,rfl,_⟩:=h2 l hx;rfl
 | .eK t,_,_,h=>by simp only[cq]at h;obtain⟨a,cap,vs,rfl,_⟩:=h;simp[Ty.size]
 | .js _,_,_,h=>by simp only[cq]at h;obtain⟨a,cap,rfl,_⟩:=h;simp[Ty.size]
 | .jp _,_,_,h=>by simp only[cq]at h;obtain⟨b,off,rfl,_⟩:=h;simp[Ty.size]
theorem cq.one{E:Env}:∀ {t:Ty} {cs:List Value} {x:t.den},cq E t cs x->∀c∈cs,c.oneCell'=aW
 | .int _,_,_,h=>by simp only[cq]at h;simp[h,c6]
 | .bool,_,_,h=>by simp only[cq]at h;simp[h,c6]
 | .str,_,_,h=>by simp only[cq]at h;simp[h,c6]
 | .slice t,_,_,h=>by simp only[cq]at h;obtain⟨a,cap,vs,rfl,_⟩:=h;simp[c6]
 | .unit,_,_,h=>by simp only[cq]at h;simp[h]
 | .pair a b,_,_,h=>by
  simp only[cq]at h;obtain⟨ca,cb,rfl,ha,hb⟩:=h;intro c hc;rcases bJ.1 hc with hc | hc
  ·exact cq.one ha c hc
  ·exact cq.one hb c hc
 | .arr n t,_,_,h=>by simp only[cq]at h;exact bp.all (λc x hx=>cq.one hx) h.2
 | .fo t,_,x,h=>by
  simp only[cq]at h;obtain⟨h1,h2⟩:=h;cases hx:(x:Option (List t.den)) with
  |none=>rw[h1 hx];simp[c6]
  |some l=>obtain⟨a,cap,vs,rfl,_⟩:=h2 l hx;simp[c6]
 | .mR t,_,x,h=>by
  simp only[cq]at h;obtain⟨h1,h2⟩:=h;cases hx:(x:Option t.den) with
  |none=>rw[h1 hx];simp[c6]
  |some l=>obtain⟨b,off,vs,rfl,_⟩:=h2 l hx;simp[c6]
 | .gC t,_,x,h=>by
  simp only[cq]at h;obtain⟨h1,h2⟩:=h;cases hx:(x:Option (Nat×t.den)) with
  |none=>rw[h1 hx];simp[c6]
  |some l=>obtain⟨ca,T,vs,rfl,_⟩:=h2 l hx;simp[c6]
 | .eK t,_,_,h=>by simp only[cq]at h;obtain⟨a,cap,vs,rfl,_⟩:=h;simp[c6]
 | .js _,_,_,h=>by simp only[cq]at h;obtain⟨a,cap,rfl,_⟩:=h;simp[c6]
 | .jp _,_,_,h=>by simp only[cq]at h;obtain⟨b,off,rfl,_⟩:=h;simp[c6]
theorem cq.awt{E:Env}{t:Ty}:cq E (.eK t) [.slice aF 0 0] (aW,[]):=by simp only[cq];exact⟨aF,0,[],rfl,az _,(λh=>absurd h (iM 0)),rfl,(λhh=>by cases hh),λ_ i v hh=>by simp at hh⟩
structure sM(E E':Env):Prop where
 has:∀b off v,E.has b off v->E'.has b off v
 fz:∀b ob,E.g b= .free->E.w.heap[b]? =aw ob->E'.g b= .free/\E'.w.heap[b]? =aw ob
 jk:∀b cur e,E.g b= .gg->E.w.heap[b]? =aw (.cells cur e (0,0))->E'.g b= .gg/\∃cur',E'.w.heap[b]? =aw (.cells cur' e (0,0))/\cur'.size=cur.size
def Ke(E E':Env):Prop:=∀b ob,E.g b= .fresh->E.w.heap[b]? =aw ob->E'.g b= .fresh/\E'.w.heap[b]? =aw ob
structure wy(E E':Env):Prop extends sM E E' where
 fr:Ke E E'
theorem sM.refl(E:Env):sM E E:=⟨λ_ _ _ h=>h,λ_ _ h h'=>⟨h,h'⟩,λ_ cur _ h h'=>⟨h,cur,h',rfl⟩⟩
theorem sM.trans{E E' E'':Env}(h:sM E E')(h':sM E' E''):sM E E'':=
 ⟨λb o v x=>h'.has b o v (h.has b o v x),λb ob h1 h2=>let⟨h3,h4⟩:=h.fz b ob h1 h2;h'.fz b ob h3 h4,
  λb cur e h1 h2=>let⟨h3,cur',h4,h5⟩:=h.jk b cur e h1 h2;let⟨h6,c2,h7,h8⟩:=h'.jk b cur' e h3 h4;⟨h6,c2,h7,h8.trans h5⟩⟩
theorem wy.refl(E:Env):wy E E:=⟨sM.refl E,λ_ _ h h'=>⟨h,h'⟩⟩
theorem wy.trans{E E' E'':Env}(h:wy E E')(h':wy E' E''):wy E E'':=⟨h.tosM.trans h'.tosM,λb ob h1 h2=>let⟨h3,h4⟩:=h.fr b ob h1 h2;h'.fr b ob h3 h4⟩
theorem wz.mono{E E':Env}(h:sM E E'){a:Option Addr}{vs:List Value}(hr:wz E a vs):wz E' a vs:=
 λi v hv=>let⟨b,off,ha,hh⟩:=hr i v hv;⟨b,off,ha,h.has _ _ _ hh⟩
theorem ay1.mono{E E':Env}(h:Ke E E'){a:Option Addr}{vs:List Value}(hr:ay1 E a vs):ay1 E' a vs:=λi v hv=>by obtain⟨b,off,ha,hc,hg,cur,e,ho⟩:=hr i v hv;obtain⟨h1,h2⟩:=h b _ hg ho;exact⟨b,off,ha,by simpa only[eQ,ho,h2]using hc,h1,cur,e,h2⟩
theorem ajZ.mono{E E':Env}(h:sM E E'){b m:Nat}(hj:ajZ E b m):ajZ E' b m:=
 let⟨hg,cur,e,ho,hm⟩:=hj
 let⟨h1,cur',h2,h3⟩:=h.jk b cur e hg ho
 ⟨h1,cur',e,h2,ak⟩
theorem cq.gU{E E':Env}(hm:sM E E'):∀ {t:Ty} (_:t.pj=aW\/Ke E E') {cs:List Value} {x:t.den},cq E t cs x->cq E' t cs x
 | .int _,_,_,_,h=>by simpa only[cq]using h
 | .bool,_,_,_,h=>by simpa only[cq]using h
 | .str,_,_,_,h=>by simpa only[cq]using h
 | .slice t,hn,_,_,h=>by simp only[cq]at h ⊢;obtain⟨a,cap,vs,e,hl,hs,hr,hc⟩:=h;exact⟨a,cap,vs,e,hl,hs,hr.mono hm,hc.mono λc x hx=>cq.gU hm (by simpa only[Ty.pj]using hn) hx⟩
 | .unit,_,_,_,h=>by simpa only[cq]using h
 | .pair a b,hn,_,_,h=>by simp only[cq]at h ⊢;obtain⟨ca,cb,e,ha,hb⟩:=h;simp only[Ty.pj,al]at hn;exact⟨ca,cb,e,cq.gU hm (hn.imp And.left id) ha,cq.gU hm (hn.imp And.right id) hb⟩
 | .arr n t,hn,_,_,h=>by simp only[cq]at h ⊢;exact⟨h.1,h.2.mono λc x hx=>cq.gU hm (by simpa only[Ty.pj]using hn) hx⟩
 | .fo t,hn,_,_,h=>by simp only[cq]at h ⊢;refine⟨h.1,λl hx=> ?_⟩;obtain⟨a,cap,vs,e,hl,hs,hr,hc⟩:=h.2 l hx;exact⟨a,cap,vs,e,hl,hs,hr.mono hm,hc.mono λc x hx=>cq.gU hm (by simpa only[Ty.pj]using hn) hx⟩
 | .mR t,hn,_,_,h=>by simp only[cq]at h ⊢;refine⟨h.1,λl hx=> ?_⟩;obtain⟨b,off,vs,e,hr,hc⟩:=h.2 l hx;exact⟨b,off,vs,e,hr.mono hm,cq.gU hm (by simpa only[Ty.pj]using hn) hc⟩
 | .gC t,hn,_,_,h=>by simp only[cq]at h ⊢;refine⟨h.1,λl hx=> ?_⟩;obtain⟨ca,T,vs,e,h0,hr,hc⟩:=h.2 l hx;exact⟨ca,T,vs,e,hm.fz _ _ h0.1 h0.2,hr.mono hm,cq.gU hm (by simpa only[Ty.pj]using hn) hc⟩
 | .eK t,hn,_,_,h=>by
  rcases hn with hn | hn
  ·simp[Ty.pj]at hn
  ·simp only[cq]at h ⊢;obtain⟨a,cap,vs,e,hl,hs,hc,h1,h2⟩:=h;exact⟨a,cap,vs,e,hl,hs,hc.mono λc x hx=>cq.gU hm (.inr hn) hx,λhh=>(h1 hh).mono hm,λhh=>(h2 hh).mono hn⟩
 | .js z,_,_,_,h=>by simp only[cq]at h ⊢;obtain⟨a,cap,e,hl,hj⟩:=h;exact⟨a,cap,e,hl,λhn=>let⟨b,off,h1,h2⟩:=hj hn;⟨b,off,h1,h2.mono hm⟩⟩
 | .jp n,_,_,_,h=>by simp only[cq]at h ⊢;obtain⟨b,off,e,hj⟩:=h;exact⟨b,off,e,hj.mono hm⟩
theorem cq.mono{E E':Env}(hm:wy E E'){t:Ty}{cs:List Value}{x:t.den}(h:cq E t cs x):cq E' t cs x:=h.gU hm.tosM (.inr hm.fr)
theorem wz.uniq{E:Env}{a:Option Addr}{vs vs':List Value}(hl:vs.length=vs'.length)(h:wz E a vs)(h':wz E a vs'):vs=vs':=by apply pN hl;intro i h1 h2;obtain⟨b,off,e,hh⟩:=h i vs[i] (cn h1);obtain⟨b',off',e',hh'⟩:=h' i vs'[i] (cn h2);rw[e]at e';simp only[aA,Addr.mk.injEq,eF]at e';obtain⟨rfl,rfl⟩:=e';exact bu (hh.1.symm.trans hh'.1)
theorem bp.uniq{α:Type}{R:List Value->α->Prop}{z:Nat}(hs:∀c x,R c x->c.length=z)(hR:∀c x y,R c x->R c y->x=y):∀ {cs:List Value} {l l':List α},l.length=l'.length->bp R cs l->bp R cs l'->l=l'
 |_,[],[],_,_,_=>rfl
 |_,[],_::_,hl,_,_=>by simp at hl
 |_,_::_,[],hl,_,_=>by simp at hl
 |cs,x::xs,y::ys,hl,⟨c,cs1,e,hx,hr⟩,⟨d,cs2,e',hy,hr'⟩=>by rw[e]at e';obtain⟨rfl,rfl⟩:=List.append_inj e' (by rw[hs _ _ hx,hs _ _ hy]);rw[hR _ _ _ hx hy,bp.uniq hs hR (by simpa using hl) hr hr']
theorem cq.uniq{E:Env}:∀ {t:Ty} {cs:List Value} {x y:t.den},t.aoN=aW->cq E t cs x->cq E t cs y->x=y
 | .int _,_,_,_,_,h,h'=>by simp only[cq]at h h';rw[h]at h';simpa using h'
 | .bool,_,_,_,_,h,h'=>by simp only[cq]at h h';rw[h]at h';simpa using h'
 | .str,_,_,_,_,h,h'=>by simp only[cq]at h h';rw[h]at h';simpa using h'
 | .slice t,_,x,y,hn,h,h'=>by
  simp only[cq]at h h';obtain⟨a,cap,vs,e,_,_,hr,hc⟩:=h;obtain⟨a',cap',vs',e',_,_,hr',hc'⟩:=h';rw[e]at e';simp only[bF,Value.slice.injEq,eF]at e';obtain⟨rfl,hl,_⟩:=e';have hl:(x:List t.den).length=(y:List t.den).length:=by exact_mod_cast hl
  have h1:=bp.length (λc x hx=>cq.size hx) hc;have h2:=bp.length (λc x hx=>cq.size hx) hc';obtain rfl:=hr.uniq (by rw[h1,h2,hl]) hr';exact bp.uniq (λc x hx=>cq.size hx) (λc x y hx hy=>cq.uniq (by simpa only[Ty.aoN]using hn) hx hy) hl hc hc'
 | .unit,_,_,_,_,_,_=>rfl
 | .pair a b,_,x,y,hn,h,h'=>by simp only[Ty.aoN,al]at hn;simp only[cq]at h h';obtain⟨ca,cb,e,ha,hb⟩:=h;obtain⟨ca',cb',e',ha',hb'⟩:=h';rw[e]at e';obtain⟨rfl,rfl⟩:=List.append_inj e' (by rw[cq.size ha,cq.size ha']);exact Prod.ext (cq.uniq hn.1 ha ha') (cq.uniq hn.2 hb hb')
 | .arr n t,_,x,y,hn,h,h'=>by simp only[cq]at h h';exact bp.uniq (λc x hx=>cq.size hx) (λc x y hx hy=>cq.uniq (by simpa only[Ty.aoN]using hn) hx hy) (h.1.trans h'.1.symm) h.2 h'.2
 | .fo _,_,_,_,hn,_,_ | .eK _,_,_,_,hn,_,_ | .js _,_,_,_,hn,_,_ | .jp _,_,_,_,hn,_,_=>by simp[Ty.aoN]at hn
 | .mR t,_,x,y,hn,h,h'=>by
  simp only[cq]at h h';cases hx:(x:Option t.den) with
  |none=>cases hy:(y:Option t.den) with
   |none=>rfl
   |some v=>
    obtain⟨b,off,vs,e,_⟩:=h'.2 v hy;rw[h.1 hx]at e;simp at e
  |some u=>cases hy:(y:Option t.den) with
   |none=>
    obtain⟨b,off,vs,e,_⟩:=h.2 u hx;rw[h'.1 hy]at e;simp at e
   |some v=>
    obtain⟨b,off,vs,e,hr,hc⟩:=h.2 u hx;obtain⟨b',off',vs',e',hr',hc'⟩:=h'.2 v hy;rw[e]at e';simp only[bF,Value.pointer.injEq,aA,Addr.mk.injEq,eF]at e';obtain⟨rfl,rfl⟩:=e';obtain rfl:=hr.uniq (by rw[cq.size hc,cq.size hc']) hr';rw[cq.uniq (by simpa only[Ty.aoN]using hn) hc hc']
 | .gC t,_,x,y,hn,h,h'=>by
  simp only[cq]at h h';cases hx:(x:Option (Nat×t.den)) with
  |none=>cases hy:(y:Option (Nat×t.den)) with
   |none=>rfl
   |some v=>
    obtain⟨ca,T,vs,e,_⟩:=h'.2 v hy;rw[h.1 hx]at e;simp at e
  |some u=>cases hy:(y:Option (Nat×t.den)) with
   |none=>
    obtain⟨ca,T,vs,e,_⟩:=h.2 u hx;rw[h'.1 hy]at e;simp at e
   |some v=>
    obtain⟨ca,T,vs,e,_,hr,hc⟩:=h.2 u hx;obtain⟨ca',T',vs',e',_,hr',hc'⟩:=h'.2 v hy;rw[e]at e';simp only[bF,Value.pointer.injEq,aA,Addr.mk.injEq,eF]at e';rw[<-e']at hr';obtain rfl:=hr.uniq (by rw[cq.size hc,cq.size hc']) hr';exact c7 aw (Prod.ext e' (cq.uniq (by simpa only[Ty.aoN]using hn) hc hc'))
def Env.cur(E:Env)(id:Id)(ver:Nat):Prop:=∃fr c,E.s id=aw (.obj ver fr c)
def Env.yK(E:Env)(id:Id)(ver:Nat):Prop:=E.s id≠aF/\∀v fr c,E.s id=aw (.obj v fr c)->ver<=v
def gr(agg:Bool)(cs:List Value)(v:Value):Prop:=match agg with | true=>v= .agg cs.toArray | false=>cs=[v]
mutual
def V(E:Env):aB->List Value->Prop
 | .undef,_=>False
 | .gone,cs=>∃v,cs=[v]/\v.oneCell'=aW
 | .cw,cs=>cs=[.slice aF 0 0]
 | .kq,cs=>cs=[.pointer aF]
 | .vh,cs=>cs=[.nilFunc]
 | .zZ,cs=>cs=[.map aF]
 | .sb l,cs=>∃(b cap:Nat) (arr:Array Value) (e:TypeId),cs=[.slice (aw ⟨b,0,aF⟩) l.length cap]/\l.length<=cap/\E.g b= .free/\E.w.heap[b]? =aw (.cells arr e (arr.size,arr.size+1))/\∀(j:Nat) (v:Value),(l.map (Value.int .u8))[j]? =aw v->arr[j]? =aw v
 | .d t x,cs=>cq E t cs x
 | .pr a b,cs=>∃ca cb,cs=ca++cb/\V E a ca/\V E b cb
 | .ptr id ver _ n,cs=>∃a,cs=[.pointer (aw a)]/\E.yK id ver/\(E.cur id ver->∃pl,E.β id=aw pl/\a=⟨pl.b,n,aF⟩)
 | .dB t x,cs=>∃b off vs,cs=[.pointer (aw ⟨b,off,aF⟩)]/\wz E (aw ⟨b,off,aF⟩) vs/\cq E t vs x
 | .dx id ver p c i len,cs=>∃a cap,cs=[.slice a len cap]/\len<=cap/\(0 < len->a.isSome=aW)/\E.yK id ver/\
   (E.cur id ver->match E.β id with
    |some pl=>(0 < len\/i=0->a=aw ⟨pl.b,c,aF⟩)/\(p=[]->i=0->cap=pl.cap)
    |none=>a=aF/\len=0/\cap=0)
 | .fn f c,cs=>∃vs,cs=[.func (.func f) #[] vs.toArray]/\VC E c vs
 | .cons _ _,_=>False
 | .nil,_=>False
 | .vec ..,_=>False
 | .bx ..,_=>False
 | .yl id ver,cs=>∃l,cs=[.func (.yield l) #[] #[]]/\E.yK id ver/\(E.cur id ver->∃pl,E.β id=aw pl/\l=pl.b)
 | .xx ..,_=>False
 | .sG id ver,cs=>∃b,cs=[.map (aw b)]/\E.yK id ver/\(E.cur id ver->∃pl,E.β id=aw pl/\b=pl.b)
 | .mp ..,_ | .rA ..,_=>False
def VC(E:Env):aB->List Value->Prop
 | .nil,vs=>vs=[]
 | .cons a b,vs=>∃v vs' cs,vs=v::vs'/\V E a cs/\gr a.agg cs v/\VC E b vs'
 |_,_=>False
end
structure cP(E E':Env):Prop where
 mem:wy E E'
 yK:∀id ver,E.yK id ver->E'.yK id ver
 cur:∀id ver,E.yK id ver->E'.cur id ver->E.cur id ver/\E'.β id=E.β id
theorem cP.refl(E:Env):cP E E:=⟨wy.refl E,λ_ _ h=>h,λ_ _ _ h=>⟨h,rfl⟩⟩
theorem cP.trans{E E' E'':Env}(h:cP E E')(h':cP E' E''):cP E E'':=
 ⟨h.mem.trans h'.mem,λid v b=>h'.yK id v (h.yK id v b),λid v b c=>
  let⟨c1,e1⟩:=h'.cur id v (h.yK id v b) c
  let⟨c2,e2⟩:=h.cur id v b c1
  ⟨c2,e1.trans e2⟩⟩
structure z8(E E':Env):Prop where
 mem:sM E E'
 yK:∀id ver,E.yK id ver->E'.yK id ver
 cur:∀id ver,E.yK id ver->E'.cur id ver->E.cur id ver/\E'.β id=E.β id
theorem z8.refl(E:Env):z8 E E:=⟨sM.refl E,λ_ _ h=>h,λ_ _ _ h=>⟨h,rfl⟩⟩
theorem z8.trans{E E' E'':Env}(h:z8 E E')(h':z8 E' E''):z8 E E'':=
 ⟨h.mem.trans h'.mem,λid v b=>h'.yK id v (h.yK id v b),λid v b c=>
  let⟨c1,e1⟩:=h'.cur id v (h.yK id v b) c
  let⟨c2,e2⟩:=h.cur id v b c1
  ⟨c2,e1.trans e2⟩⟩
theorem cP.l0{E E':Env}(h:cP E E'):z8 E E':=⟨h.mem.tosM,h.yK,h.cur⟩
mutual
theorem V.gU{E E':Env}(h:z8 E E'):∀ {a:aB} (_:a.pj=aW\/Ke E E') {cs:List Value},V E a cs->V E' a cs
 | .undef,hn,_,hv=>by simp only[V]at hv
 | .gone,hn,_,hv=>by simpa only[V]using hv
 | .cw,hn,_,hv=>by simpa only[V]using hv
 | .kq,hn,_,hv=>by simpa only[V]using hv
 | .vh,hn,_,hv=>by simpa only[V]using hv
 | .xx ..,hn,_,hv=>by simp only[V]at hv
 | .zZ,hn,_,hv=>by simpa only[V]using hv
 | .sb l,hn,_,hv=>by simp only[V]at hv ⊢;obtain⟨b,cap,arr,e,h1,h2,h3,h4,h5⟩:=hv;obtain⟨h6,h7⟩:=h.mem.fz b _ h3 h4;exact⟨b,cap,arr,e,h1,h2,h6,h7,h5⟩
 | .d t x,hn,_,hv=>by simp only[V]at hv ⊢;exact hv.gU h.mem (by simpa only[aB.pj]using hn)
 | .pr a b,hn,_,hv=>by simp only[V]at hv ⊢;obtain⟨ca,cb,e,ha,hb⟩:=hv;simp only[aB.pj,al]at hn;exact⟨ca,cb,e,V.gU h (hn.imp And.left id) ha,V.gU h (hn.imp And.right id) hb⟩
 | .ptr id ver p n,hn,_,hv=>by simp only[V]at hv ⊢;obtain⟨a,e,hb,hc⟩:=hv;refine⟨a,e,h.yK _ _ hb,λc=> ?_⟩;obtain⟨c1,e1⟩:=h.cur _ _ hb c;rw[e1];exact hc c1
 | .dB t x,hn,_,hv=>by simp only[V]at hv ⊢;obtain⟨b,off,vs,e,hr,hx⟩:=hv;exact⟨b,off,vs,e,hr.mono h.mem,hx.gU h.mem (by simpa only[aB.pj]using hn)⟩
 | .dx id ver p c i len,hn,_,hv=>by simp only[V]at hv ⊢;obtain⟨a,cap,e,hl,hs,hb,hc⟩:=hv;refine⟨a,cap,e,hl,hs,h.yK _ _ hb,λc=> ?_⟩;obtain⟨c1,e1⟩:=h.cur _ _ hb c;rw[e1];exact hc c1
 | .fn f c,hn,_,hv=>by simp only[V]at hv ⊢;obtain⟨vs,e,hc⟩:=hv;exact⟨vs,e,VC.gU h (by simpa only[aB.pj]using hn) hc⟩
 | .cons _ _,hn,_,hv=>by simp only[V]at hv
 | .nil,hn,_,hv=>by simp only[V]at hv
 | .vec ..,hn,_,hv=>by simp only[V]at hv
 | .bx ..,hn,_,hv=>by simp only[V]at hv
 | .yl id ver,hn,_,hv=>by simp only[V]at hv ⊢;obtain⟨b,e,hb,hc⟩:=hv;refine⟨b,e,h.yK _ _ hb,λc=> ?_⟩;obtain⟨c1,e1⟩:=h.cur _ _ hb c;rw[e1];exact hc c1
 | .sG id ver,hn,_,hv=>by simp only[V]at hv ⊢;obtain⟨b,e,hb,hc⟩:=hv;refine⟨b,e,h.yK _ _ hb,λc=> ?_⟩;obtain⟨c1,e1⟩:=h.cur _ _ hb c;rw[e1];exact hc c1
 | .mp ..,hn,_,hv | .rA ..,hn,_,hv=>by simp only[V]at hv
theorem VC.gU{E E':Env}(h:z8 E E'):∀ {a:aB} (_:a.pj=aW\/Ke E E') {vs:List Value},VC E a vs->VC E' a vs
 | .nil,hn,_,hv=>by simpa only[VC]using hv
 | .cons a b,hn,_,hv=>by simp only[VC]at hv ⊢;obtain⟨v,vs',cs,e,ha,ho,hb⟩:=hv;simp only[aB.pj,al]at hn;exact⟨v,vs',cs,e,V.gU h (hn.imp And.left id) ha,ho,VC.gU h (hn.imp And.right id) hb⟩
 | .undef,hn,_,hv=>by simp only[VC]at hv
 | .gone,hn,_,hv=>by simp only[VC]at hv
 | .cw,hn,_,hv=>by simp only[VC]at hv
 | .kq,hn,_,hv=>by simp only[VC]at hv
 | .vh,hn,_,hv=>by simp only[VC]at hv
 | .yl ..,hn,_,hv | .xx ..,hn,_,hv=>by simp only[VC]at hv
 | .zZ,hn,_,hv=>by simp only[VC]at hv
 | .sb _,hn,_,hv=>by simp only[VC]at hv
 | .d t x,hn,_,hv=>by simp only[VC]at hv
 | .pr a b,hn,_,hv=>by simp only[VC]at hv
 | .ptr ..,hn,_,hv=>by simp only[VC]at hv
 | .dB ..,hn,_,hv=>by simp only[VC]at hv
 | .dx ..,hn,_,hv=>by simp only[VC]at hv
 | .fn ..,hn,_,hv=>by simp only[VC]at hv
 | .vec ..,hn,_,hv=>by simp only[VC]at hv
 | .bx ..,hn,_,hv=>by simp only[VC]at hv
 | .sG ..,hn,_,hv=>by simp only[VC]at hv
 | .mp ..,hn,_,hv | .rA ..,hn,_,hv=>by simp only[VC]at hv
end
theorem V.mono{E E':Env}(h:cP E E'){a:aB}{cs:List Value}(hv:V E a cs):V E' a cs:=hv.gU h.l0 (.inr h.mem.fr)
theorem V.size{E:Env}:∀ {a:aB} {cs:List Value},V E a cs->cs.length=a.size
 | .undef,_,hv=>by simp only[V]at hv
 | .gone,_,hv=>by simp only[V]at hv;obtain⟨v,rfl,_⟩:=hv;rfl
 | .cw,_,hv=>by simp only[V]at hv;rw[hv];rfl
 | .kq,_,hv=>by simp only[V]at hv;rw[hv];rfl
 | .vh,_,hv=>by simp only[V]at hv;rw[hv];rfl
 | .yl ..,_,hv=>by simp only[V]at hv;obtain⟨_,rfl,_⟩:=hv;rfl
 | .xx ..,_,hv=>by simp only[V]at hv
 | .zZ,_,hv=>by simp only[V]at hv;rw[hv];rfl
 | .sb _,_,hv=>by simp only[V]at hv;obtain⟨_,_,_,_,rfl,_⟩:=hv;rfl
 | .d t x,_,hv=>by simp only[V]at hv;exact hv.size
 | .pr a b,_,hv=>by simp only[V]at hv;obtain⟨ca,cb,rfl,ha,hb⟩:=hv;simp[aB.size,V.size ha,V.size hb]
 | .ptr ..,_,hv=>by simp only[V]at hv;obtain⟨a,rfl,_⟩:=hv;rfl
 | .dB ..,_,hv=>by simp only[V]at hv;obtain⟨_,_,_,rfl,_⟩:=hv;rfl
 | .dx ..,_,hv=>by simp only[V]at hv;obtain⟨_,_,rfl,_⟩:=hv;rfl
 | .fn ..,_,hv=>by simp only[V]at hv;obtain⟨_,rfl,_⟩:=hv;rfl
 | .cons _ _,_,hv=>by simp only[V]at hv
 | .nil,_,hv=>by simp only[V]at hv
 | .vec ..,_,hv=>by simp only[V]at hv
 | .bx ..,_,hv=>by simp only[V]at hv
 | .sG ..,_,hv=>by simp only[V]at hv;obtain⟨_,rfl,_⟩:=hv;rfl
 | .mp ..,_,hv | .rA ..,_,hv=>by simp only[V]at hv
theorem V.one{E:Env}:∀ {a:aB} {cs:List Value},V E a cs->∀c∈cs,c.oneCell'=aW
 | .undef,_,hv=>by simp only[V]at hv
 | .gone,_,hv=>by simp only[V]at hv;obtain⟨v,rfl,h⟩:=hv;simp[h]
 | .cw,_,hv=>by simp only[V]at hv;rw[hv];simp[c6]
 | .kq,_,hv=>by simp only[V]at hv;rw[hv];simp[c6]
 | .vh,_,hv=>by simp only[V]at hv;rw[hv];simp[c6]
 | .yl ..,_,hv=>by simp only[V]at hv;obtain⟨_,rfl,_⟩:=hv;simp[c6]
 | .xx ..,_,hv=>by simp only[V]at hv
 | .zZ,_,hv=>by simp only[V]at hv;rw[hv];simp[c6]
 | .sb _,_,hv=>by simp only[V]at hv;obtain⟨_,_,_,_,rfl,_⟩:=hv;simp[c6]
 | .d t x,_,hv=>by simp only[V]at hv;exact hv.one
 | .pr a b,_,hv=>by
  simp only[V]at hv;obtain⟨ca,cb,rfl,ha,hb⟩:=hv;intro c hc;rcases bJ.1 hc with hc | hc
  ·exact V.one ha c hc
  ·exact V.one hb c hc
 | .ptr ..,_,hv=>by simp only[V]at hv;obtain⟨a,rfl,_⟩:=hv;simp[c6]
 | .dB ..,_,hv=>by simp only[V]at hv;obtain⟨_,_,_,rfl,_⟩:=hv;simp[c6]
 | .dx ..,_,hv=>by simp only[V]at hv;obtain⟨_,_,rfl,_⟩:=hv;simp[c6]
 | .fn ..,_,hv=>by simp only[V]at hv;obtain⟨_,rfl,_⟩:=hv;simp[c6]
 | .cons _ _,_,hv=>by simp only[V]at hv
 | .nil,_,hv=>by simp only[V]at hv
 | .vec ..,_,hv=>by simp only[V]at hv
 | .bx ..,_,hv=>by simp only[V]at hv
 | .sG ..,_,hv=>by simp only[V]at hv;obtain⟨_,rfl,_⟩:=hv;simp[c6]
 | .mp ..,_,hv | .rA ..,_,hv=>by simp only[V]at hv
theorem aB.ai5:∀ {v:aB},v.agg=aQ->v.size=1
 | .d (.int _) _,_ | .d .bool _,_ | .d .str _,_ | .d (.slice _) _,_ | .d (.fo _) _,_ | .d (.mR _) _,_ | .d (.gC _) _,_ | .d (.eK _) _,_ | .d (.js _) _,_ | .d (.jp _) _,_=>rfl
 | .d .unit _,h | .d (.pair _ _) _,h | .d (.arr _ _) _,h=>by simp[aB.agg,Ty.agg]at h
 | .pr _ _,h=>by simp[aB.agg]at h
 | .undef,_ | .gone,_ | .cw,_ | .kq,_ | .vh,_ | .zZ,_ | .ptr ..,_ | .dB ..,_ | .dx ..,_ | .fn ..,_ | .cons ..,_ | .nil,_ | .vec ..,_ | .sb _,_ | .bx ..,_ | .sG ..,_ | .mp ..,_ | .rA ..,_ | .yl ..,_ | .xx ..,_=>rfl
def VS(E:Env):aB->Value->Prop
 | .undef,_=>True
 | .cons a b,v=>∃vs,v= .tuple vs.toArray/\VC E (.cons a b) vs
 | .nil,v=>v= .tuple #[]
 |a,v=>∃cs,V E a cs/\gr a.agg cs v
theorem VS.gU{E E':Env}(h:z8 E E'):∀ {a:aB} {v:Value} (_:a.pj=aW\/Ke E E'),VS E a v->VS E' a v:=by
 intro a v hn hv
 cases a <;> first
  |trivial
  |exact hv
  | (obtain⟨cs,h1,h2⟩:=hv;exact⟨cs,V.gU h hn h1,h2⟩)
  | (obtain⟨vs,e,hc⟩:=hv;exact⟨vs,e,VC.gU h hn hc⟩)
theorem VS.mono{E E':Env}(h:cP E E'){a:aB}{v:Value}(hv:VS E a v):VS E' a v:=hv.gU h.l0 (.inr h.mem.fr)
theorem VS.undef{E:Env}{v:Value}:VS E .undef v:=trivial
theorem VS.of{E:Env}{a:aB}{cs:List Value}{v:Value}(h:V E a cs)(ho:gr a.agg cs v):VS E a v:=by
 cases a <;> first
  | (simp only[V]at h;done)
  |exact⟨cs,h,ho⟩
theorem VS.ee{E:Env}{a:aB}{v:Value}(h:VS E a v)(hc:a.ee=aW):∃cs,V E a cs/\gr a.agg cs v:=by
 cases a <;> first
  | (simp[aB.ee]at hc;done)
  |exact h
theorem VS.single{E:Env}{a:aB}{v:Value}(h:VS E a v)(hc:a.ee=aW)(ha:a.agg=aQ):V E a [v]:=by obtain⟨cs,hv,ho⟩:=h.ee hc;rw[ha]at ho;have:cs=[v]:=ho;rw[<-this];exact hv
theorem gr.cells{agg:Bool}{cs:List Value}{v:Value}(h:gr agg cs v)(h1:∀c∈cs,c.oneCell'=aW):v.cells=cs.toArray:=by
 cases agg with
 |true=>have:v= .agg cs.toArray:=h;rw[this];rfl
 |false=>
  have e:cs=[v]:=h;have:=h1 v (by simp[e]);rw[e];cases v <;> first | rfl | (simp[c6]at this;done)
end Go.Ab
namespace Go.Ab
section
variable {α β:Type}
theorem ay{a b:α}:(Out.ok a).eval=aw b↔a=b:=by simp[Out.eval]
theorem av{b:α}:(Out.fail:Out α).eval=aw b↔False:=by simp[Out.eval]
theorem bO{c:Bool}{r:Out α}{b:α}:(Out.sQ c r).eval=aw b↔c=aW/\r.eval=aw b:=by cases c <;> simp[Out.eval]
theorem aD{c:Bool}{r:Out α}{b:α}:(Out.guard c r).eval=aw b↔c=aW/\r.eval=aw b:=by cases c <;> simp[Out.guard,Out.eval]
theorem lA{x:Option β}{f:β->Out α}{b:α}:(Out.get x f).eval=aw b↔∃y,x=aw y/\(f y).eval=aw b:=by cases x <;> simp[Out.eval]
theorem gB{x:Option α}{b:α}:(Out.opt x).eval=aw b↔x=aw b:=by cases x <;> simp[Out.opt,Out.eval]
theorem ac0(o:Out α)(f:α->Out β):(o.bind f).eval=o.eval.bind λa=>(f a).eval:=by
 induction o with
 |ok a=>rfl
 |fail=>rfl
 |sQ c r ih=>cases c <;> simp[Out.bind,Out.eval,ih]
 |get x g ih=>cases x <;> simp[Out.bind,Out.eval,ih]
 |br c x y ih1 ih2=>cases c <;> simp[Out.bind,Out.eval,ih1,ih2]
theorem ax{o:Out α}{f:α->Out β}{b:β}:(o.bind f).eval=aw b↔∃a,o.eval=aw a/\(f a).eval=aw b:=by rw[ac0];simp[Option.bind_eq_some_iff]
theorem run_eq{R:Type}(o:Out α)(k:α->Option R):o.run k=o.eval.bind k:=by
 induction o with
 |ok a=>rfl
 |fail=>rfl
 |sQ c r ih=>cases c <;> simp[Out.run,Out.eval,aG,ih]
 |get x g ih=>cases x <;> simp[Out.run,Out.eval,aj,ih]
 |br c x y ih1 ih2=>cases c <;> simp[Out.run,Out.eval,aG,ih1,ih2]
theorem gG{R:Type}{o:Out α}{k:α->Option R}{r:R}:o.run k=aw r↔∃a,o.eval=aw a/\k a=aw r:=by rw[run_eq];simp[Option.bind_eq_some_iff]
end
theorem iY{t t':Ty}{x:t.den}{y:t'.den}(h:tt t t' x=aw y):∃e:t=t',e▸x=y:=by
 unfold tt at h;split at h
 ·rename_i e;exact⟨e,by simpa using h⟩
 ·cases h
theorem bp.map{α β:Type}{R:List Value->α->Prop}{R':List Value->β->Prop}{f:α->β}(h:∀c x,R c x->R' c (f x)):∀ {cs:List Value} {l:List α},bp R cs l->bp R' cs (l.map f)
 |_,[],hc=>hc
 |_,x::xs,⟨c,cs',e,hx,hr⟩=>⟨c,cs',e,h c x hx,bp.map h hr⟩
theorem cq.aBr{E:Env}:∀(a b:Ty) (f:a.den->b.den),Un a b=aw f->∀(cs:List Value) (x:a.den),cq E a cs x->cq E b cs (f x):=by
 intro a b
 induction a,b using Un.induct with
 |case1 t=>
  intro f hf cs x hx;unfold Un at hf;rw[dif_pos rfl]at hf;obtain rfl:=bu hf;simp only[cq]at hx;obtain⟨h1,h2⟩:=hx;show cq E (.slice t) cs ((x:Option (List t.den)).getD []);simp only[cq];cases hx:(x:Option (List t.den)) with
  |none=>exact⟨aF,0,[],h1 hx,az _,λh=>absurd h (iM 0),λi v hh=>by simp at hh,rfl⟩
  |some l=>exact h2 l hx
 |case2 t t' jR=>
  intro f hf;unfold Un at hf;rw[dif_neg jR]at hf;cases hf
 |case3 t=>
  intro f hf cs x hx;unfold Un at hf;rw[dif_pos rfl]at hf;obtain rfl:=bu hf;simp only[cq]at hx ⊢;refine⟨λh=>(by cases h),λl hl=> ?_⟩;obtain rfl:x=l:=bu hl;exact hx
 |case4 t t' jR=>
  intro f hf;unfold Un at hf;rw[dif_neg jR]at hf;cases hf
 |case5 a b c d f g h1 h2 ih1 ih2=>
  intro k hk cs x hx;unfold Un at hk;rw[h2,h1]at hk;obtain rfl:=bu hk;simp only[cq]at hx ⊢;obtain⟨ca,cb,e,ha,hb⟩:=hx;exact⟨ca,cb,e,ih1 f h2 ca x.1 ha,ih2 g h1 cb x.2 hb⟩
 |case6 a b c d hn ih1 ih2=>
  intro p hp;unfold Un at hp;split at hp
  ·rename_i f k h1 h2;exact(hn _ _ h1 h2).elim
  ·cases hp
 |case7 a b f h1 ih=>
  intro k hk cs x hx;unfold Un at hk;rw[h1]at hk;obtain rfl:=bu hk;simp only[cq]at hx ⊢;obtain⟨ad,cap,vs,e,hl,hs,hr,hc⟩:=hx;rw[bR];exact⟨ad,cap,vs,e,hl,hs,hr,hc.map λc x hx=>ih f h1 c x hx⟩
 |case8 a b h1 ih=>
  intro p hp;unfold Un at hp;rw[h1]at hp;cases hp
 |case9 t=>
  intro f hf cs x hx;unfold Un at hf;rw[dif_pos rfl]at hf;obtain rfl:=bu hf;simp only[cq]at hx;obtain⟨a,cap,vs,e,hl,hs,hr,hc⟩:=hx;show cq E (.eK t) cs (aQ,x);simp only[cq];exact⟨a,cap,vs,e,hl,hs,hc,λ_=>hr,λhh=>by cases hh⟩
 |case10 t t' jR=>
  intro f hf;unfold Un at hf;rw[dif_neg jR]at hf;cases hf
 |case11 a h1 h2 h3 h4 h5=>
  intro f hf cs x hx;rw[Un.eq_6 _ _ h1 h2 h3 h4 h5,dif_pos rfl]at hf;obtain rfl:=bu hf;exact hx
 |case12 a b h1 h2 h3 h4 h5 jR=>
  intro f hf;rw[Un.eq_6 _ _ h1 h2 h3 h4 h5,dif_neg jR]at hf;cases hf
theorem azm{t t':Ty}{f:t.den->t'.den}(hp:Un t t'=aw f):t.agg=t'.agg:=by
 unfold Un at hp;split at hp
 ·rfl
 ·rfl
 ·rfl
 ·rfl
 ·rfl
 ·split at hp
  ·rename_i e;rw[e]
  ·cases hp
theorem O5{t t':Ty}{x:t.den}{y:t'.den}(h:xv t t' x=aw y):t.agg=t'.agg:=by
 unfold xv at h;split at h
 ·rename_i z hz;obtain⟨e,_⟩:=iY hz;rw[e]
 ·split at h
  ·rename_i f hf;exact azm hf
  ·cases h
theorem u5{E:Env}{t t':Ty}{x:t.den}{y:t'.den}(h:xv t t' x=aw y){cs:List Value}(hx:cq E t cs x):cq E t' cs y:=by
 unfold xv at h;split at h
 ·rename_i z hz;obtain⟨e,hz⟩:=iY hz;subst e;obtain rfl:=bu h;simp only at hz;rw[<-hz];exact hx
 ·split at h
  ·rename_i f hf;obtain rfl:=bu h;exact cq.aBr _ _ f hf cs x hx
  ·cases h
theorem aaK{E:Env}{t t':Ty}{x:List t.den}{y:List t'.den}(h:xv (.slice t) (.slice t') x=aw y):y.length=x.length/\∀vs,bp (cq E t) vs x->bp (cq E t') vs y:=by
 unfold xv at h;split at h
 ·rename_i z hz;obtain⟨e,hz⟩:=iY hz;have e':t=t':=by simpa using e
  subst e';obtain rfl:=bu h;simp only at hz;subst hz;exact⟨rfl,λ_ h=>h⟩
 ·split at h
  ·rename_i p hp;obtain rfl:=bu h;unfold Un at hp;cases hd:Un t t' with
   |none=>rw[hd]at hp;cases hp
   |some q=>
    rw[hd]at hp;obtain rfl:=bu hp;exact⟨bR _,λvs hc=>hc.map λc x hx=>cq.aBr _ _ q hd c x hx⟩
  ·cases h
def VO(E:Env):aB->List Value->Prop
 | .vec _ t l,cs=>bp (cq E t) cs l
 |a,cs=>V E a cs
theorem VO.of{E:Env}{a:aB}{cs:List Value}(h:V E a cs):VO E a cs:=by cases a <;> first | exact h | (simp only[V]at h)
def aB.gI:aB->Bool | .vec .. =>aW | .mp .. =>aW | .rA .. =>aW | .xx .. =>aW | _=>aQ
theorem VO.to{E:Env}{a:aB}{cs:List Value}(h:VO E a cs)(hn:a.gI=aQ):V E a cs:=by cases a <;> first | exact h | (simp[aB.gI]at hn)
theorem Vz{t:Ty}{l:List t.den}{i:Nat}(h:i < l.length):nth t l i=l[i]:=by unfold nth;simp[h]
theorem VI{α:Type}(cs:List α)(n m k j:Nat)(h:k+j<=m):(((cs.drop n).take m).drop k).take j=(cs.drop (n+k)).take j:=by rw[tm,mC,fL];congr 1;omega
theorem NR{E:Env}{t:Ty}{cs:List Value}{l:List t.den}(h:bp (cq E t) cs l){i:Nat}(hi:i < l.length):
  cq E t ((cs.drop (i*t.size)).take t.size) l[i]/\i*t.size+t.size<=cs.length:=by
 have hz:∀c x,cq E t c x->c.length=t.size:=λc x hx=>hx.size
 refine⟨h.get hz i hi,?_⟩;rw[h.length hz,<-Nat.succ_mul];exact cM _ hi
theorem pY{E:Env}:∀(p:List C1) (c:aB) (cs:List Value) (n:Nat) (v:aB),VO E c cs->(loc c p).eval=aw (n,v)->
  (n=0/\v=c)\/(V E v ((cs.drop n).take v.size)/\n+v.size<=cs.length)
 |[],c,cs,n,v,hc,h=>by left;simp only[loc,ay,cT]at h;exact⟨h.1.symm,h.2.symm⟩
 |st::p,c,cs,n,v,hc,h=>by
  by_cases uU:st= .arr
  ·subst uU;have h':(loc c p).eval=aw (n,v):=by cases c <;> simpa only[loc]using h
   exact pY p c cs n v hc h'
  right;have whole:∀(c':aB) (cs':List Value) (n':Nat) (v':aB),V E c' cs'->(loc c' p).eval=aw (n',v')->V E v' ((cs'.drop n').take v'.size)/\n'+v'.size<=cs'.length:=by
   intro c' cs' n' v' hc' hl;rcases pY p c' cs' n' v' (VO.of hc') hl with⟨rfl,rfl⟩ | hh
   ·have:=hc'.size;rw[aM,bg ak];exact⟨hc',ak⟩
   ·exact hh
  have second:∀(a b:aB) (ca cb:List Value),cs=ca++cb->ca.length=a.size->V E b cb->((loc b p).bind λ(n,v)=>Out.ok (a.size+n,v)).eval=aw (n,v)->
    V E v ((cs.drop n).take v.size)/\n+v.size<=cs.length:=by
   intro a b ca cb e hl hb hh;obtain⟨⟨n',v'⟩,h1,h2⟩:=ax.1 hh;simp only[ay,cT]at h2;obtain⟨rfl,rfl⟩:=h2;obtain⟨h3,h4⟩:=whole b cb n' v' hb h1;subst e;rw[<-hl,iG,dh ak,aO,Nat.add_sub_cancel_left];exact⟨h3,by simp only[ai];omega⟩
  have elem:∀(t:Ty) (l:List t.den) (i:Nat),bp (cq E t) cs l->(Out.sQ (decide (i < l.length)) ((loc (.d t (nth t l i)) p).bind λ(n,v)=>Out.ok (i*t.size+n,v))).eval=aw (n,v)->
    V E v ((cs.drop n).take v.size)/\n+v.size<=cs.length:=by
   intro t l i w8 hh;obtain⟨hi,hh⟩:=bO.1 hh;have hi:i < l.length:=by simpa using hi
   obtain⟨⟨n',v'⟩,h1,h2⟩:=ax.1 hh;simp only[ay,cT]at h2;obtain⟨rfl,rfl⟩:=h2;obtain⟨hp,hle⟩:=NR w8 hi;rw[Vz hi]at h1;have hv:V E (.d t l[i]) ((cs.drop (i*t.size)).take t.size):=by simpa only[V]using hp
   obtain⟨h3,h4⟩:=whole _ _ n' v' hv h1;have hlen:((cs.drop (i*t.size)).take t.size).length=t.size:=hp.size;rw[VI _ _ _ _ _ ak]at h3;exact⟨h3,ak⟩
  cases c with
  |pr a b=>
   simp only[VO,V]at hc;obtain⟨ca,cb,e,ha,hb⟩:=hc;cases st with
   |arr=>exact absurd rfl uU
   |fst=>
    simp only[loc]at h;obtain⟨h3,h4⟩:=whole a ca n v ha h;subst e;refine⟨?_,by simp only[ai];omega⟩;rw[iG,mB,da,kP (by omega:v.size<=ca.length - n),dI,bn];exact h3
   |snd=>simp only[loc]at h;exact second a b ca cb e ha.size hb h
   |idx i=>simp only[loc,av]at h
  |d t x=>
   simp only[VO,V]at hc;cases t with
   |pair ta tb=>
    simp only[cq]at hc;obtain⟨ca,cb,e,ha,hb⟩:=hc;cases st with
    |arr=>exact absurd rfl uU
    |fst=>
     simp only[loc]at h;obtain⟨h3,h4⟩:=whole (.d ta x.1) ca n v (by simpa only[V]using ha) h;subst e;refine⟨?_,by simp only[ai];omega⟩;rw[iG,mB,da,kP (by omega:v.size<=ca.length - n),dI,bn];exact h3
    |snd=>simp only[loc]at h;exact second (.d ta x.1) (.d tb x.2) ca cb e ha.size (by simpa only[V]using hb) h
    |idx i=>simp only[loc,av]at h
   |arr m t=>
    simp only[cq]at hc;cases st with
    |arr=>exact absurd rfl uU
    |idx i=>simp only[loc]at h;exact elem t x i hc.2 h
    |fst=>simp only[loc,av]at h
    |snd=>simp only[loc,av]at h
   |_=>cases st <;> first | exact absurd rfl uU | (simp only[loc,av]at h)
  |vec e t l=>
   simp only[VO]at hc;cases st with
   |arr=>exact absurd rfl uU
   |idx i=>simp only[loc]at h;exact elem t l i hc h
   |fst=>simp only[loc,av]at h
   |snd=>simp only[loc,av]at h
  |_=>cases st <;> first | exact absurd rfl uU | (simp only[loc,av]at h)
theorem aj1{E:Env}{a b:aB}{ca cb:List Value}(ha:V E a ca)(hb:V E b cb):V E (MQ a b) (ca++cb):=by
 have gen:V E (.pr a b) (ca++cb):=by simp only[V];exact⟨ca,cb,rfl,ha,hb⟩
 unfold MQ;split
 ·simp only[V]at ha hb ⊢;simp only[cq];exact⟨ca,cb,rfl,ha,hb⟩
 ·exact gen
theorem Rq(a b:aB):(MQ a b).gI=aQ:=by unfold MQ;split <;> rfl
def dq(cs:List Value)(n:Nat)(vs:List Value):List Value:=cs.take n++vs++cs.drop (n+vs.length)
theorem anz{cs vs:List Value}(h:cs.length=vs.length):dq cs 0 vs=vs:=by simp[dq,dh (by omega:cs.length<=vs.length)]
theorem AZ{ca cb vs:List Value}{n:Nat}(h:n+vs.length<=ca.length):dq (ca++cb) n vs=dq ca n vs++cb:=by unfold dq;rw[mB,iG,kP (by omega:n<=ca.length),dI,bn,kP h,aM];simp only[aC]
theorem Oh{ca cb vs:List Value}{n:Nat}:dq (ca++cb) (ca.length+n) vs=ca++dq cb n vs:=by unfold dq;rw[mB,bg ak,Nat.add_sub_cancel_left,iG,dh ak,aO];simp only[aC];congr 4;omega
theorem anA{cs vs:List Value}{i z n:Nat}(hz:i+z<=cs.length)(h:n+vs.length<=z):
  dq cs (i+n) vs=cs.take i++dq ((cs.drop i).take z) n vs++cs.drop (i+z):=by
 have e:cs=cs.take i++((cs.drop i).take z++cs.drop (i+z)):=by rw[<-fL,dm,dm]
 have hl:(cs.take i).length=i:=by simp;omega
 have hm:((cs.drop i).take z).length=z:=by simp;omega
 conv=>lhs;rw[e,show i+n=(cs.take i).length+n by rw[hl]]
 rw[Oh,AZ ak];simp only[aC]
theorem iS{cs vs:List Value}{n:Nat}(h:n+vs.length<=cs.length):(dq cs n vs).length=cs.length:=by simp[dq];omega
def mE:aB->aB->Prop
 | .vec e t l,.vec e' t' l'=>e'=e/\t'=t/\l'.length=l.length
 | .vec ..,_=>False
 |_,.vec .. =>False
 | .mp ..,_ | .rA ..,_ | .xx ..,_=>False
 |_,.mp .. | _,.rA .. | _,.xx .. =>False
 |_,_=>True
theorem mE.qI{a b:aB}(h:mE a b)(ha:a.gI=aQ):b.gI=aQ:=by
 cases b <;> first
  |rfl
  | (cases a <;> first | (simp[aB.gI]at ha;done) | exact h.elim)
theorem mE.of{a b:aB}(ha:a.gI=aQ)(hb:b.gI=aQ):mE a b:=by
 cases a <;> first
  | (simp[aB.gI]at ha;done)
  | (cases b <;> first | trivial | (simp[aB.gI]at hb;done))
theorem V.qI{E:Env}{a:aB}{cs:List Value}(h:V E a cs):a.gI=aQ:=by cases a <;> first | rfl | (simp only[V]at h)
theorem oG{E:Env}:∀(p:List C1) (c:aB) (cs:List Value) (n:Nat) (o v c':aB) (vs:List Value),VO E c cs->(loc c p).eval=aw (n,o)->V E v vs->
  (xz c p v).eval=aw c'->n+vs.length<=cs.length/\VO E c' (dq cs n vs)/\
   mE c c'
 |[],c,cs,n,o,v,c',vs,hc,hl,hv,h=>by
  simp only[loc,ay,cT]at hl;obtain⟨rfl,rfl⟩:=hl
  have main:∀(aE8:c.gI=aQ),(Out.guard (v.ee && (c.size==v.size)) (.ok v)).eval=aw c'->0+vs.length<=cs.length/\VO E c' (dq cs 0 vs)/\
   mE c c':=by
   intro aE8 hg;obtain⟨h1,h2⟩:=aD.1 hg;obtain rfl:=ay.1 h2;simp only[al,dp]at h1;have e1:=(hc.to aE8).size;have e2:=hv.size;refine⟨ak,?_,?_⟩
   ·rw[anz ak];exact VO.of hv
   ·exact mE.of aE8 hv.qI
  cases c with
  |vec e t l=>simp only[xz,av]at h
  |mp k v l=>simp only[xz,av]at h
  |rA q ver k v rest cur=>simp only[xz,av]at h
  |xx k f p=>simp only[xz,av]at h
  |_=>exact main rfl (by simpa only[xz]using h)
 |st::p,c,cs,n,o,v,c',vs,hc,hl,hv,h=>by
  by_cases uU:st= .arr
  ·subst uU;have hl':(loc c p).eval=aw (n,o):=by cases c <;> simpa only[loc]using hl
   have h':(xz c p v).eval=aw c':=by cases c <;> simpa only[xz]using h
   exact oG p c cs n o v c' vs hc hl' hv h'
  have left:∀(a b:aB) (ca cb:List Value),cs=ca++cb->V E a ca->V E b cb->(loc a p).eval=aw (n,o)->((xz a p v).bind λa'=>Out.ok (MQ a' b)).eval=aw c'->
    n+vs.length<=cs.length/\VO E c' (dq cs n vs)/\c'.gI=aQ:=by
   intro a b ca cb e ha hb hl hh;obtain⟨a',h1,h2⟩:=ax.1 hh;obtain rfl:=ay.1 h2;obtain⟨h3,h4,h5⟩:=oG p a ca n o v a' vs (VO.of ha) hl hv h1;subst e;refine⟨by simp only[ai];omega,?_,Rq _ _⟩;rw[AZ h3];have aGD:a'.gI=aQ:=h5.qI ha.qI;exact VO.of (aj1 (h4.to aGD) hb)
  have right:∀(a b:aB) (ca cb:List Value),cs=ca++cb->ca.length=a.size->V E a ca->V E b cb->((loc b p).bind λ(n,v)=>Out.ok (a.size+n,v)).eval=aw (n,o)->
    ((xz b p v).bind λb'=>Out.ok (MQ a b')).eval=aw c'->n+vs.length<=cs.length/\VO E c' (dq cs n vs)/\c'.gI=aQ:=by
   intro a b ca cb e avu ha hb hl hh;obtain⟨⟨n',v'⟩,h1,h2⟩:=ax.1 hl;simp only[ay,cT]at h2;obtain⟨rfl,rfl⟩:=h2;obtain⟨b',h3,h4⟩:=ax.1 hh;obtain rfl:=ay.1 h4;obtain⟨h5,h6,h7⟩:=oG p b cb n' v' v b' vs (VO.of hb) h1 hv h3;subst e;refine⟨by simp only[ai];omega,?_,Rq _ _⟩;rw[<-avu,Oh];have aGD:b'.gI=aQ:=h7.qI hb.qI;exact VO.of (aj1 ha (h6.to aGD))
  have elem:∀(t:Ty) (l:List t.den) (i:Nat) (mk:List t.den->aB),bp (cq E t) cs l->(Out.sQ (decide (i < l.length)) ((loc (.d t (nth t l i)) p).bind λ(n,v)=>Out.ok (i*t.size+n,v))).eval=aw (n,o)->
    (Out.sQ (decide (i < l.length)) ((xz (.d t (nth t l i)) p v).bind fun
     | .d t' y=>(Out.opt (tt t' t y)).bind λy=> .ok (mk (l.set i y))
     |_=> .fail)).eval=aw c'->
    n+vs.length<=cs.length/\∃l',c'=mk l'/\l'.length=l.length/\bp (cq E t) (dq cs n vs) l':=by
   intro t l i mk w8 hl hh;obtain⟨hi,hl⟩:=bO.1 hl;have hi:i < l.length:=by simpa using hi
   obtain⟨⟨n',v'⟩,h1,h2⟩:=ax.1 hl;simp only[ay,cT]at h2;obtain⟨rfl,rfl⟩:=h2;obtain⟨_,hh⟩:=bO.1 hh;obtain⟨w,h3,h4⟩:=ax.1 hh;obtain⟨hp,hle⟩:=NR w8 hi;rw[Vz hi]at h1 h3;have aCG:V E (.d t l[i]) ((cs.drop (i*t.size)).take t.size):=by simpa only[V]using hp
   have hlen:((cs.drop (i*t.size)).take t.size).length=t.size:=hp.size;obtain⟨h5,h6,h7⟩:=oG p _ _ n' v' v w vs (VO.of aCG) h1 hv h3;cases w with
   |d t' y=>
    simp only at h4;obtain⟨y',h8,h9⟩:=ax.1 h4;obtain⟨rfl,h8⟩:=iY (gB.1 h8);simp only at h8;subst h8;obtain rfl:=ay.1 h9;refine⟨ak,_,rfl,by simp,?_⟩;have hy:cq E t' (dq ((cs.drop (i*t'.size)).take t'.size) n' vs) y:=by simpa only[VO,V]using h6
    have:=bp.set (λc x hx=>cq.size hx) w8 i hi hy;rw[anA (by omega:i*t'.size+t'.size<=cs.length) ak];rwa[hy.size]at this
   |_=>simp only[av]at h4
  cases c with
  |pr a b=>
   simp only[VO,V]at hc;obtain⟨ca,cb,e,ha,hb⟩:=hc;cases st with
   |arr=>exact absurd rfl uU
   |fst=>
    simp only[loc]at hl;simp only[xz]at h;obtain⟨r1,r2,r3⟩:=left a b ca cb e ha hb hl h;exact⟨r1,r2,mE.of rfl r3⟩
   |snd=>
    simp only[loc]at hl;simp only[xz]at h;obtain⟨r1,r2,r3⟩:=right a b ca cb e ha.size ha hb hl h;exact⟨r1,r2,mE.of rfl r3⟩
   |idx i=>simp only[loc,av]at hl
  |d t x=>
   simp only[VO,V]at hc;cases t with
   |pair ta tb=>
    simp only[cq]at hc;obtain⟨ca,cb,e,ha,hb⟩:=hc;have ha':V E (.d ta x.1) ca:=by simpa only[V]using ha
    have hb':V E (.d tb x.2) cb:=by simpa only[V]using hb
    cases st with
    |arr=>exact absurd rfl uU
    |fst=>
     simp only[loc]at hl;simp only[xz]at h;obtain⟨r1,r2,r3⟩:=left _ _ ca cb e ha' hb' hl h;exact⟨r1,r2,mE.of rfl r3⟩
    |snd=>
     simp only[loc]at hl;simp only[xz]at h;obtain⟨r1,r2,r3⟩:=right (.d ta x.1) (.d tb x.2) ca cb e ha.size ha' hb' hl h;exact⟨r1,r2,mE.of rfl r3⟩
    |idx i=>simp only[loc,av]at hl
   |arr m t=>
    simp only[cq]at hc;cases st with
    |arr=>exact absurd rfl uU
    |idx i=>
     simp only[loc]at hl;simp only[xz]at h;obtain⟨r1,l',e,r2,r3⟩:=elem t x i (λl=> .d (.arr m t) l) hc.2 hl h;subst e;refine⟨r1,?_,trivial⟩;simp only[VO,V,cq];exact⟨by rw[r2];exact hc.1,r3⟩
    |fst=>simp only[loc,av]at hl
    |snd=>simp only[loc,av]at hl
   |_=>cases st <;> first | exact absurd rfl uU | (simp only[loc,av]at hl)
  |vec e t l=>
   simp only[VO]at hc;cases st with
   |arr=>exact absurd rfl uU
   |idx i=>
    simp only[loc]at hl;simp only[xz]at h;obtain⟨r1,l',e',r2,r3⟩:=elem t l i (λl=> .vec e t l) hc hl h;subst e';exact⟨r1,by simpa only[VO]using r3,rfl,rfl,r2⟩
   |fst=>simp only[loc,av]at hl
   |snd=>simp only[loc,av]at hl
  |_=>cases st <;> first | exact absurd rfl uU | (simp only[loc,av]at hl)
end Go.Ab
namespace Go.Ab
def aEk(E:Env)(id:Id)(fr:Bool)(e:TypeId)(t:Ty)(l:List t.den):Prop:=
 0 < t.size/\match E.β id with
  |none=>l=[]
  |some pl=>∃cur k,E.w.heap[pl.b]? =aw (.cells cur e (0,0))/\cur.size=pl.cap*t.size/\l.length<=pl.cap/\pl.cap<=maxLen/\E.g pl.b= .own (.id id) k/\
    k<=l.length*t.size/\(fr=aQ->k=0)/\bp (cq E t) (cur.toList.take (l.length*t.size)) l
def aB.FX:aB->Pl->Nat->TypeId->Prop
 | .bx e' 0 _,_,_,e=>e=e'
 | .bx e' (z+1) c,pl,n,e=>e=e'/\n=pl.cap*(z+1)/\pl.cap<=maxLen/\c.size<=n
 |_,_,_,_=>True
def aB.tg:aB->Nat->Nat
 | .bx _ (_+1) c,_=>c.size
 |_,n=>n
def aB.YX:aB->Bool | .bx .. =>aW | _=>aQ
theorem V.uW{E:Env}{a:aB}{cs:List Value}(h:V E a cs):a.YX=aQ:=by cases a <;> first | rfl | (simp only[V]at h)
theorem QB{c:aB}(h:c.YX=aQ):c.strip=c:=by cases c <;> first | rfl | (simp[aB.YX]at h)
theorem O2{c:aB}(h:c.YX=aQ)(pl:Pl)(n:Nat)(e:TypeId):c.FX pl n e:=by cases c <;> first | trivial | (simp[aB.YX]at h)
theorem Ua{c:aB}(h:c.YX=aQ)(n:Nat):c.tg n=n:=by cases c <;> first | rfl | (simp[aB.YX]at h)
theorem Em(c:aB){c':aB}(h:c'.YX=aQ):(c.wrap c').strip=c':=by cases c <;> first | rfl | exact QB h
theorem C5{c c':aB}{pl:Pl}{n:Nat}{e:TypeId}(hc:c.FX pl n e)(h:c'.YX=aQ)(hs:c'.size=c.strip.size):(c.wrap c').FX pl n e:=by
 cases c with
 |bx e' z c=>cases z with
  |zero=>exact hc
  |succ z=>exact⟨hc.1,hc.2.1,hc.2.2.1,by rw[hs];exact hc.2.2.2⟩
 |_=>exact O2 h pl n e
theorem Ik{c c':aB}{n:Nat}(h:c'.YX=aQ)(hs:c'.size=c.strip.size):(c.wrap c').tg n=c.tg n:=by
 cases c with
 |bx e' z c=>cases z with
  |zero=>rfl
  |succ z=>exact hs
 |_=>exact Ua h n
theorem Tq{c:aB}{pl:Pl}{n:Nat}{e:TypeId}(h:c.FX pl n e):c.tg n<=n:=by
 cases c with
 |bx e' z c=>cases z with
  |zero=>exact az _
  |succ z=>exact h.2.2.2
 |_=>exact az _
def akd(id:Id)(fr:Bool):iF:=match fr with | true=> .free | false=> .own (.id id) 0
def Kd(E:Env)(id:Id)(fr:Bool)(c:aB):Prop:=∃pl cur e,E.β id=aw pl/\E.w.heap[pl.b]? =aw (.cells cur e (0,0))/\E.g pl.b=akd id fr/\c.FX pl cur.size e/\V E c.strip (cur.toList.take (c.tg cur.size))
def Alike{α β:Type}(R:α->β->Prop):List α->List β->Prop
 |[],[]=>True
 |x::xs,y::ys=>R x y/\Alike R xs ys
 |_,_=>False
theorem Alike.mono{α β:Type}{R R':α->β->Prop}(h:∀x y,R x y->R' x y):∀ {xs:List α} {ys:List β},Alike R xs ys->Alike R' xs ys
 |[],[],_=>trivial
 |_::_,_::_,⟨h1,h2⟩=>⟨h _ _ h1,Alike.mono h h2⟩
 |[],_::_,h=>h.elim
 |_::_,[],h=>h.elim
def B9(E:Env)(t:Ty)(v:Value)(x:t.den):Prop:=∃cs,cq E t cs x/\gr t.agg cs v
def zW(E:Env)(kt vt:Ty)(e:fi)(x:kt.den×vt.den):Prop:=B9 E kt e.key x.1/\B9 E vt e.val x.2
theorem zW.gU{E E':Env}(h:sM E E'){kt vt:Ty}(hk:kt.pj=aW\/Ke E E')(hn:vt.pj=aW\/Ke E E'){e:fi}{x:kt.den×vt.den}(he:zW E kt vt e x):zW E' kt vt e x:=
 let⟨⟨c1,a1,b1⟩,c2,a2,b2⟩:=he
 ⟨⟨c1,a1.gU h hk,b1⟩,c2,a2.gU h hn,b2⟩
theorem zW.mono{E E':Env}(h:wy E E'){kt vt:Ty}{e:fi}{x:kt.den×vt.den}(he:zW E kt vt e x):zW E' kt vt e x:=he.gU h.tosM (.inr h.fr) (.inr h.fr)
def SC(E:Env)(kt vt:Ty)(es:List fi)(l:List (kt.den×vt.den)):Prop:=∃l',Alike (zW E kt vt) es l'/\l'.Perm l
theorem SC.gU{E E':Env}(h:sM E E'){kt vt:Ty}(hk:kt.pj=aW\/Ke E E')(hn:vt.pj=aW\/Ke E E'){es:List fi}{l:List (kt.den×vt.den)}(hm:SC E kt vt es l):SC E' kt vt es l:=
 let⟨l',h1,h2⟩:=hm
 ⟨l',h1.mono λ_ _ he=>he.gU h hk hn,h2⟩
theorem SC.mono{E E':Env}(h:wy E E'){kt vt:Ty}{es:List fi}{l:List (kt.den×vt.den)}(hm:SC E kt vt es l):SC E' kt vt es l:=hm.gU h.tosM (.inr h.fr) (.inr h.fr)
def oW(es:List fi)(clock:Nat):Prop:=(es.map (·.born)).Nodup/\∀e∈es,e.born < clock
theorem oW.nil(n:Nat):oW [] n:=⟨List.nodup_nil,λ_ h=>(by cases h)⟩
theorem oW.push{es:List fi}{clock:Nat}(h:oW es clock){e:fi}(he:e.born=clock):oW (es++ [e]) (clock+1):=by
 refine⟨?_,λx hx=> ?_⟩
 ·rw[List.map_append,List.nodup_append];refine⟨h.1,by simp,λa ha b hb=> ?_⟩;obtain⟨x,hx,rfl⟩:=fm.1 ha;have:=h.2 x hx;simp only[bS,eX,cX]at hb;omega
 ·rcases bJ.1 hx with hx | hx
  ·have:=h.2 x hx;omega
  ·rw[cX]at hx;subst hx;omega
theorem oW.erase{es:List fi}{clock:Nat}(h:oW es clock)(j:Nat):oW (es.eraseIdx j) clock:=⟨h.1.sublist ((List.eraseIdx_sublist es j).map _),λx hx=>h.2 x ((List.eraseIdx_sublist es j).subset hx)⟩
theorem oW.set{es:List fi}{clock:Nat}(h:oW es clock){j:Nat}{e x:fi}(hj:es[j]? =aw e)(hx:x.born=e.born):oW (es.set j x) clock:=by
 have jQ:=(dE.1 hj).1;have aJd:=(dE.1 hj).2;have e1:(es.set j x).map (·.born)=es.map (·.born):=by
  rw[List.map_set,hx,<-aJd];have:es[j].born=(es.map (·.born))[j]'(by simpa using jQ):=by simp
  rw[this,fw]
 refine⟨by rw[e1];exact h.1,λy hy=> ?_⟩;rcases List.mem_or_eq_of_mem_set hy with hy | hy
 ·exact h.2 y hy
 ·rw[hy,hx,<-aJd];exact h.2 _ (ba jQ)
def aGq(E:Env)(id:Id)(kt vt:Ty)(l:List (kt.den×vt.den)):Prop:=
 ∃pl es clock,E.β id=aw pl/\E.w.heap[pl.b]? =aw (.map es clock)/\E.g pl.b= .own (.id id) 0/\(SC E kt vt es.toList l/\(l.map (·.1)).Nodup)/\oW es.toList clock
def aB5(E:Env)(i q:Id)(ver:Nat)(kt vt:Ty)(rest:List (kt.den×vt.den))(cur:Option (kt.den×vt.den)):Prop:=
 ∃pl mb since seen c0,E.β i=aw pl/\E.w.heap[pl.b]? =aw (.mapIter (aw mb) since seen c0)/\E.g pl.b= .own (.id i) 0/\∀vr,ver=vr+1->E.yK q vr/\
  (E.cur q vr->(∃k v l,E.s q=aw (.obj vr aW (.mp k v l)))/\∃plq es clock,E.β q=aw plq/\plq.b=mb/\E.w.heap[plq.b]? =aw (.map es clock)/\E.g plq.b= .own (.id q) 0/\
   (∀x∈es.toList,x.born < since)/\(since<=c0/\since<=clock)/\(es.toList.map (·.born)).Nodup/\SC E kt vt (es.toList.filter λe=> !seen.contains e.born) rest/\
   ∀x,cur=aw x->∃(e:fi) (seen':Array Nat),e∈es.toList/\seen=seen'.push e.born/\c0=clock/\zW E kt vt e x)
def aB1:Nat->LoopState->Option Code->Prop
 | 0,st,pe=>st= .ready/\pe=aF
 | 1,st,_=>st= .busy
 | 2,st,pe=>st= .done/\pe=aw .ret
 |n+3,st,pe=>st= .done/\pe=aw (.exit n)
def C0(E:Env)(f:aB)(tmps:Array Value):Prop:=f.list.length=tmps.size/\∀i,VS E (f.list.getD i .undef) (tmps.getD i undef)
def aGr(E:Env)(id:Id)(c:uZ)(f:aB)(p:Nat):Prop:=∃pl r,E.β id=aw pl/\E.w.heap[pl.b]? =aw (.loop r)/\E.g pl.b= .own (.id id) 0/\(r.params=c.ps/\r.assign=c.as/\r.body=c.b)/\C0 E f r.tmps/\aB1 p r.state r.pending
def tp(E:Env)(id:Id)(fr:Bool):aB->Prop
 | .xx c f p=>aGr E id c f p
 | .vec e t l=>aEk E id fr e t l
 | .mp kt vt l=>aGq E id kt vt l
 | .rA q ver kt vt rest cur=>aB5 E id q ver kt vt rest cur
 |c=>Kd E id fr c
theorem tp.box{E:Env}{id:Id}{fr:Bool}{c:aB}(h:tp E id fr c)(hn:c.gI=aQ):Kd E id fr c:=by cases c <;> first | exact h | (simp[aB.gI]at hn)
theorem Kd.obj{E:Env}{id:Id}{fr:Bool}{c:aB}(h:Kd E id fr c):tp E id fr c:=by cases c <;> first | exact h | (obtain⟨_,_,_,_,_,_,_,hv⟩:=h;simp only[aB.strip,V]at hv)
def iH(E:Env):Prop:=∀id ver fr c,E.s id=aw (.obj ver fr c)->tp E id fr c
structure kU(st:Bool)(w w':cj)(g g':Nat->iF):Prop where
 os:w'.os=w.os
 tape:w'.tape=w.tape
 output:w'.output=w.output/\w.drawn<=w'.drawn
 size:w.heap.size<=w'.heap.size
 YM:∀b,b < w.heap.size->match g b with
  | .free=>g' b= .free/\w'.heap[b]? =w.heap[b]?
  | .own .dT k=>g' b= .own .dT k/\w'.heap[b]? =w.heap[b]?
  | .own (.id _) k=>(g' b= .free\/(k=0/\(g' b= .fresh\/g' b= .gg))\/∃i k',g' b= .own (.id i) k'/\k<=k')/\∀off v,off < k->w.cell? ⟨b,off,aF⟩=aw v->w'.cell? ⟨b,off,aF⟩=aw v
  | .fresh=>(g' b= .fresh/\w'.heap[b]? =w.heap[b]?)\/(st=aQ/\g' b= .gg)
  | .gg=>g' b= .gg/\∀cur e,w.heap[b]? =aw (.cells cur e (0,0))->∃cur',w'.heap[b]? =aw (.cells cur' e (0,0))/\cur'.size=cur.size
abbrev Trans:=kU aW
theorem kU.refl{st:Bool}(w:cj)(g:Nat->iF):kU st w w g g:=
 ⟨rfl,rfl,⟨rfl,az _⟩,az _,λb _=>by
  cases g b with
  |free=>exact⟨rfl,rfl⟩
  |own o k=>cases o with
   |dT=>exact⟨rfl,rfl⟩
   |id i=>exact⟨.inr (.inr ⟨i,k,rfl,az _⟩),λ_ _ _ h=>h⟩
  |fresh=>exact .inl ⟨rfl,rfl⟩
  |gg=>exact⟨rfl,λcur e h=>⟨cur,h,rfl⟩⟩⟩
theorem Trans.refl(w:cj)(g:Nat->iF):Trans w w g g:=kU.refl w g
theorem Trans.aFQ{w w':cj}{g g':Nat->iF}(h:Trans w w' g g'){st:Bool}:kU st w w' g g':=
 ⟨h.os,h.tape,h.output,h.size,λb hb=>by
  have:=h.YM b hb;cases hg:g b with
  |fresh=>rw[hg]at this;exact this.imp id λx=>by cases x.1
  |own o k=>cases o <;> (rw[hg]at this;exact this)
  |_=>rw[hg]at this;exact this⟩
theorem kU.trans{st:Bool}{w w' w'':cj}{g g' g'':Nat->iF}(h:kU st w w' g g')(h':kU st w' w'' g' g''):kU st w w'' g g'':=by
 refine⟨h'.os.trans h.os,h'.tape.trans h.tape,⟨h'.output.1.trans h.output.1,Nat.le_trans h.output.2 h'.output.2⟩,Nat.le_trans h.size h'.size,λb hb=> ?_⟩;have h1:=h.YM b hb;have h2:=h'.YM b (Nat.lt_of_lt_of_le hb h.size);cases hg:g b with
 |free=>
  rw[hg]at h1;simp only at h1 ⊢;rw[h1.1]at h2;simp only at h2;exact⟨h2.1,h2.2.trans h1.2⟩
 |own o k=>
  cases o with
  |dT=>
   rw[hg]at h1;simp only at h1 ⊢;rw[h1.1]at h2;simp only at h2;exact⟨h2.1,h2.2.trans h1.2⟩
  |id i=>
   rw[hg]at h1;simp only at h1 ⊢;obtain⟨avt,aF1⟩:=h1;rcases avt with avt | ⟨rfl,avt⟩ | ⟨i',k',avt,hk⟩
   ·rw[avt]at h2;simp only at h2;exact⟨.inl h2.1,λoff v ho hv=>by
     have:=aF1 off v ho hv;simpa only[eQ,h2.2]using this⟩
   ·refine⟨.inr (.inl ⟨rfl,?_⟩),λoff v ho=>absurd ho (rv _)⟩;rcases avt with avt | avt
    ·rw[avt]at h2;simp only at h2;exact h2.imp And.left And.right
    ·rw[avt]at h2;simp only at h2;exact .inr h2.1
   ·rw[avt]at h2;simp only at h2;refine⟨?_,λoff v ho hv=>h2.2 off v ak (aF1 off v ho hv)⟩;rcases h2.1 with aEB | ⟨h0,aEB⟩ | ⟨i'',k'',aEB,hk'⟩
    ·exact .inl aEB
    ·exact .inr (.inl ⟨ak,aEB⟩)
    ·exact .inr (.inr ⟨i'',k'',aEB,ak⟩)
 |fresh=>
  rw[hg]at h1;simp only at h1 ⊢;rcases h1 with⟨h1,aF1⟩ | ⟨hs,h1⟩
  ·rw[h1]at h2;simp only at h2;exact h2.imp (λx=>⟨x.1,x.2.trans aF1⟩) id
  ·rw[h1]at h2;simp only at h2;exact .inr ⟨hs,h2.1⟩
 |gg=>
  rw[hg]at h1;simp only at h1 ⊢;rw[h1.1]at h2;simp only at h2;refine⟨h2.1,λcur e hc=> ?_⟩;obtain⟨c1,h3,h4⟩:=h1.2 cur e hc;obtain⟨c2,h5,h6⟩:=h2.2 c1 e h3;exact⟨c2,h5,h6.trans h4⟩
theorem Trans.trans{w w' w'':cj}{g g' g'':Nat->iF}(h:Trans w w' g g')(h':Trans w' w'' g' g''):Trans w w'' g g'':=kU.trans h h'
theorem kU.aAb{st:Bool}{E E':Env}(h:kU st E.w E'.w E.g E'.g):sM E E':=by
 refine⟨?_,λb ob hf ho=>by
  have h1:=h.YM b (bY.1 ho).1;rw[hf]at h1;exact⟨h1.1,h1.2.trans ho⟩,λb cur e hf ho=>by
  have h1:=h.YM b (bY.1 ho).1;rw[hf]at h1;exact⟨h1.1,h1.2 cur e ho⟩⟩
 intro b off v ⟨hc,ho⟩;have hb:b < E.w.heap.size:=World.block_lt_of_cell? _ _ hc;have h1:=h.YM b hb;unfold Env.has kr at*;cases hg:E.g b with
 |free=>
  rw[hg]at h1;simp only at h1;refine⟨?_,by rw[h1.1];trivial⟩;simpa only[eQ,h1.2]using hc
 |own o k=>
  rw[hg]at ho;simp only at ho;cases o with
  |dT=>
   rw[hg]at h1;simp only at h1;refine⟨?_,by rw[h1.1];exact ho⟩;simpa only[eQ,h1.2]using hc
  |id i=>
   rw[hg]at h1;simp only at h1;refine⟨h1.2 off v ho hc,?_⟩;rcases h1.1 with h2 | ⟨h2,_⟩ | ⟨i',k',h2,hk⟩
   ·rw[h2];trivial
   ·omega
   ·rw[h2];show off < k';omega
 |fresh=>rw[hg]at ho;exact ho.elim
 |gg=>rw[hg]at ho;exact ho.elim
theorem Trans.mem{E E':Env}(h:Trans E.w E'.w E.g E'.g):wy E E':=
 ⟨kU.aAb h,λb ob hf ho=>by
  have h1:=h.YM b (bY.1 ho).1;rw[hf]at h1;rcases h1 with h1 | h1
  ·exact⟨h1.1,h1.2.trans ho⟩
  ·cases h1.1⟩
theorem C0.mono{E E':Env}(h:cP E E'){f:aB}{tmps:Array Value}(hs:C0 E f tmps):C0 E' f tmps:=⟨hs.1,λi=>(hs.2 i).mono h⟩
theorem tp.aBV{E E':Env}(h:cP E E'){id:Id}{fr:Bool}{c:aB}(ho:tp E id fr c)(hβ:E'.β id=E.β id)
    (hb:∀pl,E.β id=aw pl->E'.w.heap[pl.b]? =E.w.heap[pl.b]? /\E'.g pl.b=E.g pl.b)
    (hq:∀q ver k v l,(∃kt vt rest cu,c= .rA q (ver+1) kt vt rest cu)->E.s q=aw (.obj ver aW (.mp k v l))->E'.cur q ver->(∃k v l,E'.s q=aw (.obj ver aW (.mp k v l)))/\∀pl,E.β q=aw pl->E'.w.heap[pl.b]? =E.w.heap[pl.b]? /\E'.g pl.b=E.g pl.b):tp E' id fr c:=by
  by_cases hn:c.gI=aQ
  · obtain⟨pl,cur,e,h1,h2,h3,h5,h4⟩:=ho.box hn
    obtain⟨b1,b2⟩:=hb pl h1;exact Kd.obj ⟨pl,cur,e,by rw[hβ,h1],by rw[b1,h2],by rw[b2,h3],h5,h4.mono h⟩
  · cases c <;> first
      | (exact absurd rfl hn)
      | (obtain⟨pl,r,h1,h2,h3,h4,h5,h6⟩:=ho
         obtain⟨b1,b2⟩:=hb pl h1;exact⟨pl,r,by rw[hβ,h1],by rw[b1,h2],by rw[b2,h3],h4,h5.mono h,h6⟩)
      | (obtain⟨pl,es,clock,h1,h2,h3,h4⟩:=ho
         obtain⟨b1,b2⟩:=hb pl h1;exact⟨pl,es,clock,by rw[hβ,h1],by rw[b1,h2],by rw[b2,h3],⟨h4.1.1.mono h.mem,h4.1.2⟩,h4.2⟩)
      | (obtain⟨pl,mb,since,seen,c0,h1,h2,h3,hv⟩:=ho
         obtain⟨b1,b2⟩:=hb pl h1;refine⟨pl,mb,since,seen,c0,by rw[hβ,h1],by rw[b1,h2],by rw[b2,h3],λvr ajT=> ?_⟩;obtain⟨h4,h5⟩:=hv vr ajT;refine⟨h.yK _ _ h4,λhc=> ?_⟩;obtain⟨c1,e1⟩:=h.cur _ _ h4 hc;obtain⟨⟨k,v,l,hk⟩,plq,es,clock,g1,g2,g3,g4,g5,g6,g7,g8,g9⟩:=h5 c1;obtain⟨q1,q2⟩:=hq _ _ _ _ _ ⟨_,_,_,_,by rw[ajT]⟩ hk hc;obtain⟨q3,q4⟩:=q2 plq g1;exact⟨q1,plq,es,clock,by rw[e1,g1],g2,by rw[q3,g3],by rw[q4,g4],g5,g6,g7,g8.mono h.mem,λx hx=>
           let⟨e,se,a1,a2,a3,a4⟩:=g9 x hx
           ⟨e,se,a1,a2,a3,a4.mono h.mem⟩⟩)
      |skip
    rename_i e t l;obtain⟨hz,ho⟩:=ho;refine⟨hz,?_⟩;rw[hβ];cases hp:E.β id with
    |none=>rw[hp]at ho;exact ho
    |some pl=>
      rw[hp]at ho;simp only at ho ⊢;obtain⟨b1,b2⟩:=hb pl hp;obtain⟨cur,k,h1,h2,h3,h4,h5,h6,h7,h8⟩:=ho;exact⟨cur,k,by rw[b1,h1],h2,h3,h4,by rw[b2,h5],h6,h7,h8.mono λc x hx=>hx.mono h.mem⟩
theorem tp.mono{E E':Env}(h:cP E E'){id:Id}{fr:Bool}{c:aB}(ho:tp E id fr c)(hβ:E'.β id=E.β id)(hb:∀pl,E.β id=aw pl->E'.w.heap[pl.b]? =E.w.heap[pl.b]? /\E'.g pl.b=E.g pl.b)(hq:∀q ver k v l,E.s q=aw (.obj ver aW (.mp k v l))->E'.cur q ver->(∃k v l,E'.s q=aw (.obj ver aW (.mp k v l)))/\∀pl,E.β q=aw pl->E'.w.heap[pl.b]? =E.w.heap[pl.b]? /\E'.g pl.b=E.g pl.b):tp E' id fr c:=ho.aBV h hβ hb λq ver k v l _=>hq q ver k v l
def AS.env(s:AS)(w:cj)(g:Nat->iF)(β:Id->Option Pl):Env:= {w,g,β,s:=s.bV}
structure Ctx where
 E:Env
def Ctx.ok(C:Ctx):Prop:=(∀i j,C.E.s (.new i j)=aF)/\∀k v fr c,C.E.s (.eC k)=aw (.obj v fr c)->v=0
def vd(D:Nat):Deferred:= {target:= .collected D,args:= #[]}
def an6(n:Nat)(ds:List Deferred)(w:cj)(g:Nat->iF):Prop:=ds.Nodup/\∀d∈ds,∃D,d=vd D/\n<=D/\w.heap[D]? =aw (.deferred (aw []))/\g D= .own .dT 0
theorem an6.mono{n:Nat}{ds:List Deferred}{w w':cj}{g g':Nat->iF}(h:an6 n ds w g)(ht:Trans w w' g g'):an6 n ds w' g':=
 ⟨h.1,λd hd=>by
  obtain⟨D,h1,h2,h3,h4⟩:=h.2 d hd;have:=ht.YM D (bY.1 h3).1;rw[h4]at this;exact⟨D,h1,h2,this.2.trans h3,this.1⟩⟩
structure Inv(C:Ctx)(g:Nat->iF)(β:Id->Option Pl)(s:AS)(a:Act)(w:cj):Prop where
 defers:an6 C.E.w.heap.size a.defers w g
 size:a.tmps.size=s.ck.length
 ck:∀i,VS (s.env w g β) (s.slot i) (a.tmps.getD i undef)
 bD:iH (s.env w g β)
 trans:kU aQ C.E.w w C.E.g g
 le:z8 C.E (s.env w g β)
def gl(C:Ctx)(s:AS)(a:Act)(w:cj):Prop:=∃g β,Inv C g β s a w
theorem XD(s:AS)(d:Nat)(v:aB)(i:Nat):(s.put (aw d) v).slot i=if i=d/\d < s.ck.length then v else s.slot i:=by
 simp only[AS.put,AS.slot,aK,List.getElem?_set];by_cases h:d=i
 ·subst h;by_cases hl:d < s.ck.length
  ·simp[hl]
  ·simp[hl]
 ·simp[h,Ne.symm h]
@[simp] theorem Io(s:AS)(d:Option Tmp)(v:aB):(s.put d v).bV=s.bV:=by cases d <;> rfl
@[simp] theorem acZ(s:AS)(d:Option Tmp)(v:aB)(w:cj)(g:Nat->iF)(β:Id->Option Pl):(s.put d v).env w g β=s.env w g β:=by simp[AS.env]
theorem ajs(a:Act)(d:Nat)(v:Value)(i:Nat):(a.put (aw d) v).tmps.getD i undef=if i=d/\d < a.tmps.size then v else a.tmps.getD i undef:=by
 simp only[Act.put,du,eL];by_cases h:d=i
 ·subst h;by_cases hl:d < a.tmps.size
  ·simp[hl]
  ·simp[hl]
 ·simp[h,Ne.symm h]
theorem Inv.put{C:Ctx}{g:Nat->iF}{β:Id->Option Pl}{s:AS}{a:Act}{w:cj}(h:Inv C g β s a w)(d:Option Tmp){v:aB}{x:Value}(hv:VS (s.env w g β) v x):
  Inv C g β (s.put d v) (a.put d x) w:=by
 cases d with
 |none=>exact h
 |some d=>
  refine⟨h.defers,by simpa[Act.put,AS.put]using h.size,λi=> ?_,by simpa using h.bD,h.trans,by simpa using h.le⟩;rw[acZ,XD,ajs,h.size];split
  ·exact hv
  ·exact h.ck i
theorem Inv.step{C:Ctx}{g g':Nat->iF}{β β':Id->Option Pl}{s s':AS}{a:Act}{w w':cj}(h:Inv C g β s a w)(hs:s'.ck=s.ck)
  (ht:Trans w w' g g') (he:cP (s.env w g β) (s'.env w' g' β')) (ho:iH (s'.env w' g' β')):Inv C g' β' s' a w':=
 ⟨h.defers.mono ht,by rw[hs];exact h.size,λi=>by
  have:s'.slot i=s.slot i:=by simp[AS.slot,hs]
  rw[this];exact(h.ck i).mono he,ho,h.trans.trans ht.aFQ,h.le.trans he.l0⟩
theorem at9{E:Env}(v:Value):VS E (ofConst v) v:=by
 cases v with
 |bool b=>exact⟨_,by simp[ofConst,V,cq],rfl⟩
 |int k n=>exact⟨_,by simp[ofConst,V,cq],rfl⟩
 |string s=>exact⟨_,by simp[ofConst,V,cq],rfl⟩
 |slice a l c=>cases a with
  |none=>
   cases l with
   |zero=>cases c with
    |zero=>exact⟨_,by simp[ofConst,V],rfl⟩
    |succ _=>trivial
   |succ _=>trivial
  |some _=>trivial
 |pointer a=>cases a with
  |none=>exact⟨_,by simp[ofConst,V],rfl⟩
  |some _=>trivial
 |map r=>cases r with
  |none=>exact⟨_,by simp[ofConst,V],rfl⟩
  |some _=>trivial
 |nilFunc=>exact⟨_,by simp[ofConst,V],rfl⟩
 |_=>trivial
theorem Inv.ev{C:Ctx}{g:Nat->iF}{β:Id->Option Pl}{s:AS}{a:Act}{w:cj}(h:Inv C g β s a w)(x:bH):VS (s.env w g β) (s.ev x) (a.eval x):=by
 cases x with
 |tmp t=>exact h.ck t
 |const v=>exact at9 v
 |func f=>exact⟨_,by simp only[AS.ev,V];exact⟨[],rfl,by simp[VC]⟩,rfl⟩
 |global _=>trivial
theorem eg(s:AS)(id:Id)(e:dP)(h:s.bV id≠aF):(s.aZ id e).bV id=aw e:=by
 cases id with
 |eC k=>
  simp only[AS.bV,AS.aZ]at*;have hk:k < s.dg.length:=by
   rcases pQ k s.dg.length with h' | h'
   ·exact h'
   ·exact absurd (dZ h') h
  simp[hk]
 |new i j=>
  simp only[AS.bV,AS.aZ]at*;have hj:j < (s.news.getD i []).length:=by
   rcases pQ j (s.news.getD i []).length with h' | h'
   ·exact h'
   ·exact absurd (dZ h') h
  have hi:i < s.news.length:=by
   rcases pQ i s.news.length with h' | h'
   ·exact h'
   ·simp[dZ h']at hj
  have:((s.news.set i ((s.news.getD i []).set j e)).getD i [])=(s.news.getD i []).set j e:=by simp[aK,hi]
  rw[this];simp only[List.getElem?_set,hj,bN]
theorem cU(s:AS)(id id':Id)(e:dP)(h:id'≠id):(s.aZ id e).bV id'=s.bV id':=by
 cases id with
 |eC k=>
  cases id' with
  |eC k'=>
   simp only[AS.bV,AS.aZ];rw[ek (λe=>h (by rw[e]))]
  |new i j=>rfl
 |new i j=>
  cases id' with
  |eC k'=>rfl
  |new i' j'=>
   simp only[AS.bV,AS.aZ];by_cases hi:i'=i
   ·subst hi;have hj:j≠j':=λe=>h (by rw[e])
    by_cases hl:i' < s.news.length
    ·have:((s.news.set i' ((s.news.getD i' []).set j e)).getD i' [])=(s.news.getD i' []).set j e:=by simp[aK,hl]
     rw[this,ek hj]
    ·rw[List.set_eq_of_length_le ak]
   ·have:(s.news.set i ((s.news.getD i []).set j e)).getD i' []=s.news.getD i' []:=by simp only[aK];rw[ek (Ne.symm hi)]
    rw[this]
@[simp] theorem c9(s:AS)(id:Id)(e:dP):(s.aZ id e).ck=s.ck:=by cases id <;> rfl
@[simp] theorem aDo(s:AS)(i:Nat)(es:List dP):(s.born i es).ck=s.ck:=rfl
theorem dA{s:AS}{id:Id}{v:Nat}{fr:Bool}{c:aB}(h:s.obj id=aw (v,fr,c)):s.bV id=aw (.obj v fr c):=by
 unfold AS.obj at h;split at h
 ·rename_i h';simp at h;obtain⟨rfl,rfl,rfl⟩:=h;exact h'
 ·cases h
theorem cP.aZ{s:AS}{w w':cj}{g g':Nat->iF}{β β':Id->Option Pl}{id:Id}{v v':Nat}{fr fr':Bool}{c c':aB}(hs:s.bV id=aw (.obj v fr c))(hv:v<=v')
  (ht:Trans w w' g g') (hβ:∀i,i≠id->β' i=β i) (hβ':v'=v->β' id=β id):cP (s.env w g β) ((s.aZ id (.obj v' fr' c')).env w' g' β'):=by
 have mX:=eg s id (.obj v' fr' c') (by rw[hs];simp);refine⟨Trans.mem ht,λi ver hb=> ?_,λi ver hb hc=> ?_⟩
 ·by_cases hi:i=id
  ·subst hi;obtain⟨_,h2⟩:=hb;refine⟨by show(s.aZ i (.obj v' fr' c')).bV i≠aF;rw[mX];simp,λv'' fr'' c'' he=> ?_⟩;have he':(s.aZ i (.obj v' fr' c')).bV i=aw (.obj v'' fr'' c''):=he;rw[mX]at he';simp only[aA,dP.obj.injEq]at he';have:=h2 v fr c hs;omega
  ·have:=cU s id i (.obj v' fr' c') hi;obtain⟨h1,h2⟩:=hb;exact⟨by show(s.aZ id (.obj v' fr' c')).bV i≠aF;rw[this];exact h1,λv'' fr'' c'' he=>h2 v'' fr'' c'' (this.symm.trans he)⟩
 ·obtain⟨fr'',c'',hc⟩:=hc;by_cases hi:i=id
  ·subst hi;have hc':(s.aZ i (.obj v' fr' c')).bV i=aw (.obj ver fr'' c''):=hc;rw[mX]at hc';simp only[aA,dP.obj.injEq]at hc';have h2:=hb.2 v fr c hs;have e:v'=v:=ak;refine⟨⟨fr,c,?_⟩,hβ' e⟩;rw[<-hc'.1,e];exact hs
  ·have hc':(s.aZ id (.obj v' fr' c')).bV i=aw (.obj ver fr'' c''):=hc;rw[cU s id i _ hi]at hc';exact⟨⟨fr'',c'',hc'⟩,hβ i hi⟩
theorem iH.aZ{s:AS}{w w':cj}{g g':Nat->iF}{β β':Id->Option Pl}{id:Id}{v':Nat}{fr':Bool}{c':aB}(h:iH (s.env w g β))(jR:s.bV id≠aF)
  (he:cP (s.env w g β) ((s.aZ id (.obj v' fr' c')).env w' g' β')) (hβ:∀i,i≠id->β' i=β i)
  (hb:∀i ver fr c pl,i≠id->s.bV i=aw (.obj ver fr c)->β i=aw pl->w'.heap[pl.b]? =w.heap[pl.b]? /\g' pl.b=g pl.b)
  (ho:tp ((s.aZ id (.obj v' fr' c')).env w' g' β') id fr' c')
  (ajQ:∀ver k v l,s.bV id=aw (.obj ver aW (.mp k v l))->v'=ver/\fr'=aW/\(∃k v l,c'= .mp k v l)/\∀pl,β id=aw pl->w'.heap[pl.b]? =w.heap[pl.b]? /\g' pl.b=g pl.b):iH ((s.aZ id (.obj v' fr' c')).env w' g' β'):=by
 intro i ver fr c hi;by_cases dd:i=id
 ·subst dd;have hi':(s.aZ i (.obj v' fr' c')).bV i=aw (.obj ver fr c):=hi;rw[eg s i _ jR]at hi';simp only[aA,dP.obj.injEq]at hi';obtain⟨rfl,rfl,rfl⟩:=hi';exact ho
 ·have hi':(s.aZ id (.obj v' fr' c')).bV i=aw (.obj ver fr c):=hi;rw[cU s id i _ dd]at hi';refine(h i ver fr c hi').mono he (hβ i dd) (λpl hp=>hb i ver fr c pl dd hi' hp) λq vq k v l hq hc=> ?_
  have hq:s.bV q=aw (.obj vq aW (.mp k v l)):=hq;by_cases aG9:q=id
  ·subst aG9;obtain⟨rfl,rfl,⟨k',v',l',rfl⟩,aDJ⟩:=ajQ _ _ _ _ hq;exact⟨⟨k',v',l',eg s q _ jR⟩,aDJ⟩
  ·exact⟨⟨k,v,l,by show(s.aZ id _).bV q=_;rw[cU s id q _ aG9];exact hq⟩,λpl hp=>hb q vq aW _ pl aG9 hq hp⟩
theorem TD{s:AS}{w:cj}{g:Nat->iF}{β:Id->Option Pl}{id:Id}{v:Nat}{fr:Bool}{c:aB}(hs:s.bV id=aw (.obj v fr c)):
  ∀ver k v1 l,s.bV id=aw (.obj ver aW (.mp k v1 l))->v=ver/\aW=aW/\(∃k v l,c= .mp k v l)/\∀pl,β id=aw pl->w.heap[pl.b]? =w.heap[pl.b]? /\g pl.b=g pl.b:=λver k v1 l hl=>by
 rw[hs]at hl;cases hl;exact⟨rfl,rfl,⟨_,_,_,rfl⟩,λ_ _=>⟨rfl,rfl⟩⟩
theorem nF{s:AS}{id:Id}{v:Nat}{fr:Bool}{c:aB}(hs:s.bV id=aw (.obj v fr c))(hc:∀k v1 l,c≠ .mp k v1 l){Q:Nat->Prop}:
  ∀ver k v1 l,s.bV id=aw (.obj ver aW (.mp k v1 l))->Q ver:=λver k v1 l hl=>by
 rw[hs]at hl;cases hl;exact absurd rfl (hc _ _ _)
theorem TC{s:AS}{id:Id}{v:Nat}{c:aB}(hs:s.bV id=aw (.obj v aQ c)){Q:Nat->Prop}:
  ∀ver k v1 l,s.bV id=aw (.obj ver aW (.mp k v1 l))->Q ver:=λver k v1 l hl=>by
 rw[hs]at hl;cases hl
theorem zO{s:AS}{id:Id}{v:Nat}{fr:Bool}{c:aB}(hs:s.bV id=aw (.obj v fr c))(h:s.uN id=aW):fr=aQ:=by
 have e:s.obj id=aw (v,fr,c):=by simp[AS.obj,hs]
 unfold AS.uN at h;rw[e]at h;simpa using h
theorem tp.label{E:Env}{id:Id}{fr:Bool}{c:aB}(h:tp E id fr c){pl:Pl}(hp:E.β id=aw pl):
    pl.b < E.w.heap.size/\((∃k,E.g pl.b= .own (.id id) k)\/(fr=aW/\E.g pl.b= .free)):=by
  by_cases hn:c.gI=aQ
  · obtain⟨pl',cur,e,h1,h2,h3,h4⟩:=h.box hn
    rw[hp]at h1;obtain rfl:pl=pl':=by simpa using h1
    refine⟨(bY.1 h2).1,?_⟩;cases fr with
    |true=>exact .inr ⟨rfl,h3⟩
    |false=>exact .inl ⟨0,h3⟩
  · cases c <;> first
      | (exact absurd rfl hn)
      | (obtain⟨pl',r,h1,h2,h3,_,_,_⟩:=h
         rw[hp]at h1;obtain rfl:pl=pl':=by simpa using h1
         exact⟨(bY.1 h2).1,.inl ⟨0,h3⟩⟩)
      | (obtain⟨pl',es,clock,h1,h2,h3,_⟩:=h
         rw[hp]at h1;obtain rfl:pl=pl':=by simpa using h1
         exact⟨(bY.1 h2).1,.inl ⟨0,h3⟩⟩)
      | (obtain⟨pl',mb,since,seen,c0,h1,h2,h3,_⟩:=h
         rw[hp]at h1;obtain rfl:pl=pl':=by simpa using h1
         exact⟨(bY.1 h2).1,.inl ⟨0,h3⟩⟩)
      |skip
    obtain⟨_,h⟩:=h;rw[hp]at h;obtain⟨cur,k,h1,_,_,_,h5,_⟩:=h;exact⟨(bY.1 h1).1,.inl ⟨k,h5⟩⟩
def nX{α:Type}(f:Nat->α)(b:Nat)(x:α):Nat->α:=λb'=>if b'=b then x else f b'
@[simp] theorem fk{α:Type}(f:Nat->α)(b:Nat)(x:α):nX f b x b=x:=by simp[nX]
theorem fy{α:Type}(f:Nat->α)(b:Nat)(x:α){b':Nat}(h:b'≠b):nX f b x b'=f b':=by simp[nX,h]
def UJ:aB->Nat->Prop
 | .vec _ t l,j=>j < l.length*t.size
 |_,_=>True
theorem UJ.of{c:aB}(h:c.gI=aQ)(j:Nat):UJ c j:=by cases c <;> first | trivial | (simp[aB.gI]at h)
theorem auA{w:cj}{b:Nat}{es:Array fi}{clock:Nat}(h:w.heap[b]? =aw (.map es clock))(j:Nat):w.cell? ⟨b,j,aF⟩=aF:=by simp[eQ,h]
theorem Mh{C:Ctx}{g:Nat->iF}{β:Id->Option Pl}{s:AS}{a:Act}{w:cj}(h:Inv C g β s a w)(id:Id):
    ∃g',Inv C g' β (s.freeze id) a w/\cP (s.env w g β) ((s.freeze id).env w g' β)/\Trans w w g g'/\
      (∀v fr c,s.bV id=aw (.obj v fr c)->∀pl,β id=aw pl->∀j x,w.cell? ⟨pl.b,j,aF⟩=aw x->
        UJ c j->kr g' pl.b j):=by
  unfold AS.freeze;cases hs:s.bV id with
  |none=>exact⟨g,h,cP.refl _,Trans.refl _ _,λ_ _ _ hh=>by cases hh⟩
  |some e=>
    cases e with
    |dead=>exact⟨g,h,cP.refl _,Trans.refl _ _,λ_ _ _ hh=>by cases hh⟩
    |obj v fr c=>
      simp only;have ko:tp (s.env w g β) id fr c:=h.bD id v fr c hs;cases hp:β id with
      |none=>
        have ht:=Trans.refl w g;have he:cP (s.env w g β) ((s.aZ id (.obj v aW c)).env w g β):=cP.aZ hs (az _) ht (λ_ _=>rfl) (λ_=>rfl);refine⟨g,h.step (c9 _ _ _) ht he ?_,he,ht,λ_ _ _ _ pl Jg=>by cases Jg⟩;refine iH.aZ h.bD (by rw[hs];simp) he (λ_ _=>rfl) (λ_ _ _ _ _ _ _ _=>⟨rfl,rfl⟩) ?_ (TD hs)
        by_cases hn:c.gI=aQ
        · obtain⟨pl,_,_,h1,_⟩:=ko.box hn
          have h1':β id=aw pl:=h1;rw[hp]at h1';cases h1'
        · cases c <;> first
            | (exact absurd rfl hn)
            | (obtain⟨pl,_,h1,_⟩:=ko
               have h1':β id=aw pl:=h1;rw[hp]at h1';cases h1')
            | (obtain⟨pl,_,_,h1,_⟩:=ko
               have h1':β id=aw pl:=h1;rw[hp]at h1';cases h1')
            | (obtain⟨pl,_,_,_,_,h1,_⟩:=ko
               have h1':β id=aw pl:=h1;rw[hp]at h1';cases h1')
            |skip
          obtain⟨hz,ho⟩:=ko;have ho':(match β id with
            |none=>_
            |some pl=>_):=ho
          refine⟨hz,?_⟩;show(match β id with
            |none=>_
            |some pl=>_)
          rw[hp]at ho' ⊢;exact ho'
      |some pl=>
        have Mp:=ko.label (pl:=pl) hp;by_cases hn:c.gI=aQ
        · obtain⟨pl',cur,e,h1,h2,h3,h5,h4⟩:=ko.box hn
          have h1':β id=aw pl':=h1;rw[hp]at h1';obtain rfl:pl=pl':=by simpa using h1'
          have h3':g pl.b=akd id fr:=h3;have ht:Trans w w g (nX g pl.b .free):=by
            refine⟨rfl,rfl,⟨rfl,az _⟩,az _,λb hb=> ?_⟩;by_cases YU:b=pl.b
            · subst YU
              rw[h3',fk];cases fr with
              |true=>exact⟨rfl,rfl⟩
              |false=>exact⟨.inl rfl,λ_ _ _ hh=>hh⟩
            · rw[fy _ _ _ YU]
              exact(Trans.refl w g).YM b hb
          have he:cP (s.env w g β) ((s.aZ id (.obj v aW c)).env w (nX g pl.b .free) β):=cP.aZ hs (az _) ht (λ_ _=>rfl) (λ_=>rfl);refine⟨nX g pl.b .free,h.step (c9 _ _ _) ht he ?_,he,ht,?_⟩
          · refine iH.aZ h.bD (by rw[hs];simp) he (λ_ _=>rfl) (λi ver fr' c' pl' hi cQ Jg=>⟨rfl,?_⟩) ?_ (nF hs λk v1 l e=>by rw[e]at hn;simp[aB.gI]at hn)
            · by_cases YU:pl'.b=pl.b
              · rw[YU,fk]
                have hl:=(h.bD i ver fr' c' cQ).label (pl:=pl') Jg;have YV:(∃k,g pl'.b= .own (.id i) k)\/(fr'=aW/\g pl'.b= .free):=hl.2;rw[YU,h3']at YV;cases fr with
                |true=>exact h3'.symm▸rfl
                |false=>
                  exfalso;rcases YV with⟨k,hk⟩ | ⟨_,hk⟩
                  · simp only[akd,iF.own.injEq,Own.id.injEq]at hk
                    exact hi hk.1.symm
                  · cases hk
              · rw[fy _ _ _ YU]
            · exact Kd.obj ⟨pl,cur,e,hp,h2,fk _ _ _,h5,V.mono he h4⟩
          · intro v1 fr1 c1 hh pl1 adi j x hx hj
            obtain rfl:pl=pl1:=by simpa using adi
            unfold kr;rw[fk];trivial
        · cases c <;> first | (exact absurd rfl hn) | skip
          rotate_left;rotate_left
          · rename_i q vq kt vt rest cu
            have ht:=Trans.refl w g;have he:cP (s.env w g β) ((s.aZ id (.obj v aW (.rA q vq kt vt rest cu))).env w g β):=cP.aZ hs (az _) ht (λ_ _=>rfl) (λ_=>rfl);have hob':=ko;obtain⟨pl',mb,since,seen,c0,h1,h2,_⟩:=ko;have h1':β id=aw pl':=h1;rw[hp]at h1';obtain rfl:pl=pl':=by simpa using h1'
            refine⟨g,h.step (c9 _ _ _) ht he ?_,he,ht,λ_ _ _ _ pl1 adi j x hx _=> ?_⟩
            · refine iH.aZ h.bD (by rw[hs];simp) he (λ_ _=>rfl) (λ_ _ _ _ _ _ _ _=>⟨rfl,rfl⟩) ?_ (TD hs)
              exact tp.mono he (fr:=aW) hob' rfl (λ_ _=>⟨rfl,rfl⟩) λq2 v2 k2 v3 l2 Pj _=>⟨⟨k2,v3,l2,by
                have Pj:s.bV q2=aw (.obj v2 aW (.mp k2 v3 l2)):=Pj;have jR:q2≠id:=λe=>by rw[e,hs]at Pj;cases Pj
                show(s.aZ id _).bV q2=_;rw[cU s id q2 _ jR];exact Pj⟩,λ_ _=>⟨rfl,rfl⟩⟩
            · obtain rfl:pl=pl1:=by simpa using adi
              have h2:w.heap[pl.b]? =aw (.mapIter (aw mb) since seen c0):=h2
              simp[eQ,h2]at hx
          · rename_i k f p
            have ht:=Trans.refl w g;have he:cP (s.env w g β) ((s.aZ id (.obj v aW (.xx k f p))).env w g β):=cP.aZ hs (az _) ht (λ_ _=>rfl) (λ_=>rfl);obtain⟨pl',r,h1,h2,h3,h4,h5,h6⟩:=ko;have h1':β id=aw pl':=h1;rw[hp]at h1';obtain rfl:pl=pl':=by simpa using h1'
            refine⟨g,h.step (c9 _ _ _) ht he ?_,he,ht,λ_ _ _ _ pl1 adi j x hx _=> ?_⟩
            · exact iH.aZ h.bD (by rw[hs];simp) he (λ_ _=>rfl) (λ_ _ _ _ _ _ _ _=>⟨rfl,rfl⟩) ⟨pl,r,hp,h2,h3,h4,h5.mono he,h6⟩ (TD hs)
            · obtain rfl:pl=pl1:=by simpa using adi
              have h2:w.heap[pl.b]? =aw (.loop r):=h2
              simp[eQ,h2]at hx
          rotate_left
          · obtain⟨pl',es,clock,h1,h2,h3,h4⟩:=ko
            have h1':β id=aw pl':=h1;rw[hp]at h1';obtain rfl:pl=pl':=by simpa using h1'
            have ht:=Trans.refl w g;rename_i kt vt l;have he:cP (s.env w g β) ((s.aZ id (.obj v aW (.mp kt vt l))).env w g β):=cP.aZ hs (az _) ht (λ_ _=>rfl) (λ_=>rfl);refine⟨g,h.step (c9 _ _ _) ht he ?_,he,ht,λ_ _ _ _ pl1 adi j x hx _=> ?_⟩
            · exact iH.aZ h.bD (by rw[hs];simp) he (λ_ _=>rfl) (λ_ _ _ _ _ _ _ _=>⟨rfl,rfl⟩) ⟨pl,es,clock,hp,h2,h3,⟨h4.1.1.mono he.mem,h4.1.2⟩,h4.2⟩ (TD hs)
            · obtain rfl:pl=pl1:=by simpa using adi
              have h2:w.heap[pl.b]? =aw (.map es clock):=h2
              rw[auA h2]at hx;cases hx
          rename_i e t l;obtain⟨hz,ho⟩:=ko;have ho':(match β id with
            |none=>l=[]
            |some pl=>∃cur k,w.heap[pl.b]? =aw (.cells cur e (0,0))/\cur.size=pl.cap*t.size/\l.length<=pl.cap/\pl.cap<=maxLen/\g pl.b= .own (.id id) k/\
                k<=l.length*t.size/\(fr=aQ->k=0)/\bp (cq (s.env w g β) t) (cur.toList.take (l.length*t.size)) l):=ho
          rw[hp]at ho';obtain⟨cur,k,h1,h2,h3,h4,h5,h6,h7,h8⟩:=ho';have ht:Trans w w g (nX g pl.b (.own (.id id) (l.length*t.size))):=by
            refine⟨rfl,rfl,⟨rfl,az _⟩,az _,λb hb=> ?_⟩;by_cases YU:b=pl.b
            · subst YU
              rw[h5,fk];exact⟨.inr (.inr ⟨id,_,rfl,h6⟩),λ_ _ _ hh=>hh⟩
            · rw[fy _ _ _ YU]
              exact(Trans.refl w g).YM b hb
          have he:cP (s.env w g β) ((s.aZ id (.obj v aW (.vec e t l))).env w (nX g pl.b (.own (.id id) (l.length*t.size))) β):=cP.aZ hs (az _) ht (λ_ _=>rfl) (λ_=>rfl);refine⟨_,h.step (c9 _ _ _) ht he ?_,he,ht,?_⟩
          · refine iH.aZ h.bD (by rw[hs];simp) he (λ_ _=>rfl) (λi ver fr' c' pl' hi cQ Jg=>⟨rfl,?_⟩) ?_ (nF hs λk v1 l e=>by cases e)
            · by_cases YU:pl'.b=pl.b
              · exfalso
                have hl:=(h.bD i ver fr' c' cQ).label (pl:=pl') Jg;have YV:(∃k,g pl'.b= .own (.id i) k)\/(fr'=aW/\g pl'.b= .free):=hl.2;rw[YU,h5]at YV;rcases YV with⟨k,hk⟩ | ⟨_,hk⟩
                · simp only[iF.own.injEq,Own.id.injEq]at hk
                  exact hi hk.1.symm
                · cases hk
              · rw[fy _ _ _ YU]
            · refine⟨hz,?_⟩
              show(match β id with
                |none=>l=[]
                |some pl=>_)
              rw[hp];exact⟨cur,_,h1,h2,h3,h4,fk _ _ _,az _,(by intro hh;cases hh),h8.mono λc x hx=>hx.mono he.mem⟩
          · intro v1 fr1 c1 hh pl1 adi j x hx hj
            obtain rfl:pl=pl1:=by simpa using adi
            simp only[aA,dP.obj.injEq]at hh;obtain⟨_,_,rfl⟩:=hh;unfold kr;rw[fk];exact hj
end Go.Ab
namespace Go.Ab
def aEh(E E':Env)(ids:List Id):Prop:=∀id∈ids,∀v fr c,E.s id=aw (.obj v fr c)->∀pl,E.β id=aw pl->∀j x,E.w.cell? ⟨pl.b,j,aF⟩=aw x->UJ c j->E'.has pl.b j x
theorem Ur{s:AS}{id i:Id}{v:Nat}{fr:Bool}{c:aB}(h:s.bV i=aw (.obj v fr c)):∃fr',(s.freeze id).bV i=aw (.obj v fr' c):=by
 unfold AS.freeze;by_cases hi:i=id
 ·subst hi;rw[h];exact⟨aW,eg s i _ (by rw[h];simp)⟩
 ·split
  ·exact⟨fr,by rw[cU s id i _ hi];exact h⟩
  ·exact⟨fr,h⟩
theorem e7{C:Ctx}{β:Id->Option Pl}{a:Act}{w:cj}:∀(ids:List Id) {g:Nat->iF} {s:AS},Inv C g β s a w->
  ∃g',Inv C g' β (s.bq ids) a w/\cP (s.env w g β) ((s.bq ids).env w g' β)/\Trans w w g g'/\aEh (s.env w g β) ((s.bq ids).env w g' β) ids
 |[],g,s,h=>⟨g,h,cP.refl _,Trans.refl _ _,λ_ hi=>by cases hi⟩
 |id::ids,g,s,h=>by
  obtain⟨g1,h1,e1,t1,f1⟩:=Mh h id;obtain⟨g2,h2,e2,t2,f2⟩:=e7 ids h1;refine⟨g2,h2,e1.trans e2,t1.trans t2,λi hi v fr c hs pl hp j x hx hj=> ?_⟩;rcases cz.1 hi with rfl | hi
  ·exact e2.mem.has _ _ _ ⟨hx,f1 v fr c hs pl hp j x hx hj⟩
  ·obtain⟨fr',hs'⟩:=Ur (id:=id) hs;exact f2 i hi v fr' c hs' pl hp j x hx hj
theorem aeY(s:AS)(id:Id):(s.freeze id).ck=s.ck:=by unfold AS.freeze;split <;> simp
theorem oh:∀(ids:List Id) (s:AS),(s.bq ids).ck=s.ck
 |[],_=>rfl
 |id::ids,s=>by rw[AS.bq,oh ids,aeY]
theorem ahi(s:AS)(id:Id)(q:Nat):(s.freeze id).ej q=s.ej q:=by
 unfold AS.freeze;split
 ·rename_i v b c h;cases id with
  |eC k=>rfl
  |new i j=>
   simp only[AS.aZ,AS.ej];by_cases hq:i=q
   ·subst hq;simp only[AS.bV]at h;by_cases hl:i < s.news.length
    ·rw[List.getElem?_set_self hl,cn hl];rw[aK,cn hl]at h ⊢;simp only[eM]at h ⊢;cases hh:s.news[i]with
     |nil=>rw[hh]at h;simp at h
     |cons x xs=>cases j <;> simp[eE]
    ·rw[List.set_eq_of_length_le ak]
   ·rw[ek hq]
 ·rfl
theorem vD:∀(ids:List Id) (s:AS) (q:Nat),(s.bq ids).ej q=s.ej q
 |[],_,_=>rfl
 |id::ids,s,q=>by rw[AS.bq,vD ids,ahi]
theorem UW{e:TypeId}{t:Ty}:∀ {p:List C1} {n:Nat} {v:aB},(loc (.vec e t []) p).eval=aw (n,v)->n=0/\v= .vec e t []
 |[],n,v,h=>by simp only[loc,ay,cT]at h;exact⟨h.1.symm,h.2.symm⟩
 | .arr::p,n,v,h=>by simp only[loc]at h;exact UW h
 | .idx i::p,n,v,h=>by simp[loc,bO]at h
 | .fst::p,n,v,h=>by simp only[loc,av]at h
 | .snd::p,n,v,h=>by simp only[loc,av]at h
theorem TG{k:uZ}{f:aB}{m:Nat}:∀ {p:List C1} {n:Nat} {v:aB},(loc (.xx k f m) p).eval=aw (n,v)->n=0/\v= .xx k f m
 |[],n,v,h=>by simp only[loc,ay,cT]at h;exact⟨h.1.symm,h.2.symm⟩
 | .arr::p,n,v,h=>by simp only[loc]at h;exact TG h
 | .idx i::p,n,v,h=>by simp only[loc,av]at h
 | .fst::p,n,v,h=>by simp only[loc,av]at h
 | .snd::p,n,v,h=>by simp only[loc,av]at h
theorem ady{k t:Ty}{l:List (k.den×t.den)}:∀ {p:List C1} {n:Nat} {v:aB},(loc (.mp k t l) p).eval=aw (n,v)->n=0/\v= .mp k t l
 |[],n,v,h=>by simp only[loc,ay,cT]at h;exact⟨h.1.symm,h.2.symm⟩
 | .arr::p,n,v,h=>by simp only[loc]at h;exact ady h
 | .idx i::p,n,v,h=>by simp only[loc,av]at h
 | .fst::p,n,v,h=>by simp only[loc,av]at h
 | .snd::p,n,v,h=>by simp only[loc,av]at h
theorem TF{q:Id}{ver:Nat}{k t:Ty}{l:List (k.den×t.den)}{cu:Option (k.den×t.den)}:∀ {p:List C1} {n:Nat} {v:aB},(loc (.rA q ver k t l cu) p).eval=aw (n,v)->n=0/\v= .rA q ver k t l cu
 |[],n,v,h=>by simp only[loc,ay,cT]at h;exact⟨h.1.symm,h.2.symm⟩
 | .arr::p,n,v,h=>by simp only[loc]at h;exact TF h
 | .idx i::p,n,v,h=>by simp only[loc,av]at h
 | .fst::p,n,v,h=>by simp only[loc,av]at h
 | .snd::p,n,v,h=>by simp only[loc,av]at h
theorem Qi{E:Env}{s:AS}(hs:E.s=s.bV)(ho:iH E){id:Id}{ver:Nat}{p:List C1}{n:Nat}{t:Ty}{l:List t.den}(h:(s.row id ver p).eval=aw (n,⟨t,l⟩)):
    ∃fr c,E.s id=aw (.obj ver fr c)/\((E.β id=aF/\l=[]/\n=0)\/∃pl cur e,E.β id=aw pl/\E.w.heap[pl.b]? =aw (.cells cur e (0,0))/\n+l.length*t.size<=cur.size/\
      bp (cq E t) ((cur.toList.drop n).take (l.length*t.size)) l/\
      ∀j,j < n+l.length*t.size->UJ c j):=by
  unfold AS.row at h;cases ko:s.obj id with
  |none=>rw[ko]at h;simp only[av]at h
  |some r=>
    obtain⟨v,fr,c⟩:=r;rw[ko]at h;obtain⟨h1,h2⟩:=aD.1 h;obtain⟨⟨n',v'⟩,h3,h4⟩:=ax.1 h2;have hv:v=ver:=by simpa using h1
    subst hv;have cQ:E.s id=aw (.obj v fr c):=by rw[hs];exact dA ko
    refine⟨fr,c,cQ,?_⟩;have hO:=ho id v fr c cQ
    have akG:∀(pl:Pl) (cur:Array Value) (e:TypeId) (m:Nat) (t':Ty) (l':List t'.den) (n':Nat),E.β id=aw pl->E.w.heap[pl.b]? =aw (.cells cur e (0,0))->c.gI=aQ->
        V E (.d (.arr m t') l') ((cur.toList.drop n').take (aB.d (.arr m t') l').size)->n'+(aB.d (.arr m t') l').size<=cur.toList.length->(Out.ok (n',(⟨t',l'⟩:(t:Ty)×List t.den))).eval=aw (n,⟨t,l⟩)->
        ∃pl cur e,E.β id=aw pl/\E.w.heap[pl.b]? =aw (.cells cur e (0,0))/\n+l.length*t.size<=cur.size/\bp (cq E t) ((cur.toList.drop n).take (l.length*t.size)) l/\
          ∀j,j < n+l.length*t.size->UJ c j:=by
      intro pl cur e m t' l' n' hp hh hn hv hl he;simp only[ay,cT]at he;obtain⟨rfl,he⟩:=he;obtain⟨rfl,he⟩:=he;simp only[V,cq]at hv;obtain⟨aHm,SH⟩:=hv;have pd:∀(t:Ty) (l:List t.den),l.length=m->(aB.d (.arr m t) l).size=l.length*t.size:=λt l hh=>by simp[aB.size,Ty.size,hh]
      rw[pd _ _ aHm]at SH hl;exact⟨pl,cur,e,hp,hh,by simpa using hl,SH,λj _=>UJ.of hn j⟩
    by_cases hn:c.gI=aQ
    · right
      obtain⟨pl,cur,e,hp,hh,hg,hk,hV⟩:=hO.box hn;have hN:=Tq hk;generalize c.tg cur.size=N at hN hV;have hNl:(cur.toList.take N).length=N:=by rw[ct,cG];omega
      obtain⟨u,hu⟩:∃u,c.strip=u:=⟨_,rfl⟩;rw[hu]at hV h3;have aqq:∀m k:Nat,m+k<=(cur.toList.take N).length->((cur.toList.take N).drop m).take k=(cur.toList.drop m).take k/\m+k<=cur.toList.length:=λm k akI=>by rw[hNl]at akI;refine⟨?_,by rw[cG];omega⟩;rw[tm,mC,fS ak]
      rcases pY p u (cur.toList.take N) n' v' (VO.of hV) h3 with⟨rfl,rfl⟩ | ⟨hV',hle⟩
      · cases v' with
        |d t' x=>cases t' with
          |arr m t'=>
            have hs:=hV.size;have hc:=aqq 0 (aB.d (.arr m t') x).size ak;refine akG pl cur e m t' x 0 hp hh hn ?_ hc.2 (by simpa only using h4)
            rw[<-hc.1,aM,bg ak];exact hV
          |_=>simp only[av]at h4
        |vec=>simp only[V]at hV
        |_=>simp only[av]at h4
      · cases v' with
        |d t' x=>cases t' with
          |arr m t'=>
            have hc:=aqq _ _ hle;exact akG pl cur e m t' x n' hp hh hn (by rw[<-hc.1];exact hV') hc.2 (by simpa only using h4)
          |_=>simp only[av]at h4
        |vec=>simp only[V]at hV'
        |_=>simp only[av]at h4
    · cases c <;> first
        | (exact absurd rfl hn)
        | (obtain⟨rfl,rfl⟩:=ady h3
           simp only[av]at h4)
        | (obtain⟨rfl,rfl⟩:=TF h3
           simp only[av]at h4)
        | (obtain⟨rfl,rfl⟩:=TG h3
           simp only[av]at h4)
        |skip
      rename_i e t0 l0;obtain⟨hz,hO⟩:=hO;cases hp:E.β id with
      |none=>
        rw[hp]at hO;have aE2:l0=[]:=hO;subst aE2;obtain⟨rfl,rfl⟩:=UW h3;simp only[ay,cT]at h4;obtain⟨rfl,he⟩:=h4;obtain⟨rfl,he⟩:=he;exact .inl ⟨rfl,rfl,rfl⟩
      |some pl=>
        rw[hp]at hO;obtain⟨cur,k,q1,q2,q3,q4,q5,q6,q7,q8⟩:=hO;right;have hlen:(cur.toList.take (l0.length*t0.size)).length=l0.length*t0.size:=bp.length (λc x hx=>cq.size hx) q8;have aJm:l0.length*t0.size<=cur.size:=by rw[q2];exact cM _ q3
        rcases pY (E:=E) p (.vec e t0 l0) (cur.toList.take (l0.length*t0.size)) n' v' q8 h3 with⟨rfl,rfl⟩ | ⟨hV',hle⟩
        · simp only[ay,cT]at h4
          obtain⟨rfl,he⟩:=h4;obtain⟨rfl,he⟩:=he;exact⟨pl,cur,e,rfl,q1,ak,by simpa using q8,λj hj=>by show j < l.length*t.size;omega⟩
        · have hle':=hle
          rw[hlen]at hle';rw[tm,mC,fS ak]at hV';cases v' with
          |d t' x=>cases t' with
            |arr m t'=>
              simp only[ay,cT]at h4;obtain⟨rfl,he⟩:=h4;obtain⟨rfl,he⟩:=he;simp only[V,cq]at hV';obtain⟨aHm,SH⟩:=hV';have pd:∀(t:Ty) (l:List t.den),l.length=m->(aB.d (.arr m t) l).size=l.length*t.size:=λt l hh=>by simp[aB.size,Ty.size,hh]
              rw[pd _ _ aHm]at SH hle';refine⟨pl,cur,e,rfl,q1,ak,SH,λj hj=> ?_⟩;show j < l0.length*t0.size;omega
            |_=>simp only[av]at h4
          |vec=>simp only[V]at hV'
          |_=>simp only[av]at h4
theorem Kk{E:Env}{t:Ty}{cs:List Value}{l:List t.den}(h:bp (cq E t) cs l)(i len:Nat):bp (cq E t) ((cs.drop (i*t.size)).take (len*t.size)) (cut l i len):=bp.take (λ_ _ hx=>hx.size) len (bp.drop (λ_ _ hx=>hx.size) i h)
theorem C9{α:Type}{l:List α}{i len:Nat}(h:i+len<=l.length):(cut l i len).length=len:=by simp[cut];omega
theorem XG{E E':Env}{s:AS}(hs:E.s=s.bV)(ho:iH E)(he:cP E E'){id:Id}{ver c i len n:Nat}{p:List C1}{t':Ty}{l:List t'.den}{cs:List Value}
  (h1:(s.row id ver p).eval=aw (n,⟨t',l⟩)) (h3:decide (n+i*t'.size=c/\i+len<=l.length)=aW) (hv:V E (.dx id ver p c i len) cs) (hf:aEh E E' (aB.dx id ver p c i len).shared):cq E' (.slice t') cs (cut l i len):=by
 simp only[bh]at h3;obtain⟨hc,hlen⟩:=h3;obtain⟨fr,c0,cQ,nD⟩:=Qi hs ho h1;simp only[V]at hv;obtain⟨a,cap,aqp,hle,pc,hb,fH⟩:=hv;have fH:=fH ⟨fr,c0,cQ⟩;have ayT:(cut l i len).length=len:=C9 hlen;simp only[cq];refine⟨a,cap,?_⟩;rcases nD with⟨hp,hl,_⟩ | ⟨pl,cur,e,hp,hh,pd,w8,hbound⟩
 ·rw[hp]at fH;simp only at fH;obtain⟨rfl,rfl,rfl⟩:=fH;refine⟨[],?_,ak,ak,λ_ _ hh=>by simp at hh,?_⟩
  ·rw[ayT];exact aqp
  ·have:cut l i 0=[]:=by simp[cut]
   rw[this];rfl
 ·rw[hp]at fH;simp only at fH;refine⟨((((cur.toList.drop n).take (l.length*t'.size)).drop (i*t'.size)).take (len*t'.size)),by rw[ayT];exact aqp,ak,by rw[ayT];exact pc,?_,(Kk w8 i len).mono λ_ _ hx=>hx.mono he.mem⟩;have hmul:(i+len)*t'.size<=l.length*t'.size:=cM _ hlen;rw[eG]at hmul;rw[VI _ _ _ _ _ hmul];intro j v hj;rw[cW]at hj;split at hj
  ·rename_i aCw;rw[fN,hc]at hj;have aGV:0 < len:=by
    rcases nq len with h0 | h0
    ·subst h0;simp at aCw
    ·exact h0
   refine⟨pl.b,c,fH.1 (.inl aGV),?_⟩;refine hf id (by simp[aB.shared]) ver fr c0 cQ pl hp (c+j) v ?_ (hbound _ ak)
   rw[cell_of_row E.w pl.b (c+j) cur e (0,0) hh];simpa using hj
  ·cases hj
theorem uH{E E':Env}{s:AS}(hs:E.s=s.bV)(ho:iH E)(he:cP E E'):∀(v:aB) (t:Ty) (x:t.den) (cs:List Value),V E v cs->(s.ix t v).eval=aw x->aEh E E' v.shared->cq E' t cs x
 | .d t' x',t,x,cs,hv,h,_=>by
  have h':(Out.opt (xv t' t x')).eval=aw x:=by cases t <;> simpa only[AS.ix]using h
  simp only[V]at hv;exact u5 (gB.1 h') (hv.mono he.mem)
 | .cw,.slice t,x,cs,hv,h,_=>by simp only[AS.ix,ay]at h;subst h;simp only[V]at hv;simp only[cq];exact⟨aF,0,[],by simpa using hv,by simp,by simp,λi v hh=>by simp at hh,rfl⟩
 | .cw,.fo t,x,cs,hv,h,_=>by simp only[AS.ix,ay]at h;subst h;simp only[V]at hv;simp only[cq];exact⟨λ_=>hv,λl hl=>(by cases hl)⟩
 | .dx id ver p c i len,.fo t,x,cs,hv,h,hf=>by simp only[AS.ix]at h;obtain⟨⟨n,t',l⟩,h1,h2⟩:=ax.1 h;obtain⟨h3,h4⟩:=bO.1 h2;exact u5 (gB.1 h4) (XG hs ho he h1 h3 hv hf)
 | .dx id ver p c i len,.slice t,x,cs,hv,h,hf=>by simp only[AS.ix]at h;obtain⟨⟨n,t',l⟩,h1,h2⟩:=ax.1 h;obtain⟨h3,h4⟩:=bO.1 h2;exact u5 (gB.1 h4) (XG hs ho he h1 h3 hv hf)
 | .cw,.eK t,x,cs,hv,h,_=>by simp only[AS.ix,ay]at h;subst h;simp only[V]at hv;rw[hv];exact cq.awt
 | .pr a b,.pair ta tb,x,cs,hv,h,hf=>by simp only[AS.ix]at h;obtain⟨x1,h1,h2⟩:=ax.1 h;obtain⟨x2,h3,h4⟩:=ax.1 h2;obtain rfl:=ay.1 h4;simp only[V]at hv;obtain⟨ca,cb,e,ha,hb⟩:=hv;simp only[cq];exact⟨ca,cb,e,uH hs ho he a ta x1 ca ha h1 (λi hi=>hf i (by simp[aB.shared,hi])),uH hs ho he b tb x2 cb hb h3 (λi hi=>hf i (by simp[aB.shared,hi]))⟩
 | .cw,.int _,_,_,_,h,_ | .cw,.bool,_,_,_,h,_ | .cw,.str,_,_,_,h,_ | .cw,.unit,_,_,_,h,_ | .cw,.pair _ _,_,_,_,h,_ | .cw,.arr _ _,_,_,_,h,_ | .cw,.mR _,_,_,_,h,_ | .cw,.gC _,_,_,_,h,_ | .cw,.js _,_,_,_,h,_ | .cw,.jp _,_,_,_,h,_=>by simp only[AS.ix,av]at h
 | .dx ..,.int _,_,_,_,h,_ | .dx ..,.bool,_,_,_,h,_ | .dx ..,.str,_,_,_,h,_ | .dx ..,.unit,_,_,_,h,_ | .dx ..,.pair _ _,_,_,_,h,_ | .dx ..,.arr _ _,_,_,_,h,_ | .dx ..,.mR _,_,_,_,h,_ | .dx ..,.gC _,_,_,_,h,_ | .dx ..,.eK _,_,_,_,h,_ | .dx ..,.js _,_,_,_,h,_ | .dx ..,.jp _,_,_,_,h,_=>by simp only[AS.ix,av]at h
 | .pr _ _,.int _,_,_,_,h,_ | .pr _ _,.bool,_,_,_,h,_ | .pr _ _,.str,_,_,_,h,_ | .pr _ _,.unit,_,_,_,h,_ | .pr _ _,.slice _,_,_,_,h,_ | .pr _ _,.arr _ _,_,_,_,h,_ | .pr _ _,.fo _,_,_,_,h,_ | .pr _ _,.mR _,_,_,_,h,_ | .pr _ _,.gC _,_,_,_,h,_ | .pr _ _,.eK _,_,_,_,h,_ | .pr _ _,.js _,_,_,_,h,_ | .pr _ _,.jp _,_,_,_,h,_=>by simp only[AS.ix,av]at h
 | .undef,t,_,_,_,h,_=>by cases t <;> simp only[AS.ix,av]at h
 | .gone,t,_,_,_,h,_=>by cases t <;> simp only[AS.ix,av]at h
 | .kq,.mR t,x,cs,hv,h,_=>by simp only[AS.ix,ay]at h;subst h;simp only[V]at hv;simp only[cq];exact⟨λ_=>hv,λy hy=>by cases hy⟩
 | .kq,.gC t,x,cs,hv,h,_=>by simp only[AS.ix,ay]at h;subst h;simp only[V]at hv;simp only[cq];exact⟨λ_=>hv,λy hy=>by cases hy⟩
 | .kq,.int _,_,_,_,h,_ | .kq,.bool,_,_,_,h,_ | .kq,.str,_,_,_,h,_ | .kq,.unit,_,_,_,h,_ | .kq,.pair _ _,_,_,_,h,_ | .kq,.arr _ _,_,_,_,h,_ | .kq,.slice _,_,_,_,h,_ | .kq,.fo _,_,_,_,h,_ | .kq,.eK _,_,_,_,h,_ | .kq,.js _,_,_,_,h,_ | .kq,.jp _,_,_,_,h,_=>by simp only[AS.ix,av]at h
 | .vh,t,_,_,_,h,_=>by cases t <;> simp only[AS.ix,av]at h
 | .yl ..,t,_,_,_,h,_ | .xx ..,t,_,_,_,h,_=>by cases t <;> simp only[AS.ix,av]at h
 | .zZ,t,_,_,_,h,_=>by cases t <;> simp only[AS.ix,av]at h
 | .sb _,t,_,_,_,h,_=>by cases t <;> simp only[AS.ix,av]at h
 | .ptr ..,t,_,_,_,h,_=>by cases t <;> simp only[AS.ix,av]at h
 | .dB ..,t,_,_,_,h,_=>by cases t <;> simp only[AS.ix,av]at h
 | .fn ..,t,_,_,_,h,_=>by cases t <;> simp only[AS.ix,av]at h
 | .cons ..,t,_,_,_,h,_=>by cases t <;> simp only[AS.ix,av]at h
 | .nil,t,_,_,_,h,_=>by cases t <;> simp only[AS.ix,av]at h
 | .vec ..,t,_,_,_,h,_=>by cases t <;> simp only[AS.ix,av]at h
 | .bx ..,t,_,_,_,h,_ | .sG ..,t,_,_,_,h,_ | .mp ..,t,_,_,_,h,_ | .rA ..,t,_,_,_,h,_=>by cases t <;> simp only[AS.ix,av]at h
theorem A3{s:AS}{t:Ty}{v:aB}{x:t.den}(h:(s.ix t v).eval=aw x):v.ee=aW:=by
 cases v <;> first
  |rfl
  | (cases t <;> simp only[AS.ix,av]at h)
theorem X5{s:AS}{t:Ty}{v:aB}{x:t.den}(h:(s.ix t v).eval=aw x):v.agg=t.agg:=by
 cases v with
 |d t' x'=>
  have h':(Out.opt (xv t' t x')).eval=aw x:=by cases t <;> simpa only[AS.ix]using h
  exact O5 (gB.1 h')
 |_=>cases t <;> first | rfl | (simp only[AS.ix,av]at h)
theorem zI{C:Ctx}{g:Nat->iF}{β:Id->Option Pl}{s:AS}{a:Act}{w:cj}(h:Inv C g β s a w){v:aB}{y:Value}(hv:VS (s.env w g β) v y){t:Ty}{x:t.den}(ht:(s.ix t v).eval=aw x):
  ∃g',Inv C g' β (s.bq v.shared) a w/\cP (s.env w g β) ((s.bq v.shared).env w g' β)/\Trans w w g g'/\
   ∃cs,cq ((s.bq v.shared).env w g' β) t cs x/\gr t.agg cs y:=by
 obtain⟨g',h1,h2,h3,h4⟩:=e7 v.shared h;obtain⟨cs,hV,hO⟩:=hv.ee (A3 ht);exact⟨g',h1,h2,h3,cs,uH rfl h.bD h2 v t x cs hV ht h4,by rw[<-X5 ht];exact hO⟩
theorem Up{α:Type}{R:List Value->α->Prop}{f:α->List Value->Option (List Value)}(hf:∀x cs r,f x cs=aw r->∃c,cs=c++r/\R c x):
  ∀(l:List α) (cs r:List Value),au5 f l cs=aw r->∃c,cs=c++r/\bp R c l
 |[],cs,r,h=>by simp only[au5,aA]at h;exact⟨[],by simp[h],rfl⟩
 |x::xs,cs,r,h=>by
  simp only[au5]at h;cases hx:f x cs with
  |none=>rw[hx]at h;cases h
  |some r1=>
   rw[hx]at h;obtain⟨c1,e1,h1⟩:=hf x cs r1 hx;obtain⟨c2,e2,h2⟩:=Up hf xs r1 r h;exact⟨c1++c2,by rw[e1,e2,aC],c1,c2,rfl,h1,h2⟩
theorem Dd(E:Env):∀(t:Ty) (x:t.den) (cs r:List Value),qC t x cs=aw r->∃c,cs=c++r/\cq E t c x
 | .int k,x,cs,r,h=>by
  cases cs with
  |nil=>simp[qC]at h
  |cons v r'=>
   cases v <;> simp only[qC]at h <;> try (cases h;done)
   rename_i k' n;split at h
   ·rename_i h1 h2;simp at h1 h2 h;subst h1 h2 h;exact⟨[.int k n],rfl,by simp[cq]⟩
   ·cases h
 | .bool,x,cs,r,h=>by
  cases cs with
  |nil=>simp[qC]at h
  |cons v r'=>
   cases v <;> simp only[qC]at h <;> try (cases h;done)
   rename_i b;split at h
   ·rename_i h1;simp at h1 h;subst h1 h;exact⟨[.bool b],rfl,by simp[cq]⟩
   ·cases h
 | .str,x,cs,r,h=>by
  cases cs with
  |nil=>simp[qC]at h
  |cons v r'=>
   cases v <;> simp only[qC]at h <;> try (cases h;done)
   rename_i b;split at h
   ·rename_i h1;simp at h1 h;subst h1 h;exact⟨[.string b],rfl,by simp[cq]⟩
   ·cases h
 | .slice t,x,cs,r,h=>by
  cases x with
  |cons _ _=>simp[qC]at h
  |nil=>
   cases cs with
   |nil=>simp[qC]at h
   |cons v r'=>
    unfold qC at h;split at h <;> try (cases h;done)
    all_goals simp_all
    exact⟨[.slice aF 0 0],rfl,by simp only[cq];exact⟨aF,0,[],rfl,by simp,by simp,λi v hh=>by simp at hh,rfl⟩⟩
 | .fo t,x,cs,r,h=>by
  cases x with
  |some _=>simp[qC]at h
  |none=>
   cases cs with
   |nil=>simp[qC]at h
   |cons v r'=>
    unfold qC at h;split at h <;> try (cases h;done)
    all_goals simp_all
    exact⟨[.slice aF 0 0],rfl,by simp[cq]⟩
 | .mR t,x,cs,r,h=>by
  cases x with
  |some _=>simp[qC]at h
  |none=>
   cases cs with
   |nil=>simp[qC]at h
   |cons v r'=>
    unfold qC at h;split at h <;> try (cases h;done)
    all_goals simp_all
    exact⟨[.pointer aF],rfl,by simp[cq]⟩
 | .gC t,x,cs,r,h=>by
  cases x with
  |some _=>simp[qC]at h
  |none=>
   cases cs with
   |nil=>simp[qC]at h
   |cons v r'=>
    unfold qC at h;split at h <;> try (cases h;done)
    all_goals simp_all
    exact⟨[.pointer aF],rfl,by simp[cq]⟩
 | .eK t,x,cs,r,h=>by
  obtain⟨b,l⟩:=x;cases b with
  |false=>simp[qC]at h
  |true=>cases l with
   |cons _ _=>simp[qC]at h
   |nil=>cases cs with
    |nil=>simp[qC]at h
    |cons v r'=>
     unfold qC at h;split at h <;> try (cases h;done)
     all_goals simp_all
     exact⟨[.slice aF 0 0],rfl,cq.awt⟩
 | .js _,x,cs,r,h=>by simp[qC]at h
 | .jp _,x,cs,r,h=>by simp[qC]at h
 | .unit,x,cs,r,h=>by simp only[qC,aA]at h;exact⟨[],by simp[h],by simp[cq]⟩
 | .pair a b,x,cs,r,h=>by
  simp only[qC]at h;cases hx:qC a x.1 cs with
  |none=>rw[hx]at h;cases h
  |some r1=>
   rw[hx]at h;obtain⟨c1,e1,h1⟩:=Dd E a x.1 cs r1 hx;obtain⟨c2,e2,h2⟩:=Dd E b x.2 r1 r h;exact⟨c1++c2,by rw[e1,e2,aC],by simp only[cq];exact⟨c1,c2,rfl,h1,h2⟩⟩
 | .arr n t,x,cs,r,h=>by
  simp only[qC]at h;split at h
  ·rename_i h1;obtain⟨c,e,hc⟩:=Up (λx cs r hh=>Dd E t x cs r hh) _ _ _ h;exact⟨c,e,by simp only[cq];exact⟨by simpa using h1,hc⟩⟩
  ·cases h
theorem akq(E:Env):∀(a:aB) (cs r:List Value),SE a cs=aw r->∃c,cs=c++r/\V E a c:=by
 intro a
 induction a with
 |d t x=>
  intro cs r h;simp only[SE]at h;obtain⟨c,e,hc⟩:=Dd E t x cs r h;exact⟨c,e,by simpa only[V]using hc⟩
 |pr a b iha ihb=>
  intro cs r h;simp only[SE]at h;cases hx:SE a cs with
  |none=>rw[hx]at h;cases h
  |some r1=>
   rw[hx]at h;obtain⟨c1,e1,h1⟩:=iha cs r1 hx;obtain⟨c2,e2,h2⟩:=ihb r1 r h;exact⟨c1++c2,by rw[e1,e2,aC],by simp only[V];exact⟨c1,c2,rfl,h1,h2⟩⟩
 |cw=>intro cs r h;unfold SE at h;split at h <;> simp_all <;> exact⟨[.slice aF 0 0],rfl,by simp[V]⟩
 |kq=>intro cs r h;unfold SE at h;split at h <;> simp_all <;> exact⟨[.pointer aF],rfl,by simp[V]⟩
 |vh=>intro cs r h;unfold SE at h;split at h <;> simp_all <;> exact⟨[.nilFunc],rfl,by simp[V]⟩
 |zZ=>intro cs r h;unfold SE at h;split at h <;> simp_all <;> exact⟨[.map aF],rfl,by simp[V]⟩
 |_=>intro cs r h;simp[SE]at h
theorem vF{P:aR}{T:TypeId}{z:aB}(h:afB P T z=aW)(E:Env):
  ∃i zv,P.info? T=aw i/\i.zero=aw zv/\V E z zv.cells.toList/\gr z.agg zv.cells.toList zv:=by
 unfold afB at h;split at h <;> try (cases h;done)
 rename_i i hi;split at h <;> try (cases h;done)
 rename_i zv hz;simp only[al,dp]at h;obtain⟨h1,h2⟩:=h;split at h1 <;> try (cases h1;done)
 rename_i he;obtain⟨c,e,hV⟩:=akq E z _ _ he;rw[bn]at e;rw[<-e]at hV;refine⟨i,zv,hi,hz,hV,?_⟩;cases YT:z.agg with
 |true=>
  rw[YT]at h2;cases zv <;> simp[sC]at h2;simp[gr,Value.cells]
 |false=>
  rw[YT]at h2;cases zv <;> first | (simp[sC]at h2;done) | simp[gr,Value.cells]
end Go.Ab
namespace Go.Ab
def Fr(r:Option Nat):Fence:= {Fence.wide with round:=r}
def fq(P:aR)(o:Oper)(a:Act)(w:cj)(K:Act->cj->Prop):Prop:=(∃x w',(execOp a.eval o).run P w= .ok (.value x) w'/\K (a.put o.dst x) w')\/(∃w',(execOp a.eval o).run P w= .ok .skip w'/\K (a.put o.dst undef) w')\/(∃f args w',(execOp a.eval o).run P w= .ok (.enter f args) w'/\Calls P f args w' λe w''=>∃x,e= .returned x/\K (a.put o.dst x) w'')\/(∃l f tmps as b w',(execOp a.eval o).run P w= .ok (.round l f tmps as b) w'/\∀r n,RoundIn (Fr r) n P l f tmps as b w' λe w''=>∃x,e= .returned x/\K (a.put o.dst x) w'')
theorem fq.plain{P:aR}{o:Oper}{a:Act}{w:cj}{K:Act->cj->Prop}(h:fq P o a w K)(c:Call):o.op≠ .defer c:=λho=>by
 have hd:∀x w',(execOp a.eval o).run P w= .ok x w'->∃d,x= .defer d:=λx w' hx=>by
  simp only[execOp,ho,cg]at hx;cases hr:(resolve a.eval c o.type).run P w with
  |ok d w1=>
   rw[hr]at hx;simp only[bE,dF,Result.ok.injEq]at hx;exact⟨d,hx.1.symm⟩
  |halt _ _=>rw[hr]at hx;simp[Result.andThen]at hx
 rcases h with⟨x,w',hr,_⟩ | ⟨w',hr,_⟩ | ⟨f,args,w',hr,_⟩ | ⟨l,f,tmps,as,b,w',hr,_⟩
 ·obtain⟨d,e⟩:=hd _ _ hr;cases e
 ·obtain⟨d,e⟩:=hd _ _ hr;cases e
 ·obtain⟨d,e⟩:=hd _ _ hr;cases e
 ·obtain⟨d,e⟩:=hd _ _ hr;cases e
theorem fq.wpIn{r:Option Nat}{n:Nat}{P:aR}{o:Oper}{a:Act}{w:cj}{K:Act->cj->Prop}{Q:Exit->Act->cj->Prop}(h:fq P o a w K):o.wpIn (Fr r) n P a w K Q:=by
 have hp:=h.plain;refine⟨λ_ _=>trivial,?_⟩;rw[Oper.semAt_eq _ _ _ hp];rcases h with⟨x,w',hr,hk⟩ | ⟨w',hr,hk⟩ | ⟨f,args,w',hr,hk⟩ | ⟨l,f,tmps,as,b,w',hr,hk⟩;rotate_left 3
 ·rw[hr,Oper.uponIn_round];refine⟨λh=>(by cases h),(hk r (n - 1)).mono λe w'' ⟨x,he,hx⟩=> ?_⟩;subst he;exact hx
 ·rw[hr,Oper.uponIn_value];exact hk
 ·rw[hr,Oper.uponIn_skip];exact hk
 ·rw[hr,Oper.uponIn_enter];refine⟨λh=>(by cases h),?_⟩;have h1:CallsIn (Fr r) (n - 1) P f args w' _:=callsIn_wide.2 hk;refine h1.mono λe w'' ⟨x,he,hx⟩=> ?_
  subst he;exact hx
theorem fq.mono{P:aR}{o:Oper}{a:Act}{w:cj}{K K':Act->cj->Prop}(h:fq P o a w K)(hk:∀a w,K a w->K' a w):fq P o a w K':=by
 rcases h with⟨x,w',hr,h⟩ | ⟨w',hr,h⟩ | ⟨f,args,w',hr,h⟩ | ⟨l,f,tmps,as,b,w',hr,h⟩
 ·exact .inl ⟨x,w',hr,hk _ _ h⟩
 ·exact .inr (.inl ⟨w',hr,hk _ _ h⟩)
 ·exact .inr (.inr (.inl ⟨f,args,w',hr,h.mono λe w'' ⟨x,he,hx⟩=>⟨x,he,hk _ _ hx⟩⟩))
 ·exact .inr (.inr (.inr ⟨l,f,tmps,as,b,w',hr,λr n=>(h r n).mono λe w'' ⟨x,he,hx⟩=>⟨x,he,hk _ _ hx⟩⟩))
section
variable {P:aR} {C:Ctx} {g:Nat->iF} {β:Id->Option Pl} {s:AS} {a:Act} {w:cj} {o:Oper}
theorem Inv.value(h:Inv C g β s a w){v:aB}{x:Value}(hv:VS (s.env w g β) v x)(hr:(execOp a.eval o).run P w= .ok (.value x) w):fq P o a w (gl C (s.put o.dst v)):= .inl ⟨x,w,hr,g,β,h.put o.dst hv⟩
theorem eh{f:Sem Value}{x:Value}{w':cj}(he:execOp a.eval o=(do pure (.value (<-f))))(hf:f.run P w= .ok x w'):(execOp a.eval o).run P w= .ok (.value x) w':=by rw[he,cg,hf];rfl
theorem Pa{f:Sem Unit}{w':cj}(he:execOp a.eval o=(do f;pure .skip))(hf:f.run P w= .ok () w'):(execOp a.eval o).run P w= .ok .skip w':=by rw[he,cg,hf];rfl
theorem tA{E:Env}{k:kN}{n:Int}{y:Value}(h:VS E (.d (.int k) n) y):y= .int k n:=by obtain⟨cs,hv,ho⟩:=h;simp only[V,cq]at hv;have ho':cs=[y]:=ho;rw[hv]at ho';simpa using ho'.symm
theorem LY{E:Env}{b:Bool}{y:Value}(h:VS E (.d .bool b) y):y= .bool b:=by obtain⟨cs,hv,ho⟩:=h;simp only[V,cq]at hv;have ho':cs=[y]:=ho;rw[hv]at ho';simpa using ho'.symm
theorem HJ{E:Env}{b:ByteArray}{y:Value}(h:VS E (.d .str b) y):y= .string b:=by obtain⟨cs,hv,ho⟩:=h;simp only[V,cq]at hv;have ho':cs=[y]:=ho;rw[hv]at ho';simpa using ho'.symm
theorem kV{E:Env}(k:kN)(n:Int):VS E (.d (.int k) n) (.int k n):=⟨[.int k n],by simp[V,cq],rfl⟩
theorem vG{E:Env}(b:Bool):VS E (.d .bool b) (.bool b):=⟨[.bool b],by simp[V,cq],rfl⟩
theorem acA{E:Env}(b:ByteArray):VS E (.d .str b) (.string b):=⟨[.string b],by simp[V,cq],rfl⟩
theorem aoA{T:TypeId}{d:TypeDesc}(h:P.underlying T=aw d):∃i,P.info? T=aw i:=by
 unfold Program.underlying at h;split at h
 ·rename_i h';exact⟨_,h'⟩
 ·rename_i i _ h';exact⟨_,h'⟩
 ·cases h
theorem run_sizeOf{T:TypeId}{i:TypeInfo}(h:P.info? T=aw i)(w:cj):(sizeOf T).run P w= .ok i.size w:=by simp[sizeOf,typeInfo,h]
theorem nC{T:TypeId}{i:TypeInfo}(h:P.info? T=aw i):P.cellsOf T=i.size:=by simp[Program.cellsOf,h]
theorem pb{T:TypeId}{v:aB}(h:fits P T v=aW):v.ee=aW/\∃i,P.info? T=aw i/\i.size=v.size/\∀w,(isAgg T).run P w= .ok v.agg w:=by
 unfold fits at h;simp only[al,dp]at h;obtain⟨⟨h1,h2⟩,h3⟩:=h;cases hu:P.underlying T with
 |none=>rw[hu]at h3;cases h3
 |some d=>
  obtain⟨i,hi⟩:=aoA hu;refine⟨h1,i,hi,by rw[nC hi]at h2;exact h2,λw=> ?_⟩;rw[hu]at h3;unfold isAgg;rw[cg,run_underlying hu w];cases d <;> simp at h3 <;> simp[h3]
theorem uA{T:TypeId}{v:aB}(hf:fits P T v=aW){b off:Nat}{cs:List Value}(hl:cs.length=v.size)(hc:∀j x,cs[j]? =aw x->w.cell? ⟨b,off+j,aF⟩=aw x):
  ∃y,(loadVar T ⟨b,off,aF⟩).run P w= .ok y w/\gr v.agg cs y:=by
 obtain⟨_,i,hi,hs,YT⟩:=pb hf;unfold loadVar;rw[cg,YT w];simp only[bE];have tw:∀j x,cs[j]? =aw x->w.cell? ((⟨b,off,aF⟩:Addr).add j)=aw x:=λj x hj=>by rw[eO];exact hc j x hj
 cases ha:v.agg with
 |true=>
  refine⟨.agg cs.toArray,?_,rfl⟩;simp only[bN,cg,run_sizeOf hi,bE,hs,<-hl,run_loadCells_list w _ cs tw];rfl
 |false=>
  have h1:v.size=1:=aB.ai5 ha;obtain⟨y,rfl⟩:∃y,cs=[y]:=by
   match cs,hl with
   |[y],_=>exact⟨y,rfl⟩
   |[],hh=>simp[h1]at hh
   |_::_::_,hh=>simp[h1]at hh
  refine⟨y,?_,rfl⟩;have:=hc 0 y rfl;rw[bM]at this;simp[this]
theorem xp{T:TypeId}{v:aB}{E:Env}(hf:fits P T v=aW){cs:List Value}{y:Value}(hV:V E v cs)(ho:gr v.agg cs y){b off:Nat}{cur:Array Value}{e:TypeId}
  (hh:w.heap[b]? =aw (.cells cur e (0,0))) (hle:off+cs.length<=cur.size):
  (storeVar T ⟨b,off,aF⟩ y).run P w= .ok () (w.setRow b (dq cur.toList off cs).toArray):=by
 obtain⟨_,i,hi,hs,_⟩:=pb hf;have aqp:y.cells=cs.toArray:=ho.cells hV.one;have hl:=hV.size;have uU:=run_storeCells_at P b off e cs 0 cur w hh (by simpa using hle) hV.one;simp only[bM]at uU;unfold storeVar;simp only[aqp,cg,run_sizeOf hi,bE,gm,hl,hs,ne_eq,not_true_eq_false,bz];simpa[dq]using uU
theorem qO(w:cj)(ob:Obj){b:Nat}(h:b < w.heap.size):(w.alloc ob).heap[b]? =w.heap[b]? :=by
 show(w.heap.push ob)[b]? =w.heap[b]?
 rw[Array.getElem?_push,if_neg (Nat.ne_of_lt h)]
theorem tq(w:cj)(ob:Obj):(w.alloc ob).heap[w.heap.size]? =aw ob:=by
 show(w.heap.push ob)[w.heap.size]? =aw ob
 simp
theorem Trans.alloc(w:cj)(g:Nat->iF)(ob:Obj)(l:iF):Trans w (w.alloc ob) g (nX g w.heap.size l):=by
 refine⟨rfl,rfl,⟨rfl,az _⟩,by simp,λb hb=> ?_⟩;rw[fy _ _ _ ak,qO w ob hb];cases g b with
 |free=>exact⟨rfl,rfl⟩
 |own o k=>cases o with
  |dT=>exact⟨rfl,rfl⟩
  |id i=>exact⟨.inr (.inr ⟨i,k,rfl,az _⟩),λoff v _ hv=>by rw[World.cell?_alloc_lt w ob _ hb];exact hv⟩
 |fresh=>exact .inl ⟨rfl,rfl⟩
 |gg=>exact⟨rfl,λcur e h=>⟨cur,h,rfl⟩⟩
theorem Trans.drew(w:cj)(g:Nat->iF):Trans w w.drew g g:=Trans.refl w g |> λh=>⟨h.os,h.tape,⟨h.output.1,Nat.le_succ _⟩,h.size,h.YM⟩
theorem iH.same{w':cj}{g':Nat->iF}(h:iH (s.env w g β))(he:cP (s.env w g β) (s.env w' g' β))(hb:∀i ver fr c pl,s.bV i=aw (.obj ver fr c)->β i=aw pl->w'.heap[pl.b]? =w.heap[pl.b]? /\g' pl.b=g pl.b):iH (s.env w' g' β):=λi ver fr c hi=>(h i ver fr c hi).mono he rfl (λpl hp=>hb i ver fr c pl hi hp) λq vq k v l hq _=>⟨⟨k,v,l,hq⟩,λpl hp=>hb q vq aW _ pl hq hp⟩
theorem cP.same{w':cj}{g':Nat->iF}(ht:Trans w w' g g'):cP (s.env w g β) (s.env w' g' β):=⟨Trans.mem ht,λ_ _ h=>h,λ_ _ _ h=>⟨h,rfl⟩⟩
theorem Inv.Ii(h:Inv C g β s a w)(ob:Obj):Inv C (nX g w.heap.size .free) β s a (w.alloc ob):=by have ht:=Trans.alloc w g ob .free;have he:cP (s.env w g β) (s.env (w.alloc ob) (nX g w.heap.size .free) β):=cP.same ht;refine h.step rfl ht he (iH.same h.bD he λi ver fr c pl hi hp=> ?_);have hl:=((h.bD i ver fr c hi).label (pl:=pl) hp).1;have hl':pl.b < w.heap.size:=hl;exact⟨qO w ob hl',fy _ _ _ ak⟩
theorem Inv.drew(h:Inv C g β s a w):Inv C g β s a w.drew:=by have ht:=Trans.drew w g;have he:cP (s.env w g β) (s.env w.drew g β):=cP.same ht;exact h.step rfl ht he (iH.same h.bD he λ_ _ _ _ _ _ _=>⟨rfl,rfl⟩)
theorem kL{q:Nat}(h:s.ej q=aW):(∀j,s.bV (.new q j)=aF)/\q < s.news.length:=by
 unfold AS.ej at h;split at h
 ·rename_i hn;refine⟨λj=> ?_,(dE.1 hn).1⟩;simp[AS.bV,aK,hn]
 ·cases h
theorem xL{q:Nat}(hq:q < s.news.length)(es:List dP)(j:Nat):(s.born q es).bV (.new q j)=es[j]? :=by simp[AS.bV,AS.born,aK,hq]
theorem iZ{q:Nat}(es:List dP){id:Id}(h:∀j,id≠ .new q j):(s.born q es).bV id=s.bV id:=by
 cases id with
 |eC k=>rfl
 |new i j=>
  have:i≠q:=λe=>h j (by rw[e])
  simp only[AS.bV,AS.born,aK];rw[ek (Ne.symm this)]
def Ic(β:Id->Option Pl)(id:Id)(p:Option Pl):Id->Option Pl:=λi=>if i=id then p else β i
@[simp] theorem kh(β:Id->Option Pl)(id:Id)(p:Option Pl):Ic β id p id=p:=by simp[Ic]
theorem zQ(β:Id->Option Pl)(id:Id)(p:Option Pl){i:Id}(h:i≠id):Ic β id p i=β i:=by simp[Ic,h]
theorem Inv.O0(h:Inv C g β s a w){q:Nat}(hq:s.ej q=aW){w':cj}{g':Nat->iF}{c:aB}{p:Option Pl}(ht:Trans w w' g g')
  (hb:∀b,b < w.heap.size->w'.heap[b]? =w.heap[b]? /\g' b=g b)
  (ho:cP (s.env w g β) ((s.born q [.obj 0 aQ c]).env w' g' (Ic β (.new q 0) p))->tp ((s.born q [.obj 0 aQ c]).env w' g' (Ic β (.new q 0) p)) (.new q 0) aQ c):
  Inv C g' (Ic β (.new q 0) p) (s.born q [.obj 0 aQ c]) a w'/\cP (s.env w g β) ((s.born q [.obj 0 aQ c]).env w' g' (Ic β (.new q 0) p)):=by
 obtain⟨hv,hl⟩:=kL hq;have jR:∀id,s.bV id≠aF->∀j,id≠ .new q j:=λid dd j e=>dd (by rw[e];exact hv j)
 have he:cP (s.env w g β) ((s.born q [.obj 0 aQ c]).env w' g' (Ic β (.new q 0) p)):=by
  refine⟨Trans.mem ht,λid ver afC=> ?_,λid ver afC hc=> ?_⟩
  ·have dd:=jR id afC.1;have e:=iZ (s:=s) [.obj 0 aQ c] dd;exact⟨by show(s.born q _).bV id≠aF;rw[e];exact afC.1,λv fr c' hh=>afC.2 v fr c' (e.symm.trans hh)⟩
  ·have dd:=jR id afC.1;have e:=iZ (s:=s) [.obj 0 aQ c] dd;obtain⟨fr,c',hc⟩:=hc;exact⟨⟨fr,c',e.symm.trans hc⟩,zQ _ _ _ (dd 0)⟩
 refine⟨h.step rfl ht he λid ver fr c' dd=> ?_,he⟩;have hid':(s.born q [.obj 0 aQ c]).bV id=aw (.obj ver fr c'):=dd;by_cases hi:∃j,id= .new q j
 ·obtain⟨j,rfl⟩:=hi;rw[xL hl]at hid';cases j with
  |zero=>
   simp only[fF,aA,dP.obj.injEq]at hid';obtain⟨rfl,rfl,rfl⟩:=hid';exact ho he
  |succ j=>simp at hid'
 ·have hi':∀j,id≠ .new q j:=λj e=>hi ⟨j,e⟩
  rw[iZ _ hi']at hid';refine(h.bD id ver fr c' hid').mono he (zQ _ _ _ (hi' 0)) (λpl hp=> ?_) λq2 vq k v l Pj _=> ?_
  ·exact hb pl.b ((h.bD id ver fr c' hid').label (pl:=pl) hp).1
  ·have aG8:s.bV q2=aw (.obj vq aW (.mp k v l)):=Pj;refine⟨⟨k,v,l,by show(s.born q _).bV q2=_;rw[iZ _ (jR q2 (by rw[aG8];simp))];exact aG8⟩,λpl hp=>hb pl.b ((h.bD q2 vq aW _ aG8).label (pl:=pl) hp).1⟩
theorem pT{q:Nat}(hq:s.ej q=aW)(c:aB)(w':cj)(g':Nat->iF)(β':Id->Option Pl):((s.born q [.obj 0 aQ c]).env w' g' β').yK (.new q 0) 0:=by have e:=xL (s:=s) (kL hq).2 [.obj 0 aQ c] 0;refine⟨by show(s.born q [.obj 0 aQ c]).bV (.new q 0)≠aF;rw[e];simp,λv fr c' _=>aL _⟩
theorem Inv.aoM(h:Inv C g β s a w){q:Nat}(hq:s.ej q=aW){v:aB}{cs:List Value}{e:TypeId}(hk:∀pl n,v.FX pl n e)(hN:∀n,v.tg n=n)(hv:V (s.env w g β) v.strip cs):
  ∃g' β',Inv C g' β' (s.born q [.obj 0 aQ v]) a (w.alloc (.cells cs.toArray e))/\
   VS ((s.born q [.obj 0 aQ v]).env (w.alloc (.cells cs.toArray e)) g' β') (.ptr (.new q 0) 0 [] 0) (.pointer (aw ⟨w.heap.size,0,aF⟩)):=by
 have ht:=Trans.alloc w g (.cells cs.toArray e) (.own (.id (.new q 0)) 0);obtain⟨h1,h2⟩:=h.O0 hq (c:=v) (p:=aw ⟨w.heap.size,0⟩) ht (λb hb=>⟨qO w _ hb,fy _ _ _ ak⟩) (λhe=>
  Kd.obj ⟨⟨w.heap.size,0⟩,cs.toArray,e,kh _ _ _,tq w _,fk _ _ _,hk _ _,by rw[hN,show cs.toArray.toList.take cs.toArray.size=cs by simp];exact hv.mono he⟩)
 refine⟨_,_,h1,?_⟩;refine⟨[.pointer (aw ⟨w.heap.size,0,aF⟩)],?_,rfl⟩;simp only[V];exact⟨_,rfl,pT hq _ _ _ _,λ_=>⟨_,kh _ _ _,rfl⟩⟩
theorem Inv.aC4(h:Inv C g β s a w){q:Nat}(hq:s.ej q=aW){v:aB}{cs:List Value}(hv:V (s.env w g β) v cs)(e:TypeId):
  ∃g' β',Inv C g' β' (s.born q [.obj 0 aQ v]) a (w.alloc (.cells cs.toArray e))/\
   VS ((s.born q [.obj 0 aQ v]).env (w.alloc (.cells cs.toArray e)) g' β') (.ptr (.new q 0) 0 [] 0) (.pointer (aw ⟨w.heap.size,0,aF⟩)):=
 h.aoM hq (λpl n=>O2 hv.uW pl n e) (λn=>Ua hv.uW n) (by rw[QB hv.uW];exact hv)
theorem auq(P:aR)(T:TypeId){z:aB}{E:Env}{cs:List Value}(hv:V E z cs):(∀pl n,(boxed P T z).FX pl n T)/\(∀n,(boxed P T z).tg n=n)/\V E (boxed P T z).strip cs:=by
 unfold boxed;split
 ·exact⟨λ_ _=>rfl,λ_=>rfl,hv⟩
 ·exact⟨λpl n=>O2 hv.uW pl n T,λn=>Ua hv.uW n,by rw[QB hv.uW];exact hv⟩
theorem Inv.aAl(h:Inv C g β s a w){t:Ty}{x:t.den}{cs:List Value}(hv:cq (s.env w g β) t cs x)(e:TypeId):
  ∃g',Inv C g' β s a (w.alloc (.cells cs.toArray e))/\cP (s.env w g β) (s.env (w.alloc (.cells cs.toArray e)) g' β)/\
   VS (s.env (w.alloc (.cells cs.toArray e)) g' β) (.dB t x) (.pointer (aw ⟨w.heap.size,0,aF⟩)):=by
 have ht:=Trans.alloc w g (.cells cs.toArray e) .free;have he:cP (s.env w g β) (s.env (w.alloc (.cells cs.toArray e)) (nX g w.heap.size .free) β):=cP.same ht;refine⟨_,h.Ii _,he,[.pointer (aw ⟨w.heap.size,0,aF⟩)],?_,rfl⟩;simp only[V];refine⟨w.heap.size,0,cs,rfl,λi v hi=>⟨_,_,rfl,?_,?_⟩,hv.mono he.mem⟩
 ·show(w.alloc (.cells cs.toArray e)).cell? ⟨w.heap.size,0+i,aF⟩=aw v;rw[World.cell?_alloc_new,aH];simpa using hi
 ·show kr (nX g w.heap.size .free) w.heap.size (0+i);unfold kr;rw[fk];trivial
theorem Xq(T:TypeId)(y:Value)(w:cj):(newVar T y).run P w= .ok ⟨w.heap.size,0,aF⟩ (w.alloc (.cells y.cells T)):=by simp[newVar,newRow]
theorem aj4(h:Inv C g β s a w){T:TypeId}(ho:o.op= .alloc T){z:aB}{q:Nat}(hq:s.ej q=aW)(hz:afB P T z=aW):
  fq P o a w (gl C ((s.born q [.obj 0 aQ (boxed P T z)]).put o.dst (.ptr (.new q 0) 0 [] 0))):=by
 obtain⟨i,zv,hi,ajV,hV,hO⟩:=vF hz (s.env w g β);obtain⟨hk,hN,hV⟩:=auq P T hV;obtain⟨g',β',h1,h2⟩:=h.aoM hq hk hN hV;refine .inl ⟨.pointer (aw ⟨w.heap.size,0,aF⟩),w.alloc (.cells zv.cells T),?_,g',β',?_⟩
 ·refine eh (f:=Instr.alloc T aW (.tuple #[])) (by simp only[execOp,ho]) ?_
  simp[Instr.alloc,zeroValue,typeInfo,hi,ajV,Xq]
 ·have:=h1.put o.dst h2;simpa using this
theorem VS.aFl{E:Env}{t:Ty}{x:t.den}{y:Value}(h:VS E (.dB t x) y)(dt:Bool):VS E (aCa dt t x) y:=by
 cases dt with
 |false=>exact h
 |true=>
  obtain⟨cs,hv,ho⟩:=h;simp only[V]at hv;refine⟨cs,?_,ho⟩;simp only[aCa,V,cq];simpa using hv
theorem aaW{E:Env}{t:Ty}{y:Value}(h:VS E (.d (.mR t) aF) y):y= .pointer aF:=by obtain⟨cs,hv,ho⟩:=h;simp only[V,cq]at hv;have ho':cs=[y]:=ho;have e:=hv.1 trivial;rw[e]at ho';simpa using ho'.symm
theorem Ml{E:Env}{t:Ty}{x:t.den}{y:Value}(h:VS E (.d (.mR t) (aw x)) y):VS E (.dB t x) y:=by obtain⟨cs,hv,ho⟩:=h;simp only[V,cq]at hv;refine⟨cs,?_,ho⟩;simp only[V];simpa using hv
theorem aa5{E:Env}{t:Ty}{y:Value}(h:VS E (.d (.gC t) aF) y):y= .pointer aF:=by obtain⟨cs,hv,ho⟩:=h;simp only[V,cq]at hv;have ho':cs=[y]:=ho;have e:=hv.1 trivial;rw[e]at ho';simpa using ho'.symm
theorem az0{E:Env}{t:Ty}{x:Nat×t.den}{y:Value}(h:VS E (.d (.gC t) (aw x)) y):y= .pointer (aw ⟨x.1,0,aF⟩)/\(∃ca T,E.g x.1= .free/\E.w.heap[x.1]? =aw (.cells ca T (0,0)))/\VS E (.dB t x.2) y:=by obtain⟨cs,hv,ho⟩:=h;simp only[V,cq]at hv;have ho':cs=[y]:=ho;obtain⟨ca,T,vs,e,h0,hr,hR⟩:=hv.2 x rfl;refine⟨by rw[e]at ho';simpa using ho'.symm,⟨ca,T,h0⟩,cs,?_,ho⟩;simp only[V];exact⟨_,_,vs,e,hr,hR⟩
theorem MD{E:Env}{t:Ty}{x:Nat×t.den}{y:Value}(h:VS E (.d (.gC t) (aw x)) y):VS E (.dB t x.2) y:=(az0 h).2.2
theorem aup(h:Inv C g β s a w){T:TypeId}{x:bH}{obj dt:Bool}(ho:o.op= .box T x){s':AS}(he:(afW P s obj dt o.dst T (s.ev x)).eval=aw s'):fq P o a w (gl C s'):=by
 unfold afW at he;cases hd:o.dst with
 |none=>rw[hd]at he;simp only[av]at he
 |some q=>
  rw[hd]at he;have agy:=h.ev x;have pU:∀cs:List Value,(a.eval x).cells=cs.toArray->(execOp a.eval o).run P w= .ok (.value (.pointer (aw ⟨w.heap.size,0,aF⟩))) (w.alloc (.cells cs.toArray T)):=by
   intro cs aqp;refine eh (f:=Instr.box T (a.eval x)) (by simp only[execOp,ho]) ?_
   simp[Instr.box,Xq,aqp]
  cases obj with
  |true=>
   obtain⟨hg,gT⟩:=aD.1 he;obtain rfl:=ay.1 gT;simp only[al]at hg;obtain⟨hq,hf⟩:=hg;obtain⟨hc,_⟩:=pb hf;obtain⟨cs,hV,hO⟩:=agy.ee hc;obtain⟨g',β',h1,h2⟩:=h.aC4 hq hV T;refine .inl ⟨_,_,pU cs (hO.cells hV.one),g',β',?_⟩;rw[hd];exact h1.put (aw q) h2
  |false=>
   simp only at he;cases ht:ajI P depth T with
   |none=>rw[ht]at he;simp only[av]at he
   |some t=>
    rw[ht]at he;obtain⟨_,he⟩:=aD.1 he;obtain⟨y,h1,h2⟩:=ax.1 he;obtain rfl:=ay.1 h2;obtain⟨g1,i1,e1,t1,cs,hR,hO⟩:=zI h agy h1;obtain⟨g2,i2,e2,hv⟩:=i1.aAl hR T;refine .inl ⟨_,_,pU cs (hO.cells hR.one),g2,β,?_⟩;rw[hd];exact i2.put (aw q) (hv.aFl dt)
theorem nP{E:Env}{t:Ty}{x:t.den}{y:Value}(h:VS E (.dB t x) y):∃b off vs,y= .pointer (aw ⟨b,off,aF⟩)/\wz E (aw ⟨b,off,aF⟩) vs/\cq E t vs x:=by obtain⟨cs,hv,ho⟩:=h;simp only[V]at hv;obtain⟨b,off,vs,e,hr,hx⟩:=hv;have ho':cs=[y]:=ho;rw[e]at ho';exact⟨b,off,vs,by simpa using ho'.symm,hr,hx⟩
theorem tJ{E:Env}{id:Id}{ver n:Nat}{p:List C1}{y:Value}(h:VS E (.ptr id ver p n) y):
  ∃a,y= .pointer (aw a)/\E.yK id ver/\(E.cur id ver->∃pl,E.β id=aw pl/\a=⟨pl.b,n,aF⟩):=by
 obtain⟨cs,hv,ho⟩:=h;simp only[V]at hv;obtain⟨a,e,hb,hc⟩:=hv;have ho':cs=[y]:=ho;rw[e]at ho';exact⟨a,by simpa using ho'.symm,hb,hc⟩
theorem sa{E:Env}{id:Id}{ver c i len:Nat}{p:List C1}{y:Value}(h:VS E (.dx id ver p c i len) y):
  ∃a cap,y= .slice a len cap/\len<=cap/\(0 < len->a.isSome=aW)/\E.yK id ver/\
   (E.cur id ver->match E.β id with
    |some pl=>(0 < len\/i=0->a=aw ⟨pl.b,c,aF⟩)/\(p=[]->i=0->cap=pl.cap)
    |none=>a=aF/\len=0/\cap=0):=by
 obtain⟨cs,hv,ho⟩:=h;simp only[V]at hv;obtain⟨a,cap,e,rest⟩:=hv;have ho':cs=[y]:=ho;rw[e]at ho';exact⟨a,cap,by simpa using ho'.symm,rest⟩
theorem wX{E:Env}{t:Ty}{l:List t.den}{y:Value}(h:VS E (.d (.slice t) l) y):
  ∃a cap vs,y= .slice a l.length cap/\l.length<=cap/\(0 < l.length->a.isSome=aW)/\wz E a vs/\bp (cq E t) vs l:=by
 obtain⟨cs,hv,ho⟩:=h;simp only[V,cq]at hv;obtain⟨a,cap,vs,e,rest⟩:=hv;have ho':cs=[y]:=ho;rw[e]at ho';exact⟨a,cap,vs,by simpa using ho'.symm,rest⟩
theorem lD{E:Env}{y:Value}(h:VS E .cw y):y= .slice aF 0 0:=by obtain⟨cs,hv,ho⟩:=h;simp only[V]at hv;have ho':cs=[y]:=ho;rw[hv]at ho';simpa using ho'.symm
theorem aq9{E:Env}{id:Id}{fr:Bool}{c:aB}(h:tp E id fr c){p:List C1}{n:Nat}{v:aB}(hl:(loc c.strip p).eval=aw (n,v))(hf:v.ee=aW):
  ∃pl cur e,E.β id=aw pl/\E.w.heap[pl.b]? =aw (.cells cur e (0,0))/\V E v ((cur.toList.drop n).take v.size)/\n+v.size<=cur.size:=by
 by_cases hn:c.gI=aQ
 ·obtain⟨pl,cur,e,hp,hh,hg,hk,hV⟩:=h.box hn;have hN:=Tq hk;generalize c.tg cur.size=N at hN hV;have hNl:(cur.toList.take N).length=N:=by rw[ct,cG];omega
  obtain⟨u,hu⟩:∃u,c.strip=u:=⟨_,rfl⟩;rw[hu]at hV hl;rcases pY p u (cur.toList.take N) n v (VO.of hV) hl with⟨rfl,rfl⟩ | ⟨h1,h2⟩
  ·have hs:=hV.size;rw[hNl]at hs;refine⟨pl,cur,e,hp,hh,?_,ak⟩;rw[aM,<-hs];exact hV
  ·rw[hNl]at h2;rw[tm,mC,fS ak]at h1;exact⟨pl,cur,e,hp,hh,h1,ak⟩
 ·cases c <;> first | (exact absurd rfl hn) | skip
  rotate_left
  ·have hl:(loc (.mp _ _ _) p).eval=_:=hl;obtain⟨_,rfl⟩:=ady hl;simp[aB.ee]at hf
  ·have hl:(loc (.rA _ _ _ _ _ _) p).eval=_:=hl;obtain⟨_,rfl⟩:=TF hl;simp[aB.ee]at hf
  ·have hl:(loc (.xx _ _ _) p).eval=_:=hl;obtain⟨_,rfl⟩:=TG hl;simp[aB.ee]at hf
  rename_i e t l;obtain⟨hz,h⟩:=h;cases hp:E.β id with
  |none=>
   rw[hp]at h;have:l=[]:=h;subst this;obtain⟨_,rfl⟩:=UW hl;simp[aB.ee]at hf
  |some pl=>
   rw[hp]at h;obtain⟨cur,k,q1,q2,q3,q4,q5,q6,q7,q8⟩:=h;have hlen:=bp.length (λc x hx=>cq.size hx) q8;have pd:l.length*t.size<=cur.size:=by rw[q2];exact cM _ q3
   rcases pY (E:=E) p (.vec e t l) _ n v q8 hl with⟨rfl,rfl⟩ | ⟨h1,h2⟩
   ·simp[aB.ee]at hf
   ·rw[hlen]at h2;rw[tm,mC,fS ak]at h1;exact⟨pl,cur,e,rfl,q1,h1,ak⟩
theorem aq8{E:Env}{v v':aB}(h:(aC6 v).eval=aw v'):(∀cs,V E v cs->V E v' cs)/\v'.agg=v.agg:=by
 unfold aC6 at h;split at h
 ·rename_i t l;obtain⟨h1,h2⟩:=bO.1 h;obtain rfl:=ay.1 h2;refine⟨λcs hv=> ?_,rfl⟩;simp only[V,cq]at hv ⊢;exact hv.1 (Option.isNone_iff_eq_none.1 h1)
 ·rename_i t x;obtain⟨h1,h2⟩:=bO.1 h;obtain rfl:=ay.1 h2;refine⟨λcs hv=> ?_,rfl⟩;simp only[V,cq]at hv ⊢;obtain⟨a,cap,vs,e,hl,hs,hc,h3,_⟩:=hv;exact⟨a,cap,vs,e,hl,hs,h3 (by simpa using h1),hc⟩
 ·obtain rfl:=ay.1 h;exact⟨λ_ h=>h,rfl⟩
theorem UU(h:Inv C g β s a w){T:TypeId}{x:aB}{y:Value}(hx:VS (s.env w g β) x y){v:aB}(he:(MM P s T x).eval=aw v):
  ∃ad z,y= .pointer (aw ad)/\(loadVar T ad).run P w= .ok z w/\VS (s.env w g β) v z:=by
 unfold MM at he;split at he
 ·rename_i id ver p n;cases ko:s.obj id with
  |none=>rw[ko]at he;simp only[av]at he
  |some r=>
   obtain⟨v0,fr,c⟩:=r;rw[ko]at he;obtain⟨h1,h2⟩:=aD.1 he;obtain⟨⟨n',v'⟩,h3,h4⟩:=ax.1 h2;obtain⟨h5,h6⟩:=aD.1 h4;obtain⟨h7,h8⟩:=bO.1 h6;obtain⟨n1,n2⟩:=aq8 (E:=s.env w g β) h8;simp only[bh]at h7;have aDY:v0=ver:=by simpa using h1
   subst aDY h7;have cQ:=dA ko;obtain⟨ad,rfl,hb,hc⟩:=tJ hx;obtain⟨pl,hp,rfl⟩:=hc ⟨fr,c,cQ⟩;obtain⟨ade,_⟩:=pb h5;obtain⟨pl',cur,e,hp',hh,hV,hle⟩:=aq9 (h.bD id v0 fr c cQ) h3 ade;rw[hp]at hp';obtain rfl:pl=pl':=by simpa using hp'
   obtain⟨z,LN,KC⟩:=uA (P:=P) (w:=w) h5 (b:=pl.b) (off:=n') hV.size (λj x hj=>by
    rw[cell_of_row w pl.b (n'+j) cur e (0,0) hh];rw[cW]at hj;split at hj
    ·rw[fN]at hj;simpa using hj
    ·cases hj)
   exact⟨_,z,rfl,LN,VS.of (n1 _ hV) (by rw[n2];exact KC)⟩
 ·rename_i t x';obtain⟨h1,h2⟩:=aD.1 he;obtain rfl:=ay.1 h2;obtain⟨b,off,vs,rfl,hr,hR⟩:=nP hx;obtain⟨z,LN,KC⟩:=uA (P:=P) (w:=w) h1 (b:=b) (off:=off) hR.size (λj x hj=>by
   obtain⟨b',off',e,hh⟩:=hr j x hj;simp only[aA,Addr.mk.injEq,eF]at e;obtain⟨rfl,rfl⟩:=e;exact hh.1)
  exact⟨_,z,rfl,LN,VS.of (by simpa only[V]using hR) KC⟩
 ·rename_i t x';obtain⟨u,e,he⟩:=lA.1 he;subst e;have hx:=Ml hx;obtain⟨h1,h2⟩:=aD.1 he;obtain rfl:=ay.1 h2;obtain⟨b,off,vs,rfl,hr,hR⟩:=nP hx;obtain⟨z,LN,KC⟩:=uA (P:=P) (w:=w) h1 (b:=b) (off:=off) hR.size (λj x hj=>by
   obtain⟨b',off',e,hh⟩:=hr j x hj;simp only[aA,Addr.mk.injEq,eF]at e;obtain⟨rfl,rfl⟩:=e;exact hh.1)
  exact⟨_,z,rfl,LN,VS.of (by simpa only[V]using hR) KC⟩
 ·rename_i t x';obtain⟨u,e,he⟩:=lA.1 he;subst e;have hx:=MD hx;obtain⟨h1,h2⟩:=aD.1 he;obtain rfl:=ay.1 h2;obtain⟨b,off,vs,rfl,hr,hR⟩:=nP hx;obtain⟨z,LN,KC⟩:=uA (P:=P) (w:=w) h1 (b:=b) (off:=off) hR.size (λj x hj=>by
   obtain⟨b',off',e,hh⟩:=hr j x hj;simp only[aA,Addr.mk.injEq,eF]at e;obtain⟨rfl,rfl⟩:=e;exact hh.1)
  exact⟨_,z,rfl,LN,VS.of (by simpa only[V]using hR) KC⟩
 ·simp only[av]at he
theorem aqL(h:Inv C g β s a w){T:TypeId}{x:bH}(ho:o.op= .load T x){v:aB}(he:(MM P s T (s.ev x)).eval=aw v):fq P o a w (gl C (s.put o.dst v)):=by obtain⟨ad,z,hy,hr,hv⟩:=UU h (h.ev x) he;refine h.value hv (eh (f:=Instr.loadAt T (a.eval x)) (by simp only[execOp,ho]) ?_);simp[Instr.loadAt,Instr.sureAddr,hy,hr]
theorem Trans.setRow(w:cj){b:Nat}{i:Id}(hg:g b= .own (.id i) 0)(cur:Array Value):Trans w (w.setRow b cur) g g:=by
 refine⟨by simp,by simp,by simp,by simp,λb' hb=> ?_⟩;by_cases he:b'=b
 ·subst he;rw[hg];exact⟨.inr (.inr ⟨i,0,rfl,az _⟩),λ_ _ hh=>ak⟩
 ·rw[setRow_other w b b' cur he];cases IT:g b' with
  |free=>exact⟨rfl,rfl⟩
  |own o' k=>cases o' with
   |dT=>exact⟨rfl,rfl⟩
   |id i'=>exact⟨.inr (.inr ⟨i',k,rfl,az _⟩),λoff v _ hv=>by rw[cell_setRow_other w b cur _ he];exact hv⟩
  |fresh=>exact .inl ⟨rfl,rfl⟩
  |gg=>exact⟨rfl,λcur e h=>⟨cur,h,rfl⟩⟩
theorem Trans.aAX(w:cj){b:Nat}(hg:g b= .gg){cur:Array Value}{e:TypeId}(hh:w.heap[b]? =aw (.cells cur e (0,0))){new:Array Value}(hs:new.size=cur.size):Trans w (w.setRow b new) g g:=by
 refine⟨by simp,by simp,by simp,by simp,λb' hb=> ?_⟩;by_cases he:b'=b
 ·subst he;rw[hg];refine⟨rfl,λc1 e1 h1=> ?_⟩;rw[hh]at h1;cases h1;exact⟨new,setRow_heap w b' cur new e (0,0) hh,hs⟩
 ·rw[setRow_other w b b' new he];cases IT:g b' with
  |free=>exact⟨rfl,rfl⟩
  |own o' k=>cases o' with
   |dT=>exact⟨rfl,rfl⟩
   |id i'=>exact⟨.inr (.inr ⟨i',k,rfl,az _⟩),λoff v _ hv=>by rw[cell_setRow_other w b new _ he];exact hv⟩
  |fresh=>exact .inl ⟨rfl,rfl⟩
  |gg=>exact⟨rfl,λcur e h=>⟨cur,h,rfl⟩⟩
theorem avX{E:Env}{n:Nat}{u:(Ty.jp n).den}{y:Value}(h:VS E (.d (.jp n) u) y):∃b off,y= .pointer (aw ⟨b,off,aF⟩)/\ajZ E b (off+n):=by obtain⟨cs,hv,ho⟩:=h;simp only[V,cq]at hv;obtain⟨b,off,e,hj⟩:=hv;have ho':cs=[y]:=ho;rw[e]at ho';exact⟨b,off,by simpa using ho'.symm,hj⟩
theorem Inv.apart(h:Inv C g β s a w){id:Id}{k:Nat}{b:Nat}(hg:g b= .own (.id id) k){i:Id}{ver:Nat}{fr:Bool}{c:aB}{pl:Pl}(hi:i≠id)(hs:s.bV i=aw (.obj ver fr c))(hp:β i=aw pl):pl.b≠b:=by
 intro hb;have hl:(∃k,g pl.b= .own (.id i) k)\/(fr=aW/\g pl.b= .free):=((h.bD i ver fr c hs).label (pl:=pl) hp).2;rw[hb,hg]at hl;rcases hl with⟨k',hk⟩ | ⟨_,hk⟩
 ·simp only[iF.own.injEq,Own.id.injEq]at hk;exact hi hk.1.symm
 ·cases hk
theorem ajd(h:Inv C g β s a w){T:TypeId}{x v:aB}{y z:Value}(hx:VS (s.env w g β) x y)(hz:VS (s.env w g β) v z){s':AS}(he:(HI P s T x v).eval=aw s'):
  ∃ad w',y= .pointer (aw ad)/\(storeVar T ad z).run P w= .ok () w'/\∃g' β',Inv C g' β' s' a w':=by
 unfold HI at he;split at he
 ·rename_i id ver p n;cases ko:s.obj id with
  |none=>rw[ko]at he;simp only[av]at he
  |some r=>
   obtain⟨v0,fr,c⟩:=r;rw[ko]at he;obtain⟨h1,h2⟩:=aD.1 he;obtain⟨⟨n',o'⟩,h3,h4⟩:=ax.1 h2;obtain⟨h5,h6⟩:=aD.1 h4;obtain⟨h7,h8⟩:=bO.1 h6;obtain⟨c',h9,aEA⟩:=ax.1 h8;obtain rfl:=ay.1 aEA;simp only[bh]at h7;simp only[al,dp,cD]at h1;obtain⟨⟨aDY,azE⟩,F6⟩:=h1;subst aDY h7 azE;have cQ:=dA ko;obtain⟨ad,rfl,hb,hc⟩:=tJ hx;obtain⟨pl,hp,rfl⟩:=hc ⟨aQ,c,cQ⟩;have hp:β id=aw pl:=hp;obtain⟨ade,_⟩:=pb F6;obtain⟨cs,hV,hO⟩:=hz.ee ade;have hOb:=h.bD id v0 aQ c cQ;obtain⟨hcel',_⟩:=pb h5;have azQ:c.gI=aQ\/c.gI=aW:=by cases c.gI <;> simp
   rcases azQ with hn | hn
   ·obtain⟨pl',cur,e,hp',hh,hg,hk,hVc⟩:=hOb.box hn;have hp':β id=aw pl':=hp';rw[hp]at hp';obtain rfl:pl=pl':=by simpa using hp'
    have hg:g pl.b= .own (.id id) 0:=hg;have hh:w.heap[pl.b]? =aw (.cells cur e (0,0)):=hh
    have hN:=Tq hk;have hNl:(cur.toList.take (c.tg cur.size)).length=c.tg cur.size:=by rw[ct,cG];omega
    obtain⟨u1,u2,u3⟩:=oG p c.strip (cur.toList.take (c.tg cur.size)) n' o' v c' cs (VO.of hVc) h3 hV h9;have u4:=u2.to (u3.qI hVc.qI);have pd:c'.size=c.strip.size:=by have e1:=u4.size;have e2:=hVc.size;rw[iS u1]at e1;omega
    rw[hNl]at u1;have avG:(dq cur.toList n' cs).length=cur.toList.length:=iS (by have e1:cur.toList.length=cur.size:=cG;omega);have aHg:(dq cur.toList n' cs).take (c.tg cur.size)=dq (cur.toList.take (c.tg cur.size)) n' cs:=by
     conv=>lhs;rw[<-dm (c.tg cur.size) cur.toList]
     rw[AZ (by rw[hNl];exact u1),iV (by rw[iS (by rw[hNl];exact u1),hNl];exact az _)];exact bg (by rw[iS (by rw[hNl];exact u1),hNl];exact az _)
    have pU:=xp (P:=P) (w:=w) F6 hV hO (b:=pl.b) (off:=n') hh (by have e1:cur.toList.length=cur.size:=cG;have e2:cs.toArray.size=cs.length:=gm;omega);have ht:=Trans.setRow w hg (dq cur.toList n' cs).toArray;have hle:cP (s.env w g β) ((s.aZ id (.obj v0 aQ (c.wrap c'))).env (w.setRow pl.b (dq cur.toList n' cs).toArray) g β):=cP.aZ cQ (az _) ht (λ_ _=>rfl) (λ_=>rfl);refine⟨_,_,rfl,pU,g,β,h.step (c9 _ _ _) ht hle (iH.aZ h.bD (by rw[cQ];simp) hle (λ_ _=>rfl) (λi ver fr c pl2 hi YI SF=>⟨setRow_other w pl.b pl2.b _ (h.apart hg hi YI SF),rfl⟩) ?_ (nF cQ λk v1 l e=>by rw[e]at hn;simp[aB.gI]at hn))⟩;exact Kd.obj ⟨pl,_,e,hp,setRow_heap w pl.b cur _ e (0,0) hh,hg,by rw[gm,avG,cG];exact C5 hk u4.uW pd,by
     rw[Em c u4.uW,gm,avG,cG,Ik u4.uW pd,show(dq cur.toList n' cs).toArray.toList=dq cur.toList n' cs from rfl,aHg];exact V.mono hle u4⟩
   ·cases c <;> first | (simp[aB.gI]at hn;done) | skip
    rotate_left
    ·have h3:(loc (.mp _ _ _) p).eval=_:=h3;obtain⟨_,rfl⟩:=ady h3;simp[aB.ee]at hcel'
    ·have h3:(loc (.rA _ _ _ _ _ _) p).eval=_:=h3;obtain⟨_,rfl⟩:=TF h3;simp[aB.ee]at hcel'
    ·have h3:(loc (.xx _ _ _) p).eval=_:=h3;obtain⟨_,rfl⟩:=TG h3;simp[aB.ee]at hcel'
    rename_i e t l;obtain⟨ajW,hOb⟩:=hOb;have hOb:(match β id with
     |none=>l=[]
     |some pl=>∃cur k,w.heap[pl.b]? =aw (.cells cur e (0,0))/\cur.size=pl.cap*t.size/\l.length<=pl.cap/\pl.cap<=maxLen/\g pl.b= .own (.id id) k/\
       k<=l.length*t.size/\(aQ=aQ->k=0)/\bp (cq (s.env w g β) t) (cur.toList.take (l.length*t.size)) l):=hOb
    rw[hp]at hOb;obtain⟨cur,k,q1,q2,q3,q4,q5,q6,q7,q8⟩:=hOb;have hk:=q7 rfl;subst hk;have hlen:=bp.length (λc x hx=>cq.size hx) q8;have pd:l.length*t.size<=cur.size:=by rw[q2];exact cM _ q3
    obtain⟨u1,u2,u3⟩:=oG (E:=s.env w g β) p (.vec e t l) _ n' o' v c' cs q8 h3 hV h9;rw[hlen]at u1;have pU:=xp (P:=P) (w:=w) F6 hV hO (b:=pl.b) (off:=n') q1 ak;cases c' <;> first | (exact u3.elim) | skip
    rename_i e' t' l';obtain⟨rfl,rfl,hl'⟩:=u3;have ht:=Trans.setRow w q5 (dq cur.toList n' cs).toArray;have hle:cP (s.env w g β) ((s.aZ id (.obj v0 aQ (.vec e' t' l'))).env (w.setRow pl.b (dq cur.toList n' cs).toArray) g β):=cP.aZ cQ (az _) ht (λ_ _=>rfl) (λ_=>rfl);refine⟨_,_,rfl,pU,g,β,h.step (c9 _ _ _) ht hle (iH.aZ h.bD (by rw[cQ];simp) hle (λ_ _=>rfl) (λi ver fr c pl2 hi YI SF=>⟨setRow_other w pl.b pl2.b _ (h.apart q5 hi YI SF),rfl⟩) ?_ (nF cQ λk v1 l e=>by cases e))⟩;refine⟨ajW,?_⟩;show(match β id with
     |none=>l'=[]
     |some pl=>_)
    rw[hp];have avG:(dq cur.toList n' cs).length=cur.toList.length:=iS (by simp;omega);refine⟨_,0,setRow_heap w pl.b cur _ e' (0,0) q1,by rw[gm,avG];simpa using q2,ak,q4,q5,ak,λ_=>rfl,?_⟩;have e2:(dq cur.toList n' cs).take (l'.length*t'.size)=dq (cur.toList.take (l.length*t'.size)) n' cs:=by
     rw[hl']
     conv=>lhs;rw[<-dm (l.length*t'.size) cur.toList]
     rw[AZ (by rw[hlen];exact u1),iV (by rw[iS (by rw[hlen];exact u1),hlen];exact az _)];exact bg (by rw[iS (by rw[hlen];exact u1),hlen];exact az _)
    rw[show(dq cur.toList n' cs).toArray.toList=dq cur.toList n' cs from rfl,e2];exact bp.mono (λ_ _ hx=>hx.mono hle.mem) u2
 ·simp only[av]at he
theorem akY(h:Inv C g β s a w){T:TypeId}{n:Nat}{u:(Ty.jp n).den}{v:aB}{y z:Value}(hx:VS (s.env w g β) (.d (.jp n) u) y)(hz:VS (s.env w g β) v z)(F6:fits P T v=aW)(hn:P.cellsOf T=n):
  ∃ad w',y= .pointer (aw ad)/\(storeVar T ad z).run P w= .ok () w'/\∃g' β',Inv C g' β' s a w':=by
 obtain⟨b,off,rfl,hg,cur,e,hh,hle⟩:=avX hx;have hg:g b= .gg:=hg;have hh:w.heap[b]? =aw (.cells cur e (0,0)):=hh
 obtain⟨ade,_⟩:=pb F6;obtain⟨cs,hV,hO⟩:=hz.ee ade;have pd:cs.length=n:=by rw[hV.size,<-hn];have:=F6;unfold fits at this;simp only[al,dp]at this;exact this.1.2.symm
 have hb:off+cs.length<=cur.toList.length:=by have e1:cur.toList.length=cur.size:=cG;omega
 have pU:=xp (P:=P) (w:=w) F6 hV hO (b:=b) (off:=off) hh (by rw[pd];exact hle);have ht:=Trans.aAX w hg hh (new:=(dq cur.toList off cs).toArray) (by rw[gm,iS hb];exact cG);have aF4:cP (s.env w g β) (s.env (w.setRow b (dq cur.toList off cs).toArray) g β):=cP.same ht;refine⟨_,_,rfl,pU,g,β,h.step rfl ht aF4 (iH.same h.bD aF4 λi ver fr c pl hi hp=>⟨setRow_other w b pl.b _ λYU=> ?_,rfl⟩)⟩;have hl:(∃k,g pl.b= .own (.id i) k)\/(fr=aW/\g pl.b= .free):=((h.bD i ver fr c hi).label (pl:=pl) hp).2;rw[YU,hg]at hl;rcases hl with⟨k,hk⟩ | ⟨_,hk⟩ <;> cases hk
theorem anB(h:Inv C g β s a w){T:TypeId}{x v:bH}(ho:o.op= .store T x v){s':AS}(he:(HI P s T (s.ev x) (s.ev v)).eval=aw s'):fq P o a w (gl C (s'.put o.dst .undef)):=by obtain⟨ad,w',hy,hr,g',β',hi⟩:=ajd h (h.ev x) (h.ev v) he;refine .inr (.inl ⟨w',Pa (f:=Instr.storeAt T (a.eval x) (a.eval v)) (by simp only[execOp,ho]) ?_,g',β',hi.put o.dst VS.undef⟩);simp[Instr.storeAt,Instr.sureAddr,hy,hr]
theorem aqB(h:Inv C g β s a w){T:TypeId}{x v:bH}(ho:o.op= .store T x v){n:Nat}(hx:(s.ev x).adr=aw n)(hf:fits P T (s.ev v)=aW)(hn:P.cellsOf T=n):fq P o a w (gl C (s.put o.dst .undef)):=by
 have h1:=h.ev x;obtain⟨u,hu⟩:∃u:(Ty.jp n).den,s.ev x= .d (.jp n) u:=by
  cases hs:s.ev x with
  |d t y=>cases t <;> rw[hs]at hx <;> simp only[aB.adr,aA,reduceCtorEq]at hx;subst hx;exact⟨y,rfl⟩
  |_=>rw[hs]at hx;simp[aB.adr]at hx
 rw[hu]at h1;obtain⟨ad,w',hy,hr,g',β',hi⟩:=akY h h1 (h.ev v) hf hn;refine .inr (.inl ⟨w',Pa (f:=Instr.storeAt T (a.eval x) (a.eval v)) (by simp only[execOp,ho]) ?_,g',β',hi.put o.dst VS.undef⟩);simp[Instr.storeAt,Instr.sureAddr,hy,hr]
end
end Go.Ab
namespace Go.Ab
section
variable {P:aR} {C:Ctx} {g:Nat->iF} {β:Id->Option Pl} {s:AS} {a:Act} {w:cj} {o:Oper}
theorem abf(h:Inv C g β s a w){x:bH}(ho:o.op= .move x\/o.op= .assign x):fq P o a w (gl C (s.put o.dst (s.ev x))):=by
 refine h.value (h.ev x) ?_
 rcases ho with ho | ho <;> simp[execOp,ho]
theorem arl(h:Inv C g β s a w){c x y:bH}(ho:o.op= .pick c x y){v:aB}(he:(aoT (s.ev c) (s.ev x) (s.ev y)).eval=aw v):fq P o a w (gl C (s.put o.dst v)):=by
 have hc:=h.ev c;have hx:=h.ev x;have hy:=h.ev y;unfold aoT at he;split at he
 ·rename_i b hb;rw[hb]at hc;have aJH:=LY hc;have hr:(execOp a.eval o).run P w= .ok (.value (if b then a.eval x else a.eval y)) w:=by simp[execOp,ho,aJH,asBool]
  split at he
  ·rename_i bx by' aGG aJE;obtain rfl:=ay.1 he;rw[aGG]at hx;rw[aJE]at hy;refine h.value ?_ hr
   cases b
   ·simpa using hy
   ·simpa using hx
  ·cases b with
   |true=>
    simp only[Out.eval,aA]at he;subst he;exact h.value (by simpa using hx) hr
   |false=>
    simp only[Out.eval,aA]at he;subst he;exact h.value (by simpa using hy) hr
 ·simp only[av]at he
theorem Zb(h:Inv C g β s a w){x:bH}(ho:o.op= .nilCheck x){s':AS}(he:(match s.ev x with
  | .ptr id v p n=>Out.ok (s.put o.dst (.ptr id v p n))
  | .dB t y=> .ok (s.put o.dst (.dB t y))
  | .d (.mR t) y=> .get (y:Option t.den) λy=> .ok (s.put o.dst (.dB t y))
  | .d (.gC t) y=> .get (y:Option (Nat×t.den)) λy=> .ok (s.put o.dst (.dB t y.2))
  | .d (.jp n) _=> .ok (s.put o.dst (.d (.jp n) ()))
  | .fn f c=> .ok (s.put o.dst (.fn f c))
  |_=> .fail).eval=aw s'):fq P o a w (gl C s'):=by
 have hx:=h.ev x;split at he
 ·rename_i id v p n hv;obtain rfl:=ay.1 he;rw[hv]at hx;obtain⟨ad,hy,_⟩:=tJ hx;exact h.value hx (by simp[execOp,ho,hy])
 ·rename_i t y hv;obtain rfl:=ay.1 he;rw[hv]at hx;obtain⟨b,off,vs,hy,_⟩:=nP hx;exact h.value hx (by simp[execOp,ho,hy])
 ·rename_i t y hv;obtain⟨z,e,he⟩:=lA.1 he;subst e;obtain rfl:=ay.1 he;rw[hv]at hx;have hx:=Ml hx;obtain⟨b,off,vs,hy,_⟩:=nP hx;exact h.value hx (by simp[execOp,ho,hy])
 ·rename_i t y hv;obtain⟨z,e,he⟩:=lA.1 he;subst e;obtain rfl:=ay.1 he;rw[hv]at hx;have hx:=MD hx;obtain⟨b,off,vs,hy,_⟩:=nP hx;exact h.value hx (by simp[execOp,ho,hy])
 ·rename_i n u hv;obtain rfl:=ay.1 he;rw[hv]at hx;obtain⟨b,off,hy,_⟩:=avX hx;exact h.value hx (by simp[execOp,ho,hy])
 ·rename_i f c hv;obtain rfl:=ay.1 he;rw[hv]at hx;obtain⟨cs,hV,hO⟩:=hx.ee rfl;simp only[V]at hV;obtain⟨vs,e,hc⟩:=hV;have hO':cs=[a.eval x]:=hO;rw[e]at hO';have hy:a.eval x= .func (.func f) #[] vs.toArray:=by simpa using hO'.symm
  refine h.value (v:= .fn f c) ⟨cs,by simp only[V];exact⟨vs,e,hc⟩,hO⟩ (by simp[execOp,ho,hy])
 ·simp only[av]at he
theorem agM{op:BinOp}{k k':kN}{x y:Int}{v:aB}(he:(avU op k x k' y).eval=aw v)(T:TypeId)(E:Env):
  ∃z,(binOp op T (.int k x) (.int k' y)).run P w= .ok z w/\VS E v z:=by
 unfold avU at he;have same:∀(hk:decide (k=k')=aW),k=k':=λhk=>by simpa using hk
 cases op with
 |shl=>
  obtain⟨h1,h2⟩:=bO.1 he;obtain rfl:=ay.1 h2;have h1:¬y < 0:=by simpa using h1
  exact⟨_,by simp[binOp,Op.shift,h1],kV _ _⟩
 |shr=>
  obtain⟨h1,h2⟩:=bO.1 he;obtain rfl:=ay.1 h2;have h1:¬y < 0:=by simpa using h1
  exact⟨_,by simp[binOp,Op.shift,h1],kV _ _⟩
 |quo=>
  obtain⟨h1,h2⟩:=aD.1 he;obtain rfl:=same h1;obtain⟨h3,h4⟩:=bO.1 h2;obtain rfl:=ay.1 h4;have h3:y≠0:=by simpa using h3
  exact⟨_,by simp[binOp,Op.intDiv,h3],kV _ _⟩
 |rem=>
  obtain⟨h1,h2⟩:=aD.1 he;obtain rfl:=same h1;obtain⟨h3,h4⟩:=bO.1 h2;obtain rfl:=ay.1 h4;have h3:y≠0:=by simpa using h3
  exact⟨_,by simp[binOp,Op.intDiv,h3],kV _ _⟩
 |add | sub | mul=>
  obtain⟨h1,h2⟩:=aD.1 he;obtain rfl:=same h1;obtain rfl:=ay.1 h2;exact⟨_,by simp[binOp,Op.intArith],kV _ _⟩
 |and | or | xor | andNot=>
  obtain⟨h1,h2⟩:=aD.1 he;obtain rfl:=same h1;obtain rfl:=ay.1 h2;refine⟨_,?_,kV _ _⟩;unfold binOp Op.intBits;simp[cF]
 |eql | neq | lss | leq | gtr | geq=>
  obtain⟨h1,h2⟩:=aD.1 he;obtain rfl:=same h1;obtain rfl:=ay.1 h2;refine⟨_,?_,vG _⟩;simp[binOp,Op.intCmp]
theorem aje{op:BinOp}{x y:ByteArray}{v:aB}(he:(ayg op x y).eval=aw v)(T:TypeId)(E:Env):
  ∃z,(binOp op T (.string x) (.string y)).run P w= .ok z w/\VS E v z:=by
 unfold ayg at he;cases op <;> simp only[av]at he
 case add=>
  obtain⟨h1,h2⟩:=bO.1 he;obtain rfl:=ay.1 h2;have h1:¬((x.size+y.size:Nat):Int) > IntKind.i64.max:=by simpa using h1
  refine⟨.string (x++y),?_,acA _⟩;show(Op.stringOp .add x y).run P w=_;unfold Op.stringOp;simp only[h1,bz];rfl
 all_goals
  obtain rfl:=ay.1 he;exact⟨_,by simp[binOp,Op.stringOp],vG _⟩
theorem ou{op:BinOp}{T:TypeId}{x y:bH}{u v:Value}(h1:u≠ .nilIface)(h2:sC u=aQ):(eqGuard op T x y u v).run P w= .ok () w:=by
 unfold eqGuard;cases op <;> simp
 all_goals (cases u <;> simp_all [sC])
theorem xT{T:TypeId}{b:Bool}(h:KE P T b=aW):∃i,P.info? T=aw i/\∀w,(isAgg T).run P w= .ok b w:=by
 unfold KE at h;cases hu:P.underlying T with
 |none=>rw[hu]at h;cases h
 |some d=>
  obtain⟨i,hi⟩:=aoA hu;refine⟨i,hi,λw=> ?_⟩;rw[hu]at h;unfold isAgg;rw[cg,run_underlying hu w];cases d <;> simp at h <;> simp[h]
theorem wU{T:TypeId}{b:Bool}(h:KE P T b=aW){cs:List Value}{off n:Nat}(hn:P.cellsOf T=n)(hb:b=aQ->n=1)(hl:off+n<=cs.length):
  ∃y,(part T cs.toArray off).run P w= .ok y w/\gr b ((cs.drop off).take n) y:=by
 obtain⟨i,hi,YT⟩:=xT h;rw[nC hi]at hn;unfold part;rw[cg,YT w];simp only[bE];cases b with
 |true=>
  refine⟨.agg ((cs.drop off).take n).toArray,?_,rfl⟩;simp only[bN,cg,run_sizeOf hi,bE,hn,dF];simp[List.extract_eq_take_drop]
 |false=>
  have h1:=hb rfl;subst h1;have jQ:off < cs.length:=ak;refine⟨cs[off],?_,?_⟩
  ·simp[jQ]
  ·show(cs.drop off).take 1=[cs[off]];rw[aq jQ,List.take_succ_cons,dI]
theorem wW{t:Ty}(h:t.agg=aQ):t.size=1:=by cases t <;> first | rfl | (simp[Ty.agg]at h)
theorem US{α:Type}(f:α->α->Bool)(x y:α)(xs ys:List α):nE f (x::xs) (y::ys)=(f x y && nE f xs ys):=rfl
theorem UM{E:Env}(hE:E.w=w){T U:TypeId}(hT:P.underlying T=aw (.pointer U))(hU:aAC P U=aW){t:Ty}(hn:t.aoN=aW){x y:(Ty.gC t).den}{cx cy:List Value}(hx:cq E (.gC t) cx x)(hy:cq E (.gC t) cy y){u v:Value}(hu:cx=[u])(hv:cy=[v]):
  (∃a,u= .pointer a)/\(∃b,v= .pointer b)/\∀d,(de (d+1) T u v).run P w= .ok ((Ty.gC t).beq x y) w:=by
 unfold aAC at hU;split at hU <;> try (cases hU;done)
 rename_i i hi;have pd:i.size≠0:=by simpa using hU
 subst hu hv;have yes:u=v->(Ty.gC t).beq x y=aW:=λe=>by subst e;exact @pa _ ((Ty.gC t).ap2 x y) (cq.uniq (t:= .gC t) (by simpa only[Ty.aoN]using hn) hx hy)
 have no:x≠y->(Ty.gC t).beq x y=aQ:=λe=> @rz _ ((Ty.gC t).ap2 x y) e
 simp only[cq]at hx hy;cases akQ:(x:Option (Nat×t.den)) with
 |none=>
  have e1:=hx.1 akQ;simp only[bF,eF]at e1;subst e1;cases azS:(y:Option (Nat×t.den)) with
  |none=>
   have e2:=hy.1 azS;simp only[bF,eF]at e2;subst e2;exact⟨⟨_,rfl⟩,⟨_,rfl⟩,λd=>by rw[akQ,azS]at yes;rw[yes rfl];simp[de,run_underlying hT]⟩
  |some b=>
   obtain⟨cb,Tb,vb,e2,hb,_⟩:=hy.2 b azS;simp only[bF,eF]at e2;subst e2;exact⟨⟨_,rfl⟩,⟨_,rfl⟩,λd=>by rw[akQ,azS]at no;rw[no (λe=>by cases e)];simp[de,run_underlying hT]⟩
 |some a=>
  obtain⟨ca,Ta,va,e1,ha,_⟩:=hx.2 a akQ;simp only[bF,eF]at e1;subst e1;cases azS:(y:Option (Nat×t.den)) with
  |none=>
   have e2:=hy.1 azS;simp only[bF,eF]at e2;subst e2;exact⟨⟨_,rfl⟩,⟨_,rfl⟩,λd=>by rw[akQ,azS]at no;rw[no (λe=>by cases e)];simp[de,run_underlying hT]⟩
  |some b=>
   obtain⟨cb,Tb,vb,e2,hb,_⟩:=hy.2 b azS;simp only[bF,eF]at e2;subst e2;refine⟨⟨_,rfl⟩,⟨_,rfl⟩,λd=> ?_⟩;rw[akQ,azS]at yes no;by_cases qz:a.1=b.1
   ·rw[yes (by rw[qz])];simp[de,run_underlying hT,run_sizeOf hi,pd,qz,run_sameAddr_same]
   ·rw[no (λe=>qz (c7 Prod.fst (bu e)))];have hd:=run_sameAddr_other (P:=P) w (a:=⟨a.1,0,aF⟩) (b:=⟨b.1,0,aF⟩) (by intro e;exact qz (c7 Addr.block e)) (hE▸ha.2) (hE▸hb.2);simp[de,run_underlying hT,run_sizeOf hi,pd,hd]
theorem vH(E:Env)(hE:E.w=w):∀(n:Nat) (T:TypeId) (t:Ty),sR P n T t=aW->∀(d:Nat),n<=d->∀(cx cy:List Value) (x y:t.den) (u v:Value),cq E t cx x->cq E t cy y->gr t.agg cx u->gr t.agg cy v->
  (de d T u v).run P w= .ok (t.beq x y) w
 | 0,T,t,h,_,_,_,_,_,_,_,_,_,_,_,_=>by simp[sR]at h
 |n+1,T,t,h,0,hd,_,_,_,_,_,_,_,_,_,_=>ak
 |n+1,T,t,h,d+1,hd,cx,cy,x,y,u,v,hx,hy,hu,hv=>by
  simp only[sR]at h;split at h
  ·rename_i k k' hT;simp only[cq]at hx hy;have e1:cx=[u]:=hu;have e2:cy=[v]:=hv;rw[hx]at e1;rw[hy]at e2;simp only[bF,eF]at e1 e2;subst e1 e2;rw[run_equalIn_int w d T _ _ _ _ hT];rfl
  ·rename_i hT;simp only[cq]at hx hy;have e1:cx=[u]:=hu;have e2:cy=[v]:=hv;rw[hx]at e1;rw[hy]at e2;simp only[bF,eF]at e1 e2;subst e1 e2;rw[run_equalIn_bool' w d T _ _ hT];rfl
  ·rename_i hT;simp only[cq]at hx hy;have e1:cx=[u]:=hu;have e2:cy=[v]:=hv;rw[hx]at e1;rw[hy]at e2;simp only[bF,eF]at e1 e2;subst e1 e2;rw[run_equalIn_string w d T _ _ hT];rfl
  ·rename_i U t' hT;simp only[al]at h;exact(UM hE hT h.1 h.2 hx hy hu hv).2.2 d
  ·rename_i m e m' t' hT;simp only[al,dp]at h;obtain⟨⟨⟨⟨rfl,aCI⟩,pd⟩,LM⟩,w8⟩:=h;simp only[cq]at hx hy;obtain⟨aGW,aGJ⟩:=hx;obtain⟨aJW,aJI⟩:=hy;have e1:u= .agg cx.toArray:=hu;have e2:v= .agg cy.toArray:=hv;subst e1 e2;obtain⟨i,hi,YT⟩:=xT LM;have hsz':=pd;rw[nC hi]at hsz';simp only[de,cg,run_underlying hT,bE,run_sizeOf hi,hsz'];simp only[Std.Legacy.Range.forIn_eq_forIn_range'];have hm:([:m]:Std.Legacy.Range).size=m:=by simp[Std.Legacy.Range.size]
   rw[hm];have ajW:∀c z,cq E t' c z->c.length=t'.size:=λc z hz=>hz.size
   have bx:t'.agg=aQ->t'.size=1:=wW
   have key:∀(k:Nat) (x y:List t'.den) (j:Nat),x.length=k->y.length=k->bp (cq E t') (cx.drop (j*t'.size)) x->bp (cq E t') (cy.drop (j*t'.size)) y->
     (forIn (List.range' j k) ((aF,()):Option Bool×Unit) λi __s=>(do
      let __do_lift <-part e cx.toArray (i*t'.size)
      let __do_lift_1 <-part e cy.toArray (i*t'.size)
      let __do_lift <-de d e __do_lift __do_lift_1
      if(!__do_lift)=aW then pure (ForInStep.done (aw aQ,())) else pure (ForInStep.yield (aF,())):Sem (ForInStep (Option Bool×Unit)))).run P w= .ok (if nE t'.beq x y then aF else aw aQ,()) w:=by
    intro k
    induction k with
    |zero=>
     intro x y j hx hy _ _;rw[List.length_eq_zero_iff.1 hx,List.length_eq_zero_iff.1 hy];rfl
    |succ k ih=>
     intro x y j hx hy hcx' hcy';cases x with
     |nil=>simp at hx
     |cons x0 xs=>
      cases y with
      |nil=>simp at hy
      |cons y0 ys=>
       have gx:=bp.get ajW hcx' 0 (by simp);have gy:=bp.get ajW hcy' 0 (by simp);simp only[nv,aM,List.getElem_cons_zero]at gx gy;have lenx:((cx.drop (j*t'.size)).take t'.size).length=t'.size:=gx.size;have leny:((cy.drop (j*t'.size)).take t'.size).length=t'.size:=gy.size;have LN:t'.size≠0:=by simpa using aCI
       have aGR:j*t'.size+t'.size<=cx.length:=by simp only[ct,da]at lenx;omega
       have aJS:j*t'.size+t'.size<=cy.length:=by simp only[ct,da]at leny;omega
       obtain⟨ux,h1,o1⟩:=wU (w:=w) LM pd bx (cs:=cx) (off:=j*t'.size) aGR;obtain⟨uy,h2,o2⟩:=wU (w:=w) LM pd bx (cs:=cy) (off:=j*t'.size) aJS;have h3:=vH E hE n e t' w8 d ak _ _ x0 y0 ux uy gx gy o1 o2;have nx:bp (cq E t') (cx.drop ((j+1)*t'.size)) xs:=by have:=bp.drop ajW 1 hcx';rw[fL]at this;simpa[eG]using this
       have ny:bp (cq E t') (cy.drop ((j+1)*t'.size)) ys:=by have:=bp.drop ajW 1 hcy';rw[fL]at this;simpa[eG]using this
       have:=ih xs ys (j+1) (by simpa using hx) (by simpa using hy) nx ny;rw[List.range'_succ,List.forIn_cons];simp only[cg,h1,h2,h3,bE,US];rcases dN (t'.beq x0 y0) with hb | hb
       ·simp only[hb,cd,bU,bz,dF,bE,bI];exact this
       ·simp only[hb,eP,bN,dF,bE,dG,bU,bz]
   have:=key m x y 0 aGW aJW (by simpa using aGJ) (by simpa using aJI);rw[this];show _=Result.ok (nE t'.beq x y) w;cases nE t'.beq x y <;> rfl
  ·rename_i t0 _ _ fs hT;simp only[al,cD]at h;obtain⟨uU,aCt⟩:=h;have hF:P.fieldsOf T=fs:=by simp[Program.fieldsOf,hT]
   have hT':P.underlying T=aw (.struct (P.fieldsOf T)):=by rw[hF];exact hT
   have key:∀(fl:List Field) (t:Ty) (off:Nat),Kt P (sR P n) fl t off=aW->∀(x y:t.den),cq E t (cx.drop off) x->cq E t (cy.drop off) y->
     (Op.eqFields d cx.toArray cy.toArray fl).run P w= .ok (t.beq x y) w:=by
    intro fl
    induction fl with
    |nil=>
     intro t off hc x y _ _;cases t <;> first | (simp[Kt]at hc;done) | rfl
    |cons f fl ih=>
     intro t off hc x y hx hy;cases t <;> first | (simp[Kt]at hc;done) | skip
     rename_i ta tb;simp only[Kt,al,cD,dp,fv]at hc;obtain⟨⟨⟨⟨⟨⟨aG1,azK⟩,hz⟩,pd⟩,LM⟩,w8⟩,avE⟩:=hc;simp only[cq]at hx hy;obtain⟨xa,xb,ex,aFj,aD1⟩:=hx;obtain⟨ya,yb,ey,aJp,aKg⟩:=hy;have bx:ta.agg=aQ->ta.size=1:=wW;have lx:xa.length=ta.size:=aFj.size;have ly:ya.length=ta.size:=aJp.size;have split:∀(cs xa xb:List Value),cs.drop off=xa++xb->xa.length=ta.size->(cs.drop off).take ta.size=xa/\cs.drop (off+ta.size)=xb/\off+ta.size<=cs.length:=by intro cs xa xb e l;refine⟨by rw[e];exact kY l,by rw[<-fL,e];exact kX l,?_⟩;have:=c7 ae e;simp only[da,ai]at this;omega
     obtain⟨sx1,sx2,sx3⟩:=split cx xa xb ex lx;obtain⟨sy1,sy2,sy3⟩:=split cy ya yb ey ly;obtain⟨ux,h1,o1⟩:=wU (w:=w) LM pd bx (cs:=cx) (off:=off) sx3;obtain⟨uy,h2,o2⟩:=wU (w:=w) LM pd bx (cs:=cy) (off:=off) sy3;rw[sx1]at o1;rw[sy1]at o2;have h3:=vH E hE n f.type ta w8 d ak _ _ x.1 y.1 ux uy aFj aJp o1 o2;have h4:=ih tb (off+ta.size) avE x.2 y.2 (by rw[sx2];exact aD1) (by rw[sy2];exact aKg);simp only[Op.eqFields,ne_eq,aG1,not_false_eq_true,bN,cg,azK,h1,h2,h3,bE];show _=Result.ok (ta.beq x.1 y.1 && tb.beq x.2 y.2) w;rcases dN (ta.beq x.1 y.1) with hb | hb
     ·simp only[hb,cd,bU,bz,bI];exact h4
     ·simp[hb]
   have LM:t0.agg=aW:=by cases hl:fs.toList <;> rw[hl]at aCt <;> cases t0 <;> first | rfl | (simp[Kt]at aCt;done)
   rw[LM]at hu hv;have e1:u= .agg cx.toArray:=hu;have e2:v= .agg cy.toArray:=hv;subst e1 e2;rw[run_equalIn_struct w d T _ _ hT' uU,hF];exact key fs.toList t0 0 aCt x y (by simpa using hx) (by simpa using hy)
  ·cases h
end
end Go.Ab
namespace Go.Ab
section
variable {P:aR} {C:Ctx} {g:Nat->iF} {β:Id->Option Pl} {s:AS} {a:Act} {w:cj} {o:Oper}
theorem awB{E:Env}{v:aB}{y c:Value}(h:VS E v y)(hc:v.ee=aW)(ha:v.agg=aQ)(hV:∀cs,V E v cs->cs=[c]):y=c:=by have:=h.single hc ha;simpa using hV _ this
theorem Au{E:Env}{y:Value}(h:VS E .kq y):y= .pointer aF:=awB h rfl rfl λcs hv=>by simpa only[V]using hv
theorem TJ{E:Env}{y:Value}(h:VS E .vh y):y= .nilFunc:=awB h rfl rfl λcs hv=>by simpa only[V]using hv
theorem Uv{E:Env}{f:jF}{c:aB}{y:Value}(h:VS E (.fn f c) y):∃vs,y= .func (.func f) #[] vs.toArray/\VC E c vs:=by have h1:=h.single rfl rfl;simp only[V]at h1;obtain⟨vs,e,hc⟩:=h1;exact⟨vs,by simpa using e,hc⟩
theorem eA{T:TypeId}{u v:Value}{b:Bool}(h:∀d,(de (d+1) T u v).run P w= .ok b w):(Op.equal T u v).run P w= .ok b w:=h 9999
theorem Us{T:TypeId}{x y:aB}{u v:Value}{E:Env}(hx:VS E x u)(hy:VS E y v){b:Bool}(he:(xM P T x y).eval=aw b)(hE:E.w=w):
  (Op.equal T u v).run P w= .ok b w/\u≠ .nilIface/\(sC u=aQ\/(sC v=aW/\P.eqGuardType P.depth T=aQ))/\
   (∀op,binOp op T u v=(match op with | .eql=>do pure (.bool (<-Op.equal T u v)) | .neq=>do pure (.bool (!(<-Op.equal T u v))) | _=>binOp op T u v)):=by
 unfold xM at he;split at he
 ·rename_i t x' t' y';obtain⟨y'',h1,h2⟩:=ax.1 he;obtain⟨e,h1⟩:=iY (gB.1 h1);obtain rfl:t'=t:=Ty.gC.inj e;simp only at h1;subst h1;obtain⟨h3,h4⟩:=aD.1 h2;obtain rfl:=ay.1 h4;simp only[al]at h3;obtain⟨h1,hn⟩:=h3;unfold aFm at h1;split at h1 <;> try (cases h1;done)
  rename_i U hT;obtain⟨cx,hVx,hOx⟩:=hx.ee rfl;obtain⟨cy,hVy,hOy⟩:=hy.ee rfl;simp only[V]at hVx hVy;obtain⟨⟨_,rfl⟩,⟨_,rfl⟩,hr⟩:=UM hE hT h1 hn hVx hVy hOx hOy;exact⟨eA hr,by simp,.inl rfl,λop=>by cases op <;> rfl⟩
 ·rename_i t x' t' y' _;obtain⟨y'',h1,h2⟩:=ax.1 he;obtain⟨rfl,h1⟩:=iY (gB.1 h1);simp only at h1;subst h1;obtain⟨h3,h4⟩:=aD.1 h2;obtain rfl:=ay.1 h4;simp only[al,ju,cD,bh]at h3;obtain⟨h3,h5⟩:=h3;obtain⟨cx,hVx,hOx⟩:=hx.ee rfl;obtain⟨cy,hVy,hOy⟩:=hy.ee rfl;simp only[V]at hVx hVy;have hr:=vH (w:=w) E hE depth T t' h5 10000 gw cx cy x' y' u v hVx hVy hOx hOy;refine⟨hr,?_⟩;rcases h3 with⟨LM,aJN⟩ | rfl
  ·have hOx':gr t'.agg cx u:=hOx;have hOy':gr t'.agg cy v:=hOy;rw[LM]at hOx' hOy';have e1:u= .agg cx.toArray:=hOx';have e2:v= .agg cy.toArray:=hOy';subst e1 e2;exact⟨by simp,.inr ⟨rfl,aJN⟩,λop=>by cases op <;> rfl⟩
  ·simp only[cq]at hVx hVy;have e1:cx=[u]:=hOx;have e2:cy=[v]:=hOy;rw[hVx]at e1;rw[hVy]at e2;simp only[bF,eF]at e1 e2;subst e1 e2;exact⟨by simp,.inl rfl,λop=>by cases op <;> rfl⟩
 ·obtain⟨h1,h2⟩:=aD.1 he;obtain rfl:=ay.1 h2;rw[lD hx,lD hy];unfold xM.isSl at h1;split at h1 <;> try (cases h1;done)
  rename_i e hT;exact⟨eA λd=>by simp[de,run_underlying hT],by simp,.inl rfl,λop=>by cases op <;> rfl⟩
 ·obtain⟨h1,h2⟩:=aD.1 he;obtain⟨h3,h4⟩:=bO.1 h2;obtain rfl:=ay.1 h4;obtain⟨ad,cap,vs,rfl,_,hs,_⟩:=wX hx;rw[lD hy];have hs:=hs (by simpa using h3);obtain⟨ad',rfl⟩:=cv.1 hs;unfold xM.isSl at h1;split at h1 <;> try (cases h1;done)
  rename_i e hT;exact⟨eA λd=>by simp[de,run_underlying hT],by simp,.inl rfl,λop=>by cases op <;> rfl⟩
 ·obtain⟨h1,h2⟩:=aD.1 he;obtain⟨h3,h4⟩:=bO.1 h2;obtain rfl:=ay.1 h4;obtain⟨ad,cap,vs,rfl,_,hs,_⟩:=wX hy;rw[lD hx];have hs:=hs (by simpa using h3);obtain⟨ad',rfl⟩:=cv.1 hs;unfold xM.isSl at h1;split at h1 <;> try (cases h1;done)
  rename_i e hT;exact⟨eA λd=>by simp[de,run_underlying hT],by simp,.inl rfl,λop=>by cases op <;> rfl⟩
 ·obtain⟨h1,h2⟩:=aD.1 he;obtain⟨h3,h4⟩:=bO.1 h2;obtain rfl:=ay.1 h4;obtain⟨ad,cap,rfl,_,hs,_⟩:=sa hx;rw[lD hy];have hs:=hs (by simpa using h3);obtain⟨ad',rfl⟩:=cv.1 hs;unfold xM.isSl at h1;split at h1 <;> try (cases h1;done)
  rename_i e hT;exact⟨eA λd=>by simp[de,run_underlying hT],by simp,.inl rfl,λop=>by cases op <;> rfl⟩
 ·obtain⟨h1,h2⟩:=aD.1 he;obtain⟨h3,h4⟩:=bO.1 h2;obtain rfl:=ay.1 h4;obtain⟨ad,cap,rfl,_,hs,_⟩:=sa hy;rw[lD hx];have hs:=hs (by simpa using h3);obtain⟨ad',rfl⟩:=cv.1 hs;unfold xM.isSl at h1;split at h1 <;> try (cases h1;done)
  rename_i e hT;exact⟨eA λd=>by simp[de,run_underlying hT],by simp,.inl rfl,λop=>by cases op <;> rfl⟩
 ·obtain⟨h1,h2⟩:=aD.1 he;obtain rfl:=ay.1 h2;rw[Au hx,Au hy];unfold xM.isPt at h1;split at h1 <;> try (cases h1;done)
  rename_i e hT;exact⟨eA λd=>by simp[de,run_underlying hT],by simp,.inl rfl,λop=>by cases op <;> rfl⟩
 ·obtain⟨h1,h2⟩:=aD.1 he;obtain rfl:=ay.1 h2;obtain⟨ad,rfl,_⟩:=tJ hx;rw[Au hy];unfold xM.isPt at h1;split at h1 <;> try (cases h1;done)
  rename_i e hT;exact⟨eA λd=>by simp[de,run_underlying hT],by simp,.inl rfl,λop=>by cases op <;> rfl⟩
 ·obtain⟨h1,h2⟩:=aD.1 he;obtain rfl:=ay.1 h2;obtain⟨ad,rfl,_⟩:=tJ hy;rw[Au hx];unfold xM.isPt at h1;split at h1 <;> try (cases h1;done)
  rename_i e hT;exact⟨eA λd=>by simp[de,run_underlying hT],by simp,.inl rfl,λop=>by cases op <;> rfl⟩
 ·rename_i t q;obtain⟨h1,h2⟩:=aD.1 he;obtain rfl:=ay.1 h2;unfold xM.isPt at h1;split at h1 <;> try (cases h1;done)
  rename_i e hT;rw[Au hy];cases q with
  |none=>
   rw[aaW hx];exact⟨eA λd=>by simp[de,run_underlying hT],by simp,.inl rfl,λop=>by cases op <;> rfl⟩
  |some z=>
   obtain⟨b,off,vs,rfl,_⟩:=nP (Ml hx);exact⟨eA λd=>by simp[de,run_underlying hT],by simp,.inl rfl,λop=>by cases op <;> rfl⟩
 ·rename_i t q;obtain⟨h1,h2⟩:=aD.1 he;obtain rfl:=ay.1 h2;unfold xM.isPt at h1;split at h1 <;> try (cases h1;done)
  rename_i e hT;rw[Au hx];cases q with
  |none=>
   rw[aaW hy];exact⟨eA λd=>by simp[de,run_underlying hT],by simp,.inl rfl,λop=>by cases op <;> rfl⟩
  |some z=>
   obtain⟨b,off,vs,rfl,_⟩:=nP (Ml hy);exact⟨eA λd=>by simp[de,run_underlying hT],by simp,.inl rfl,λop=>by cases op <;> rfl⟩
 ·rename_i t q;obtain⟨h1,h2⟩:=aD.1 he;obtain rfl:=ay.1 h2;unfold xM.isPt at h1;split at h1 <;> try (cases h1;done)
  rename_i e hT;rw[Au hy];cases q with
  |none=>
   rw[aa5 hx];exact⟨eA λd=>by simp[de,run_underlying hT],by simp,.inl rfl,λop=>by cases op <;> rfl⟩
  |some z=>
   obtain⟨b,off,vs,rfl,_⟩:=nP (MD hx);exact⟨eA λd=>by simp[de,run_underlying hT],by simp,.inl rfl,λop=>by cases op <;> rfl⟩
 ·rename_i t q;obtain⟨h1,h2⟩:=aD.1 he;obtain rfl:=ay.1 h2;unfold xM.isPt at h1;split at h1 <;> try (cases h1;done)
  rename_i e hT;rw[Au hx];cases q with
  |none=>
   rw[aa5 hy];exact⟨eA λd=>by simp[de,run_underlying hT],by simp,.inl rfl,λop=>by cases op <;> rfl⟩
  |some z=>
   obtain⟨b,off,vs,rfl,_⟩:=nP (MD hy);exact⟨eA λd=>by simp[de,run_underlying hT],by simp,.inl rfl,λop=>by cases op <;> rfl⟩
 ·obtain⟨h1,h2⟩:=aD.1 he;obtain rfl:=ay.1 h2;rw[TJ hx,TJ hy];unfold xM.isFn at h1;split at h1 <;> try (cases h1;done)
  rename_i hT;exact⟨eA λd=>by simp[de,run_underlying hT],by simp,.inl rfl,λop=>by cases op <;> rfl⟩
 ·obtain⟨h1,h2⟩:=aD.1 he;obtain rfl:=ay.1 h2;obtain⟨vs,rfl,_⟩:=Uv hx;rw[TJ hy];unfold xM.isFn at h1;split at h1 <;> try (cases h1;done)
  rename_i hT;exact⟨eA λd=>by simp[de,run_underlying hT],by simp,.inl rfl,λop=>by cases op <;> rfl⟩
 ·obtain⟨h1,h2⟩:=aD.1 he;obtain rfl:=ay.1 h2;obtain⟨vs,rfl,_⟩:=Uv hy;rw[TJ hx];unfold xM.isFn at h1;split at h1 <;> try (cases h1;done)
  rename_i hT;exact⟨eA λd=>by simp[de,run_underlying hT],by simp,.inl rfl,λop=>by cases op <;> rfl⟩
 ·simp only[av]at he
theorem ago{op:BinOp}{T:TypeId}{x y:bH}{u v:Value}(hu:sC u=aW)(hv:sC v=aW)(hm:P.eqGuardType P.depth T=aQ):(eqGuard op T x y u v).run P w= .ok () w:=by
 cases u <;> first | (simp[sC]at hu;done) | skip
 cases v <;> first | (simp[sC]at hv;done) | skip
 exact run_eqGuard_agg w op T x y _ _ hm
theorem akb(h:Inv C g β s a w){op:BinOp}{T U:TypeId}{x y:bH}(ho:o.op= .binOp op T x y U){v:aB}(he:(aB9 P T op (s.ev x) (s.ev y)).eval=aw v):fq P o a w (gl C (s.put o.dst v)):=by
 have hx:=h.ev x;have hy:=h.ev y;have fin:∀z,(binOp op T (a.eval x) (a.eval y)).run P w= .ok z w->(eqGuard op T x y (a.eval x) (a.eval y)).run P w= .ok () w->VS (s.env w g β) v z->fq P o a w (gl C (s.put o.dst v)):=by
  intro z h1 h2 h3;refine h.value h3 ?_
  simp[execOp,ho,h1,h2]
 unfold aB9 at he;split at he
 ·rename_i k n k' m hn hm;rw[hn]at hx;rw[hm]at hy;have e1:=tA hx;have e2:=tA hy;obtain⟨z,h1,h2⟩:=agM (P:=P) (w:=w) he T (s.env w g β);exact fin z (by rw[e1,e2];exact h1) (by rw[e1,e2];exact ou (by simp) rfl) h2
 ·rename_i n m hn hm;rw[hn]at hx;rw[hm]at hy;have e1:=HJ hx;have e2:=HJ hy;obtain⟨z,h1,h2⟩:=aje (P:=P) (w:=w) he T (s.env w g β);exact fin z (by rw[e1,e2];exact h1) (by rw[e1,e2];exact ou (by simp) rfl) h2
 ·have grd:(sC (a.eval x)=aQ\/(sC (a.eval y)=aW/\P.eqGuardType P.depth T=aQ))->a.eval x≠ .nilIface->(eqGuard op T x y (a.eval x) (a.eval y)).run P w= .ok () w:=by
   intro hh jR;rcases hh with hh | ⟨hh,hm⟩
   ·exact ou jR hh
   ·rcases dN (sC (a.eval x)) with hx | hx
    ·exact ago hx hh hm
    ·exact ou jR hx
  split at he
  ·obtain⟨b,h1,h2⟩:=ax.1 he;obtain rfl:=ay.1 h2;obtain⟨q1,q2,q3,q4⟩:=Us (w:=w) hx hy h1 rfl;refine fin (.bool b) ?_ (grd q3 q2) (vG b)
   rw[q4 .eql];simp[q1]
  ·obtain⟨b,h1,h2⟩:=ax.1 he;obtain rfl:=ay.1 h2;obtain⟨q1,q2,q3,q4⟩:=Us (w:=w) hx hy h1 rfl;refine fin (.bool (!b)) ?_ (grd q3 q2) (vG (!b))
   rw[q4 .neq];simp[q1]
  ·simp only[av]at he
theorem atP(h:Inv C g β s a w){op:UnOp}{T:TypeId}{x:bH}(ho:o.op= .unOp op T x){v:aB}(he:(aGl op (s.ev x)).eval=aw v):fq P o a w (gl C (s.put o.dst v)):=by
 have hx:=h.ev x;unfold aGl at he;split at he
 ·rename_i b hb;rw[hb]at hx;obtain rfl:=ay.1 he;exact h.value (vG _) (by simp[execOp,ho,LY hx,Op.unary])
 ·rename_i k n hb;rw[hb]at hx;obtain rfl:=ay.1 he;exact h.value (kV _ _) (by simp[execOp,ho,tA hx,Op.unary,Op.intArith])
 ·rename_i k n hb;rw[hb]at hx;obtain rfl:=ay.1 he;refine h.value (kV _ _) ?_
  simp only[execOp,ho,tA hx,Op.unary,Op.intBits];simp[cF]
 ·simp only[av]at he
end
end Go.Ab
namespace Go.Ab
section
variable {P:aR} {C:Ctx} {g:Nat->iF} {β:Id->Option Pl} {s:AS} {a:Act} {w:cj} {o:Oper}
theorem yO{E:Env}{v:aB}{y:Value}(h:VS E v y){n:Int}(he:(asInt v).eval=aw n):∃k,y= .int k n:=by
 unfold asInt at he;split at he
 ·rename_i k m;obtain rfl:=ay.1 he;exact⟨k,tA h⟩
 ·simp only[av]at he
theorem yL{k:kN}{i:Int}{y:Nat}(code:BoundsCode)(h:0<=i/\i<=(y:Int)):(Instr.sliceBound (.int k i) y code).run P w= .ok i.toNat w:=run_sliceBound w k i y code h.1 h.2
theorem xF(h:Inv C g β s a w){n cap:Nat}(hn:n<=cap){lo hi:Option bH}{r:Nat×Nat}(he:(bounds s n lo hi).eval=aw r)(isS:Bool){mx:Option Value}{cap':Nat}
  (hm:(mx=aF/\cap'=cap)\/∃k mv,hi.isSome=aW/\mx=aw (.int k mv)/\(r.2:Int)<=mv/\mv<=n/\cap'=mv.toNat):
  (Instr.sliceBounds isS n cap (lo.map a.eval) (hi.map a.eval) mx).run P w= .ok (r.1,r.2,cap') w/\r.1<=r.2/\r.2<=n:=by
 unfold bounds at he;obtain⟨hh,h1,h2⟩:=ax.1 he;obtain⟨ll,h3,h4⟩:=ax.1 h2;obtain rfl:=ay.1 h4;have aEZ:hh<=n/\∀y,hi.map a.eval=aw y->∃k i,y= .int k i/\0<=i/\i<=(n:Int)/\hh=i.toNat:=by
  cases hi with
  |none=>
   simp only at h1;obtain rfl:=ay.1 h1;exact⟨az _,λy hy=>by cases hy⟩
  |some x=>
   simp only at h1;obtain⟨i,q1,q2⟩:=ax.1 h1;obtain⟨q3,q4⟩:=bO.1 q2;obtain rfl:=ay.1 q4;simp only[bh]at q3;obtain⟨k,hk⟩:=yO (h.ev x) q1;refine⟨ak,λy hy=> ?_⟩;simp only[eZ,aA]at hy;exact⟨k,i,by rw[<-hy];exact hk,q3.1,q3.2,rfl⟩
 have aCu:hi.map a.eval=aF->hh=n:=by
  intro hy;cases hi with
  |none=>simp only at h1;exact(ay.1 h1).symm
  |some x=>cases hy
 have lo1:ll<=hh/\∀y,lo.map a.eval=aw y->∃k i,y= .int k i/\0<=i/\i<=(hh:Int)/\ll=i.toNat:=by
  cases lo with
  |none=>
   simp only at h3;obtain rfl:=ay.1 h3;exact⟨aL _,λy hy=>by cases hy⟩
  |some x=>
   simp only at h3;obtain⟨i,q1,q2⟩:=ax.1 h3;obtain⟨q3,q4⟩:=bO.1 q2;obtain rfl:=ay.1 q4;simp only[bh]at q3;obtain⟨k,hk⟩:=yO (h.ev x) q1;refine⟨ak,λy hy=> ?_⟩;simp only[eZ,aA]at hy;exact⟨k,i,by rw[<-hy];exact hk,q3.1,q3.2,rfl⟩
 have lo0:lo.map a.eval=aF->ll=0:=by
  intro hy;cases lo with
  |none=>simp only at h3;exact(ay.1 h3).symm
  |some x=>cases hy
 refine⟨?_,lo1.1,aEZ.1⟩;unfold Instr.sliceBounds;rcases hm with⟨rfl,rfl⟩ | ⟨k2,mv,hs,rfl,aJh,aLl,rfl⟩
 ·cases aF9:hi.map a.eval with
  |none=>
   obtain rfl:=aCu aF9;cases Q6:lo.map a.eval with
   |none=>
    obtain rfl:=lo0 Q6;rfl
   |some y=>
    obtain⟨k,i,rfl,q1,q2,rfl⟩:=lo1.2 y Q6;simp only[cg,dF,bE,yL _ ⟨q1,q2⟩]
  |some z=>
   obtain⟨k',i',rfl,p1,p2,rfl⟩:=aEZ.2 z aF9;have hb:∀code,(Instr.sliceBound (.int k' i') cap' code).run P w= .ok i'.toNat w:=λcode=>yL code ⟨p1,ak⟩
   cases Q6:lo.map a.eval with
   |none=>
    obtain rfl:=lo0 Q6;simp only[cg,dF,bE,hb]
   |some y=>
    obtain⟨k,i,rfl,q1,q2,rfl⟩:=lo1.2 y Q6;simp only[cg,dF,bE,hb,yL _ ⟨q1,q2⟩]
 ·cases aF9:hi.map a.eval with
  |none=>cases hi <;> simp_all
  |some z=>
   obtain⟨k',i',rfl,p1,p2,rfl⟩:=aEZ.2 z aF9;have aJh:((i'.toNat:Nat):Int)<=mv:=aJh;have h0:∀code,(Instr.sliceBound (.int k2 mv) cap code).run P w= .ok mv.toNat w:=λcode=>yL code ⟨ak,ak⟩
   have hb:∀code,(Instr.sliceBound (.int k' i') mv.toNat code).run P w= .ok i'.toNat w:=λcode=>yL code ⟨p1,ak⟩
   cases Q6:lo.map a.eval with
   |none=>
    obtain rfl:=lo0 Q6;simp only[cg,dF,bE,hb,h0]
   |some y=>
    obtain⟨k,i,rfl,q1,q2,rfl⟩:=lo1.2 y Q6;simp only[cg,dF,bE,hb,h0,yL _ ⟨q1,q2⟩]
theorem mF{T:TypeId}{z:Nat}(h1:km P T=aw z)(h2:wG P T=aF):∃e,P.underlying T=aw (.slice e)/\P.cellsOf e=z/\0 < z:=by
 unfold km at h1;unfold wG at h2;split at h1
 ·rename_i n e hT;rw[hT]at h2;cases h2
 ·rename_i e hT;cases hc:P.cellsOf e with
  |zero=>rw[hc]at h1;cases h1
  |succ k=>
   rw[hc]at h1;simp only[aA]at h1;exact⟨e,hT,ak,ak⟩
 ·cases h1
theorem xK{T:TypeId}{z n:Nat}(h1:km P T=aw z)(h2:wG P T=aw n):∃e,P.underlying T=aw (.array n e)/\P.cellsOf e=z/\0 < z:=by
 unfold km at h1;unfold wG at h2;split at h1
 ·rename_i n e hT;rw[hT]at h2;simp only[aA]at h2;subst h2;cases hc:P.cellsOf e with
  |zero=>rw[hc]at h1;cases h1
  |succ k=>
   rw[hc]at h1;simp only[aA]at h1;exact⟨e,hT,ak,ak⟩
 ·rename_i e hT;rw[hT]at h2;cases h2
 ·cases h1
theorem pC{e:TypeId}{z:Nat}(h:P.cellsOf e=z)(hz:0 < z)(w:cj):(sizeOf e).run P w= .ok z w:=by
 unfold Program.cellsOf at h;cases hi:P.info? e with
 |none=>rw[hi]at h;simp at h;omega
 |some i=>rw[hi]at h;rw[run_sizeOf hi];simpa using h
set_option maxHeartbeats 1000000 in
theorem XB(h:Inv C g β s a w){T:TypeId}{x:bH}{lo hi mx:Option bH}(ho:o.op= .slice T x lo hi mx)
  (hm:mx=aF\/∃m y hv mv,mx=aw m/\hi=aw y/\(asInt (s.ev y)).eval=aw hv/\(asInt (s.ev m)).eval=aw mv/\0<=hv/\hv<=mv/\mv<=az6 (s.ev x))
  {v:aB} (he:(HG P s T (s.ev x) lo hi).eval=aw v):fq P o a w (gl C (s.put o.dst (agi mx v))):=by
 have hx:=h.ev x;have fin:∀z,(Instr.sliceAt T (a.eval x) (lo.map a.eval) (hi.map a.eval) (mx.map a.eval)).run P w= .ok z w->VS (s.env w g β) (agi mx v) z->fq P o a w (gl C (s.put o.dst (agi mx v))):=by intro z h1 h2;exact h.value h2 (eh (f:=Instr.sliceAt T (a.eval x) (lo.map a.eval) (hi.map a.eval) (mx.map a.eval)) (by simp only[execOp,ho]) h1)
 have no:∀ {q:Prop},az6 (s.ev x)= -1->(mx=aF->q)->q:=by
  intro q h1 h2;rcases hm with h3 | ⟨_,_,hv,mv,_,_,_,_,h3,h4,h5⟩
  ·exact h2 h3
  ·omega
 have sl:∀(e:TypeId) (z:Nat) (ad:Option Addr) (len cap:Nat) (b:Nat×Nat),az6 (s.ev x)=(len:Int)->P.underlying T=aw (.slice e)->P.cellsOf e=z->0 < z->a.eval x= .slice ad len cap->len<=cap->(bounds s len lo hi).eval=aw b->
   ∃cap',(Instr.sliceAt T (a.eval x) (lo.map a.eval) (hi.map a.eval) (mx.map a.eval)).run P w= .ok (.slice (if cap'=b.1 then ad else ad.map (·.add (b.1*z))) (b.2 - b.1) (cap' - b.1)) w/\b.1<=b.2/\b.2<=len/\b.2<=cap'/\cap'<=cap/\(mx=aF->cap'=cap):=by
  intro e z ad len cap b hL hT hz th hy atZ hb;rcases hm with rfl | ⟨m,y,hv,mv,rfl,rfl,q1,q2,q3,q4,q5⟩
  ·obtain⟨h1,h2,h3⟩:=xF (P:=P) h atZ hb aW (.inl ⟨rfl,rfl⟩);refine⟨cap,?_,h2,h3,ak,az _,λ_=>rfl⟩;rw[hy];simp[Instr.sliceAt,Instr.slice,run_underlying hT,h1,pC hz th]
  ·obtain⟨k,hk⟩:=yO (h.ev m) q2;have ON:(b.2:Int)<=mv:=by obtain⟨hh,h1,h2⟩:=ax.1 hb;obtain⟨i,r1,r2⟩:=ax.1 h1;obtain⟨r3,r4⟩:=bO.1 r2;obtain rfl:=ay.1 r4;obtain⟨ll,_,h4⟩:=ax.1 h2;obtain rfl:=ay.1 h4;rw[q1]at r1;obtain rfl:=bu r1;show((hv.toNat:Nat):Int)<=mv;omega
   obtain⟨h1,h2,h3⟩:=xF (P:=P) h atZ hb aW (mx:=aw (.int k mv)) (cap':=mv.toNat) (.inr ⟨k,mv,rfl,rfl,ON,ak,rfl⟩);refine⟨mv.toNat,?_,h2,h3,ak,ak,λh=>by cases h⟩;rw[hy,eZ (a:=m),hk];simp[Instr.sliceAt,Instr.slice,run_underlying hT,pC hz th];simp only[eZ]at h1;simp[h1]
 have ar:∀(e:TypeId) (z n:Nat) (ad:Addr) (b:Nat×Nat),mx=aF->P.underlying T=aw (.array n e)->P.cellsOf e=z->0 < z->a.eval x= .pointer (aw ad)->(bounds s n lo hi).eval=aw b->
   (Instr.sliceAt T (a.eval x) (lo.map a.eval) (hi.map a.eval) (mx.map a.eval)).run P w= .ok (.slice (aw (if n=b.1 then ad else ad.add (b.1*z))) (b.2 - b.1) (n - b.1)) w/\b.1<=b.2/\b.2<=n:=by
  intro e z n ad b hN hT hz th hy hb;obtain⟨h1,h2,h3⟩:=xF (P:=P) h (az n) hb aQ (.inl ⟨rfl,rfl⟩);refine⟨?_,h2,h3⟩;rw[hy,hN];simp[Instr.sliceAt,Instr.sureAddr,run_underlying hT,h1,pC hz th]
 have cutR:∀(t:Ty) (z:Nat) (ad ad':Option Addr) (len' cap':Nat) (vs:List Value) (l:List t.den) (b:Nat×Nat),z=t.size->wz (s.env w g β) ad vs->bp (cq (s.env w g β) t) vs l->b.1<=b.2->b.2<=l.length->
   (∀bb off,ad=aw ⟨bb,off,aF⟩->b.1 < b.2->ad'=aw ⟨bb,off+b.1*z,aF⟩)->(b.1 < b.2->ad'.isSome=aW)->len'=b.2 - b.1->len'<=cap'->VS (s.env w g β) (.d (.slice t) (cut l b.1 (b.2 - b.1))) (.slice ad' len' cap'):=by
  intro t z ad ad' len' cap' vs l b hz hr hc h1 h2 aGC pc hlen hle;subst hz hlen;have atY:(cut l b.1 (b.2 - b.1)).length=b.2 - b.1:=C9 ak;refine⟨_,?_,rfl⟩;simp only[V,cq];refine⟨ad',cap',(vs.drop (b.1*t.size)).take ((b.2 - b.1)*t.size),by rw[atY],ak,by rw[atY];intro hp;exact pc ak,?_,Kk hc b.1 _⟩;intro i v hi;rw[cW]at hi;split at hi
  ·rename_i aJP;rw[fN]at hi;obtain⟨bb,off,e,hh⟩:=hr _ v hi;have jQ:b.1 < b.2:=by
    rcases pQ b.1 b.2 with h' | h'
    ·exact h'
    ·rw[kP h',nv]at aJP;omega
   exact⟨bb,_,aGC bb off e jQ,by rw[dz];exact hh⟩
  ·cases hi
 unfold HG at he;split at he
 ·rename_i st uU;rw[uU]at hx;have e1:=HJ hx;obtain⟨h1,h2⟩:=aD.1 he;obtain⟨b,h3,h4⟩:=ax.1 h2;obtain rfl:=ay.1 h4;split at h1 <;> try (cases h1;done)
  rename_i hT;obtain⟨q1,q2,q3⟩:=xF (P:=P) h (az _) h3 aQ (.inl ⟨rfl,rfl⟩);refine no (by rw[uU];rfl) λhN=> ?_
  subst hN;refine fin (.string (st.extract b.1 b.2)) ?_ (acA _)
  rw[e1];simp[Instr.sliceAt,Instr.slice,run_underlying hT,q1]
 ·rename_i t l hl;rw[hl]at hx;obtain⟨ad,cap,vs,hy,atZ,pc,nD,w8⟩:=wX hx;obtain⟨h1,h2⟩:=aD.1 he;obtain⟨b,h3,h4⟩:=ax.1 h2;obtain rfl:=ay.1 h4;split at h1 <;> try (cases h1;done)
  rename_i z LN KC;obtain⟨e,hT,hz,th⟩:=mF LN KC;have akR:z=t.size:=by simpa using h1
  obtain⟨cap',q1,q2,q3,q4,_,_⟩:=sl e z ad _ cap b (by rw[hl];rfl) hT hz th hy atZ h3;refine fin _ q1 ?_
  rw[show agi mx (.d (.slice t) (cut l b.1 (b.2 - b.1)))= .d (.slice t) (cut l b.1 (b.2 - b.1)) by cases mx <;> rfl];refine cutR t z ad _ _ _ vs l b akR nD w8 q2 q3 ?_ ?_ rfl ak
  ·intro bb off e1 jQ;rw[if_neg ak,e1];simp[eO]
  ·intro jQ;rw[if_neg ak];have:=pc ak;cases ad <;> simp_all
 ·rename_i hl;rw[hl]at hx;have hy:=lD hx;obtain⟨h1,h2⟩:=aD.1 he;obtain⟨b,h3,h4⟩:=ax.1 h2;obtain rfl:=ay.1 h4;split at h1 <;> try (cases h1;done)
  rename_i z LN KC;obtain⟨e,hT,hz,th⟩:=mF LN KC;obtain⟨cap',q1,q2,q3,q4,q6,q5⟩:=sl e z aF 0 0 b (by rw[hl];rfl) hT hz th hy (az _) h3;have OM:b.1=0:=ak;have ON:b.2=0:=ak;have Q5:cap'=0:=ak;refine fin _ q1 ?_
  rw[show agi mx .cw= .cw by cases mx <;> rfl,OM,ON,Q5];exact⟨_,by simp[V],rfl⟩
 ·rename_i id ver p c i len hl;rw[hl]at hx;obtain⟨ad,cap,hy,atZ,pc,UE,fH⟩:=sa hx;obtain⟨r,aCB,he⟩:=ax.1 he;obtain⟨h1,h2⟩:=aD.1 he;obtain⟨b,h3,h4⟩:=ax.1 h2;obtain rfl:=ay.1 h4;split at h1 <;> try (cases h1;done)
  rename_i z LN KC;obtain⟨e,hT,hz,th⟩:=mF LN KC;have akR:z=r.2.1.size:=by simpa using h1
  obtain⟨cap',q1,q2,q3,q4,q6,q5⟩:=sl e z ad _ cap b (by rw[hl];rfl) hT hz th hy atZ h3;obtain⟨p',aDU,SF⟩:∃p',agi mx (.dx id ver p (c+b.1*r.2.1.size) (i+b.1) (b.2 - b.1))= .dx id ver p' (c+b.1*r.2.1.size) (i+b.1) (b.2 - b.1)/\(p'=[]->p=[]/\mx=aF):=by
   cases mx with
   |none=>exact⟨p,rfl,λh=>⟨h,rfl⟩⟩
   |some m=>exact⟨p++ [.arr],rfl,λh=>by simp at h⟩
  refine fin _ q1 ?_
  rw[aDU];refine⟨_,?_,rfl⟩;simp only[V];refine⟨_,_,rfl,ak,?_,UE,λhc=> ?_⟩
  ·intro jQ;rw[if_neg ak];have:=pc ak;cases ad <;> simp_all
  ·have fH:=fH hc;cases hp:β id with
   |none=>
    have hp':(s.env w g β).β id=aF:=hp;rw[hp']at fH ⊢;simp only at fH ⊢;obtain⟨rfl,rfl,rfl⟩:=fH;have Q5:cap'=0:=ak;refine⟨by simp,ak,ak⟩
   |some pl=>
    have hp':(s.env w g β).β id=aw pl:=hp;rw[hp']at fH ⊢;simp only at fH ⊢;refine⟨λhh=> ?_,λaG7 aCu=> ?_⟩
    ·by_cases aCp:cap'=b.1
     ·rw[if_pos aCp];have aF2:b.1=0:=ak;rw[aF2,nv,bM];exact fH.1 (.inr ak)
     ·rw[if_neg aCp,fH.1 ak,<-akR];simp[eO]
    ·obtain⟨e1,e2⟩:=SF aG7;have:=fH.2 e1 ak;have:=q5 e2;omega
 ·rename_i id ver p n hl;rw[hl]at hx;obtain⟨ad,hy,UE,fH⟩:=tJ hx;obtain⟨r,aCB,he⟩:=ax.1 he;obtain⟨h1,h2⟩:=aD.1 he;obtain⟨h5,h6⟩:=bO.1 h2;obtain⟨b,h3,h4⟩:=ax.1 h6;obtain rfl:=ay.1 h4;split at h1 <;> try (cases h1;done)
  rename_i z m LN KC;obtain⟨e,hT,hz,th⟩:=xK LN KC;have akR:z=r.2.1.size:=by simpa using h1
  rw[KC,eM]at h3;refine no (by rw[hl];rfl) λhN=> ?_
  obtain⟨q1,q2,q3⟩:=ar e z m ad b hN hT hz th hy h3;subst hN;obtain⟨fr,c0,cQ,_⟩:=Qi rfl h.bD aCB;obtain⟨pl,hp,akF⟩:=fH ⟨fr,c0,cQ⟩;refine fin _ q1 ⟨_,?_,rfl⟩;simp only[agi,V];refine⟨_,_,rfl,ak,λ_=>rfl,UE,λ_=> ?_⟩;rw[hp];simp only;refine⟨λhh=> ?_,λaG7=>by simp at aG7⟩;rw[akF];by_cases aCp:m=b.1
  ·have aF2:b.1=0:=ak;rw[if_pos aCp,aF2,nv,bM]
  ·rw[if_neg aCp,<-akR,eO]
 ·rename_i n t l hl;rw[hl]at hx;obtain⟨bb,off,vs,hy,nD,hR⟩:=nP hx;obtain⟨h1,h2⟩:=aD.1 he;obtain⟨b,h3,h4⟩:=ax.1 h2;obtain rfl:=ay.1 h4;split at h1 <;> try (cases h1;done)
  rename_i z m LN KC;obtain⟨e,hT,hz,th⟩:=xK LN KC;simp only[al,dp]at h1;obtain⟨akR,rfl⟩:=h1;refine no (by rw[hl];rfl) λhN=> ?_
  obtain⟨q1,q2,q3⟩:=ar e z m _ b hN hT hz th hy h3;subst hN;simp only[cq]at hR;obtain⟨hlen,w8⟩:=hR;refine fin _ q1 (cutR t z (aw ⟨bb,off,aF⟩) _ _ _ vs l b akR nD w8 q2 ak ?_ (λ_=>rfl) rfl ak);intro bb' off' e1 jQ;simp only[aA,Addr.mk.injEq,eF]at e1;obtain⟨rfl,rfl⟩:=e1;rw[if_neg ak,eO]
 ·simp only[av]at he
end
end Go.Ab
namespace Go.Ab
section
variable {P:aR} {C:Ctx} {g:Nat->iF} {β:Id->Option Pl} {s:AS} {a:Act} {w:cj} {o:Oper}
theorem aBR{E:Env}{z n:Nat}{y:Value}(h:VS E (.d (.js z) n) y):
  ∃cap,(∃ad,y= .slice ad n cap)/\(0 < n->∃ad,y= .slice (aw ad) n cap/\∃b off,ad=⟨b,off,aF⟩/\ajZ E b (off+n*z)):=by
 obtain⟨cs,hv,ho⟩:=h;simp only[V,cq]at hv;obtain⟨ad,cap,e,hl,hj⟩:=hv;have ho':cs=[y]:=ho;rw[e]at ho';have ho':y= .slice ad (n:Nat) cap:=by simpa using ho'.symm
 exact⟨cap,⟨ad,ho'⟩,λhn=>let⟨b,off,h1,h2⟩:=hj hn;⟨_,by rw[ho',h1],b,off,rfl,h2⟩⟩
theorem UK(h:Inv C g β s a w){T:TypeId}{x y:bH}(ho:o.op= .indexAddr T x y){i:Int}(hi:(asInt (s.ev y)).eval=aw i){v:aB}(he:(sA P s T (s.ev x) i).eval=aw v):fq P o a w (gl C (s.put o.dst v)):=by
 have hx:=h.ev x;obtain⟨k,hy⟩:=yO (h.ev y) hi;have fin:∀z,(Instr.indexAt T (a.eval x) (a.eval y)).run P w= .ok z w->VS (s.env w g β) v z->fq P o a w (gl C (s.put o.dst v)):=by intro z h1 h2;exact h.value h2 (eh (f:=Instr.indexAt T (a.eval x) (a.eval y)) (by simp only[execOp,ho]) h1)
 have sl:∀(e:TypeId) (z:Nat) (ad:Addr) (len cap:Nat),P.underlying T=aw (.slice e)->P.cellsOf e=z->0 < z->a.eval x= .slice (aw ad) len cap->0<=i/\i < (len:Int)->
   (Instr.indexAt T (a.eval x) (a.eval y)).run P w= .ok (.pointer (aw (ad.add (i.toNat*z)))) w:=by
  intro e z ad len cap hT hz th hv hb;rw[hv,hy];simp[Instr.indexAt,asIntOf,run_underlying hT,hb,pC hz th]
 have ar:∀(e:TypeId) (z n:Nat) (ad:Addr),P.underlying T=aw (.array n e)->P.cellsOf e=z->0 < z->a.eval x= .pointer (aw ad)->0<=i/\i < (n:Int)->
   (Instr.indexAt T (a.eval x) (a.eval y)).run P w= .ok (.pointer (aw (ad.add (i.toNat*z)))) w:=by
  intro e z n ad hT hz th hv hb;rw[hv,hy];simp[Instr.indexAt,Instr.sureAddr,asIntOf,run_underlying hT,hb,pC hz th]
 have elt:∀(t:Ty) (z:Nat) (bb off:Nat) (vs:List Value) (l:List t.den),z=t.size->wz (s.env w g β) (aw ⟨bb,off,aF⟩) vs->bp (cq (s.env w g β) t) vs l->0<=i/\i < (l.length:Int)->
   VS (s.env w g β) (.dB t (nth t l i.toNat)) (.pointer (aw ⟨bb,off+i.toNat*z,aF⟩)):=by
  intro t z bb off vs l hz hr hc hb;subst hz;have jQ:i.toNat < l.length:=ak;rw[Vz jQ];obtain⟨hp,_⟩:=NR hc jQ;refine⟨_,?_,rfl⟩;simp only[V];refine⟨_,_,_,rfl,λj v hj=> ?_,hp⟩;rw[cW]at hj;split at hj
  ·rw[fN]at hj;obtain⟨b',o',e,hh⟩:=hr _ v hj;simp only[aA,Addr.mk.injEq,eF]at e;obtain⟨rfl,rfl⟩:=e;exact⟨_,_,rfl,by rw[dz];exact hh⟩
  ·cases hj
 unfold sA at he;split at he
 ·rename_i t l hl;rw[hl]at hx;obtain⟨ad,cap,vs,hv,atZ,pc,nD,w8⟩:=wX hx;obtain⟨h1,h2⟩:=aD.1 he;obtain⟨h3,h4⟩:=bO.1 h2;obtain rfl:=ay.1 h4;simp only[bh]at h3;split at h1 <;> try (cases h1;done)
  rename_i z LN KC;obtain⟨e,hT,hz,th⟩:=mF LN KC;have akR:z=t.size:=by simpa using h1
  have hlen:=bp.length (λc x hx=>cq.size hx) w8;have jQ:i.toNat < l.length:=ak;have h0:0 < vs.length:=by rw[hlen];exact Nat.mul_pos ak ak
  obtain⟨bb,off,e1,_⟩:=nD 0 vs[0] (by simp[h0]);subst e1;have:=sl e z _ _ cap hT hz th hv h3;rw[eO]at this;exact fin _ this (elt t z bb off vs l akR nD w8 h3)
 ·rename_i n t l hl;rw[hl]at hx;obtain⟨bb,off,vs,hv,nD,hR⟩:=nP hx;obtain⟨h1,h2⟩:=aD.1 he;obtain⟨h3,h4⟩:=bO.1 h2;obtain rfl:=ay.1 h4;simp only[bh]at h3;split at h1 <;> try (cases h1;done)
  rename_i z m LN KC;obtain⟨e,hT,hz,th⟩:=xK LN KC;simp only[al,dp]at h1;obtain⟨akR,rfl⟩:=h1;simp only[cq]at hR;have:=ar e z m _ hT hz th hv h3;rw[eO]at this;exact fin _ this (elt t z bb off vs l akR nD hR.2 (by rw[hR.1];exact h3))
 ·rename_i id ver p c j len hl;rw[hl]at hx;obtain⟨ad,cap,hv,atZ,pc,UE,fH⟩:=sa hx;obtain⟨r,aCB,he⟩:=ax.1 he;obtain⟨h1,h2⟩:=aD.1 he;obtain⟨h3,h4⟩:=bO.1 h2;obtain rfl:=ay.1 h4;simp only[bh]at h3;split at h1 <;> try (cases h1;done)
  rename_i z LN KC;obtain⟨e,hT,hz,th⟩:=mF LN KC;have akR:z=r.2.1.size:=by simpa using h1
  have hs:=pc ak;obtain⟨ad',rfl⟩:=cv.1 hs;refine fin _ (sl e z ad' len cap hT hz th hv h3) ⟨_,?_,rfl⟩;simp only[V];refine⟨_,rfl,UE,λhc=> ?_⟩;have fH:=fH hc;cases hp:β id with
  |none=>
   have hp':(s.env w g β).β id=aF:=hp;rw[hp']at fH;exact absurd fH.1 (by simp)
  |some pl=>
   have hp':(s.env w g β).β id=aw pl:=hp;rw[hp']at fH;have e1:=fH.1 (.inl ak);simp only[aA]at e1;exact⟨pl,hp,by rw[e1,eO,akR]⟩
 ·rename_i z n hl;rw[hl]at hx;obtain⟨h1,h2⟩:=aD.1 he;obtain⟨h3,h4⟩:=bO.1 h2;obtain rfl:=ay.1 h4;simp only[bh]at h3;split at h1 <;> try (cases h1;done)
  rename_i z' LN KC;obtain⟨e,hT,hz,th⟩:=mF LN KC;have akR:z'=z:=by simpa using h1
  obtain⟨cap,hv,hj⟩:=aBR hx;obtain⟨ad,hv,bb,off,e1,hj⟩:=hj (Int.natCast_pos.1 (Int.lt_of_le_of_lt h3.1 h3.2));subst e1;have:=sl e z' _ _ cap hT hz th hv h3;rw[eO]at this;refine fin _ this ⟨_,?_,rfl⟩;simp only[V,cq];refine⟨_,_,rfl,?_⟩;obtain⟨g1,cur,e2,g2,g3⟩:=hj;refine⟨g1,cur,e2,g2,?_⟩;rw[akR];have h5:i < ((n:Nat):Int):=h3.2;have:(i.toNat+1)*z<=(n:Nat)*z:=cM _ (by have:=h3.1;omega);rw[eG]at this;omega
 ·rename_i id ver p n hl;rw[hl]at hx;obtain⟨ad,hv,UE,fH⟩:=tJ hx;obtain⟨h1,h2⟩:=aD.1 he;obtain⟨h3,h4⟩:=bO.1 h2;obtain rfl:=ay.1 h4;simp only[bh]at h3;split at h1 <;> try (cases h1;done)
  rename_i z m LN KC;obtain⟨e,hT,hz,th⟩:=xK LN KC;rw[KC,eM]at h3;refine fin _ (ar e z m ad hT hz th hv h3) ⟨_,?_,rfl⟩;simp only[V];refine⟨_,rfl,UE,λhc=> ?_⟩;obtain⟨pl,hp,akF⟩:=fH hc;exact⟨pl,hp,by rw[akF,eO,LN,eM]⟩
 ·simp only[av]at he
theorem EM{T:TypeId}{f off:Nat}{ft:TypeId}(h:fieldInfo P T f=aw (off,ft)):∃fs fd,P.underlying T=aw (.struct fs)/\fs[f]? =aw fd/\fd.offset=off/\fd.type=ft:=by
 unfold fieldInfo at h;split at h
 ·rename_i fs hT;split at h
  ·rename_i fd hf;simp only[aA,cT]at h;exact⟨fs,fd,hT,hf,h.1,h.2⟩
  ·cases h
 ·cases h
theorem ye{E:Env}:∀(x:aB) (f off:Nat) (v:aB) (cs:List Value),V E x cs->partOf x f=aw (off,v)->V E v ((cs.drop off).take v.size)/\off+v.size<=cs.length:=by
 intro x f
 induction f generalizing x with
 |zero=>
  intro off v cs hx h;cases x with
  |d t y=>
   cases t <;> simp only[partOf,reduceCtorEq]at h;rename_i ta tb;simp only[aA,cT]at h;obtain⟨rfl,rfl⟩:=h;simp only[V,cq]at hx ⊢;obtain⟨ca,cb,rfl,ha,hb⟩:=hx;have:=ha.size;simp only[aB.size,aM,ai,aH];rw[kY this];exact⟨ha,ak⟩
  |pr b c=>
   simp only[partOf,aA,cT]at h;obtain⟨rfl,rfl⟩:=h;simp only[V]at hx;obtain⟨ca,cb,rfl,ha,hb⟩:=hx;have:=ha.size;simp only[aM,ai,aH];rw[kY this];exact⟨ha,ak⟩
  |_=>simp only[partOf,reduceCtorEq]at h
 |succ f ih=>
  intro off v cs hx h;have second:∀(ca cb:List Value) (n:Nat) (b:aB),cs=ca++cb->ca.length=n->V E b cb->(match partOf b f with | some (o,v)=>aw (n+o,v) | none=>aF)=aw (off,v)->V E v ((cs.drop off).take v.size)/\off+v.size<=cs.length:=by
   intro ca cb n b e hl hb hh;cases hp:partOf b f with
   |none=>rw[hp]at hh;cases hh
   |some r=>
    obtain⟨o',v'⟩:=r;rw[hp]at hh;simp only[aA,cT]at hh;obtain⟨rfl,rfl⟩:=hh;obtain⟨h1,h2⟩:=ih b o' v' cb hb hp;subst e;rw[<-hl,iG,dh ak,aO,Nat.add_sub_cancel_left];exact⟨h1,by simp only[ai];omega⟩
  cases x with
  |d t y=>
   cases t with
   |pair ta tb=>
    simp only[partOf]at h;simp only[V,cq]at hx;obtain⟨ca,cb,e,ha,hb⟩:=hx;exact second ca cb ta.size (.d tb y.2) e ha.size (by simpa only[V]using hb) h
   |_=>simp only[partOf,reduceCtorEq]at h
  |pr b c=>
   simp only[partOf]at h;simp only[V]at hx;obtain⟨ca,cb,e,ha,hb⟩:=hx;exact second ca cb b.size c e ha.size hb h
  |_=>simp only[partOf,reduceCtorEq]at h
theorem Uu(h:Inv C g β s a w){T:TypeId}{x:bH}{f:Nat}(ho:o.op= .fieldAddr T x f){v:aB}(he:(Dh P T (s.ev x) f).eval=aw v):fq P o a w (gl C (s.put o.dst v)):=by
 have hx:=h.ev x;unfold Dh at he;split at he
 ·rename_i off ft hf;obtain⟨fs,fd,hT,aF5,rfl,rfl⟩:=EM hf;obtain⟨h1,h2⟩:=aD.1 he;have hz:P.cellsOf fd.type≠0:=by simpa using h1
  have run:∀bb n,a.eval x= .pointer (aw ⟨bb,n,aF⟩)->(Instr.fieldAt T (a.eval x) f).run P w= .ok (.pointer (aw ⟨bb,n+fd.offset,aF⟩)) w:=by intro bb n hy;rw[hy];simp[Instr.fieldAt,run_underlying hT,aF5,Instr.sureAddr,fieldPlace,pC (P:=P) (e:=fd.type) rfl ak,hz,eO]
  have runS:∀ad,a.eval x= .pointer (aw ad)->(Instr.fieldAt T (a.eval x) f).run P w= .ok (.pointer (aw (ad.add fd.offset))) w:=by intro ad hy;rw[hy];simp[Instr.fieldAt,run_underlying hT,aF5,Instr.sureAddr,fieldPlace,pC (P:=P) (e:=fd.type) rfl ak,hz]
  have fin:∀z,(Instr.fieldAt T (a.eval x) f).run P w= .ok z w->VS (s.env w g β) v z->fq P o a w (gl C (s.put o.dst v)):=by intro z h1 h2;exact h.value h2 (eh (f:=Instr.fieldAt T (a.eval x) f) (by simp only[execOp,ho]) h1)
  split at h2
  ·rename_i id ver p n hl;rw[hl]at hx;obtain rfl:=ay.1 h2;obtain⟨ad,hy,UE,fH⟩:=tJ hx;refine fin _ (runS ad hy) ⟨_,?_,rfl⟩;simp only[V];refine⟨_,rfl,UE,λhc=> ?_⟩;obtain⟨pl,hp,akF⟩:=fH hc;exact⟨pl,hp,by rw[akF,eO]⟩
  ·rename_i n u hl;rw[hl]at hx;obtain⟨h3,h4⟩:=aD.1 h2;obtain rfl:=ay.1 h4;obtain⟨bb,off,hy,g1,cur,e2,g2,g3⟩:=avX hx;refine fin _ (runS _ hy) ⟨_,?_,rfl⟩;simp only[V,cq];refine⟨_,_,by rw[eO],g1,cur,e2,g2,?_⟩;have:=gz h3;omega
  ·rename_i t y hl;rw[hl]at hx;obtain⟨bb,off,vs,hy,nD,hR⟩:=nP hx;split at h2
   ·rename_i o' t' y' hp;obtain⟨h3,h4⟩:=aD.1 h2;obtain rfl:=ay.1 h4;have h3:fd.offset=o':=by simpa using h3
    obtain⟨hV,hle⟩:=ye (.d t y) f o' (.d t' y') vs (by simpa only[V]using hR) hp;refine fin _ (run bb off hy) ⟨_,?_,rfl⟩;simp only[V]at hV ⊢;refine⟨_,_,_,rfl,λj u hj=> ?_,hV⟩;rw[cW]at hj;split at hj
    ·rw[fN]at hj;obtain⟨b',o'',e,hh⟩:=nD _ u hj;simp only[aA,Addr.mk.injEq,eF]at e;obtain⟨rfl,rfl⟩:=e;exact⟨_,_,rfl,by rw[h3,dz];exact hh⟩
    ·cases hj
   ·simp only[av]at h2
  ·rename_i t q hl;obtain⟨y,e,h5⟩:=lA.1 h2;subst e;rw[hl]at hx;have hx:=Ml hx;obtain⟨bb,off,vs,hy,nD,hR⟩:=nP hx;split at h5
   ·rename_i o' t' y' hp;obtain⟨h3,h4⟩:=aD.1 h5;obtain rfl:=ay.1 h4;have h3:fd.offset=o':=by simpa using h3
    obtain⟨hV,hle⟩:=ye (.d t y) f o' (.d t' y') vs (by simpa only[V]using hR) hp;refine fin _ (run bb off hy) ⟨_,?_,rfl⟩;simp only[V]at hV ⊢;refine⟨_,_,_,rfl,λj u hj=> ?_,hV⟩;rw[cW]at hj;split at hj
    ·rw[fN]at hj;obtain⟨b',o'',e,hh⟩:=nD _ u hj;simp only[aA,Addr.mk.injEq,eF]at e;obtain⟨rfl,rfl⟩:=e;exact⟨_,_,rfl,by rw[h3,dz];exact hh⟩
    ·cases hj
   ·simp only[av]at h5
  ·rename_i t q hl;obtain⟨y,e,h5⟩:=lA.1 h2;subst e;rw[hl]at hx;have hx:=MD hx;obtain⟨bb,off,vs,hy,nD,hR⟩:=nP hx;split at h5
   ·rename_i o' t' y' hp;obtain⟨h3,h4⟩:=aD.1 h5;obtain rfl:=ay.1 h4;have h3:fd.offset=o':=by simpa using h3
    obtain⟨hV,hle⟩:=ye (.d t y.2) f o' (.d t' y') vs (by simpa only[V]using hR) hp;refine fin _ (run bb off hy) ⟨_,?_,rfl⟩;simp only[V]at hV ⊢;refine⟨_,_,_,rfl,λj u hj=> ?_,hV⟩;rw[cW]at hj;split at hj
    ·rw[fN]at hj;obtain⟨b',o'',e,hh⟩:=nD _ u hj;simp only[aA,Addr.mk.injEq,eF]at e;obtain⟨rfl,rfl⟩:=e;exact⟨_,_,rfl,by rw[h3,dz];exact hh⟩
    ·cases hj
   ·simp only[av]at h5
  ·simp only[av]at h2
 ·simp only[av]at he
theorem YJ{x:aB}{f:Nat}{r:Nat×aB}(h:partOf x f=aw r):x.agg=aW/\x.ee=aW:=by
 cases x with
 |d t y=>cases t <;> cases f <;> simp[partOf]at h <;> exact⟨rfl,rfl⟩
 |pr b c=>exact⟨rfl,rfl⟩
 |_=>cases f <;> simp[partOf]at h
theorem F3{T:TypeId}{v:aB}(h:fits P T v=aW):KE P T v.agg=aW/\P.cellsOf T=v.size/\v.ee=aW:=by unfold fits at h;simp only[al,dp]at h;exact⟨h.2,h.1.2,h.1.1⟩
theorem akx(h:Inv C g β s a w){T:TypeId}{x:bH}{f:Nat}(ho:o.op= .field T x f){v:aB}(he:(ac6 P T (s.ev x) f).eval=aw v):fq P o a w (gl C (s.put o.dst v)):=by
 have hx:=h.ev x;unfold ac6 at he;split at he
 ·rename_i off ft o' v' hf hp;obtain⟨fs,fd,hT,aF5,rfl,rfl⟩:=EM hf;obtain⟨h1,h2⟩:=aD.1 he;obtain rfl:=ay.1 h2;simp only[al,dp]at h1;obtain⟨rfl,F6⟩:=h1;obtain⟨LM,ade⟩:=YJ hp;obtain⟨cs,hV,hO⟩:=hx.ee ade;rw[LM]at hO;have hy:a.eval x= .agg cs.toArray:=hO;obtain⟨hVp,hle⟩:=ye _ _ _ _ cs hV hp;obtain⟨q1,q2,q3⟩:=F3 F6;obtain⟨y,hr,hOy⟩:=wU (w:=w) q1 q2 (λhh=>aB.ai5 hh) hle;refine h.value (VS.of hVp hOy) (eh (f:=Instr.field T (a.eval x) f) (by simp only[execOp,ho]) ?_);rw[hy];simp[Instr.field,run_underlying hT,aF5,asAgg,hr]
 ·simp only[av]at he
theorem akT(h:Inv C g β s a w){T:TypeId}{x y:bH}(ho:o.op= .index T x y){i:Int}(hi:(asInt (s.ev y)).eval=aw i){v:aB}(he:(ado P T (s.ev x) i).eval=aw v):fq P o a w (gl C (s.put o.dst v)):=by
 have hx:=h.ev x;obtain⟨k,hy⟩:=yO (h.ev y) hi;have fin:∀z,(Instr.index T (a.eval x) (a.eval y)).run P w= .ok z w->VS (s.env w g β) v z->fq P o a w (gl C (s.put o.dst v)):=by intro z h1 h2;exact h.value h2 (eh (f:=Instr.index T (a.eval x) (a.eval y)) (by simp only[execOp,ho]) h1)
 unfold ado at he;split at he
 ·rename_i n t l m e hl hT;rw[hl]at hx;obtain⟨h1,h2⟩:=aD.1 he;obtain⟨h3,h4⟩:=bO.1 h2;obtain rfl:=ay.1 h4;simp only[al,dp,bh]at h1 h3;obtain⟨rfl,F6⟩:=h1;obtain⟨q1,q2,q3⟩:=F3 F6;obtain⟨cs,hV,hO⟩:=hx.ee rfl;have aKh:a.eval x= .agg cs.toArray:=hO;simp only[V,cq]at hV;obtain⟨hlen,w8⟩:=hV;have jQ:i.toNat < l.length:=ak;obtain⟨hp,hle⟩:=NR w8 jQ;have q2':P.cellsOf e=t.size:=q2;have q1':KE P e t.agg=aW:=q1;obtain⟨y',hr,hOy⟩:=wU (w:=w) q1' q2' wW hle;obtain⟨j,hj,_⟩:=xT q1';rw[<-Vz jQ]at hp;refine fin y' ?_ (VS.of (by simpa only[V]using hp) hOy)
  rw[aKh,hy];have pd:=run_sizeOf hj w;rw[<-nC hj,q2']at pd;simp[Instr.index,asIntOf,run_underlying hT,h3,pd,hr]
 ·rename_i st hl hT;rw[hl]at hx;obtain⟨h3,h4⟩:=bO.1 he;obtain rfl:=ay.1 h4;simp only[bh]at h3;have e1:=HJ hx;have jQ:i.toNat < st.data.toList.length:=by
   have:st.size=st.data.toList.length:=by rw[cG];rfl
   omega
  have aGM:st[i.toNat]? =aw (st.data.toList[i.toNat]):=by have hlt':i.toNat < st.size:=ak;rw[getElem?_pos st i.toNat hlt'];rfl
  refine fin (.int .u8 ((st.data.toList.getD i.toNat 0).toNat:Int)) ?_ (kV _ _)
  rw[e1,hy];simp[Instr.index,asIntOf,run_underlying hT,h3.1,aGM,aK,cn jQ]
 ·simp only[av]at he
theorem aB6{E:Env}:∀(c:aB) (vs:List Value) (i:Nat) (v:aB),VC E c vs->c.list[i]? =aw v->∃y,vs[i]? =aw y/\VS E v y:=by
 intro c
 induction c with
 |cons x y _ ih=>
  intro vs i v hc hi;simp only[VC]at hc;obtain⟨u,vs',cs,rfl,hV,hO,hc⟩:=hc;cases i with
  |zero=>
   simp only[aB.list,fF,aA]at hi;subst hi;exact⟨u,rfl,VS.of hV hO⟩
  |succ i=>
   simp only[aB.list,mA]at hi ⊢;exact ih vs' i v hc hi
 |_=>intro vs i v hc hi;simp[aB.list]at hi
theorem ac1(h:Inv C g β s a w){x:bH}{i:Nat}(ho:o.op= .extract x i){v:aB}(he:(Out.opt ((s.ev x).list[i]?)).eval=aw v):fq P o a w (gl C (s.put o.dst v)):=by
 have hx:=h.ev x;have he:=gB.1 he;cases hc:s.ev x with
 |cons p q=>
  rw[hc]at hx he;obtain⟨vs,hy,hVC⟩:=hx;obtain⟨y,hv,hVS⟩:=aB6 _ vs i v hVC he;refine h.value hVS (eh (f:=Instr.extract (a.eval x) i) (by simp only[execOp,ho]) ?_);rw[hy];simp[Instr.extract,hv]
 |_=>rw[hc]at he;simp[aB.list]at he
theorem an7(h:Inv C g β s a w):∀(l:List bH),yQ (so s l)=aW->VC (s.env w g β) (so s l) (l.map a.eval)
 |[],_=>by simp[so,VC]
 |x::xs,hc=>by simp only[so,yQ,al]at hc;obtain⟨cs,hV,hO⟩:=(h.ev x).ee hc.1;simp only[so,VC,bS];exact⟨_,_,cs,rfl,hV,hO,an7 h xs hc.2⟩
theorem Y4(h:Inv C g β s a w){f:jF}{first caps:Array bH}(ho:o.op= .makeFunc (.func f) first caps)(h1:first.isEmpty=aW)(h2:yQ (so s caps.toList)=aW):
  fq P o a w (gl C (s.put o.dst (.fn f (so s caps.toList)))):=by
 have hf:first= #[]:=by simpa using h1
 refine h.value (x:= .func (.func f) #[] (caps.toList.map a.eval).toArray) ⟨_,?_,rfl⟩ (eh (f:=Instr.makeFunc (.func f) (first.map a.eval) (caps.map a.eval)) (by simp only[execOp,ho]) ?_)
 ·simp only[V];exact⟨_,rfl,an7 h _ h2⟩
 ·subst hf;have:caps.map a.eval=(caps.toList.map a.eval).toArray:=by apply gj;simp
  simp[Instr.makeFunc,this]
theorem anK(h:Inv C g β s a w){T:TypeId}{x:bH}(ho:o.op= .sliceToArrayPointer T x){s':AS}(he:(Lv P s o.dst T (s.ev x)).eval=aw s'):fq P o a w (gl C s'):=by
 have hx:=h.ev x;unfold Lv at he;split at he
 ·rename_i n e hT;split at he
  ·rename_i t ht;obtain⟨h1,h2⟩:=aD.1 he;obtain⟨l,h3,h4⟩:=ax.1 h2;obtain⟨h5,h6⟩:=bO.1 h4;obtain rfl:=ay.1 h6;simp only[al,cD,dp,fv,bh]at h1 h5;obtain⟨⟨hz,hn⟩,aCI⟩:=h1;obtain⟨g1,i1,e1,t1,cs,hR,hO⟩:=zI h hx h3;simp only[cq]at hR;obtain⟨ad,cap,vs,rfl,atZ,pc,nD,w8⟩:=hR;have hO': [Value.slice ad (ae l) cap]=[a.eval x]:=hO;have hy:a.eval x= .slice ad (ae l) cap:=by simpa using hO'.symm
   have hlen:=bp.length (λc x hx=>cq.size hx) w8;have h0:0 < vs.length:=by rw[hlen];exact Nat.mul_pos ak ak
   obtain⟨bb,off,e2,_⟩:=nD 0 vs[0] (by simp[h0]);subst e2;refine .inl ⟨.pointer (aw ⟨bb,off,aF⟩),w,?_,g1,β,i1.put o.dst ⟨_,?_,rfl⟩⟩
   ·refine eh (f:=Instr.arrayAt T (a.eval x)) (by simp only[execOp,ho]) ?_
    rw[hy];have:¬ae l < n:=ak;simp[Instr.arrayAt,run_underlying hT,this]
   ·simp only[V];refine⟨bb,off,vs.take (n*t.size),rfl,λj u hj=> ?_,?_⟩
    ·rw[cW]at hj;split at hj
     ·exact nD j u hj
     ·cases hj
    ·simp only[cq];exact⟨by simp;omega,bp.take (λ_ _ hx=>hx.size) n w8⟩
  ·simp only[av]at he
 ·simp only[av]at he
end
end Go.Ab
end
