/-
  Made short by a program of mine (wip/tools/mini.py).
-/
import Derived.WalkKit
import Derived.KernelRfl
import Derived.OrdersIn
import Derived.LoopNIn
import Derived.TacticsIn
import Derived.RangeFuncCalls
import Derived.RangeFuncLeaves
import Derived.RangeFuncRecord
import Derived.LaidEql
import Derived.MapKept
import Derived.ChangeMaps3
set_option linter.unusedVariables false
set_option linter.unusedSimpArgs false
set_option maxRecDepth 100000
set_option synthInstance.maxSize 5000
open Go renaming IntKind->kF,FuncId->fR,Operand->bJ,Program->aN,World->bU,MapEntry->fU
open List renaming replicate->ai,set->gB,length->ag
open BitVec renaming ofInt->bh
open UInt8 renaming ofNat->fy
open Nat renaming beq->iG
open Go.Value renaming oneCell'->dy
open Go.World renaming cell?->eP
open Go.Sem renaming run_bind->cd,run_pure->dY
open Go.Result renaming andThen_ok->bH
open Go.Addr renaming add_lit->fC
open Go.Op renaming equalIn->dh
open Option renaming some->al,none->aJ
open Bool renaming true->aT,false->aR
noncomputable section
namespace Go.Ab
theorem gr:type_of% @Array.ext':= @Array.ext'
theorem qR:type_of% @Array.ext_getElem?:= @Array.ext_getElem?
theorem cQ:type_of% @Array.getD_eq_getD_getElem?:= @Array.getD_eq_getD_getElem?
theorem kf:type_of% @Array.getElem?_append:= @Array.getElem?_append
theorem fA:type_of% @Array.getElem?_eq_getElem:= @Array.getElem?_eq_getElem
theorem bN:type_of% @Array.getElem?_eq_some_iff:= @Array.getElem?_eq_some_iff
theorem gw:type_of% @Array.getElem?_modify:= @Array.getElem?_modify
theorem ek:type_of% @Array.getElem?_setIfInBounds:= @Array.getElem?_setIfInBounds
theorem iH:type_of% @Array.getElem?_toList:= @Array.getElem?_toList
theorem cS:type_of% @Array.length_toList:= @Array.length_toList
theorem bZ:type_of% @Array.toList_append:= @Array.toList_append
theorem iV:type_of% @BitVec.ofInt_natCast:= @BitVec.ofInt_natCast
theorem qS:type_of% @BitVec.toNat_ofInt:= @BitVec.toNat_ofInt
theorem jY:type_of% @BitVec.toNat_ofNat:= @BitVec.toNat_ofNat
theorem av:type_of% @Bool.and_eq_true:= @Bool.and_eq_true
theorem iS:type_of% @Bool.eq_false_or_eq_true:= @Bool.eq_false_or_eq_true
theorem fJ:type_of% @Bool.false_and:= @Bool.false_and
theorem bW:type_of% @Bool.false_eq_true:= @Bool.false_eq_true
theorem ct:type_of% @Bool.not_eq_true':= @Bool.not_eq_true'
theorem fj:type_of% @Bool.not_false:= @Bool.not_false
theorem cv:type_of% @Bool.not_true:= @Bool.not_true
theorem iq:type_of% @Bool.or_eq_true:= @Bool.or_eq_true
theorem uu:type_of% @Bool.or_false:= @Bool.or_false
theorem cH:type_of% @Bool.true_and:= @Bool.true_and
theorem nU:type_of% @Int.emod_emod_of_dvd:= @Int.emod_emod_of_dvd
theorem fo:type_of% @Int.emod_eq_of_lt:= @Int.emod_eq_of_lt
theorem jZ:type_of% @Int.emod_lt_of_pos:= @Int.emod_lt_of_pos
theorem kr:type_of% @Int.emod_nonneg:= @Int.emod_nonneg
theorem fx:type_of% @Int.le_refl:= @Int.le_refl
theorem sz:type_of% @Int.mul_emod:= @Int.mul_emod
theorem o9:type_of% @Int.natCast_emod:= @Int.natCast_emod
theorem ku:type_of% @Int.natCast_mul:= @Int.natCast_mul
theorem gH:type_of% @Int.natCast_nonneg:= @Int.natCast_nonneg
theorem ky:type_of% @Int.natCast_pow:= @Int.natCast_pow
theorem gh:type_of% @Int.pow_succ:= @Int.pow_succ
theorem kE:type_of% @Int.pow_zero:= @Int.pow_zero
theorem pa:type_of% @Int.sub_zero:= @Int.sub_zero
theorem j3:type_of% @Int.tdiv_eq_ediv_of_nonneg:= @Int.tdiv_eq_ediv_of_nonneg
theorem gW:type_of% @Int.tmod_eq_emod_of_nonneg:= @Int.tmod_eq_emod_of_nonneg
theorem aa:type_of% @Int.toNat_natCast:= @Int.toNat_natCast
theorem bt:type_of% @Int.toNat_zero:= @Int.toNat_zero
theorem nV:type_of% @List.Perm.refl:= @List.Perm.refl
theorem lq:type_of% @List.all_cons:= @List.all_cons
theorem c7:type_of% @List.all_eq_true:= @List.all_eq_true
theorem gb:type_of% @List.any_cons:= @List.any_cons
theorem jg:type_of% @List.any_eq_false:= @List.any_eq_false
theorem kG:type_of% @List.any_nil:= @List.any_nil
theorem aM:type_of% @List.append_assoc:= @List.append_assoc
theorem bO:type_of% @List.append_nil:= @List.append_nil
theorem cz:type_of% @List.cons.injEq:= @List.cons.injEq
theorem jU:type_of% @List.drop_append:= @List.drop_append
theorem gA:type_of% @List.drop_drop:= @List.drop_drop
theorem aC:type_of% @List.drop_eq_getElem_cons:= @List.drop_eq_getElem_cons
theorem kz:type_of% @List.drop_left':= @List.drop_left'
theorem aU:type_of% @List.drop_length:= @List.drop_length
theorem gj:type_of% @List.drop_of_length_le:= @List.drop_of_length_le
theorem sB:type_of% @List.drop_take:= @List.drop_take
theorem aQ:type_of% @List.drop_zero:= @List.drop_zero
theorem bw:type_of% @List.eq_nil_of_length_eq_zero:= @List.eq_nil_of_length_eq_zero
theorem pb:type_of% @List.ext_getElem:= @List.ext_getElem
theorem kH:type_of% @List.ext_getElem?:= @List.ext_getElem?
theorem jq:type_of% @List.filter_eq_self:= @List.filter_eq_self
theorem du:type_of% @List.flatMap_cons:= @List.flatMap_cons
theorem pc:type_of% @List.flatMap_nil:= @List.flatMap_nil
theorem jh:type_of% @List.flatten_cons:= @List.flatten_cons
theorem pd:type_of% @List.flatten_nil:= @List.flatten_nil
theorem aY:type_of% @List.foldl_cons:= @List.foldl_cons
theorem dd:type_of% @List.foldl_nil:= @List.foldl_nil
theorem lO:type_of% @List.getD_cons_zero:= @List.getD_cons_zero
theorem aI:type_of% @List.getD_eq_getElem?_getD:= @List.getD_eq_getElem?_getD
theorem fB:type_of% @List.getElem?_append_left:= @List.getElem?_append_left
theorem lR:type_of% @List.getElem?_cons_succ:= @List.getElem?_cons_succ
theorem fX:type_of% @List.getElem?_cons_zero:= @List.getElem?_cons_zero
theorem fD:type_of% @List.getElem?_drop:= @List.getElem?_drop
theorem bQ:type_of% @List.getElem?_eq_getElem:= @List.getElem?_eq_getElem
theorem dP:type_of% @List.getElem?_eq_none:= @List.getElem?_eq_none
theorem dN:type_of% @List.getElem?_eq_some_iff:= @List.getElem?_eq_some_iff
theorem eK:type_of% @List.getElem?_map:= @List.getElem?_map
theorem eF:type_of% @List.getElem?_set_ne:= @List.getElem?_set_ne
theorem db:type_of% @List.getElem?_take:= @List.getElem?_take
theorem aX:type_of% @List.getElem_mem:= @List.getElem_mem
theorem aj:type_of% @List.length_append:= @List.length_append
theorem aH:type_of% @List.length_cons:= @List.length_cons
theorem de:type_of% @List.length_drop:= @List.length_drop
theorem kI:type_of% @List.length_eraseIdx:= @List.length_eraseIdx
theorem cF:type_of% @List.length_map:= @List.length_map
theorem bB:type_of% @List.length_nil:= @List.length_nil
theorem dF:type_of% @List.length_replicate:= @List.length_replicate
theorem cG:type_of% @List.length_take:= @List.length_take
theorem il:type_of% @List.map_congr_left:= @List.map_congr_left
theorem cn:type_of% @List.map_cons:= @List.map_cons
theorem iT:type_of% @List.map_nil:= @List.map_nil
theorem bD:type_of% @List.mem_append:= @List.mem_append
theorem cg:type_of% @List.mem_cons:= @List.mem_cons
theorem aK:type_of% @List.mem_cons_of_mem:= @List.mem_cons_of_mem
theorem aL:type_of% @List.mem_cons_self:= @List.mem_cons_self
theorem nb:type_of% @List.mem_filter:= @List.mem_filter
theorem iN:type_of% @List.mem_flatMap:= @List.mem_flatMap
theorem kg:type_of% @List.mem_iff_getElem?:= @List.mem_iff_getElem?
theorem dO:type_of% @List.mem_map:= @List.mem_map
theorem c8:type_of% @List.mem_of_getElem?:= @List.mem_of_getElem?
theorem nW:type_of% @List.mem_of_mem_drop:= @List.mem_of_mem_drop
theorem kJ:type_of% @List.mem_of_mem_take:= @List.mem_of_mem_take
theorem qV:type_of% @List.mem_replicate:= @List.mem_replicate
theorem bq:type_of% @List.mem_singleton:= @List.mem_singleton
theorem aV:type_of% @List.nil_append:= @List.nil_append
theorem dr:type_of% @List.nodup_cons:= @List.nodup_cons
theorem gZ:type_of% @List.nodup_nil:= @List.nodup_nil
theorem gz:type_of% @List.set_getElem_self:= @List.set_getElem_self
theorem dQ:type_of% @List.singleton_append:= @List.singleton_append
theorem hJ:type_of% @List.size_toArray:= @List.size_toArray
theorem pf:type_of% @List.take_append:= @List.take_append
theorem dw:type_of% @List.take_append_drop:= @List.take_append_drop
theorem iW:type_of% @List.take_append_of_le_length:= @List.take_append_of_le_length
theorem kA:type_of% @List.take_left':= @List.take_left'
theorem cJ:type_of% @List.take_length:= @List.take_length
theorem bC:type_of% @List.take_of_length_le:= @List.take_of_length_le
theorem lS:type_of% @List.take_take:= @List.take_take
theorem fk:type_of% @List.take_zero:= @List.take_zero
theorem fN:type_of% @Nat.add_assoc:= @Nat.add_assoc
theorem eO:type_of% @Nat.add_mul:= @Nat.add_mul
theorem qW:type_of% @Nat.add_sub_cancel:= @Nat.add_sub_cancel
theorem cW:type_of% @Nat.add_zero:= @Nat.add_zero
theorem fh:type_of% @Nat.eq_of_beq_eq_true:= @Nat.eq_of_beq_eq_true
theorem iO:type_of% @Nat.eq_zero_or_pos:= @Nat.eq_zero_or_pos
theorem dG:type_of% @Nat.le_of_ble_eq_true:= @Nat.le_of_ble_eq_true
theorem aF:type_of% @Nat.le_refl:= @Nat.le_refl
theorem jx:type_of% @Nat.le_trans:= @Nat.le_trans
theorem gC:type_of% @Nat.lt_irrefl:= @Nat.lt_irrefl
theorem ph:type_of% @Nat.lt_or_ge:= @Nat.lt_or_ge
theorem gF:type_of% @Nat.min_eq_left:= @Nat.min_eq_left
theorem jV:type_of% @Nat.mod_eq_of_lt:= @Nat.mod_eq_of_lt
theorem pj:type_of% @Nat.mul_comm:= @Nat.mul_comm
theorem c9:type_of% @Nat.mul_le_mul_right:= @Nat.mul_le_mul_right
theorem kK:type_of% @Nat.mul_mod:= @Nat.mul_mod
theorem jE:type_of% @Nat.mul_one:= @Nat.mul_one
theorem ir:type_of% @Nat.one_mul:= @Nat.one_mul
theorem nX:type_of% @Nat.pow_add:= @Nat.pow_add
theorem kh:type_of% @Nat.sub_eq_zero_of_le:= @Nat.sub_eq_zero_of_le
theorem ba:type_of% @Nat.zero_add:= @Nat.zero_add
theorem aP:type_of% @Nat.zero_le:= @Nat.zero_le
theorem my:type_of% @Nat.zero_mul:= @Nat.zero_mul
theorem dB:type_of% @Option.getD_some:= @Option.getD_some
theorem bA:type_of% @Option.isSome_iff_exists:= @Option.isSome_iff_exists
theorem qX:type_of% @Option.isSome_none:= @Option.isSome_none
theorem dz:type_of% @Option.map_eq_some_iff:= @Option.map_eq_some_iff
theorem eo:type_of% @Option.map_some:= @Option.map_some
theorem aO:type_of% @Option.some.inj:= @Option.some.inj
theorem az:type_of% @Option.some.injEq:= @Option.some.injEq
theorem cM:type_of% @Prod.mk.injEq:= @Prod.mk.injEq
theorem p9:type_of% @Quotient.exists_rep:= @Quotient.exists_rep
theorem dT:type_of% @Sum.getRight?_inr:= @Sum.getRight?_inr
theorem e7:type_of% @Sum.isLeft_inr:= @Sum.isLeft_inr
theorem j4:type_of% @and_self:= @and_self
theorem eG:type_of% @and_true:= @and_true
theorem gv:type_of% @beq_eq_false_iff_ne:= @beq_eq_false_iff_ne
theorem dD:type_of% @beq_iff_eq:= @beq_iff_eq
theorem bE:type_of% @congrArg:= @congrArg
theorem jm:type_of% @decide_eq_false:= @decide_eq_false
theorem gM:type_of% @decide_eq_false_iff_not:= @decide_eq_false_iff_not
theorem ot:type_of% @decide_eq_true:= @decide_eq_true
theorem aW:type_of% @decide_eq_true_eq:= @decide_eq_true_eq
theorem cR:type_of% @decide_true:= @decide_true
theorem Ai:type_of% @dif_neg:= @dif_neg
theorem xq:type_of% @dif_pos:= @dif_pos
theorem kR:type_of% @getElem!_pos:= @getElem!_pos
theorem cK:type_of% @if_false:= @if_false
theorem da:type_of% @if_true:= @if_true
theorem zP:type_of% @true_and:= @true_and
end Go.Ab
namespace Go.Ab
theorem fb{p:Prop}(h:p:=by decide):p:=h
theorem au{p:Prop}(h:p:=by omega):p:=h
theorem cT{p:Prop}(h:p:=by kernel_rfl):p:=h
inductive Ty where
 |int (k:kF) | bool | str | slice (t:Ty) | unit | pair (a b:Ty) | arr (n:Nat) (t:Ty)
 |fZ (t:Ty)
 |nP (t:Ty)
 |gO (t:Ty)
 deriving DecidableEq,Inhabited
@[reducible] def Ty.den:Ty->Type
 | .int _=>Int
 | .bool=>Bool
 | .str=>ByteArray
 | .slice t=>List t.den
 | .unit=>Unit
 | .pair a b=>a.den×b.den
 | .arr _ t=>List t.den
 | .fZ t=>Option (List t.den)
 | .nP t=>Option t.den
 | .gO t=>Option (Nat×t.den)
def Ty.size:Ty->Nat
 | .unit=>0
 | .pair a b=>a.size+b.size
 | .arr n t=>n*t.size
 | .int _ | .bool | .str | .slice _ | .fZ _ | .nP _ | .gO _=>1
def Ty.agg:Ty->Bool
 | .unit | .pair _ _ | .arr _ _=>aT
 | .int _ | .bool | .str | .slice _ | .fZ _ | .nP _ | .gO _=>aR
def Ty.zero:(t:Ty)->t.den
 | .int _=>(0:Int)
 | .bool=>aR
 | .str=>ByteArray.empty
 | .slice _=> []
 | .unit=>()
 | .pair a b=>(a.zero,b.zero)
 | .arr n t=>ai n t.zero
 | .fZ _=>aJ
 | .nP _=>aJ
 | .gO _=>aJ
def Ty.comp:Ty->Bool
 | .slice _ | .fZ _ | .nP _=>aR
 | .pair a b=>a.comp && b.comp
 | .arr _ t=>t.comp
 | .int _ | .bool | .str | .unit | .gO _=>aT
def mO{α:Type}(f:α->α->Bool):List α->List α->Bool
 |[],[]=>aT
 |x::xs,y::ys=>f x y && mO f xs ys
 |_,_=>aR
def Ty.arw:(t:Ty)->(x y:t.den)->Decidable (x=y)
 | .int _,x,y=>inferInstanceAs (Decidable (@Eq Int x y))
 | .bool,x,y=>inferInstanceAs (Decidable (@Eq Bool x y))
 | .str,x,y=>inferInstanceAs (Decidable (@Eq ByteArray x y))
 | .slice t,x,y=> @instDecidableEqList t.den t.arw x y
 | .unit,_,_=>isTrue rfl
 | .pair a b,x,y=> @instDecidableEqProd a.den b.den a.arw b.arw x y
 | .arr _ t,x,y=> @instDecidableEqList t.den t.arw x y
 | .fZ t,x,y=>letI:DecidableEq t.den:=t.arw;inferInstanceAs (Decidable (@Eq (Option (List t.den)) x y))
 | .nP t,x,y=>letI:DecidableEq t.den:=t.arw;inferInstanceAs (Decidable (@Eq (Option t.den) x y))
 | .gO t,x,y=>letI:DecidableEq t.den:=t.arw;inferInstanceAs (Decidable (@Eq (Option (Nat×t.den)) x y))
def Ty.al4:Ty->Bool
 | .fZ _=>aR
 | .slice t | .arr _ t | .nP t | .gO t=>t.al4
 | .pair a b=>a.al4 && b.al4
 | .int _ | .bool | .str | .unit=>aT
def Ty.beq:(t:Ty)->t.den->t.den->Bool
 | .int _,x,y=>(x:Int)==y
 | .bool,x,y=>(x:Bool)==y
 | .str,x,y=>(x:ByteArray).toList==(y:ByteArray).toList
 | .slice t,x,y=>mO t.beq x y
 | .unit,_,_=>aT
 | .pair a b,x,y=>a.beq x.1 y.1 && b.beq x.2 y.2
 | .arr _ t,x,y=>mO t.beq x y
 | .fZ t,x,y=>mO t.beq (x.getD []) (y.getD [])
 | .nP _,_,_=>aR
 | .gO t,x,y=> @decide (x=y) ((Ty.gO t).arw x y)
def sH(t t':Ty)(x:t.den):Option t'.den:=if h:t=t' then al (h▸x) else aJ
def Wu:(a b:Ty)->Option (a.den->b.den)
 | .fZ t,.slice t'=>if h:t=t' then al λo=>cast (bE (λt:Ty=>List t.den) h) (o.getD []) else aJ
 | .slice t,.fZ t'=>if h:t=t' then al λl=>al (cast (bE (λt:Ty=>List t.den) h) l) else aJ
 | .pair a b,.pair c d=>match Wu a c,Wu b d with
  |some f,al k=>al λx=>(f x.1,k x.2)
  |_,_=>aJ
 | .slice a,.slice b=>match Wu a b with
  |some f=>al (List.map f)
  |none=>aJ
 |a,b=>if h:a=b then al (cast (bE Ty.den h)) else aJ
def aEq(a b:Ty)(x:a.den):b.den:=match Wu a b with | some f=>f x | none=>b.zero
def EC(t t':Ty)(x:t.den):Option t'.den:=
 match sH t t' x with
 |some y=>al y
 |none=>match Wu t t' with
  |some f=>al (f x)
  |none=>aJ
def nth(t:Ty)(l:List t.den)(i:Nat):t.den:=l.getD i t.zero
inductive Id where
 |bG (k:Nat)
 |new (site j:Nat)
 deriving DecidableEq,Inhabited
inductive GZ where
 |fst | snd
 |idx (i:Nat)
 |arr
structure tQ where
 y:Nat
 ps:Array Tmp
 as:Code
 b:Code
inductive aD where
 |undef
 |gone
 |dI | j7 | vF | Bd
 |d (t:Ty) (x:t.den)
 |pr (a b:aD)
 |ptr (id:Id) (ver:Nat) (p:List GZ) (n:Nat)
 |eN (t:Ty) (x:t.den)
 |b8 (id:Id) (ver:Nat) (p:List GZ) (c i len:Nat)
 |fn (f:fR) (caps:aD)
 |cons (a b:aD)
 |nil
 |vec (e:TypeId) (t:Ty) (l:List t.den)
 |sb (l:List Int)
 |bx (e:TypeId) (z:Nat) (c:aD)
 |cP (id:Id) (ver:Nat)
 |mp (k v:Ty) (l:List (k.den×v.den))
 |qh (q:Id) (ver:Nat) (k v:Ty) (rest:List (k.den×v.den)) (cur:Option (k.den×v.den))
 |yl (id:Id) (ver:Nat)
 |yH (c:tQ) (frame:aD) (p:Nat)
inductive dR where
 |dead
 |obj (ver:Nat) (fr:Bool) (c:aD)
def dH(c:aD):dR:= .obj 0 aR c
def dK(c:aD):List dR:=[.obj 0 aR c]
def fI(q:Nat):aD:= .ptr (.new q 0) 0 [] 0
def nR(q n:Nat):aD:= .b8 (.new q 0) 0 [] 0 0 n
def kO:aD:= .d .unit ()
def cw:aD:= .undef
structure AS where
 cr:List aD
 cj:List dR
 news:List (List dR)
def bg(n:Nat)(l:List aD):List aD:=ai n .undef++l
def bK(n:Nat)(l:List (List dR)):List (List dR):=ai n []++l
inductive Out(α:Type):Type 1 where
 |ok (a:α)
 |fail
 |tJ (c:Bool) (r:Out α)
 |get {β:Type} (x:Option β) (f:β->Out α)
 |br (c:Bool) (a b:Out α)
def Out.eval{α:Type}:Out α->Option α
 | .ok a=>al a
 | .fail=>aJ
 | .tJ c r=>match c with | true=>r.eval | false=>aJ
 | .get x f=>match x with | some y=>(f y).eval | none=>aJ
 | .br c a b=>match c with | true=>a.eval | false=>b.eval
def aS{α:Type}(c:Bool)(x y:Option α):Option α:=match c with | true=>x | false=>y
def aq{α β:Type}(x:Option α)(f:α->Option β):Option β:=match x with | some a=>f a | none=>aJ
def Out.run{α R:Type}:Out α->(α->Option R)->Option R
 | .ok a,k=>k a
 | .fail,_=>aJ
 | .tJ c r,k=>aS c (r.run k) aJ
 | .get x f,k=>aq x λy=>(f y).run k
 | .br c a b,k=>aS c (a.run k) (b.run k)
def Out.bind{α β:Type}:Out α->(α->Out β)->Out β
 | .ok a,f=>f a
 | .fail,_=> .fail
 | .tJ c r,f=> .tJ c (r.bind f)
 | .get x g,f=> .get x λy=>(g y).bind f
 | .br c a b,f=> .br c (a.bind f) (b.bind f)
def Out.opt{α:Type}:Option α->Out α
 |some a=> .ok a
 |none=> .fail
def Out.guard{α:Type}(c:Bool)(r:Out α):Out α:=match c with | true=>r | false=> .fail
def aD.size:aD->Nat
 | .d t _=>t.size
 | .pr a b=>a.size+b.size
 |_=>1
def aD.agg:aD->Bool
 | .d t _=>t.agg
 | .pr _ _=>aT
 |_=>aR
def aD.eQ:aD->Bool
 | .undef | .cons _ _ | .nil | .vec .. | .bx .. | .mp .. | .qh .. | .yH .. =>aR
 |_=>aT
def aD.strip:aD->aD
 | .bx _ _ c=>c
 |c=>c
def aD.wrap:aD->aD->aD
 | .bx e z _,c=> .bx e z c
 |_,c=>c
def Lw:aD->aD->aD
 | .d a x,.d b y=> .d (.pair a b) (x,y)
 |a,b=> .pr a b
def ofConst:Value->aD
 | .bool b=> .d .bool b
 | .int k n=> .d (.int k) n
 | .string s=> .d .str s
 | .slice aJ 0 0=> .dI
 | .pointer aJ=> .j7
 | .nilFunc=> .vF
 | .map aJ=> .Bd
 |_=> .undef
def AS.slot(s:AS)(i:Nat):aD:=s.cr.getD i .undef
def AS.ev(s:AS):bJ->aD
 | .tmp t=>s.slot t
 | .const v=>ofConst v
 | .func f=> .fn f .nil
 | .global _=> .undef
def AS.put(s:AS)(dst:Option Tmp)(v:aD):AS:=
 match dst with
 |some t=> {s with cr:=s.cr.set t v}
 |none=>s
def AS.bS(s:AS):Id->Option dR
 | .bG k=>s.cj[k]?
 | .new i j=>(s.news.getD i [])[j]?
def AS.aZ(s:AS)(id:Id)(e:dR):AS:=
 match id with
 | .bG k=> {s with cj:=s.cj.set k e}
 | .new i j=> {s with news:=s.news.set i ((s.news.getD i []).set j e)}
def AS.eB(s:AS)(i:Nat):Bool:=match s.news[i]? with | some []=>aT | _=>aR
def AS.born(s:AS)(i:Nat)(es:List dR):AS:= {s with news:=s.news.set i es}
def AS.obj(s:AS)(id:Id):Option (Nat×Bool×aD):=
 match s.bS id with
 |some (.obj v f c)=>al (v,f,c)
 |_=>aJ
def aKa:List Nat:=[104]
def Wc(P:aN)(nl:Bool):Nat->TypeId->Option Ty
 | 0,_=>aJ
 |n+1,T=>
  match P.underlying T with
  |some (.int k)=>al (.int k)
  |some .bool=>al .bool
  |some .string=>al .str
  |some (.slice e)=>match Wc P aR n e with | some t=>al (match nl with | true=> .fZ t | false=> .slice t) | none=>aJ
  |some (.array k e)=>match Wc P nl n e with | some t=>al (.arr k t) | none=>aJ
  |some (.pointer e)=>match Wc P aR n e with | some t=>al (match aKa.contains T with | true=> .gO t | false=> .nP t) | none=>aJ
  |some (.struct fs)=>fs.toList.foldr (λf acc=>match Wc P nl n f.type,acc with | some a,al b=>al (.pair a b) | _,_=>aJ) (al .unit)
  |_=>aJ
def agY(P:aN):Nat->TypeId->Option Ty:=Wc P aR
def zeroOf(P:aN):Nat->TypeId->Option aD
 | 0,_=>aJ
 |n+1,T=>
  match P.underlying T with
  |some (.int k)=>al (.d (.int k) (0:Int))
  |some .bool=>al (.d .bool aR)
  |some .string=>al (.d .str ByteArray.empty)
  |some (.slice _)=>al .dI
  |some (.pointer _)=>al .j7
  |some (.map _ _)=>al .Bd
  |some (.func _ _ _)=>al .vF
  |some (.array k e)=>match agY P n e with | some t=>al (.d (.arr k t) (ai k t.zero)) | none=>aJ
  |some (.struct fs)=>fs.toList.foldr (λf acc=>match zeroOf P n f.type,acc with | some a,al b=>al (Lw a b) | _,_=>aJ) (al (.d .unit ()))
  |_=>aJ
def depth:Nat:=12
def fits(P:aN)(T:TypeId)(v:aD):Bool:=
 v.eQ && (P.cellsOf T==v.size) &&
 (match P.underlying T with | some (.struct _)=>v.agg | some (.array _ _)=>v.agg | some _=> !v.agg | none=>aR)
def nr:Nat->List GZ
 | 0=> [.fst]
 |n+1=> .snd::nr n
def loc:aD->List GZ->Out (Nat×aD)
 |c,[]=> .ok (0,c)
 |c,.arr::p=>loc c p
 | .pr a _,.fst::p=>loc a p
 | .pr a b,.snd::p=>(loc b p).bind λ(n,v)=> .ok (a.size+n,v)
 | .d (.pair a _) x,.fst::p=>loc (.d a x.1) p
 | .d (.pair a b) x,.snd::p=>(loc (.d b x.2) p).bind λ(n,v)=> .ok (a.size+n,v)
 | .d (.arr _ t) l,.idx i::p=> .tJ (decide (i < (l:List t.den).length)) ((loc (.d t (nth t l i)) p).bind λ(n,v)=> .ok (i*t.size+n,v))
 | .vec _ t l,.idx i::p=> .tJ (decide (i < l.length)) ((loc (.d t (nth t l i)) p).bind λ(n,v)=> .ok (i*t.size+n,v))
 |_,_::_=> .fail
def wJ:aD->List GZ->aD->Out aD
 |c,.arr::p,v=>wJ c p v
 | .vec ..,[],_=> .fail
 | .mp ..,[],_=> .fail
 | .qh ..,[],_=> .fail
 | .yH ..,[],_=> .fail
 |c,[],v=> .guard (v.eQ && (c.size==v.size)) (.ok v)
 | .pr a b,.fst::p,v=>(wJ a p v).bind λa'=> .ok (Lw a' b)
 | .pr a b,.snd::p,v=>(wJ b p v).bind λb'=> .ok (Lw a b')
 | .d (.pair a b) x,.fst::p,v=>(wJ (.d a x.1) p v).bind λa'=> .ok (Lw a' (.d b x.2))
 | .d (.pair a b) x,.snd::p,v=>(wJ (.d b x.2) p v).bind λb'=> .ok (Lw (.d a x.1) b')
 | .d (.arr n t) l,.idx i::p,v=> .tJ (decide (i < (l:List t.den).length)) ((wJ (.d t (nth t l i)) p v).bind fun
   | .d t' y=>(Out.opt (sH t' t y)).bind λy=> .ok (.d (.arr n t) ((l:List t.den).set i y))
   |_=> .fail)
 | .vec e t l,.idx i::p,v=> .tJ (decide (i < l.length)) ((wJ (.d t (nth t l i)) p v).bind fun
   | .d t' y=>(Out.opt (sH t' t y)).bind λy=> .ok (.vec e t (l.set i y))
   |_=> .fail)
 |_,_::_,_=> .fail
def AS.row(s:AS)(id:Id)(ver:Nat)(p:List GZ):Out (Nat×(t:Ty)×List t.den):=
 match s.obj id with
 |some (v,_,c)=> .guard (v==ver) ((loc c.strip p).bind fun
  | (n,.d (.arr _ t) l)=> .ok (n,⟨t,l⟩)
  | (n,.vec _ t l)=> .ok (n,⟨t,l⟩)
  |_=> .fail)
 |none=> .fail
def cut{α:Type}(l:List α)(i len:Nat):List α:=(l.drop i).take len
def AS.iL(s:AS):(t:Ty)->aD->Out t.den
 |t,.d t' x=>Out.opt (EC t' t x)
 | .slice _,.dI=> .ok []
 | .fZ _,.dI=> .ok aJ
 | .nP _,.j7=> .ok aJ
 | .gO _,.j7=> .ok aJ
 | .slice t,.b8 id ver p c i len=>(s.row id ver p).bind λr=> .tJ (decide (r.1+i*r.2.1.size=c/\i+len<=r.2.2.length)) (Out.opt (EC (.slice r.2.1) (.slice t) (cut r.2.2 i len)))
 | .fZ t,.b8 id ver p c i len=>(s.row id ver p).bind λr=> .tJ (decide (r.1+i*r.2.1.size=c/\i+len<=r.2.2.length)) (Out.opt (EC (.slice r.2.1) (.fZ t) (cut r.2.2 i len)))
 | .pair a b,.pr x y=>(s.iL a x).bind λx=>(s.iL b y).bind λy=> .ok (x,y)
 |_,_=> .fail
def aD.shared:aD->List Id
 | .b8 id _ _ _ _ _=> [id]
 | .pr a b=>a.shared++b.shared
 |_=> []
def AS.freeze(s:AS)(id:Id):AS:=
 match s.bS id with
 |some (.obj v _ c)=>s.aZ id (.obj v aT c)
 |_=>s
def AS.bp(s:AS):List Id->AS
 |[]=>s
 |id::ids=>(s.freeze id).bp ids
end Go.Ab
namespace Go.Ab
def atw{α:Type}(f:α->List Value->Option (List Value)):List α->List Value->Option (List Value)
 |[],cs=>al cs
 |x::xs,cs=>match f x cs with | some r=>atw f xs r | none=>aJ
def tS:(t:Ty)->t.den->List Value->Option (List Value)
 | .int k,x,.int k' n::r=>match decide (k=k'),decide (n=(x:Int)) with | true,aT=>al r | _,_=>aJ
 | .bool,x,.bool b::r=>match decide (b=(x:Bool)) with | true=>al r | false=>aJ
 | .str,x,.string s::r=>match decide (s=(x:ByteArray)) with | true=>al r | false=>aJ
 | .slice _,[],.slice aJ 0 0::r=>al r
 | .fZ _,aJ,.slice aJ 0 0::r=>al r
 | .nP _,aJ,.pointer aJ::r=>al r
 | .gO _,aJ,.pointer aJ::r=>al r
 | .unit,_,r=>al r
 | .pair a b,x,r=>match tS a x.1 r with | some r'=>tS b x.2 r' | none=>aJ
 | .arr n t,l,r=>match decide ((l:List t.den).length=n) with | true=>atw (tS t) l r | false=>aJ
 |_,_,_=>aJ
def QQ:aD->List Value->Option (List Value)
 | .d t x,r=>tS t x r
 | .dI,.slice aJ 0 0::r=>al r
 | .j7,.pointer aJ::r=>al r
 | .vF,.nilFunc::r=>al r
 | .Bd,.map aJ::r=>al r
 | .pr a b,r=>match QQ a r with | some r'=>QQ b r' | none=>aJ
 |_,_=>aJ
def rn:Value->Bool | .agg _=>aT | _=>aR
def acB(P:aN)(T:TypeId)(z:aD):Bool:=
 match P.info? T with
 |some i=>match i.zero with
  |some zv=>(match QQ z zv.cells.toList with | some []=>aT | _=>aR) && (rn zv==z.agg)
  |none=>aR
 |none=>aR
structure im where
 val:aD
 cj:List dR
 news:List dR
structure Entry where
 params:List (Option Ty)
 X:Type
 run:List aD->List dR->Option X
 out:List aD->List dR->X->im
 sp:X->Out X:= .ok
 amJ:∀x y,(sp x).eval=al y->y=x:=by exact λx y h=>(aO h).symm
 rel:Bool:=aR
 set:List aD->List dR->X->Prop:=λ_ _ _=>False
abbrev pZ:=fR->List aD->Option Entry
def aD.ids:aD->List Id
 | .ptr id _ _ _=> [id]
 | .b8 id _ _ _ _ _=> [id]
 | .pr a b=>a.ids++b.ids
 | .cons a b=>a.ids++b.ids
 | .fn _ c=>c.ids
 | .bx _ _ c=>c.ids
 | .cP id _=> [id]
 | .yl id _=> [id]
 | .yH _ f _=>f.ids
 | .qh id _ _ _ _ _=> [id]
 |_=> []
def dR.ids:dR->List Id
 | .obj _ _ c=>c.ids
 | .dead=> []
def AS.reach(s:AS):Nat->List Id->List Id->List Id
 | 0,_,acc=>acc
 |_+1,[],acc=>acc
 |n+1,id::todo,acc=>if acc.contains id then s.reach n todo acc else s.reach n (((s.bS id).getD .dead).ids++todo) (acc++ [id])
def idxOf(id:Id):List Id->Option Nat
 |[]=>aJ
 |x::xs=>if x=id then al 0 else(idxOf id xs).map (· +1)
def aD.iK(ρ:Id->Nat->Option (Id×Nat)):aD->aD
 | .ptr id ver p n=>match ρ id ver with | some r=> .ptr r.1 r.2 p n | none=> .gone
 | .b8 id ver p c i len=>match ρ id ver with | some r=> .b8 r.1 r.2 p c i len | none=> .gone
 | .pr a b=> .pr (a.iK ρ) (b.iK ρ)
 | .cons a b=> .cons (a.iK ρ) (b.iK ρ)
 | .fn f c=> .fn f (c.iK ρ)
 | .bx e z c=> .bx e z (c.iK ρ)
 | .cP id ver=>match ρ id ver with | some r=> .cP r.1 r.2 | none=> .gone
 | .yl id ver=>match ρ id ver with | some r=> .yl r.1 r.2 | none=> .gone
 | .yH k f p=> .yH k (f.iK ρ) p
 | .qh id _ k v rest cur=> .qh id 0 k v rest cur
 |v=>v
def AS.vN(s:AS)(ids:List Id)(id:Id)(ver:Nat):Option (Id×Nat):=
 match idxOf id ids,s.obj id with
 |some k,al (v,_,_)=>if v=ver then al (.bG k,0) else aJ
 |_,_=>aJ
def AS.mf(s:AS)(ids:List Id)(id:Id):dR:=
 match s.bS id with
 |some (.obj _ fr c)=> .obj 0 fr (c.iK (s.vN ids))
 |_=> .dead
def AS.AT(s:AS)(id:Id):Nat:=match s.obj id with | some (v,_,_)=>v | none=>0
def aBD(ids:List Id)(dst:Nat):Id->Id
 | .bG k=>ids.getD k (.bG 0)
 | .new _ j=> .new dst j
def AS.ui(s:AS)(ids:List Id)(dst:Nat):Id->Nat->Option (Id×Nat)
 | .bG k,v=>match ids[k]? with | some id=>al (id,s.AT id+v) | none=>aJ
 | .new _ j,v=>al (.new dst j,v)
def AS.ri(s:AS)(ids:List Id)(dst:Nat)(ver:Nat):dR->dR
 | .obj v fr c=> .obj (ver+v) fr (c.iK (s.ui ids dst))
 | .dead=> .dead
def AS.conv(s:AS):List (Option Ty)->List aD->Out (List aD×List Id)
 |[],[]=> .ok ([],[])
 |some t::ps,v::vs=>(s.iL t v).bind λx=>(s.conv ps vs).bind λr=> .ok (.d t x::r.1,v.shared++r.2)
 |none::ps,v::vs=>(s.conv ps vs).bind λr=> .ok (v::r.1,r.2)
 |_,_=> .fail
def AS.jD(s0:AS)(all:List Id)(dst:Nat)(s:AS):List Id->List dR->AS
 |id::ids,e::es=>AS.jD s0 all dst (s.aZ id (s0.ri all dst (s0.AT id) e)) ids es
 |_,_=>s
def aD.list:aD->List aD
 | .cons a b=>a::b.list
 |_=> []
def AS.made(s:AS)(ids:List Id)(t:Nat):List dR->AS
 |[]=>s
 |e::es=>s.born t ((e::es).map (s.ri ids t 0))
def AS.back(s:AS)(ids:List Id)(dst:Option Tmp)(g:im):Out AS:=
 match dst with
 |some t=> .guard ((g.cj.length==ids.length) && (g.news.isEmpty || s.eB t))
   (.ok ((AS.jD s ids t (s.made ids t g.news) ids g.cj).put dst (g.val.iK (s.ui ids t))))
 |none=> .guard ((g.cj.length==ids.length) && g.news.isEmpty) (.ok (AS.jD s ids 0 s ids g.cj))
def AS.Yp(s:AS)(vs:List aD):List Id:=s.reach 64 (vs.flatMap aD.ids) []
def AS.NT(s:AS)(id:Id):Bool:=match s.obj id with | some (_,aT,.mp ..)=>aR | _=>aT
def AS.enter(s:AS)(en:Entry)(dst:Option Tmp)(ids:List Id)(vs:List aD):Out AS:= .guard (ids.all λid=>(s.obj id).isSome && s.NT id) (.get (en.run (vs.map (aD.iK (s.vN ids))) (ids.map (s.mf ids))) λx=>(en.sp x).bind λx=>s.back ids dst (en.out (vs.map (aD.iK (s.vN ids))) (ids.map (s.mf ids)) x))
def AS.call(s:AS)(en:Entry)(dst:Option Tmp)(vs:List aD):Out AS:=(s.conv en.params vs).bind λr=>(s.bp r.2).enter en dst ((s.bp r.2).Yp r.1) r.1
def eh(op:BinOp)(k:kF)(x y:Int):Int:=
 match op with
 | .and=>k.wrap ((bh k.bits x &&& bh k.bits y).toNat)
 | .or=>k.wrap ((bh k.bits x ||| bh k.bits y).toNat)
 | .xor=>k.wrap ((bh k.bits x^^^bh k.bits y).toNat)
 |_=>k.wrap ((bh k.bits x &&& ~~~bh k.bits y).toNat)
def auv(op:BinOp)(k:kF)(x:Int)(k':kF)(y:Int):Out aD:=
 match op with
 | .shl=> .tJ (decide (0<=y)) (.ok (.d (.int k) (k.wrap (x*2^(min y.toNat k.bits)))))
 | .shr=> .tJ (decide (0<=y)) (.ok (.d (.int k) (x.fdiv (2^(min y.toNat k.bits)))))
 |_=> .guard (decide (k=k')) (match op with
  | .add=> .ok (.d (.int k) (k.wrap (x+y)))
  | .sub=> .ok (.d (.int k) (k.wrap (x - y)))
  | .mul=> .ok (.d (.int k) (k.wrap (x*y)))
  | .quo=> .tJ (!(decide (y=0))) (.ok (.d (.int k) (k.wrap (x.tdiv y))))
  | .rem=> .tJ (!(decide (y=0))) (.ok (.d (.int k) (x.tmod y)))
  | .eql=> .ok (.d .bool (x==y))
  | .neq=> .ok (.d .bool (x !=y))
  | .lss=> .ok (.d .bool (decide (x < y)))
  | .leq=> .ok (.d .bool (decide (x<=y)))
  | .gtr=> .ok (.d .bool (decide (x > y)))
  | .geq=> .ok (.d .bool (decide (x>=y)))
  |op=> .ok (.d (.int k) (eh op k x y)))
def axa(op:BinOp)(x y:ByteArray):Out aD:=
 match op with
 | .add=> .tJ (decide (((x.size+y.size:Nat):Int)<=IntKind.i64.max)) (.ok (.d .str (x++y)))
 | .eql=> .ok (.d .bool (x.toList==y.toList))
 | .neq=> .ok (.d .bool (!(x.toList==y.toList)))
 | .lss=> .ok (.d .bool (Op.bytesLess x.toList y.toList))
 | .geq=> .ok (.d .bool (!(Op.bytesLess x.toList y.toList)))
 |_=> .fail
def I6(P:aN)(T:TypeId)(b:Bool):Bool:=
 match P.underlying T with | some (.struct _)=>b | some (.array _ _)=>b | some _=> !b | none=>aR
def IP(P:aN)(tJ:TypeId->Ty->Bool):List Field->Ty->Nat->Bool
 |[],.unit,_=>aT
 |f::fs,.pair a b,off=> !(f.name== "_") && (f.offset==off) && !(a.size==0) && (P.cellsOf f.type==a.size) && I6 P f.type a.agg && tJ f.type a && IP P tJ fs b (off+a.size)
 |_,_,_=>aR
def aAq(P:aN)(u:TypeId):Bool:=match P.info? u with | some i=> !(i.size==0) | none=>aR
def aF6(P:aN)(T:TypeId):Bool:=match P.underlying T with | some (.pointer u)=>aAq P u | _=>aR
def rK(P:aN):Nat->TypeId->Ty->Bool
 | 0,_,_=>aR
 |n+1,T,t=>match P.underlying T,t with
  |some (.int _),.int _=>aT
  |some .bool,.bool=>aT
  |some .string,.str=>aT
  |some (.pointer u),.gO t=>aAq P u && t.al4
  |some (.array m e),.arr m' t'=>(m==m') && !(t'.size==0) && (P.cellsOf e==t'.size) && I6 P e t'.agg && rK P n e t'
  |some (.struct fs),t=> !P.stoodInHeld T && IP P (rK P n) fs.toList t 0
  |_,_=>aR
def aGm(P:aN)(T:TypeId):Bool:=match P.underlying T with | some (.pointer u)=>(P.info? u).isSome | _=>aR
def xu(P:aN)(T:TypeId):aD->aD->Out Bool
 | .d (.gO t) x,.d (.gO t') y=>(Out.opt (sH (.gO t') (.gO t) y)).bind λy=> .guard (aF6 P T && t.al4) (.ok ((Ty.gO t).beq x y))
 | .d t x,.d t' y=>(Out.opt (sH t' t y)).bind λy=> .guard ((t.agg && !P.eqGuardType P.depth T || decide (t= .bool)) && rK P depth T t) (.ok (t.beq x y))
 | .dI,.dI=> .guard (isSl P T) (.ok aT)
 | .d (.slice t) l,.dI=> .guard (isSl P T) (.tJ (decide (0 < (l:List t.den).length)) (.ok aR))
 | .dI,.d (.slice t) l=> .guard (isSl P T) (.tJ (decide (0 < (l:List t.den).length)) (.ok aR))
 | .b8 _ _ _ _ _ len,.dI=> .guard (isSl P T) (.tJ (decide (0 < len)) (.ok aR))
 | .dI,.b8 _ _ _ _ _ len=> .guard (isSl P T) (.tJ (decide (0 < len)) (.ok aR))
 | .j7,.j7=> .guard (isPt P T) (.ok aT)
 | .ptr ..,.j7=> .guard (isPt P T) (.ok aR)
 | .j7,.ptr .. => .guard (isPt P T) (.ok aR)
 | .d (.nP t) x,.j7=> .guard (isPt P T) (.ok (x:Option t.den).isNone)
 | .j7,.d (.nP t) x=> .guard (isPt P T) (.ok (x:Option t.den).isNone)
 | .d (.gO t) x,.j7=> .guard (isPt P T) (.ok (x:Option (Nat×t.den)).isNone)
 | .j7,.d (.gO t) x=> .guard (isPt P T) (.ok (x:Option (Nat×t.den)).isNone)
 | .vF,.vF=> .guard (isFn P T) (.ok aT)
 | .fn ..,.vF=> .guard (isFn P T) (.ok aR)
 | .vF,.fn .. => .guard (isFn P T) (.ok aR)
 |_,_=> .fail
where
 isSl (P:aN) (T:TypeId):Bool:=match P.underlying T with | some (.slice _)=>aT | _=>aR
 isPt (P:aN) (T:TypeId):Bool:=match P.underlying T with | some (.pointer _)=>aT | _=>aR
 isFn (P:aN) (T:TypeId):Bool:=match P.underlying T with | some (.func _ _ _)=>aT | _=>aR
def aCf(P:aN)(T:TypeId)(op:BinOp)(x y:aD):Out aD:=
 match x,y with
 | .d (.int k) a,.d (.int k') b=>auv op k a k' b
 | .d .str a,.d .str b=>axa op a b
 |x,y=>match op with
  | .eql=>(xu P T x y).bind λb=> .ok (.d .bool b)
  | .neq=>(xu P T x y).bind λb=> .ok (.d .bool (!b))
  |_=> .fail
def aHm(op:UnOp)(x:aD):Out aD:=
 match op,x with
 | .not,.d .bool b=> .ok (.d .bool (!b))
 | .neg,.d (.int k) n=> .ok (.d (.int k) (k.wrap (0 - n)))
 | .xor,.d (.int k) n=> .ok (.d (.int k) (eh .xor k (if k.signed then -1 else k.max) n))
 |_,_=> .fail
def cE(s:ByteArray):List Int:=s.data.toList.map λb=>(b.toNat:Int)
def fF(l:List Int):ByteArray:=⟨(l.map λn=>fy n.toNat).toArray⟩
def AS.ajt(s:AS)(t:Ty)(v:aD):Out t.den:=s.iL t v
def asU(P:aN)(s:AS)(obj:Bool)(src dst:TypeId)(x:aD):Out aD:=
 match x,P.underlying dst,P.underlying src with
 | .d (.int _) n,al (.int k),al _=> .ok (.d (.int k) (k.wrap n))
 | .d .str a,al .string,al _=> .ok (.d .str a)
 | .d .str a,al (.slice e),al _=>match P.underlying e with
  |some (.int .u8)=>match obj with | true=> .ok (.sb (cE a)) | false=> .ok (.d (.slice (.int .u8)) (cE a))
  |_=> .fail
 |x,al .string,al (.slice e)=>match P.underlying e with
  |some (.int .u8)=>(s.ajt (.slice (.int .u8)) x).bind λl=> .ok (.d .str (fF l))
  |_=> .fail
 |_,_,_=> .fail
def asV(P:aN)(src dst:TypeId)(l:List Int):Out aD:=
 match P.underlying dst,P.underlying src with
 |some (.slice e),al (.slice _)=>match P.underlying e with
  |some (.int .u8)=> .guard (src==dst) (.ok (.d (.slice (.int .u8)) l))
  |_=> .fail
 |_,_=> .fail
def XS(P:aN)(s:AS)(obj:Bool)(src dst:TypeId)(x:aD):Out aD:=
 match x with
 | .sb l=>asV P src dst l
 |x=>asU P s obj src dst x
def adF(P:aN)(s:AS)(d:Option Tmp)(src dst:TypeId)(id:Id)(ver len:Nat):Out AS:=
 match s.obj id,P.underlying dst with
 |some (v,aR,.vec _ (.int .u8) l),al (.slice e)=>match P.underlying e with
  |some (.int .u8)=> .guard ((v==ver) && (src==dst)) (.tJ (decide (0 < len/\len=(l:List Int).length)) (.ok ((s.aZ id .dead).put d (.d (.slice (.int .u8)) l))))
  |_=> .fail
 |_,_=> .fail
def XT(P:aN)(s:AS)(src dst:TypeId)(id:Id)(ver:Nat):Out aD:=
 match s.obj id with
 |some (v,_,.bx e 0 c)=>match P.underlying src,P.underlying dst with
  |some (.pointer t),al .unsafePointer=> .guard ((v==ver) && !(P.cellsOf t==0) && !(c.size==0)) (.ok (.ptr id ver [] 0))
  |some .unsafePointer,al (.pointer u)=> .guard ((v==ver) && !(P.cellsOf u==0) && liesAt P P.depth e (c.size / P.cellsOf e) 0 u 1) (.ok (.ptr id ver [] 0))
  |_,_=> .fail
 |_=> .fail
def aEr(P:aN)(s:AS)(T:TypeId)(op:BinOp)(i:Id)(v:Nat)(j:Id)(w:Nat):Out aD:=
 match s.obj i with
 |some (v',_,_)=> .guard (decide (i=j) && (v==w) && (v==v') && aGm P T) (match op with | .eql=> .ok (.d .bool aT) | .neq=> .ok (.d .bool aR) | _=> .fail)
 |none=> .fail
def agL(P:aN)(s:AS)(d:Option Tmp)(T:TypeId)(id:Id)(ver:Nat)(n:Int):Out AS:=
 match s.obj id,P.underlying T with
 |some (v,aR,.vec e (.int .u8) l),al (.pointer u)=> .guard ((v==ver) && (u==e) && (P.cellsOf e==1))
   (.tJ (decide (0 < n/\n<=((l:List Int).length:Int))) (.ok ((s.aZ id .dead).put d (.d .str (fF ((l:List Int).take n.toNat))))))
 |_,_=> .fail
def asInt:aD->Out Int
 | .d (.int _) n=> .ok n
 |_=> .fail
def bounds(s:AS)(n:Nat)(lo hi:Option bJ):Out (Nat×Nat):=
 (match hi with
  |some h=>(asInt (s.ev h)).bind λh=> .tJ (decide (0<=h/\h<=(n:Int))) (.ok h.toNat)
  |none=> .ok n).bind λh=>
 (match lo with
  |some l=>(asInt (s.ev l)).bind λl=> .tJ (decide (0<=l/\l<=(h:Int))) (.ok l.toNat)
  |none=> .ok 0).bind λl=> .ok (l,h)
def kP(P:aN)(T:TypeId):Option Nat:=
 match P.underlying T with
 |some (.array _ e)=>match P.cellsOf e with | 0=>aJ | z+1=>al (z+1)
 |some (.slice e)=>match P.cellsOf e with | 0=>aJ | z+1=>al (z+1)
 |_=>aJ
def wG(P:aN)(T:TypeId):Option Nat:=
 match P.underlying T with
 |some (.array n _)=>al n
 |_=>aJ
def FP(P:aN)(s:AS)(T:TypeId)(x:aD)(lo hi:Option bJ):Out aD:=
 match x with
 | .d .str a=> .guard (match P.underlying T with | some .string=>aT | _=>aR) ((bounds s a.size lo hi).bind λb=> .ok (.d .str (a.extract b.1 b.2)))
 | .d (.slice t) l=> .guard (match kP P T,wG P T with | some z,aJ=>z==t.size | _,_=>aR)
   ((bounds s (l:List t.den).length lo hi).bind λb=> .ok (.d (.slice t) (cut l b.1 (b.2 - b.1))))
 | .dI=> .guard (match kP P T,wG P T with | some _,aJ=>aT | _,_=>aR) ((bounds s 0 lo hi).bind λ_=> .ok .dI)
 | .b8 id ver p c i len=>(s.row id ver p).bind λr=> .guard (match kP P T,wG P T with | some z,aJ=>z==r.2.1.size | _,_=>aR)
   ((bounds s len lo hi).bind λb=> .ok (.b8 id ver p (c+b.1*r.2.1.size) (i+b.1) (b.2 - b.1)))
 | .ptr id ver p n=>(s.row id ver p).bind λr=> .guard (match kP P T,wG P T with | some z,al _=>z==r.2.1.size | _,_=>aR)
   (.tJ (decide (wG P T=al r.2.2.length/\r.1=n)) ((bounds s ((wG P T).getD 0) lo hi).bind λb=> .ok (.b8 id ver (p++ [.arr]) (n+b.1*r.2.1.size) b.1 (b.2 - b.1))))
 | .eN (.arr n t) l=> .guard (match kP P T,wG P T with | some z,al m=>(z==t.size) && (m==n) | _,_=>aR)
   ((bounds s n lo hi).bind λb=> .ok (.d (.slice t) (cut l b.1 (b.2 - b.1))))
 |_=> .fail
def azC:aD->Int
 | .d (.slice t) l=>((l:List t.den).length:Int)
 | .b8 _ _ _ _ _ len=>(len:Int)
 | .dI=>0
 |_=> -1
def ad7:Option bJ->aD->aD
 |some _,.b8 id ver p c i len=> .b8 id ver (p++ [.arr]) c i len
 |_,v=>v
def MF(P:aN)(s:AS)(T:TypeId)(x:aD)(lo:Option bJ)(h m:bJ):Out aD:=(asInt (s.ev h)).bind λhv=>(asInt (s.ev m)).bind λmv=> .tJ (decide (0<=hv/\hv<=mv/\mv<=azC x)) ((FP P s T x lo (al h)).bind λv=> .ok (ad7 (al m) v))
def rk(P:aN)(s:AS)(T:TypeId)(x:aD)(i:Int):Out aD:=
 match x with
 | .d (.slice t) l=> .guard (match kP P T,wG P T with | some z,aJ=>z==t.size | _,_=>aR)
   (.tJ (decide (0<=i/\i < ((l:List t.den).length:Int))) (.ok (.eN t (nth t l i.toNat))))
 | .eN (.arr n t) l=> .guard (match kP P T,wG P T with | some z,al m=>(z==t.size) && (m==n) | _,_=>aR)
   (.tJ (decide (0<=i/\i < (n:Int))) (.ok (.eN t (nth t l i.toNat))))
 | .b8 id ver p c j len=>(s.row id ver p).bind λr=> .guard (match kP P T,wG P T with | some z,aJ=>z==r.2.1.size | _,_=>aR)
   (.tJ (decide (0<=i/\i < (len:Int))) (.ok (.ptr id ver (p++ [.idx (j+i.toNat)]) (c+i.toNat*r.2.1.size))))
 | .ptr id ver p n=> .guard (match kP P T,wG P T with | some _,al _=>aT | _,_=>aR)
   (.tJ (decide (0<=i/\i < (((wG P T).getD 0:Nat):Int))) (.ok (.ptr id ver (p++ [.idx i.toNat]) (n+i.toNat*(kP P T).getD 0))))
 |_=> .fail
def fieldInfo(P:aN)(T:TypeId)(f:Nat):Option (Nat×TypeId):=
 match P.underlying T with
 |some (.struct fs)=>match fs[f]? with | some x=>al (x.offset,x.type) | none=>aJ
 |_=>aJ
def partOf:aD->Nat->Option (Nat×aD)
 | .d (.pair a _) x,0=>al (0,.d a x.1)
 | .d (.pair a b) x,n+1=>match partOf (.d b x.2) n with | some (o,v)=>al (a.size+o,v) | none=>aJ
 | .pr a _,0=>al (0,a)
 | .pr a b,n+1=>match partOf b n with | some (o,v)=>al (a.size+o,v) | none=>aJ
 |_,_=>aJ
def CY(P:aN)(T:TypeId)(x:aD)(f:Nat):Out aD:=
 match fieldInfo P T f with
 |some (o,ft)=> .guard (!(P.cellsOf ft==0)) (match x with
  | .ptr id ver p n=> .ok (.ptr id ver (p++nr f) (n+o))
  | .eN t x=>match partOf (.d t x) f with
   |some (o',.d t' y)=> .guard (o==o') (.ok (.eN t' y))
   |_=> .fail
  | .d (.nP t) x=> .get (x:Option t.den) λx=>match partOf (.d t x) f with
   |some (o',.d t' y)=> .guard (o==o') (.ok (.eN t' y))
   |_=> .fail
  | .d (.gO t) x=> .get (x:Option (Nat×t.den)) λx=>match partOf (.d t x.2) f with
   |some (o',.d t' y)=> .guard (o==o') (.ok (.eN t' y))
   |_=> .fail
  |_=> .fail)
 |none=> .fail
def aax(P:aN)(T:TypeId)(x:aD)(f:Nat):Out aD:=
 match fieldInfo P T f,partOf x f with
 |some (o,ft),al (o',v)=> .guard ((o==o') && fits P ft v) (.ok v)
 |_,_=> .fail
def aaN(P:aN)(T:TypeId)(x:aD)(i:Int):Out aD:=
 match x,P.underlying T with
 | .d (.arr n t) l,al (.array m e)=> .guard ((n==m) && fits P e (.d t t.zero)) (.tJ (decide (0<=i/\i < (n:Int))) (.ok (.d t (nth t l i.toNat))))
 | .d .str a,al .string=> .tJ (decide (0<=i/\i < (a.size:Int))) (.ok (.d (.int .u8) ((a.data.toList.getD i.toNat 0).toNat:Int)))
 |_,_=> .fail
def aDB:aD->Out aD
 | .d (.fZ t) l=> .tJ (l:Option (List t.den)).isNone (.ok .dI)
 |v=> .ok v
def Lp(P:aN)(s:AS)(T:TypeId)(x:aD):Out aD:=
 match x with
 | .ptr id ver p n=>match s.obj id with
  |some (v,_,c)=> .guard (v==ver) ((loc c.strip p).bind λr=> .guard (fits P T r.2) (.tJ (decide (r.1=n)) (aDB r.2)))
  |none=> .fail
 | .eN t y=> .guard (fits P T (.d t y)) (.ok (.d t y))
 | .d (.nP t) y=> .get (y:Option t.den) λy=> .guard (fits P T (.d t y)) (.ok (.d t y))
 | .d (.gO t) y=> .get (y:Option (Nat×t.den)) λy=> .guard (fits P T (.d t y.2)) (.ok (.d t y.2))
 |_=> .fail
def FR(P:aN)(s:AS)(T:TypeId)(x v:aD):Out AS:=
 match x with
 | .ptr id ver p n=>match s.obj id with
  |some (ve,fr,c)=> .guard ((ve==ver) && !fr && fits P T v) ((loc c.strip p).bind λr=> .guard (fits P T r.2) (.tJ (decide (r.1=n)) ((wJ c.strip p v).bind λc'=> .ok (s.aZ id (.obj ve fr (c.wrap c'))))))
  |none=> .fail
 |_=> .fail
def azB(P:aN)(T:TypeId)(x:aD):Out aD:=
 match P.underlying T,x with
 |some .string,.d .str a=> .ok (.d (.int .i64) (a.size:Int))
 |some (.slice _),.d (.slice t) l=> .ok (.d (.int .i64) ((l:List t.den).length:Int))
 |some (.slice _),.dI=> .ok (.d (.int .i64) (0:Int))
 |some (.slice _),.b8 _ _ _ _ _ len=> .ok (.d (.int .i64) (len:Int))
 |some (.array n _),_=> .ok (.d (.int .i64) (n:Int))
 |_,_=> .fail
def E5(P:aN)(s:AS)(t:Ty)(X:TypeId)(x:aD):Out (List t.den):=
 match x with
 | .d .str a=>match P.underlying X with
  |some .string=>Out.opt (sH (.slice (.int .u8)) (.slice t) (cE a))
  |_=> .fail
 |x=>match P.underlying X with
  |some (.slice _)=>s.ajt (.slice t) x
  |_=> .fail
def ea(n b:Nat):Bool:=decide (n*b<=140737488355328/\n<=9223372036854775807)
def CV(P:aN)(nl:Bool)(T:TypeId):Option (TypeId×Ty×Nat):=
 match P.underlying T with
 |some (.slice e)=>match Wc P nl depth e with
  |some t=>match(P.cellsOf e==t.size) && !(t.size==0) && acB P e (.d t t.zero) with | true=>al (e,t,P.bytesOf e) | false=>aJ
  |none=>aJ
 |_=>aJ
def Rl(P:aN)(T:TypeId):Option (TypeId×Ty×Nat):=CV P aR T
def aal(P:aN)(T:TypeId):Option (TypeId×Ty×Nat):=
 match Nat.ble 100000 T with
 |true=>CV P aT (T - 100000)
 |false=>CV P aR T
def aev(P:aN)(s:AS)(dst:Option Tmp)(T X:TypeId)(n:Int):Out AS:=
 match Rl P T,dst,P.underlying X with
 |some (e,t,b),al q,al (.int _)=> .guard (s.eB q) (.tJ (decide (0 < n) && ea n.toNat b)
   (.ok ((s.born q [.obj 0 aR (.vec e t (ai n.toNat t.zero))]).put dst (.b8 (.new q 0) 0 [] 0 0 n.toNat))))
 |_,_,_=> .fail
def apl(mx:Bool):List aD->Out aD
 |[.d (.int k) x,.d (.int k') y]=> .guard (decide (k=k')) (.ok (.d (.int k) (match mx with | true=>(if x < y then y else x) | false=>(if y < x then y else x))))
 |[.d (.int k) x,.d (.int k') y,.d (.int k2) z]=> .guard (decide (k=k') && decide (k=k2)) (.ok (.d (.int k) (match mx with | true=>(if(if x < y then y else x) < z then z else(if x < y then y else x)) | false=>(if z < (if y < x then y else x) then z else(if y < x then y else x)))))
 |_=> .fail
def wM(P:aN)(s:AS)(nl dt:Bool)(dst:Option Tmp)(T X:TypeId)(x y:aD):Out AS:=
 match CV P nl T,dst with
 |some (e,t,b),al q=>(E5 P s t X y).bind λm=>
  match x with
  | .dI=>match dt with
   |true=> .tJ (ea m.length b && decide (0 < m.length)) (.ok (s.put dst (.d (.fZ t) (al m))))
   |false=> .guard (s.eB q) (.tJ (ea m.length b) (.ok ((s.born q [.obj 0 aR (.vec e t m)]).put dst (.b8 (.new q 0) 0 [] 0 0 m.length))))
  | .b8 id ver [] 0 0 len=>match s.obj id with
   |some (v,fr,.vec e' t' l)=> .guard ((v==ver) && (e==e')) ((Out.opt (sH (.slice t') (.slice t) l)).bind λl=>
     .tJ (decide (len<=l.length)) <| .tJ ((!fr) || decide (len=l.length)) (.tJ (ea (len+m.length) b)
      (.ok ((s.aZ id (.obj (v+1) fr (.vec e t (l.take len++m)))).put dst (.b8 id (v+1) [] 0 0 (len+m.length))))))
   |_=> .fail
  |_=> .fail
 |_,_=> .fail
def Sd(P:aN)(s:AS)(dst:Option Tmp)(T X:TypeId)(x y:aD):Out AS:=
 match Rl P T,x with
 |some (_,t,_),.b8 id ver [.arr] 0 0 len=>(E5 P s t X y).bind λm=>match s.obj id with
  |some (ve,aR,.d (.arr n t') l)=> .guard ((ve==ver) && (len==n)) ((Out.opt (sH (.slice t') (.slice t) l)).bind λl=> .tJ (decide (m.length<=n))
    (.ok ((s.aZ id (.obj ve aR (.d (.arr n t) (m++(l:List t.den).drop m.length)))).put dst (.d (.int .i64) (m.length:Int)))))
  |_=> .fail
 |_,_=> .fail
def js(t:Ty)(s:AS):List (Nat×bJ)->List t.den->Out (List t.den×List Id)
 |[],l=> .ok (l,[])
 | (i,x)::ps,l=> .guard (decide (i < l.length)) ((s.iL t (s.ev x)).bind λy=>(js t s ps (l.set i y)).bind λr=> .ok (r.1,(s.ev x).shared++r.2))
def pO(P:aN)(fs:Array Field)(s:AS):List (Nat×bJ)->aD->Out aD
 |[],v=> .ok v
 | (i,x)::ps,v=>match fs[i]?,partOf v i with
  |some f,al (o,bG)=> .guard ((f.offset==o) && fits P f.type bG && fits P f.type (s.ev x)) ((wJ v (nr i) (s.ev x)).bind λv'=>pO P fs s ps v')
  |_,_=> .fail
def Ex(P:aN)(s:AS)(dst:Option Tmp)(T:TypeId)(parts:List (Nat×bJ)):Out AS:=
 match P.underlying T with
 |some (.struct fs)=>match zeroOf P depth T with
  |some z=> .guard (acB P T z && z.agg && fs.toList.all λf=>(P.info? f.type).isSome)
    ((pO P fs s parts z).bind λv=> .ok (s.put dst v))
  |none=> .fail
 |some (.array n e)=>match agY P depth e with
  |some t=> .guard ((P.cellsOf e==t.size) && acB P T (.d (.arr n t) (ai n t.zero))) ((js t s parts (ai n t.zero)).bind λr=> .ok ((s.bp r.2).put dst (.d (.arr n t) r.1)))
  |none=> .fail
 |_=> .fail
def ma(P:aN)(s:AS)(nl obj:Bool)(dst:Option Tmp)(T:TypeId)(n:Nat)(parts:List (Nat×bJ)):Out AS:=
 match CV P nl T,dst with
 |some (e,t,_),al q=> .guard (decide (n*t.size<=16777216)) ((js t s parts (ai n t.zero)).bind λr=>
   match obj with
   |true=> .guard (s.eB q) (.ok (((s.bp r.2).born q [.obj 0 aR (.vec e t r.1)]).put dst (.b8 (.new q 0) 0 [] 0 0 r.1.length)))
   |false=> .ok ((s.bp r.2).put dst (.d (.slice t) r.1)))
 |_,_=> .fail
def rq(P:aN)(s:AS)(dst:Option Tmp)(T:TypeId)(len cap:Int):Out AS:=
 match Rl P T,dst with
 |some (e,t,b),al q=> .guard (s.eB q) (.tJ (decide (0<=len/\len<=cap) && ea cap.toNat b)
   (.ok ((s.born q [.obj 0 aR (.vec e t (ai len.toNat t.zero))]).put dst (.b8 (.new q 0) 0 [] 0 0 len.toNat))))
 |_,_=> .fail
def aAB(P:aN)(T:TypeId):Bool:=
 match P.underlying T with
 |some (.struct fs)=>fs.toList.any λf=>match P.underlying f.type with | some (.pointer u)=>decide (u=T) | _=>aR
 |_=>aR
def boxed(P:aN)(T:TypeId)(z:aD):aD:=match aAB P T with | true=> .bx T 0 z | false=>z
def aCj(dt:Bool)(t:Ty)(x:t.den):aD:=match dt with | true=> .d (.nP t) (al x) | false=> .eN t x
def adp(P:aN)(s:AS)(obj dt:Bool)(dst:Option Tmp)(T:TypeId)(v:aD):Out AS:=
 match dst with
 |some q=>match obj with
  |true=> .guard (s.eB q && fits P T v) (.ok ((s.born q [.obj 0 aR v]).put dst (.ptr (.new q 0) 0 [] 0)))
  |false=>match agY P depth T with
   |some t=> .guard (fits P T (.d t t.zero)) ((s.iL t v).bind λx=> .ok ((s.bp v.shared).put dst (aCj dt t x)))
   |none=> .fail
 |none=> .fail
def JE(P:aN)(s:AS)(dst:Option Tmp)(T:TypeId)(x:aD):Out AS:=
 match P.underlying T with
 |some (.array n e)=>match agY P depth e with
  |some t=> .guard ((P.cellsOf e==t.size) && !(n==0) && !(t.size==0)) ((s.iL (.slice t) x).bind λl=> .tJ (decide (n<=(l:List t.den).length)) (.ok ((s.bp x.shared).put dst (.eN (.arr n t) (l.take n)))))
  |none=> .fail
 |_=> .fail
def q9(s:AS):List bJ->aD
 |[]=> .nil
 |x::xs=> .cons (s.ev x) (q9 s xs)
def yR:aD->Bool
 | .cons a b=>a.eQ && yR b
 | .nil=>aT
 |_=>aR
def aml(c a b:aD):Out aD:=
 match c with
 | .d .bool c=>match a,b with
  | .d .bool x,.d .bool y=> .ok (.d .bool (bif c then x else y))
  |a,b=> .br c (.ok a) (.ok b)
 |_=> .fail
def isObj(bM:List Nat):Option Tmp->Bool
 |some q=>bM.any λx=>decide (x=q)
 |none=>aR
def aoW(bM:List Nat)(dst:Option Tmp):Bool:=isObj bM (dst.map (· +100000))
def aiL(bM:List Nat)(dst:Option Tmp):Bool:=isObj bM (dst.map (· +200000))
def qd:(t:Ty)->aD->Out t.den
 |t,.d t' x=>Out.opt (sH t' t x)
 | .slice _,.dI=> .ok []
 | .pair a b,.pr x y=>(qd a x).bind λx=>(qd b y).bind λy=> .ok (x,y)
 |_,_=> .fail
def mapOf(P:aN)(T:TypeId):Option (TypeId×TypeId×Ty×Ty):=
 match P.underlying T with
 |some (.map K V)=>match agY P depth K,agY P depth V with
  |some kt,al vt=>match rK P depth K kt && acB P V (.d vt vt.zero) with | true=>al (K,V,kt,vt) | false=>aJ
  |_,_=>aJ
 |_=>aJ
def iR{β:Type}(kt:Ty)(x:kt.den):List (kt.den×β)->Option Nat
 |[]=>aJ
 |p::l=>match kt.beq x p.1 with | true=>al 0 | false=>(iR kt x l).map (· +1)
def cq{β:Type}(kt:Ty)(x:kt.den)(l:List (kt.den×β)):Option β:=(iR kt x l).bind λi=>(l[i]?).map (·.2)
def ff{β:Type}(kt:Ty)(x:kt.den)(v:β)(l:List (kt.den×β)):List (kt.den×β):=
 match iR kt x l with | some i=>l.set i (x,v) | none=>l++ [(x,v)]
def j6{β:Type}(kt:Ty)(x:kt.den)(l:List (kt.den×β)):List (kt.den×β):=
 match iR kt x l with | some i=>l.eraseIdx i | none=>l
def ahX(k v k' v':Ty)(l:List (k.den×v.den)):Option (List (k'.den×v'.den)):=if h:k=k'/\v=v' then al (h.1▸h.2▸l) else aJ
def AS.qb(s:AS)(id:Id)(ver:Nat)(kt vt:Ty):Out (List (kt.den×vt.den)):=
 match s.obj id with
 |some (v,_,.mp k' v' l)=> .guard (v==ver) (Out.opt (ahX k' v' kt vt l))
 |_=> .fail
def AS.tE(s:AS)(id:Id):Bool:=match s.obj id with | some (_,fr,_)=> !fr | none=>aR
def aBI(vt:Ty)(ok:Bool)(r:Option vt.den):aD:=
 match ok with
 |true=> .cons (.d vt (r.getD vt.zero)) (.cons (.d .bool r.isSome) .nil)
 |false=> .d vt (r.getD vt.zero)
def E3(P:aN)(s:AS)(dst:Option Tmp)(T:TypeId):Out AS:=
 match mapOf P T,dst with
 |some (_,_,kt,vt),al q=> .guard (s.eB q) (.ok ((s.born q [.obj 0 aR (.mp kt vt [])]).put dst (.cP (.new q 0) 0)))
 |_,_=> .fail
def C3(P:aN)(s:AS)(T:TypeId)(m k:aD)(ok:Bool):Out aD:=
 match mapOf P T,m with
 |some (_,_,kt,vt),.cP id ver=>(s.qb id ver kt vt).bind λl=>(qd kt k).bind λk=> .ok (aBI vt ok (cq kt k l))
 |_,_=> .fail
def C8(P:aN)(s:AS)(T:TypeId)(m k v:aD):Out AS:=
 match mapOf P T,m with
 |some (_,_,kt,vt),.cP id ver=>(s.qb id ver kt vt).bind λl=>(qd kt k).bind λk=>(qd vt v).bind λv=> .guard (s.tE id) (.ok (s.aZ id (.obj ver aR (.mp kt vt (ff kt k v l)))))
 |_,_=> .fail
def C7(P:aN)(s:AS)(T:TypeId)(m k:aD):Out AS:=
 match mapOf P T,m with
 |some (_,_,kt,vt),.cP id ver=>(s.qb id ver kt vt).bind λl=>(qd kt k).bind λk=> .guard (s.tE id) (.ok (s.aZ id (.obj ver aR (.mp kt vt (j6 kt k l)))))
 |_,_=> .fail
def AS.ae3(s:AS)(id:Id)(ver:Nat):Bool:=match s.obj id with | some (v,aT,.mp ..)=>v==ver | _=>aR
def dR.auy(q:Id):dR->Bool
 | .obj _ _ (.qh q' ver _ _ _ _)=>decide (q'=q) && !(ver==0)
 |_=>aR
def AS.U2(s:AS)(q:Id):Bool:=s.cj.any (dR.auy q) || s.news.any λes=>es.any (dR.auy q)
def pH(kt vt:Ty)(l:List (kt.den×vt.den))(j:Nat):kt.den×vt.den:=l.getD j (kt.zero,vt.zero)
def Oh(P:aN)(s:AS)(dst:Option Tmp)(T:TypeId)(m:aD):Out AS:=
 match mapOf P T,m,dst with
 |some (_,_,kt,vt),.cP id ver,al q=>(s.qb id ver kt vt).bind λl=> .guard (s.tE id && s.eB q)
   (.ok (((s.aZ id (.obj ver aT (.mp kt vt l))).born q [.obj 0 aR (.qh id (ver+1) kt vt l aJ)]).put dst (.ptr (.new q 0) 0 [] 0)))
 |_,_,_=> .fail
structure am1 where
 i:Id
 v:Nat
 fr:Bool
 q:Id
 vr:Nat
 kt:Ty
 vt:Ty
 rest:List (kt.den×vt.den)
 cur:Option (kt.den×vt.den)
def AS.auw(s:AS)(x:aD):Option am1:=
 match x with
 | .ptr i ver [] 0=>match s.obj i with
  |some (v,fr,.qh q (vr+1) kt vt rest cur)=>match v==ver,s.ae3 q vr with
   |true,aT=>al ⟨i,v,fr,q,vr,kt,vt,rest,cur⟩
   |_,_=>aJ
  |_=>aJ
 |_=>aJ
def aih(s:AS)(x:aD):Out aD:=
 match s.auw x with
 |some ⟨_,_,_,_,_,kt,vt,_,al c⟩=> .ok (.cons (.d kt c.1) (.cons (.d vt c.2) .nil))
 |_=> .fail
def AS.drawn(s:AS)(t:am1)(dst:Option Tmp)(j:Nat):AS:=(s.aZ t.i (.obj t.v t.fr (.qh t.q (t.vr+1) t.kt t.vt (t.rest.eraseIdx j) (al (pH t.kt t.vt t.rest j))))).put dst (.cons (.d .bool aT) (.cons (.d t.kt (pH t.kt t.vt t.rest j).1) (.cons (.d t.vt (pH t.kt t.vt t.rest j).2) .nil)))
def AS.unlock(s:AS)(id:Id):AS:=match s.obj id with | some (v,_,c)=>s.aZ id (.obj v aR c) | none=>s
def AS.az1(s:AS)(t:am1)(dst:Option Tmp):Option AS:=
 match(s.aZ t.i (.obj t.v t.fr (.qh t.q 0 t.kt t.vt [] aJ))).U2 t.q with
 |false=>al (((s.aZ t.i (.obj t.v t.fr (.qh t.q 0 t.kt t.vt [] aJ))).unlock t.q).put dst (.cons (.d .bool aR) .nil))
 |true=>aJ
open Classical in
def acF{R:Type}(n:Nat)(k:Nat->Option R):Option R:=if h:∃r,0 < n/\∀j,j < n->k j=al r then al h.choose else aJ
open Classical in
def QP{X R:Type}(S:X->Prop)(k:X->Option R):Option R:=if h:∃r,(∃x,S x)/\∀x,S x->k x=al r then al h.choose else aJ
def avb{R:Type}(s:AS)(dst:Option Tmp)(t:am1)(k:AS->Option R):Option R:=
 aS (decide (0 < t.rest.length)) (acF t.rest.length λj=>k (s.drawn t dst j)) (match s.az1 t dst with | some s'=>k s' | none=>aJ)
def AS.alS(s:AS)(ids:List Id):Bool:=ids.all λid=>(s.obj id).isSome && s.NT id
def AS.atz{R:Type}(s:AS)(en:Entry)(dst:Option Tmp)(ids:List Id)(vs:List aD)(k:AS->Option R):Option R:=QP (en.set (vs.map (aD.iK (s.vN ids))) (ids.map (s.mf ids))) λx=>((en.sp x).bind λx=>s.back ids dst (en.out (vs.map (aD.iK (s.vN ids))) (ids.map (s.mf ids)) x)).run k
def AS.adz{R:Type}(s:AS)(en:Entry)(dst:Option Tmp)(vs:List aD)(k:AS->Option R):Option R:=((s.conv en.params vs).bind λr=> .guard ((s.bp r.2).alS ((s.bp r.2).Yp r.1)) (.ok r)).run λr=>(s.bp r.2).atz en dst ((s.bp r.2).Yp r.1) r.1 k
def AS.aBg{R:Type}(s:AS)(en:Entry)(dst:Option Tmp)(vs:List aD)(k:AS->Option R):Option R:=
 match en.rel with | true=>s.adz en dst vs k | false=>(s.call en dst vs).run k
def yB:Nat:=4294967296
def po(P:aN)(Γ:pZ)(bM:List Nat)(o:Oper)(s:AS):Out AS:=
 match o.op with
 | .move x=> .ok (s.put o.dst (s.ev x))
 | .assign x=> .ok (s.put o.dst (s.ev x))
 | .pick c a b=>(aml (s.ev c) (s.ev a) (s.ev b)).bind λv=> .ok (s.put o.dst v)
 | .alloc T=>match zeroOf P depth T,o.dst with
  |some z,al q=> .guard (s.eB q && acB P T z) (.ok ((s.born q [.obj 0 aR (boxed P T z)]).put o.dst (.ptr (.new q 0) 0 [] 0)))
  |_,_=> .fail
 | .box T x=>adp P s (isObj bM o.dst) (aiL bM o.dst) o.dst T (s.ev x)
 | .build T parts=>Ex P s o.dst T parts.toList
 | .buildSlice T n parts=>ma P s (aoW bM o.dst) (isObj bM o.dst) o.dst T n parts.toList
 | .load T x=>(Lp P s T (s.ev x)).bind λv=> .ok (s.put o.dst v)
 | .store T x v=>(FR P s T (s.ev x) (s.ev v)).bind λs'=> .ok (s'.put o.dst .undef)
 | .nilCheck x=>match s.ev x with
  | .ptr id v p n=> .ok (s.put o.dst (.ptr id v p n))
  | .eN t y=> .ok (s.put o.dst (.eN t y))
  | .d (.nP t) y=> .get (y:Option t.den) λy=> .ok (s.put o.dst (.eN t y))
  | .d (.gO t) y=> .get (y:Option (Nat×t.den)) λy=> .ok (s.put o.dst (.eN t y.2))
  | .fn f c=> .ok (s.put o.dst (.fn f c))
  |_=> .fail
 | .binOp op T x y _=>match s.ev x,s.ev y with
  | .ptr i v [] 0,.ptr j w [] 0=>(aEr P s T op i v j w).bind λv=> .ok (s.put o.dst v)
  |_,_=>(aCf P T op (s.ev x) (s.ev y)).bind λv=> .ok (s.put o.dst v)
 | .unOp op _ x=>(aHm op (s.ev x)).bind λv=> .ok (s.put o.dst v)
 | .convert src dst x=>match src==dst,s.ev x with
  |true,.b8 id ver [] 0 0 len=>adF P s o.dst src dst id ver len
  |_,.ptr id ver [] 0=>(XT P s src dst id ver).bind λv=> .ok (s.put o.dst v)
  |_,_=>(XS P s (isObj bM o.dst) src dst (s.ev x)).bind λv=> .ok (s.put o.dst v)
 | .sliceToArrayPointer T x=>JE P s o.dst T (s.ev x)
 | .makeFunc (.func f) first caps=> .guard (first.isEmpty && yR (q9 s caps.toList)) (.ok (s.put o.dst (.fn f (q9 s caps.toList))))
 | .makeSlice T l c=>(asInt (s.ev l)).bind λl=>(asInt (s.ev c)).bind λc=>rq P s o.dst T l c
 | .slice T x lo hi aJ=>(FP P s T (s.ev x) lo hi).bind λv=> .ok (s.put o.dst v)
 | .slice T x lo (al h) (al m)=>(MF P s T (s.ev x) lo h m).bind λv=> .ok (s.put o.dst v)
 | .fieldAddr T x f=>(CY P T (s.ev x) f).bind λv=> .ok (s.put o.dst v)
 | .field T x f=>(aax P T (s.ev x) f).bind λv=> .ok (s.put o.dst v)
 | .indexAddr T x i=>(asInt (s.ev i)).bind λi=>(rk P s T (s.ev x) i).bind λv=> .ok (s.put o.dst v)
 | .index T x i=>(asInt (s.ev i)).bind λi=>(aaN P T (s.ev x) i).bind λv=> .ok (s.put o.dst v)
 | .extract x i=>(Out.opt ((s.ev x).list[i]?)).bind λv=> .ok (s.put o.dst v)
 | .makeMap T aJ=>E3 P s o.dst T
 | .lookup T x i ok=>(C3 P s T (s.ev x) (s.ev i) ok).bind λv=> .ok (s.put o.dst v)
 | .mapUpdate T m k x=>(C8 P s T (s.ev m) (s.ev k) (s.ev x)).bind λs'=> .ok (s'.put o.dst .undef)
 | .range T m=>Oh P s o.dst T (s.ev m)
 | .call c=>match c.callee with
  | .builtin .delete=>match c.args.toList,c.argTypes.toList with
   |[m,k],[T,_]=>(C7 P s T (s.ev m) (s.ev k)).bind λs'=> .ok (s'.put o.dst .nil)
   |_,_=> .fail
  | .builtin .copy=>match c.args.toList,c.argTypes.toList with
   |[x,y],[T,X]=>Sd P s o.dst T X (s.ev x) (s.ev y)
   |_,_=> .fail
  | .builtin .len=>match c.args.toList,c.argTypes.toList with
   |[x],[T]=>(azB P T (s.ev x)).bind λv=> .ok (s.put o.dst v)
   |_,_=> .fail
  | .builtin .append=>match c.args.toList,c.argTypes.toList with
   |[x,y],[T,X]=>match s.ev x,s.ev y with
    | .dI,.d (.int _) n=>aev P s o.dst T X n
    |_,_=>wM P s (aoW bM o.dst) (aiL bM o.dst) o.dst T X (s.ev x) (s.ev y)
   |_,_=> .fail
  | .builtin .cap=>match c.args.toList,c.argTypes.toList with
   |[x],[T]=>match s.ev x,P.underlying T with
    | .dI,al (.slice _)=> .ok (s.put o.dst (.d (.int .i64) (0:Int)))
    |_,_=> .fail
   |_,_=> .fail
  | .builtin .max=>(apl aT (c.args.toList.map s.ev)).bind λv=> .ok (s.put o.dst v)
  | .builtin .min=>(apl aR (c.args.toList.map s.ev)).bind λv=> .ok (s.put o.dst v)
  | .builtin .unsafeSliceData=>match c.args.toList with
   |[x]=>match s.ev x with
    | .b8 id ver [] 0 0 len=> .tJ (decide (0 < len)) (.ok (s.put o.dst (.ptr id ver [.idx 0] 0)))
    |_=> .fail
   |_=> .fail
  | .builtin .unsafeString=>match c.args.toList,c.argTypes.toList with
   |[x,y],[T,_]=>match s.ev x,s.ev y with
    | .ptr id ver [.idx 0] 0,.d (.int .i64) n=>agL P s o.dst T id ver n
    |_,_=> .fail
   |_,_=> .fail
  | .value f=>match s.ev f with
   | .fn f caps=>match Γ f (c.args.toList.map s.ev++caps.list) with
    |some en=> .guard (Nat.blt f yB) (s.call en o.dst (c.args.toList.map s.ev++caps.list))
    |none=> .fail
   |_=> .fail
  |_=> .fail
 |_=> .fail
def RB(xs:Array bJ):List Nat:=xs.toList.filterMap λ | .tmp t=>al t | _=>aJ
def NH(ops:Array Oper)(o:Oper):List Nat:=
 match o.guard with
 |some (j,_)=>match(ops[j]?).bind (·.dst) with | some t=> [t] | none=> []
 |none=> []
def ay1{R:Type}(P:aN)(Γ:pZ)(bM:List Nat)(ops:Array Oper)(o:Oper)(s:AS)(k:AS->Option R):Option R:=
 match o.guard with
 |none=>(po P Γ bM o s).run k
 |some (j,want)=>match(ops[j]?).bind (·.dst) with
  |some q=>match s.slot q with
   | .d .bool b=>match want with
    |true=>aS b ((po P Γ bM o (s.put (al q) (.d .bool aT))).run k) (k ((s.put (al q) (.d .bool aR)).put o.dst .nil))
    |false=>aS b (k ((s.put (al q) (.d .bool aT)).put o.dst .nil)) ((po P Γ bM o (s.put (al q) (.d .bool aR))).run k)
   | .nil=>k (s.put o.dst .nil)
   |_=>aJ
  |none=>aJ
def Ua(s:AS)(x y:bJ):Option Nat:=
 match s.ev x,s.ev y with
 | .d (.slice t) l,.dI=>al (l:List t.den).length
 | .dI,.d (.slice t) l=>al (l:List t.den).length
 | .b8 _ _ _ _ _ len,.dI=>al len
 | .dI,.b8 _ _ _ _ _ len=>al len
 |_,_=>aJ
open Classical in
def nd{R:Type}(x y:Option R):Option R:=if x=y then x else aJ
def Qs:Code->List (Array Tmp×Code×Code)
 | .seq a b=>Qs a++Qs b
 | .cond _ a b=>Qs a++Qs b
 | .block _ b=>Qs b
 | .scope b=>Qs b
 | .loop b=>Qs b
 | .rangeFunc _ ps as b=> [(ps,as,b)]
 |_=> []
def aIT(fn:Func)(i y:Nat):tQ:=match fn.body with
 |some c=>match(Qs c)[i]? with
  |some x=>⟨y,x.1,x.2.1,x.2.2⟩
  |none=>⟨y,#[],.skip,.skip⟩
 |none=>⟨y,#[],.skip,.skip⟩
def U9(P:aN)(y:Nat):tQ:=match P.funcs[y%yB / 16]? with
 |some fn=>aIT fn (y%16) y
 |none=>⟨y,#[],.skip,.skip⟩
open Classical in
def same{R:Type}(c c':tQ)(x:Option R):Option R:=if c=c' then x else aJ
def AS.yielded(s:AS)(F:aD)(n:Nat):Option (Id×Nat×tQ×aD):=
 match F with
 | .yl id ver=>match s.obj id with
  |some (v,aR,.yH c f 0)=>match v==ver && n==c.ps.size && Nat.ble yB c.y with
   |true=>al (id,ver,c,f)
   |false=>aJ
  |_=>aJ
 |_=>aJ
def aBV(Γ:pZ)(F:aD)(vs:List aD):Option (Entry×List aD):=
 match F with
 | .fn f caps=>match Γ f (vs++caps.list) with
  |some en=>match en.rel && Nat.blt f yB with | true=>al (en,vs++caps.list) | false=>aJ
  |none=>aJ
 |_=>aJ
def ay2{R:Type}(P:aN)(Γ:pZ)(bM:List Nat)(ops:Array Oper)(o:Oper)(s:AS)(k:AS->Option R):Option R:=
 match o.guard,o.op with
 |none,.binOp .eql T x y _=>match Ua s x y,xu.isSl P T with
  |some n,aT=>aS (decide (0 < n)) (k (s.put o.dst (.d .bool aR))) (nd (k (s.put o.dst (.d .bool aT))) (k (s.put o.dst (.d .bool aR))))
  |_,_=>ay1 P Γ bM ops o s k
 |none,.binOp .neq T x y _=>match Ua s x y,xu.isSl P T with
  |some n,aT=>aS (decide (0 < n)) (k (s.put o.dst (.d .bool aT))) (nd (k (s.put o.dst (.d .bool aT))) (k (s.put o.dst (.d .bool aR))))
  |_,_=>ay1 P Γ bM ops o s k
 |none,.range T m=>(Oh P s o.dst T (s.ev m)).run k
 |none,.entry x=>((aih s (s.ev x)).bind λv=> .ok (s.put o.dst v)).run k
 |none,.next x aR=>match s.auw (s.ev x) with
  |some t=>avb s o.dst t k
  |none=>aJ
 |none,.call c=>match c.callee with
  | .value F=>match s.yielded (s.ev F) c.args.size with
   |some (id,ver,rc,f)=>match Γ rc.y (.yl id ver::(c.args.toList.map s.ev++f.list)) with
    |some en=>same rc (U9 P rc.y) ((s.call en o.dst (.yl id ver::(c.args.toList.map s.ev++f.list))).run k)
    |none=>aJ
   |none=>match aBV Γ (s.ev F) (c.args.toList.map s.ev) with
    |some (en,vs)=>s.adz en o.dst vs k
    |none=>ay1 P Γ bM ops o s k
  |_=>ay1 P Γ bM ops o s k
 |_,_=>ay1 P Γ bM ops o s k
def seen{α R:Type}(l:List α):(List α->R)->R:=List.rec (motive:=λ_=>(List α->R)->R) (λk=>k []) (λx _ ih k=>ih λl'=>k (x::l')) l
theorem Mz{α R:Type}:∀(l:List α) (k:List α->R),seen l k=k l
 |[],_=>rfl
 |_::l,k=>Mz l _
def AS.seen{R:Type}(s:AS)(k:AS->R):R:=Go.Ab.seen s.cr λl=>k ⟨l,s.cj,s.news⟩
theorem AS.Mz{R:Type}(s:AS)(k:AS->R):s.seen k=k s:=Go.Ab.Mz _ _
def ay3{R:Type}(P:aN)(Γ:pZ)(bM:List Nat)(ops:Array Oper):List Oper->AS->(AS->Option R)->Option R
 |[],s,k=>k s
 |o::l,s,k=>ay2 P Γ bM ops o s λs'=>s'.seen λs'=>ay3 P Γ bM ops l s' k
def Zy(acc:List Nat)(o:Oper):Nat:=(o.after.toList.filter (Region.binds .any)).foldr (λe m=>Nat.lor (Nat.lor (Nat.pow 2 e.on) (acc.getD e.on 0)) m) 0
def acV(ops:List Oper):List Nat:=ops.foldl (λacc o=>acc++ [Zy acc o]) []
structure Ek where
 dst:Option Tmp
 cr:List Nat
 rs:List Id
 ws:List Id
def Yt:Op->Bool
 | .move _=>aT
 |_=>aR
def afu(s:AS)(o:Oper):List Id:=match Yt o.op with | true=> [] | false=>(RB o.op.operands).flatMap λi=>(s.slot i).ids
def uI:List (Option Ty)->List aD->List Id
 |none::ps,v::vs=>v.ids++uI ps vs
 |some _::ps,_::vs=>uI ps vs
 |_,_=> []
def writes(Γ:pZ)(s:AS)(o:Oper):List Id:=
 match o.op with
 | .store _ x _=>(s.ev x).ids
 | .mapUpdate _ m _ _=>(s.ev m).ids
 | .range _ m=>(s.ev m).ids
 | .convert src dst x=>match src==dst with | true=>(s.ev x).ids | false=> []
 | .call c=>match c.callee with
  | .builtin .append=>match c.args.toList with | x::_=>(s.ev x).ids | []=> []
  | .builtin .delete=>match c.args.toList with | x::_=>(s.ev x).ids | []=> []
  | .builtin .copy=>match c.args.toList with | x::_=>(s.ev x).ids | []=> []
  | .builtin .unsafeString=>match c.args.toList with | x::_=>(s.ev x).ids | []=> []
  | .value F=>match s.ev F with
   | .fn f caps=>match Γ f (c.args.toList.map s.ev++caps.list) with
    |some en=>s.reach 64 (uI en.params (c.args.toList.map s.ev++caps.list)) []
    |none=> []
   |_=> []
  |_=> []
 |_=> []
def gN(Γ:pZ)(ops:Array Oper)(s:AS)(o:Oper):Ek:= {dst:=o.dst,cr:=RB o.op.operands++NH ops o,rs:=afu s o++writes Γ s o,ws:=writes Γ s o}
def meets(xs ys:List Id):Bool:=xs.any λx=>ys.any λy=>decide (x=y)
def Ek.aFA(f g:Ek):Bool:=
 match f.dst with
 |some t=>(g.cr.any λx=>decide (x=t)) || decide (g.dst=al t)
 |none=>aR
def Vq(d:Option Tmp)(ids:List Id):Bool:=
 match d with
 |some q=>ids.any λx=>match x with | .new i _=>decide (i=q) | .bG _=>aR
 |none=>aR
def Ek.indep(f g:Ek):Bool:= !f.aFA g && !g.aFA f && !meets f.ws g.rs && !meets g.ws f.rs && !Vq f.dst g.rs && !Vq g.dst f.rs
def Yf{R:Type}(P:aN)(Γ:pZ)(bM:List Nat)(ops:Array Oper)(anc:List Nat):Nat->List Oper->List (Nat×Ek)->AS->(AS->Option R)->Option R
 |_,[],_,s,k=>k s
 |i,o::l,fs,s,k=>
  match fs.all λx=>(anc.getD i 0).testBit x.1 || x.2.indep (gN Γ ops s o) with
  |true=>ay1 P Γ bM ops o s λs'=>s'.seen λs'=>Yf P Γ bM ops anc (i+1) l ((i,gN Γ ops s o)::fs) s' k
  |false=>aJ
def aak(ops:List Oper):Bool:=ops.zipIdx.all λx=>x.1.after.toList.all λe=> !Region.binds .any e || decide (e.on < x.2)
structure arI where
 j:Nat
 p:List GZ
 q:Nat
 T:TypeId
structure aGM where
 j:Nat
 p:List GZ
 t:Ty
structure nJ where
 bu:List Nat:=[]
 sites:List Nat:=[]
 aly:List Id:=[]
 data:List (Nat×Ty):=[]
 owns:List arI:=[]
 KM:List aGM:=[]
 aDo:List Nat:=[]
 aCr:List Id:=[]
 aJr:List Nat:=[]
 aJ5:List Nat:=[]
 aBe:List (Nat×Nat):=[]
 aKc:Option Nat:=aJ
structure ee where
 X:Type
 run:AS->Option X
 out:X->Out (Exit×AS)
 set:Option (AS->X->Prop):=aJ
structure RK where
 an:nJ
 X:Type
 aEJ:Exit->AS->Option X
 out:X->Out (Exit×AS)
 ok:∀e s x,aEJ e s=al x->(out x).eval=al (e,s)
structure aEV where
 j:Nat
 t:Ty
 r:Nat
def ij:(t:Ty)->t.den->List Nat
 | .gO t,x=>match(x:Option (Nat×t.den)) with | some p=>p.1::ij t p.2 | none=> []
 | .slice t,x=>(x:List t.den).flatMap (ij t)
 | .arr _ t,x=>(x:List t.den).flatMap (ij t)
 | .pair a b,x=>ij a x.1++ij b x.2
 | .fZ t,x=>((x:Option (List t.den)).getD []).flatMap (ij t)
 | .nP t,x=>match(x:Option t.den) with | some y=>ij t y | none=> []
 | .int _,_ | .bool,_ | .str,_ | .unit,_=> []
def AS.N4(s:AS):aD->List Nat
 | .d t x=>ij t x
 | .b8 id _ _ _ _ _=>match s.obj id with | some (_,_,.vec _ t l)=>(l:List t.den).flatMap (ij t) | _=> []
 |_=> []
def aD.aEZ:aD->Bool
 | .vec .. | .mp .. | .qh .. | .yH .. =>aR
 |_=>aT
def avh{R:Type}(s:AS)(x:aEV)(k:AS->Option R):Option R:=
 match s.slot x.j with
 | .ptr id ver [] 0=>match s.obj id with
  |some (v,aR,c)=>((s.iL x.t c.strip).bind λy=> .guard ((v==ver) && c.aEZ && !c.strip.shared.contains id) (.ok y)).run λy=>
    QP (λn=>n ∉ s.N4 (s.slot x.r)) λn=>k (((s.bp c.strip.shared).freeze id).put (al x.j) (.d (.gO x.t) (al (n,y))))
  |_=>aJ
 |_=>aJ
def avi{R:Type}:List aEV->AS->(AS->Option R)->Option R
 |[],s,k=>k s
 |x::l,s,k=>avh s x λs'=>avi l s' k
structure wK where
 bM:List Nat:=[]
 loops:Nat->nJ:=λ_=> {}
 outs:Nat->Bool->nJ:=λ_ _=> {}
 gV:Nat->Option ee:=λ_=>aJ
 owns:List arI:=[]
 trim:List Nat:=[]
 res:List (Option Ty):=[]
 KM:List aGM:=[]
 aF7:Nat->Option RK:=λ_=>aJ
 aBG:Nat->Option RK:=λ_=>aJ
 rf:Nat->Option (Nat×List Nat):=λ_=>aJ
 aK2:Nat->Option (List arI):=λ_=>aJ
 qz:Option Nat:=aJ
 aBe:List (Nat×Nat):=[]
 Q0:Nat->List aEV:=λ_=> []
def dU:Code->Nat
 | .region id _ _=>id
 | .seq a _=>dU a
 | .block _ b=>dU b
 | .loop b=>dU b
 | .scope b=>dU b
 | .cond _ a b=>match dU a with | 0=>dU b | n=>n
 |_=>0
def eV(bu:List Nat):Nat->List aD->List aD
 |_,[]=> []
 |i,v::vs=>(match bu.any (λx=>decide (x=i)) with | true=>v | false=> .undef)::eV bu (i+1) vs
def nv(bu:List Nat):Nat->List (List dR)->List (List dR)
 |_,[]=> []
 |i,v::vs=>(match bu.any (λx=>decide (x=i)) with | true=>v | false=> [])::nv bu (i+1) vs
def aD.head:aD->Option (Id×Nat)
 | .b8 id ver [] 0 0 _=>al (id,ver)
 | .ptr id ver [] 0=>al (id,ver)
 |_=>aJ
def Mm(es:List dR)(b q:Nat)(i:Id)(ver:Nat):Option (Id×Nat):=
 match i with
 | .bG k=>al (.bG k,ver)
 | .new x j=>match decide (x=b) with
  |true=>(match es[j]? with | some (.obj v _ _)=>(match ver==v with | true=>al (.new q j,0) | false=>aJ) | _=>aJ)
  |false=>(match decide (x=q) with | true=>aJ | false=>al (.new x j,ver))
def dR.ajV(ρ:Id->Nat->Option (Id×Nat)):dR->dR
 | .obj _ fr c=> .obj 0 fr (c.iK ρ)
 | .dead=> .dead
def aD.aqs(ρ:Id->Nat->Option (Id×Nat))(kp:Id->Bool):aD->aD
 | .qh q ver k v rest cur=>match kp q with | true=> .qh q ver k v rest cur | false=> .qh q 0 k v rest cur
 |c=>c.iK ρ
def dR.W3(ρ:Id->Nat->Option (Id×Nat))(kp:Id->Bool):dR->dR
 | .obj v fr c=> .obj v fr (c.aqs ρ kp)
 | .dead=> .dead
def GJ(b q:Nat):Id->Bool | .bG _=>aT | .new x _=> !decide (x=b) && !decide (x=q)
def AS.FF(s:AS)(b q:Nat)(es:List dR):AS:= {cr:=s.cr.map (aD.iK (Mm es b q)),cj:=s.cj.map (dR.W3 (Mm es b q) (GJ b q)),news:=((s.news.map λes'=>es'.map (dR.W3 (Mm es b q) (GJ b q))).set b []).set q (es.map (dR.ajV (Mm es b q)))}
def AS.at(s:AS)(j:Nat):List GZ->Out aD
 |[]=> .ok (s.slot j)
 |p=>match s.slot j with
  | .ptr id ver p0 _=>match s.obj id with
   |some (v,_,c)=> .guard (v==ver) ((loc c.strip (p0++p)).bind λr=> .ok r.2)
   |none=> .fail
  |_=> .fail
def AS.putAt(s:AS)(j:Nat)(v:aD):List GZ->Out AS
 |[]=> .ok (s.put (al j) v)
 |p=>match s.slot j with
  | .ptr id _ p0 _=>match s.obj id with
   |some (ver,fr,c)=>match c.strip with
    | .vec .. => .fail
    |c1=>(wJ c1 (p0++p) v).bind λc'=> .ok (s.aZ id (.obj ver fr (c.wrap c')))
   |none=> .fail
  |_=> .fail
def AS.still(s:AS):List Nat->AS
 |[]=>s
 |q::l=>(match s.obj (.new q 0) with | some (v,fr,.qh i ver k t r _)=>s.aZ (.new q 0) (.obj v fr (.qh i ver k t r aJ)) | _=>s).still l
def YM(α:Type):Setoid (List α):=⟨List.Perm,nV,List.Perm.symm,List.Perm.trans⟩
def eH{α:Type}(l:List α):List α:=(p9 (Quotient.mk (YM α) l)).choose
def AS.canon(s:AS):List Id->AS
 |[]=>s
 |id::l=>(match s.obj id with | some (v,fr,.mp k t r)=>s.aZ id (.obj v fr (.mp k t (eH r))) | _=>s).canon l
def Po(s:AS):List aGM->Out AS
 |[]=> .ok s
 |o::l=>match o.p,s.slot o.j with
  |_::_,.j7=>Po s l
  |_,_=>(s.at o.j o.p).bind λu=>(s.iL o.t u).bind λx=>((s.bp u.shared).putAt o.j (.d o.t x) o.p).bind λs'=>Po s' l
def IS:(t:Ty)->t.den->Out aD
 | .fZ t,x=> .tJ (x:Option (List t.den)).isNone (.ok .dI)
 | .pair a b,x=>(IS a x.1).bind λu=>(IS b x.2).bind λv=> .ok (Lw u v)
 |t,x=> .ok (.d t x)
def aos(s:AS):List Nat->Out AS
 |[]=> .ok s
 |j::l=>match s.slot j with
  | .ptr id ver (.idx k::p) n=>match s.obj id with
   |some (v,aR,.vec e t r)=> .guard (v==ver) (.tJ (decide (k < r.length)) ((IS t (nth t r k)).bind λu=>
     aos ((s.aZ id (.obj v aR (.bx e t.size (.pr (.d (.arr k t) (r.take k)) (.pr u (.d (.arr (r.drop (k+1)).length t) (r.drop (k+1)))))))).put (al j) (.ptr id ver (.snd:: .fst::p) n)) l))
   |_=> .fail
  | .ptr _ _ (.snd::_) _=>aos s l
  |_=> .fail
def axE(s:AS):List Nat->Out AS
 |[]=> .ok s
 |j::l=>match s.slot j with
  | .ptr id ver (.snd:: .fst::p) n=>match s.obj id with
   |some (v,aR,.bx e z (.pr (.d (.arr k t) l1) (.pr u (.d (.arr _ t') l2))))=> .guard ((v==ver) && (z==t.size) && !(z==0) && !(u.shared.any λi=>decide (i=id)))
     ((Out.opt (sH (.slice t') (.slice t) l2)).bind λl2=>(s.iL t u).bind λx=>
      axE (((s.bp u.shared).aZ id (.obj v aR (.vec e t (l1++x::l2)))).put (al j) (.ptr id ver (.idx k::p) n)) l)
   |_=> .fail
  |_=> .fail
def uT(P:aN)(s:AS):List arI->Out AS
 |[]=> .ok s
 |o::l=>match o.p,s.slot o.j with
  |_::_,.j7=>uT P s l
  |_,_=>(s.at o.j o.p).bind λu=>match u with
  | .dI=>match aal P o.T,s.eB o.q with
   |some (e,t,_),aT=>((s.born o.q [.obj 0 aR (.vec e t [])]).putAt o.j (.b8 (.new o.q 0) 0 [] 0 0 0) o.p).bind λs'=>uT P s' l
   |_,_=> .fail
  |u=>match u.head with
   |some (.new b j,ver)=>match s.obj (.new b j),decide (o.q < s.news.length) with
    |some (v,_,_),aT=>match v==ver with
     |true=>uT P (s.FF b o.q (s.news.getD b [])) l
     |false=> .fail
    |_,_=> .fail
   |_=> .fail
def Zk(s:AS):List Nat->Out AS
 |[]=> .ok s
 |j::l=>match s.slot j with
  | .b8 id ver [] 0 0 len=>match s.obj id with
   |some (v,aR,.vec e t r)=>match v==ver with
    |true=> .tJ (decide (len<=r.length)) (Zk (s.aZ id (.obj v aR (.vec e t (r.take len)))) l)
    |false=> .fail
   |_=> .fail
  |_=> .fail
def asData(s:AS):List (Nat×Ty)->Out AS
 |[]=> .ok s
 | (j,t)::l=>(s.iL t (s.slot j)).bind λx=>asData ((s.bp (s.slot j).shared).put (al j) (.d t x)) l
def aD.there(s:AS):aD->Bool
 | .ptr id _ _ _=>(s.obj id).isSome
 | .b8 id _ _ _ _ _=>(s.obj id).isSome
 | .pr a b=>a.there s && b.there s
 | .cons a b=>a.there s && b.there s
 | .fn _ c=>c.there s
 | .bx _ _ c=>c.there s
 | .cP id _=>(s.obj id).isSome
 | .yl id _=>(s.obj id).isSome
 | .yH _ f _=>f.there s
 | .qh .. =>aR
 |_=>aT
def dR.there(s:AS):dR->Bool
 | .obj _ _ (.qh id _ _ _ _ _)=>(s.obj id).isSome
 | .obj _ _ c=>c.there s
 | .dead=>aT
def Li(an:nJ)(s:AS):AS:= {cr:=eV an.bu 0 s.cr,cj:=s.cj,news:=nv an.sites 0 s.news}
def AS.acR(s:AS):Bool:=(s.cr.all (aD.there s)) && (s.cj.all (dR.there s)) && (s.news.all λes=>es.all (dR.there s))
def tN(k v n:Nat)(i:Id)(ver:Nat):Option (Id×Nat):=match i with
 | .bG j=>match iG j k with
  |true=>match iG ver v with | true=>al (.bG j,n) | false=>aJ
  |false=>al (.bG j,ver)
 |i=>al (i,ver)
def ES(k:Nat):Id->Bool | .bG j=> !iG j k | _=>aT
def dR.ajW(ρ:Id->Nat->Option (Id×Nat))(kp:Id->Bool):dR->dR
 | .obj v fr c=> .obj v fr (c.aqs ρ kp)
 | .dead=> .dead
def AS.ass(s:AS)(k n:Nat):Out AS:=match s.bS (.bG k) with
 |some (.obj v fr c)=> .guard (Nat.ble v n || Nat.ble 1 n) (.ok {cr:=s.cr.map (aD.iK (tN k v n)),cj:=(s.cj.map (dR.ajW (tN k v n) (ES k))).set k (.obj n fr (c.iK (tN k v n))),news:=s.news.map λes=>es.map (dR.ajW (tN k v n) (ES k))})
 |_=> .fail
def adw(s:AS):List (Nat×Nat)->Out AS
 |[]=> .ok s
 |x::l=>(s.ass x.1 x.2).bind λs=>adw s l
def AS.aE7(s:AS):List Id:=(s.reach 64 (s.cr.flatMap aD.ids++s.cj.flatMap dR.ids) []).filter λid=>match id with | .new _ _=>aT | .bG _=>aR
def aoA(s:AS)(ids:List Id)(q:Nat):Id->Nat->Option (Id×Nat)
 | .bG k,ver=>al (.bG k,ver)
 | .new x y,ver=>match idxOf (.new x y) ids,s.obj (.new x y) with
  |some j,al (v,_,_)=>match ver==v with | true=>al (.new q j,0) | false=>aJ
  |_,_=>aJ
def dR.awz(ρ:Id->Nat->Option (Id×Nat)):dR->dR
 | .obj v fr c=> .obj v fr (c.iK ρ)
 | .dead=> .dead
def AS.EP(s:AS)(ids:List Id)(q:Nat):AS:= {cr:=s.cr.map (aD.iK (aoA s ids q)),cj:=s.cj.map (dR.awz (aoA s ids q)),news:=(s.news.map λ_=> []).set q (ids.map λid=>((s.bS id).getD .dead).ajV (aoA s ids q))}
def AS.aaB(s:AS):Option Nat->Out AS
 |none=> .ok s
 |some q=> .guard (Nat.blt q s.news.length) (.ok (s.EP s.aE7 q))
def norm(P:aN)(an:nJ)(s:AS):Out AS:=(adw s an.aBe).bind λs=>(axE (((s.bp an.aly).still an.aDo).canon an.aCr) an.aJ5).bind λs=>(Po s an.KM).bind λs=>(asData s an.data).bind λs=> .guard (Li an s).acR ((aos (Li an s) an.aJr).bind λs=>(uT P s an.owns).bind λs=>s.aaB an.aKc)
def PG{R:Type}(nrm:AS->Out AS)(nrmX:Exit->AS->Out AS)(body:AS->(Exit->AS->Option R)->Option R):Nat->AS->(Exit->AS->Option R)->Option R
 | 0,_,_=>aJ
 |n+1,s,k=>body s λe s'=>match e with
  | .normal=>(nrm s').run λs1=>PG nrm nrmX body n s1 k
  |e=>(nrmX e s').run (k e)
def aeT:Exit->Bool | .ret=>aT | _=>aR
def axF{R:Type}(le:ee)(s:AS)(k:Exit->AS->Option R):Option R:=
 match le.set with
 |none=>aq (le.run s) λx=>(le.out x).run λr=>k r.1 r.2
 |some S=>QP (S s) λx=>(le.out x).run λr=>k r.1 r.2
def NQ{R:Type}(P:aN)(j:Option RK)(run: {R:Type}->(Exit->AS->Option R)->Option R)(k:Exit->AS->Option R):Option R:=
 match j with
 |none=>run k
 |some j=>aq (run λe s=>(norm P j.an s).run (j.aEJ e)) λx=>(j.out x).run λr=>k r.1 r.2
def Kr:List aD->aD
 |[]=> .nil
 |a::l=> .cons a (Kr l)
def af8(P:aN)(h:fR):Bool:=match P.funcs[h]? with
 |some fn=> !(fn.name== "runtime.NumGoroutine") && fn.body.isSome
 |none=>aR
def Dn{R:Type}(P:aN)(Γ:pZ)(an:wK)(s:AS)(f:bJ)(ps:Array Tmp)(as b:Code)(k:Exit->AS->Option R):Option R:=
 match an.qz,an.rf (ps.getD 0 0),s.ev f with
 |none,al (y,bu),.fn h caps=>match af8 P h && s.eB (ps.getD 0 0) && Nat.blt (ps.getD 0 0) s.cr.length && Nat.blt h yB,Γ h (.yl (.new (ps.getD 0 0) 0) 0::caps.list) with
  |true,al en=>((s.born (ps.getD 0 0) [.obj 0 aR (.yH ⟨y,ps,as,b⟩ (Kr (eV bu 0 s.cr)) 0)]).put (al (ps.getD 0 0)) (.yl (.new (ps.getD 0 0) 0) 0)).aBg en aJ (.yl (.new (ps.getD 0 0) 0) 0::caps.list) λs3=>
   match s3.bS (.new (ps.getD 0 0) 0),s3.slot (ps.getD 0 0) with
   |some (.obj 0 aR (.yH _ _ p)),.yl (.new q' 0) 0=>match iG q' (ps.getD 0 0),p with
    |true,0=>k .normal ((s3.aZ (.new (ps.getD 0 0) 0) .dead).put (al (ps.getD 0 0)) .undef)
    |true,2=>k .ret ((s3.aZ (.new (ps.getD 0 0) 0) .dead).put (al (ps.getD 0 0)) .undef)
    |true,i+3=>k (.exit i) ((s3.aZ (.new (ps.getD 0 0) 0) .dead).put (al (ps.getD 0 0)) .undef)
    |_,_=>aJ
   |_,_=>aJ
  |_,_=>aJ
 |_,_,_=>aJ
def ev(P:aN)(Γ:pZ)(an:wK)(N:Nat):Code-> {R:Type}->AS->(Exit->AS->Option R)->Option R
 | .skip,_,s,k=>k .normal s
 | .region id ops draw,_,s,k=>avi (an.Q0 id) s λs=>NQ P (an.aF7 id) (λk=>match draw with
  |true=>(match aak ops.toList with
   |true=>Yf P Γ an.bM ops (acV ops.toList) 0 ops.toList [] s λs'=>k .normal s'
   |false=>aJ)
  |false=>ay3 P Γ an.bM ops ops.toList s λs'=>k .normal s') k
 | .seq a b,_,s,k=>NQ P (an.aBG (dU b)) (λk=>ev P Γ an N a s k) λe s'=>match e with | .normal=>ev P Γ an N b s' k | e=>k e s'
 | .cond c x y,_,s,k=>match s.ev c with
  | .d .bool b=>aS b (ev P Γ an N x s k) (ev P Γ an N y s k)
  |_=>aJ
 | .block id b,_,s,k=>ev P Γ an N b s λe s'=>match e with | .exit i=>(match decide (i=id) with | true=>k .normal s' | false=>k (.exit i) s') | e=>k e s'
 | .loop b,_,s,k=>(norm P (an.loops (dU b)) s).run λs1=>match an.gV (dU b) with
  |some le=>axF le s1 k
  |none=>PG (norm P (an.loops (dU b))) (λe=>norm P (an.outs (dU b) (aeT e))) (ev P Γ an N b) N s1 k
 | .scope b,_,s,k=>ev P Γ an N b s λe s'=>match e with | .goto _=>aJ | e=>k e s'
 | .label _,_,s,k=>k .normal s
 | .exit id,_,s,k=>k (.exit id) s
 | .ret,_,s,k=>k .ret s
 | .rangeFunc f ps as b,_,s,k=>(uT P s ((an.aK2 (ps.getD 0 0)).getD [])).run λs=>Dn P Γ an s f ps as b k
 |_,_,_,_=>aJ
def U8(P:aN)(s:AS):ResultVar->Out aD
 | .tmp t=> .ok (s.slot t)
 | .cell a T=>Lp P s T (s.slot a)
def U7(P:aN)(s:AS)(r:ResultVar):Option Ty->Out (AS×aD)
 |none=>(U8 P s r).bind λv=> .ok (s,v)
 |some t=>(U8 P s r).bind λv=>(s.iL t v).bind λx=> .ok (s.bp v.shared,.d t x)
def Mp(P:aN)(s:AS):List ResultVar->List (Option Ty)->Out (AS×aD)
 |[],_=> .ok (s,.nil)
 |r::rs,ts=>(U7 P s r (ts.headD aJ)).bind λx=> .guard x.2.eQ ((Mp P x.1 rs ts.tail).bind λy=> .ok (y.1,.cons x.2 y.2))
def abR(P:aN)(fn:Func)(ts:List (Option Ty))(s:AS):Out (AS×aD):=
 match fn.results.toList with
 |[r]=>U7 P s r (ts.headD aJ)
 |rs=>Mp P s rs ts
def jC:Code->List Code
 | .seq a b=>jC a++jC b
 | .cond _ a b=>jC a++jC b
 | .block _ b=>jC b
 | .scope b=>jC b
 | .loop b=>b::jC b
 |_=> []
def oz(fn:Func)(i:Nat):Code:=match fn.body with | some c=>(jC c).getD i .skip | none=> .skip
def Bb(P:aN)(Γ:pZ)(an:wK)(N:Nat)(fn:Func)(i:Nat){R:Type}(s:AS)(kn:AS->Option R)(kx:Exit->AS->Option R):Option R:=
 ev P Γ an N (oz fn i) s λe s'=>match e with
  | .normal=>(norm P (an.loops (dU (oz fn i))) s').run kn
  |e=>(norm P (an.outs (dU (oz fn i)) (aeT e)) s').run (kx e)
def Lt(P:aN)(Γ:pZ)(an:wK)(N:Nat)(fn:Func)(i:Nat){R:Type}(n:Nat)(s:AS)(k:Exit->AS->Option R):Option R:=PG (norm P (an.loops (dU (oz fn i)))) (λe=>norm P (an.outs (dU (oz fn i)) (aeT e))) (ev P Γ an N (oz fn i)) n s k
def Id.aBF:Id->Bool | .new _ _=>aT | .bG _=>aR
def AS.NB(s:AS)(v:aD):List Id:=(s.reach 64 (v.ids++s.cj.flatMap dR.ids) []).filter Id.aBF
def IW(ids:List Id):Id->Nat->Option (Id×Nat)
 | .bG k,v=>al (.bG k,v)
 |id,v=>match idxOf id ids with | some j=>al (.new 0 j,v) | none=>aJ
def dR.fin(ids:List Id):dR->dR
 | .obj v fr c=> .obj v fr (c.iK (IW ids))
 | .dead=> .dead
def AS.aBj(s:AS)(ids:List Id)(v:aD):im:= {val:=v.iK (IW ids),cj:=s.cj.map (dR.fin ids),news:=ids.map λid=>((s.bS id).getD .dead).fin ids}
def AS.fin(s:AS)(v:aD):im:=s.aBj (s.NB v) v
def start(fn:Func)(args:List aD)(cj:List dR):AS:= {cr:=args++ai (fn.ntmps - args.length) .undef,cj,news:=ai fn.ntmps []}
def awA(fn:Func):List Nat:=fn.results.toList.map λr=>match r with | .tmp t=>t | .cell a _=>a
def AS.drop(s:AS)(ks:List Nat):AS:= {cr:=eV ks 0 s.cr,cj:=s.cj,news:=s.news}
def finish(P:aN)(an:wK)(fn:Func)(s:AS):Out im:=(Po s an.KM).bind λs=>(uT P (s.drop (awA fn)) an.owns).bind λs=>(Zk s an.trim).bind λs=>(adw s an.aBe).bind λs=>(abR P fn an.res s).bind λr=> .ok (r.1.fin r.2)
def aGK(P:aN)(y:Nat):Func:= {(default:Func) with body:=al (.seq (U9 P y).as (U9 P y).b)}
def AS.Oj(s:AS)(q p:Nat):Option AS:=match s.bS (.bG 0) with
 |some (.obj 0 aR (.yH c f q'))=>(match iG q q' with | true=>al (s.aZ (.bG 0) (.obj 0 aR (.yH c f p))) | false=>aJ)
 |_=>aJ
def yk:List (Tmp×aD)->List aD->List aD
 |[],l=>l
 |x::xs,l=>yk xs (l.set x.1 x.2)
def Vx(ps:List Tmp)(args:List aD)(cj:List dR):AS:= {cr:=yk (ps.zip (args.take ps.length)) (args.drop ps.length),cj,news:=ai (args.drop ps.length).length []}
def aBi:Exit->Option Nat
 | .normal=>al 0
 | .ret=>al 2
 | .exit i=>al (i+3)
 |_=>aJ
def alw(P:aN)(an:wK)(s:AS)(v:aD):Out im:=(Po s an.KM).bind λs=>(uT P (s.drop []) an.owns).bind λs=>(Zk s an.trim).bind λs=>(adw s an.aBe).bind λs=> .ok (s.fin v)
def dR.first:dR->Bool
 | .obj v _ _=>iG v 0
 | .dead=>aT
def awQ(P:aN)(Γ:pZ)(an:wK)(N:Nat)(c:tQ)(args:List aD)(cj:List dR){R:Type}(k:im->Option R):Option R:=
 match args with
 | .yl (.bG 0) 0::args=>match cj.all dR.first with | false=>aJ | true=>ev P Γ an N c.as (Vx c.ps.toList args cj) λe s=>match e with
  | .normal=>aq (s.Oj 0 1) λs=>ev P Γ an N c.b s λe s=>aq (aBi e) λp=>aq (s.Oj 1 p) λs=>(alw P an s (.d .bool (iG p 0))).run k
  |_=>aJ
 |_=>aJ
def acZ(P:aN)(Γ:pZ)(an:wK)(N:Nat)(fn:Func)(args:List aD)(cj:List dR){R:Type}(k:im->Option R):Option R:=
 match an.qz with
 |some y=>awQ P Γ an N (U9 P y) args cj k
 |none=>match fn.body with
 |some c=>match cj.all dR.first with | false=>aJ | true=>ev P Γ an N c (start fn args cj) λe s=>match e with
  | .normal=>(finish P an fn s).run k
  | .ret=>(finish P an fn s).run k
  |_=>aJ
 |none=>aJ
end Go.Ab
namespace Go.Ab
inductive Own where
 |eM
 |id (i:Id)
inductive lQ where
 |free
 |own (o:Own) (k:Nat)
structure Pl where
 b:Nat
 cap:Nat
structure Env where
 w:bU
 g:Nat->lQ
 β:Id->Option Pl
 s:Id->Option dR
def so(g:Nat->lQ)(b off:Nat):Prop:=match g b with | .free=>True | .own _ k=>off < k
def Env.has(E:Env)(b off:Nat)(v:Value):Prop:=E.w.cell? ⟨b,off,aJ⟩=al v/\so E.g b off
def bo{α:Type}(R:List Value->α->Prop):List Value->List α->Prop
 |cs,[]=>cs=[]
 |cs,x::xs=>∃c cs',cs=c++cs'/\R c x/\bo R cs' xs
def wz(E:Env)(a:Option Addr)(vs:List Value):Prop:=∀i v,vs[i]? =al v->∃b off,a=al ⟨b,off,aJ⟩/\E.has b (off+i) v
def cI(E:Env):(t:Ty)->List Value->t.den->Prop
 | .int k,cs,x=>cs=[.int k x]
 | .bool,cs,x=>cs=[.bool x]
 | .str,cs,x=>cs=[.string x]
 | .slice t,cs,l=>∃a cap vs,cs=[.slice a (l:List t.den).length cap]/\(l:List t.den).length<=cap/\(0 < (l:List t.den).length->a.isSome=aT)/\wz E a vs/\bo (cI E t) vs l
 | .unit,cs,_=>cs=[]
 | .pair a b,cs,x=>∃ca cb,cs=ca++cb/\cI E a ca x.1/\cI E b cb x.2
 | .arr n t,cs,l=>(l:List t.den).length=n/\bo (cI E t) cs l
 | .fZ t,cs,x=>((x:Option (List t.den))=aJ->cs=[.slice aJ 0 0])/\∀l:List t.den,(x:Option (List t.den))=al l->
   ∃a cap vs,cs=[.slice a l.length cap]/\l.length<=cap/\(0 < l.length->a.isSome=aT)/\wz E a vs/\bo (cI E t) vs l
 | .nP t,cs,x=>((x:Option t.den)=aJ->cs=[.pointer aJ])/\∀y:t.den,(x:Option t.den)=al y->
   ∃b off vs,cs=[.pointer (al ⟨b,off,aJ⟩)]/\wz E (al ⟨b,off,aJ⟩) vs/\cI E t vs y
 | .gO t,cs,x=>((x:Option (Nat×t.den))=aJ->cs=[.pointer aJ])/\∀y:Nat×t.den,(x:Option (Nat×t.den))=al y->
   ∃ca T vs,cs=[.pointer (al ⟨y.1,0,aJ⟩)]/\(E.g y.1= .free/\E.w.heap[y.1]? =al (.cells ca T (0,0)))/\wz E (al ⟨y.1,0,aJ⟩) vs/\cI E t vs y.2
section
variable {α:Type} {R R':List Value->α->Prop} {z:Nat}
theorem bo.mono(h:∀c x,R c x->R' c x):∀ {cs:List Value} {l:List α},bo R cs l->bo R' cs l
 |_,[],hc=>hc
 |_,_::_,⟨c,cs',e,hx,hr⟩=>⟨c,cs',e,h _ _ hx,bo.mono h hr⟩
theorem bo.length(h:∀c x,R c x->c.length=z):∀ {cs:List Value} {l:List α},bo R cs l->cs.length=l.length*z
 |cs,[],hc=>by have:cs=[]:=hc;simp[this]
 |_,x::xs,⟨c,cs',e,hx,hr⟩=>by rw[e,aj,h c x hx,bo.length h hr,aH,eO,ir,Nat.add_comm]
theorem bo.all{p:Value->Prop}(h:∀c x,R c x->∀v∈c,p v):∀ {cs:List Value} {l:List α},bo R cs l->∀v∈cs,p v
 |cs,[],hc,v,hv=>by have:cs=[]:=hc;simp[this]at hv
 |_,_::_,⟨c,cs',e,hx,hr⟩,v,hv=>by
  rw[e]at hv;rcases bD.1 hv with hv | hv
  ·exact h _ _ hx v hv
  ·exact bo.all h hr v hv
theorem bo.append:∀ {cs:List Value} {l:List α} {cs':List Value} {l':List α},bo R cs l->bo R cs' l'->bo R (cs++cs') (l++l')
 |cs,[],_,_,hc,h'=>by have:cs=[]:=hc;simpa[this]using h'
 |_,x::xs,_,_,⟨c,cs1,e,hx,hr⟩,h'=>⟨c,cs1++_,by rw[e,aM],hx,bo.append hr h'⟩
theorem bo.take(h:∀c x,R c x->c.length=z):∀ {cs:List Value} {l:List α} (n:Nat),bo R cs l->bo R (cs.take (n*z)) (l.take n)
 |cs,[],n,hc=>by have:cs=[]:=hc;simp[this,bo]
 |_,x::xs,0,_=>by simp[bo]
 |_,x::xs,n+1,⟨c,cs',e,hx,hr⟩=>by refine⟨c,cs'.take (n*z),?_,hx,bo.take h n hr⟩;rw[e,pf,h c x hx,eO,ir,bC (by rw[h c x hx];omega),qW]
theorem bo.drop(h:∀c x,R c x->c.length=z):∀ {cs:List Value} {l:List α} (n:Nat),bo R cs l->bo R (cs.drop (n*z)) (l.drop n)
 |cs,[],n,hc=>by have:cs=[]:=hc;simp[this,bo]
 |_,x::xs,0,hc=>by simpa using hc
 |_,x::xs,n+1,⟨c,cs',e,hx,hr⟩=>by rw[e,jU,h c x hx,eO,ir,gj (by rw[h c x hx];omega),qW];simpa using bo.drop h n hr
theorem bo.get(h:∀c x,R c x->c.length=z){cs:List Value}{l:List α}(hc:bo R cs l)(i:Nat)(hi:i < l.length):R ((cs.drop (i*z)).take z) l[i]:=by have h1:=bo.take h 1 (bo.drop h i hc);rw[aC hi]at h1;simp only[ir,List.take_succ_cons,fk]at h1;obtain⟨c,cs',e,hx,hr⟩:=h1;have:cs'=[]:=hr;rw[e,this,bO];exact hx
theorem bo.set(h:∀c x,R c x->c.length=z){cs:List Value}{l:List α}(hc:bo R cs l)(i:Nat)(hi:i < l.length){c:List Value}{x:α}(hx:R c x):
  bo R (cs.take (i*z)++c++cs.drop (i*z+c.length)) (l.set i x):=by
 rw[List.set_eq_take_append_cons_drop,if_pos hi,h c x hx];have h1:=bo.take h i hc;have h2:=bo.drop h (i+1) hc;rw[eO,ir]at h2;have h3:bo R (c++cs.drop (i*z+z)) (x::l.drop (i+1)):=⟨c,_,rfl,hx,h2⟩;rw[aM];exact bo.append h1 h3
theorem bo.one{c:List Value}{x:α}(h:R c x):bo R c [x]:=⟨c,[],by simp,h,rfl⟩
end
theorem cI.size{E:Env}:∀ {t:Ty} {cs:List Value} {x:t.den},cI E t cs x->cs.length=t.size
 | .int _,_,_,h=>by simp only[cI]at h;simp[h,Ty.size]
 | .bool,_,_,h=>by simp only[cI]at h;simp[h,Ty.size]
 | .str,_,_,h=>by simp only[cI]at h;simp[h,Ty.size]
 | .slice t,_,_,h=>by simp only[cI]at h;obtain⟨a,cap,vs,rfl,_⟩:=h;simp[Ty.size]
 | .unit,_,_,h=>by simp only[cI]at h;simp[h,Ty.size]
 | .pair a b,_,_,h=>by simp only[cI]at h;obtain⟨ca,cb,rfl,ha,hb⟩:=h;simp[Ty.size,cI.size ha,cI.size hb]
 | .arr n t,_,_,h=>by simp only[cI]at h;rw[bo.length (λc x hx=>cI.size hx) h.2,h.1,Ty.size]
 | .fZ t,_,x,h=>by
  simp only[cI]at h;obtain⟨h1,h2⟩:=h;cases hx:(x:Option (List t.den)) with
  |none=>rw[h1 hx];rfl
  |some l=>obtain⟨a,cap,vs,rfl,_⟩:=h2 l hx;rfl
 | .nP t,_,x,h=>by
  simp only[cI]at h;obtain⟨h1,h2⟩:=h;cases hx:(x:Option t.den) with
  |none=>rw[h1 hx];rfl
  |some l=>obtain⟨b,off,vs,rfl,_⟩:=h2 l hx;rfl
 | .gO t,_,x,h=>by
  simp only[cI]at h;obtain⟨h1,h2⟩:=h;cases hx:(x:Option (Nat×t.den)) with
  |none=>rw[h1 hx];rfl
  |some l=>obtain⟨ca,T,vs,rfl,_⟩:=h2 l hx;rfl
theorem cI.one{E:Env}:∀ {t:Ty} {cs:List Value} {x:t.den},cI E t cs x->∀c∈cs,c.oneCell'=aT
 | .int _,_,_,h=>by simp only[cI]at h;simp[h,dy]
 | .bool,_,_,h=>by simp only[cI]at h;simp[h,dy]
 | .str,_,_,h=>by simp only[cI]at h;simp[h,dy]
 | .slice t,_,_,h=>by simp only[cI]at h;obtain⟨a,cap,vs,rfl,_⟩:=h;simp[dy]
 | .unit,_,_,h=>by simp only[cI]at h;simp[h]
 | .pair a b,_,_,h=>by
  simp only[cI]at h;obtain⟨ca,cb,rfl,ha,hb⟩:=h;intro c hc;rcases bD.1 hc with hc | hc
  ·exact cI.one ha c hc
  ·exact cI.one hb c hc
 | .arr n t,_,_,h=>by simp only[cI]at h;exact bo.all (λc x hx=>cI.one hx) h.2
 | .fZ t,_,x,h=>by
  simp only[cI]at h;obtain⟨h1,h2⟩:=h;cases hx:(x:Option (List t.den)) with
  |none=>rw[h1 hx];simp[dy]
  |some l=>obtain⟨a,cap,vs,rfl,_⟩:=h2 l hx;simp[dy]
 | .nP t,_,x,h=>by
  simp only[cI]at h;obtain⟨h1,h2⟩:=h;cases hx:(x:Option t.den) with
  |none=>rw[h1 hx];simp[dy]
  |some l=>obtain⟨b,off,vs,rfl,_⟩:=h2 l hx;simp[dy]
 | .gO t,_,x,h=>by
  simp only[cI]at h;obtain⟨h1,h2⟩:=h;cases hx:(x:Option (Nat×t.den)) with
  |none=>rw[h1 hx];simp[dy]
  |some l=>obtain⟨ca,T,vs,rfl,_⟩:=h2 l hx;simp[dy]
structure sC(E E':Env):Prop where
 has:∀b off v,E.has b off v->E'.has b off v
 fz:∀b ob,E.g b= .free->E.w.heap[b]? =al ob->E'.g b= .free/\E'.w.heap[b]? =al ob
theorem sC.refl(E:Env):sC E E:=⟨λ_ _ _ h=>h,λ_ _ h h'=>⟨h,h'⟩⟩
theorem sC.trans{E E' E'':Env}(h:sC E E')(h':sC E' E''):sC E E'':=⟨λb o v x=>h'.has b o v (h.has b o v x),λb ob h1 h2=>let⟨h3,h4⟩:=h.fz b ob h1 h2;h'.fz b ob h3 h4⟩
theorem wz.mono{E E':Env}(h:sC E E'){a:Option Addr}{vs:List Value}(hr:wz E a vs):wz E' a vs:=
 λi v hv=>let⟨b,off,ha,hh⟩:=hr i v hv;⟨b,off,ha,h.has _ _ _ hh⟩
theorem cI.mono{E E':Env}(hm:sC E E'):∀ {t:Ty} {cs:List Value} {x:t.den},cI E t cs x->cI E' t cs x
 | .int _,_,_,h=>by simpa only[cI]using h
 | .bool,_,_,h=>by simpa only[cI]using h
 | .str,_,_,h=>by simpa only[cI]using h
 | .slice t,_,_,h=>by simp only[cI]at h ⊢;obtain⟨a,cap,vs,e,hl,hs,hr,hc⟩:=h;exact⟨a,cap,vs,e,hl,hs,hr.mono hm,hc.mono λc x hx=>cI.mono hm hx⟩
 | .unit,_,_,h=>by simpa only[cI]using h
 | .pair a b,_,_,h=>by simp only[cI]at h ⊢;obtain⟨ca,cb,e,ha,hb⟩:=h;exact⟨ca,cb,e,cI.mono hm ha,cI.mono hm hb⟩
 | .arr n t,_,_,h=>by simp only[cI]at h ⊢;exact⟨h.1,h.2.mono λc x hx=>cI.mono hm hx⟩
 | .fZ t,_,_,h=>by simp only[cI]at h ⊢;refine⟨h.1,λl hx=> ?_⟩;obtain⟨a,cap,vs,e,hl,hs,hr,hc⟩:=h.2 l hx;exact⟨a,cap,vs,e,hl,hs,hr.mono hm,hc.mono λc x hx=>cI.mono hm hx⟩
 | .nP t,_,_,h=>by simp only[cI]at h ⊢;refine⟨h.1,λl hx=> ?_⟩;obtain⟨b,off,vs,e,hr,hc⟩:=h.2 l hx;exact⟨b,off,vs,e,hr.mono hm,cI.mono hm hc⟩
 | .gO t,_,_,h=>by simp only[cI]at h ⊢;refine⟨h.1,λl hx=> ?_⟩;obtain⟨ca,T,vs,e,h0,hr,hc⟩:=h.2 l hx;exact⟨ca,T,vs,e,hm.fz _ _ h0.1 h0.2,hr.mono hm,cI.mono hm hc⟩
theorem wz.uniq{E:Env}{a:Option Addr}{vs vs':List Value}(hl:vs.length=vs'.length)(h:wz E a vs)(h':wz E a vs'):vs=vs':=by apply pb hl;intro i h1 h2;obtain⟨b,off,e,hh⟩:=h i vs[i] (bQ h1);obtain⟨b',off',e',hh'⟩:=h' i vs'[i] (bQ h2);rw[e]at e';simp only[az,Addr.mk.injEq,eG]at e';obtain⟨rfl,rfl⟩:=e';exact aO (hh.1.symm.trans hh'.1)
theorem bo.uniq{α:Type}{R:List Value->α->Prop}{z:Nat}(hs:∀c x,R c x->c.length=z)(hR:∀c x y,R c x->R c y->x=y):∀ {cs:List Value} {l l':List α},l.length=l'.length->bo R cs l->bo R cs l'->l=l'
 |_,[],[],_,_,_=>rfl
 |_,[],_::_,hl,_,_=>by simp at hl
 |_,_::_,[],hl,_,_=>by simp at hl
 |cs,x::xs,y::ys,hl,⟨c,cs1,e,hx,hr⟩,⟨d,cs2,e',hy,hr'⟩=>by rw[e]at e';obtain⟨rfl,rfl⟩:=List.append_inj e' (by rw[hs _ _ hx,hs _ _ hy]);rw[hR _ _ _ hx hy,bo.uniq hs hR (by simpa using hl) hr hr']
theorem cI.uniq{E:Env}:∀ {t:Ty} {cs:List Value} {x y:t.den},t.al4=aT->cI E t cs x->cI E t cs y->x=y
 | .int _,_,_,_,_,h,h'=>by simp only[cI]at h h';rw[h]at h';simpa using h'
 | .bool,_,_,_,_,h,h'=>by simp only[cI]at h h';rw[h]at h';simpa using h'
 | .str,_,_,_,_,h,h'=>by simp only[cI]at h h';rw[h]at h';simpa using h'
 | .slice t,_,x,y,hn,h,h'=>by
  simp only[cI]at h h';obtain⟨a,cap,vs,e,_,_,hr,hc⟩:=h;obtain⟨a',cap',vs',e',_,_,hr',hc'⟩:=h';rw[e]at e';simp only[cz,Value.slice.injEq,eG]at e';obtain⟨rfl,hl,_⟩:=e';have hl:(x:List t.den).length=(y:List t.den).length:=by exact_mod_cast hl
  have h1:=bo.length (λc x hx=>cI.size hx) hc;have h2:=bo.length (λc x hx=>cI.size hx) hc';obtain rfl:=hr.uniq (by rw[h1,h2,hl]) hr';exact bo.uniq (λc x hx=>cI.size hx) (λc x y hx hy=>cI.uniq (by simpa only[Ty.al4]using hn) hx hy) hl hc hc'
 | .unit,_,_,_,_,_,_=>rfl
 | .pair a b,_,x,y,hn,h,h'=>by simp only[Ty.al4,av]at hn;simp only[cI]at h h';obtain⟨ca,cb,e,ha,hb⟩:=h;obtain⟨ca',cb',e',ha',hb'⟩:=h';rw[e]at e';obtain⟨rfl,rfl⟩:=List.append_inj e' (by rw[cI.size ha,cI.size ha']);exact Prod.ext (cI.uniq hn.1 ha ha') (cI.uniq hn.2 hb hb')
 | .arr n t,_,x,y,hn,h,h'=>by simp only[cI]at h h';exact bo.uniq (λc x hx=>cI.size hx) (λc x y hx hy=>cI.uniq (by simpa only[Ty.al4]using hn) hx hy) (h.1.trans h'.1.symm) h.2 h'.2
 | .fZ _,_,_,_,hn,_,_=>by simp[Ty.al4]at hn
 | .nP t,_,x,y,hn,h,h'=>by
  simp only[cI]at h h';cases hx:(x:Option t.den) with
  |none=>cases hy:(y:Option t.den) with
   |none=>rfl
   |some v=>
    obtain⟨b,off,vs,e,_⟩:=h'.2 v hy;rw[h.1 hx]at e;simp at e
  |some u=>cases hy:(y:Option t.den) with
   |none=>
    obtain⟨b,off,vs,e,_⟩:=h.2 u hx;rw[h'.1 hy]at e;simp at e
   |some v=>
    obtain⟨b,off,vs,e,hr,hc⟩:=h.2 u hx;obtain⟨b',off',vs',e',hr',hc'⟩:=h'.2 v hy;rw[e]at e';simp only[cz,Value.pointer.injEq,az,Addr.mk.injEq,eG]at e';obtain⟨rfl,rfl⟩:=e';obtain rfl:=hr.uniq (by rw[cI.size hc,cI.size hc']) hr';rw[cI.uniq (by simpa only[Ty.al4]using hn) hc hc']
 | .gO t,_,x,y,hn,h,h'=>by
  simp only[cI]at h h';cases hx:(x:Option (Nat×t.den)) with
  |none=>cases hy:(y:Option (Nat×t.den)) with
   |none=>rfl
   |some v=>
    obtain⟨ca,T,vs,e,_⟩:=h'.2 v hy;rw[h.1 hx]at e;simp at e
  |some u=>cases hy:(y:Option (Nat×t.den)) with
   |none=>
    obtain⟨ca,T,vs,e,_⟩:=h.2 u hx;rw[h'.1 hy]at e;simp at e
   |some v=>
    obtain⟨ca,T,vs,e,_,hr,hc⟩:=h.2 u hx;obtain⟨ca',T',vs',e',_,hr',hc'⟩:=h'.2 v hy;rw[e]at e';simp only[cz,Value.pointer.injEq,az,Addr.mk.injEq,eG]at e';rw[<-e']at hr';obtain rfl:=hr.uniq (by rw[cI.size hc,cI.size hc']) hr';exact bE al (Prod.ext e' (cI.uniq (by simpa only[Ty.al4]using hn) hc hc'))
def Env.cur(E:Env)(id:Id)(ver:Nat):Prop:=∃fr c,E.s id=al (.obj ver fr c)
def Env.DL(E:Env)(id:Id)(ver:Nat):Prop:=E.s id≠aJ/\∀v fr c,E.s id=al (.obj v fr c)->ver<=v
def fY(agg:Bool)(cs:List Value)(v:Value):Prop:=match agg with | true=>v= .agg cs.toArray | false=>cs=[v]
mutual
def V(E:Env):aD->List Value->Prop
 | .undef,_=>False
 | .gone,cs=>∃v,cs=[v]/\v.oneCell'=aT
 | .dI,cs=>cs=[.slice aJ 0 0]
 | .j7,cs=>cs=[.pointer aJ]
 | .vF,cs=>cs=[.nilFunc]
 | .Bd,cs=>cs=[.map aJ]
 | .sb l,cs=>∃(b cap:Nat) (arr:Array Value) (e:TypeId),cs=[.slice (al ⟨b,0,aJ⟩) l.length cap]/\l.length<=cap/\E.g b= .free/\E.w.heap[b]? =al (.cells arr e (arr.size,arr.size+1))/\∀(j:Nat) (v:Value),(l.map (Value.int .u8))[j]? =al v->arr[j]? =al v
 | .d t x,cs=>cI E t cs x
 | .pr a b,cs=>∃ca cb,cs=ca++cb/\V E a ca/\V E b cb
 | .ptr id ver _ n,cs=>∃a,cs=[.pointer (al a)]/\E.DL id ver/\(E.cur id ver->∃pl,E.β id=al pl/\a=⟨pl.b,n,aJ⟩)
 | .eN t x,cs=>∃b off vs,cs=[.pointer (al ⟨b,off,aJ⟩)]/\wz E (al ⟨b,off,aJ⟩) vs/\cI E t vs x
 | .b8 id ver p c i len,cs=>∃a cap,cs=[.slice a len cap]/\len<=cap/\(0 < len->a.isSome=aT)/\E.DL id ver/\
   (E.cur id ver->match E.β id with
    |some pl=>(0 < len\/i=0->a=al ⟨pl.b,c,aJ⟩)/\(p=[]->i=0->cap=pl.cap)
    |none=>a=aJ/\len=0/\cap=0)
 | .fn f c,cs=>∃vs,cs=[.func (.func f) #[] vs.toArray]/\VC E c vs
 | .cons _ _,_=>False
 | .nil,_=>False
 | .vec ..,_=>False
 | .bx ..,_=>False
 | .yl id ver,cs=>∃l,cs=[.func (.yield l) #[] #[]]/\E.DL id ver/\(E.cur id ver->∃pl,E.β id=al pl/\l=pl.b)
 | .yH ..,_=>False
 | .cP id ver,cs=>∃b,cs=[.map (al b)]/\E.DL id ver/\(E.cur id ver->∃pl,E.β id=al pl/\b=pl.b)
 | .mp ..,_ | .qh ..,_=>False
def VC(E:Env):aD->List Value->Prop
 | .nil,vs=>vs=[]
 | .cons a b,vs=>∃v vs' cs,vs=v::vs'/\V E a cs/\fY a.agg cs v/\VC E b vs'
 |_,_=>False
end
structure cU(E E':Env):Prop where
 mem:sC E E'
 DL:∀id ver,E.DL id ver->E'.DL id ver
 cur:∀id ver,E.DL id ver->E'.cur id ver->E.cur id ver/\E'.β id=E.β id
theorem cU.refl(E:Env):cU E E:=⟨sC.refl E,λ_ _ h=>h,λ_ _ _ h=>⟨h,rfl⟩⟩
theorem cU.trans{E E' E'':Env}(h:cU E E')(h':cU E' E''):cU E E'':=
 ⟨h.mem.trans h'.mem,λid v b=>h'.DL id v (h.DL id v b),λid v b c=>
  let⟨c1,e1⟩:=h'.cur id v (h.DL id v b) c
  let⟨c2,e2⟩:=h.cur id v b c1
  ⟨c2,e1.trans e2⟩⟩
mutual
theorem V.mono{E E':Env}(h:cU E E'):∀ {a:aD} {cs:List Value},V E a cs->V E' a cs
 | .undef,_,hv=>by simp only[V]at hv
 | .gone,_,hv=>by simpa only[V]using hv
 | .dI,_,hv=>by simpa only[V]using hv
 | .j7,_,hv=>by simpa only[V]using hv
 | .vF,_,hv=>by simpa only[V]using hv
 | .yH ..,_,hv=>by simp only[V]at hv
 | .Bd,_,hv=>by simpa only[V]using hv
 | .sb l,_,hv=>by simp only[V]at hv ⊢;obtain⟨b,cap,arr,e,h1,h2,h3,h4,h5⟩:=hv;obtain⟨h6,h7⟩:=h.mem.fz b _ h3 h4;exact⟨b,cap,arr,e,h1,h2,h6,h7,h5⟩
 | .d t x,_,hv=>by simp only[V]at hv ⊢;exact hv.mono h.mem
 | .pr a b,_,hv=>by simp only[V]at hv ⊢;obtain⟨ca,cb,e,ha,hb⟩:=hv;exact⟨ca,cb,e,V.mono h ha,V.mono h hb⟩
 | .ptr id ver p n,_,hv=>by simp only[V]at hv ⊢;obtain⟨a,e,hb,hc⟩:=hv;refine⟨a,e,h.DL _ _ hb,λc=> ?_⟩;obtain⟨c1,e1⟩:=h.cur _ _ hb c;rw[e1];exact hc c1
 | .eN t x,_,hv=>by simp only[V]at hv ⊢;obtain⟨b,off,vs,e,hr,hx⟩:=hv;exact⟨b,off,vs,e,hr.mono h.mem,hx.mono h.mem⟩
 | .b8 id ver p c i len,_,hv=>by simp only[V]at hv ⊢;obtain⟨a,cap,e,hl,hs,hb,hc⟩:=hv;refine⟨a,cap,e,hl,hs,h.DL _ _ hb,λc=> ?_⟩;obtain⟨c1,e1⟩:=h.cur _ _ hb c;rw[e1];exact hc c1
 | .fn f c,_,hv=>by simp only[V]at hv ⊢;obtain⟨vs,e,hc⟩:=hv;exact⟨vs,e,VC.mono h hc⟩
 | .cons _ _,_,hv=>by simp only[V]at hv
 | .nil,_,hv=>by simp only[V]at hv
 | .vec ..,_,hv=>by simp only[V]at hv
 | .bx ..,_,hv=>by simp only[V]at hv
 | .yl id ver,_,hv=>by simp only[V]at hv ⊢;obtain⟨b,e,hb,hc⟩:=hv;refine⟨b,e,h.DL _ _ hb,λc=> ?_⟩;obtain⟨c1,e1⟩:=h.cur _ _ hb c;rw[e1];exact hc c1
 | .cP id ver,_,hv=>by simp only[V]at hv ⊢;obtain⟨b,e,hb,hc⟩:=hv;refine⟨b,e,h.DL _ _ hb,λc=> ?_⟩;obtain⟨c1,e1⟩:=h.cur _ _ hb c;rw[e1];exact hc c1
 | .mp ..,_,hv | .qh ..,_,hv=>by simp only[V]at hv
theorem VC.mono{E E':Env}(h:cU E E'):∀ {a:aD} {vs:List Value},VC E a vs->VC E' a vs
 | .nil,_,hv=>by simpa only[VC]using hv
 | .cons a b,_,hv=>by simp only[VC]at hv ⊢;obtain⟨v,vs',cs,e,ha,ho,hb⟩:=hv;exact⟨v,vs',cs,e,V.mono h ha,ho,VC.mono h hb⟩
 | .undef,_,hv=>by simp only[VC]at hv
 | .gone,_,hv=>by simp only[VC]at hv
 | .dI,_,hv=>by simp only[VC]at hv
 | .j7,_,hv=>by simp only[VC]at hv
 | .vF,_,hv=>by simp only[VC]at hv
 | .yl ..,_,hv | .yH ..,_,hv=>by simp only[VC]at hv
 | .Bd,_,hv=>by simp only[VC]at hv
 | .sb _,_,hv=>by simp only[VC]at hv
 | .d t x,_,hv=>by simp only[VC]at hv
 | .pr a b,_,hv=>by simp only[VC]at hv
 | .ptr ..,_,hv=>by simp only[VC]at hv
 | .eN ..,_,hv=>by simp only[VC]at hv
 | .b8 ..,_,hv=>by simp only[VC]at hv
 | .fn ..,_,hv=>by simp only[VC]at hv
 | .vec ..,_,hv=>by simp only[VC]at hv
 | .bx ..,_,hv=>by simp only[VC]at hv
 | .cP ..,_,hv=>by simp only[VC]at hv
 | .mp ..,_,hv | .qh ..,_,hv=>by simp only[VC]at hv
end
theorem V.size{E:Env}:∀ {a:aD} {cs:List Value},V E a cs->cs.length=a.size
 | .undef,_,hv=>by simp only[V]at hv
 | .gone,_,hv=>by simp only[V]at hv;obtain⟨v,rfl,_⟩:=hv;rfl
 | .dI,_,hv=>by simp only[V]at hv;rw[hv];rfl
 | .j7,_,hv=>by simp only[V]at hv;rw[hv];rfl
 | .vF,_,hv=>by simp only[V]at hv;rw[hv];rfl
 | .yl ..,_,hv=>by simp only[V]at hv;obtain⟨_,rfl,_⟩:=hv;rfl
 | .yH ..,_,hv=>by simp only[V]at hv
 | .Bd,_,hv=>by simp only[V]at hv;rw[hv];rfl
 | .sb _,_,hv=>by simp only[V]at hv;obtain⟨_,_,_,_,rfl,_⟩:=hv;rfl
 | .d t x,_,hv=>by simp only[V]at hv;exact hv.size
 | .pr a b,_,hv=>by simp only[V]at hv;obtain⟨ca,cb,rfl,ha,hb⟩:=hv;simp[aD.size,V.size ha,V.size hb]
 | .ptr ..,_,hv=>by simp only[V]at hv;obtain⟨a,rfl,_⟩:=hv;rfl
 | .eN ..,_,hv=>by simp only[V]at hv;obtain⟨_,_,_,rfl,_⟩:=hv;rfl
 | .b8 ..,_,hv=>by simp only[V]at hv;obtain⟨_,_,rfl,_⟩:=hv;rfl
 | .fn ..,_,hv=>by simp only[V]at hv;obtain⟨_,rfl,_⟩:=hv;rfl
 | .cons _ _,_,hv=>by simp only[V]at hv
 | .nil,_,hv=>by simp only[V]at hv
 | .vec ..,_,hv=>by simp only[V]at hv
 | .bx ..,_,hv=>by simp only[V]at hv
 | .cP ..,_,hv=>by simp only[V]at hv;obtain⟨_,rfl,_⟩:=hv;rfl
 | .mp ..,_,hv | .qh ..,_,hv=>by simp only[V]at hv
theorem V.one{E:Env}:∀ {a:aD} {cs:List Value},V E a cs->∀c∈cs,c.oneCell'=aT
 | .undef,_,hv=>by simp only[V]at hv
 | .gone,_,hv=>by simp only[V]at hv;obtain⟨v,rfl,h⟩:=hv;simp[h]
 | .dI,_,hv=>by simp only[V]at hv;rw[hv];simp[dy]
 | .j7,_,hv=>by simp only[V]at hv;rw[hv];simp[dy]
 | .vF,_,hv=>by simp only[V]at hv;rw[hv];simp[dy]
 | .yl ..,_,hv=>by simp only[V]at hv;obtain⟨_,rfl,_⟩:=hv;simp[dy]
 | .yH ..,_,hv=>by simp only[V]at hv
 | .Bd,_,hv=>by simp only[V]at hv;rw[hv];simp[dy]
 | .sb _,_,hv=>by simp only[V]at hv;obtain⟨_,_,_,_,rfl,_⟩:=hv;simp[dy]
 | .d t x,_,hv=>by simp only[V]at hv;exact hv.one
 | .pr a b,_,hv=>by
  simp only[V]at hv;obtain⟨ca,cb,rfl,ha,hb⟩:=hv;intro c hc;rcases bD.1 hc with hc | hc
  ·exact V.one ha c hc
  ·exact V.one hb c hc
 | .ptr ..,_,hv=>by simp only[V]at hv;obtain⟨a,rfl,_⟩:=hv;simp[dy]
 | .eN ..,_,hv=>by simp only[V]at hv;obtain⟨_,_,_,rfl,_⟩:=hv;simp[dy]
 | .b8 ..,_,hv=>by simp only[V]at hv;obtain⟨_,_,rfl,_⟩:=hv;simp[dy]
 | .fn ..,_,hv=>by simp only[V]at hv;obtain⟨_,rfl,_⟩:=hv;simp[dy]
 | .cons _ _,_,hv=>by simp only[V]at hv
 | .nil,_,hv=>by simp only[V]at hv
 | .vec ..,_,hv=>by simp only[V]at hv
 | .bx ..,_,hv=>by simp only[V]at hv
 | .cP ..,_,hv=>by simp only[V]at hv;obtain⟨_,rfl,_⟩:=hv;simp[dy]
 | .mp ..,_,hv | .qh ..,_,hv=>by simp only[V]at hv
theorem aD.agv:∀ {v:aD},v.agg=aR->v.size=1
 | .d (.int _) _,_ | .d .bool _,_ | .d .str _,_ | .d (.slice _) _,_ | .d (.fZ _) _,_ | .d (.nP _) _,_ | .d (.gO _) _,_=>rfl
 | .d .unit _,h | .d (.pair _ _) _,h | .d (.arr _ _) _,h=>by simp[aD.agg,Ty.agg]at h
 | .pr _ _,h=>by simp[aD.agg]at h
 | .undef,_ | .gone,_ | .dI,_ | .j7,_ | .vF,_ | .Bd,_ | .ptr ..,_ | .eN ..,_ | .b8 ..,_ | .fn ..,_ | .cons ..,_ | .nil,_ | .vec ..,_ | .sb _,_ | .bx ..,_ | .cP ..,_ | .mp ..,_ | .qh ..,_ | .yl ..,_ | .yH ..,_=>rfl
def VS(E:Env):aD->Value->Prop
 | .undef,_=>True
 | .cons a b,v=>∃vs,v= .tuple vs.toArray/\VC E (.cons a b) vs
 | .nil,v=>v= .tuple #[]
 |a,v=>∃cs,V E a cs/\fY a.agg cs v
theorem VS.mono{E E':Env}(h:cU E E'):∀ {a:aD} {v:Value},VS E a v->VS E' a v:=by
 intro a v hv
 cases a <;> first
  |trivial
  |exact hv
  | (obtain⟨cs,h1,h2⟩:=hv;exact⟨cs,V.mono h h1,h2⟩)
  | (obtain⟨vs,e,hc⟩:=hv;exact⟨vs,e,VC.mono h hc⟩)
theorem VS.undef{E:Env}{v:Value}:VS E .undef v:=trivial
theorem VS.of{E:Env}{a:aD}{cs:List Value}{v:Value}(h:V E a cs)(ho:fY a.agg cs v):VS E a v:=by
 cases a <;> first
  | (simp only[V]at h;done)
  |exact⟨cs,h,ho⟩
theorem VS.eQ{E:Env}{a:aD}{v:Value}(h:VS E a v)(hc:a.eQ=aT):∃cs,V E a cs/\fY a.agg cs v:=by
 cases a <;> first
  | (simp[aD.eQ]at hc;done)
  |exact h
theorem VS.single{E:Env}{a:aD}{v:Value}(h:VS E a v)(hc:a.eQ=aT)(ha:a.agg=aR):V E a [v]:=by obtain⟨cs,hv,ho⟩:=h.eQ hc;rw[ha]at ho;have:cs=[v]:=ho;rw[<-this];exact hv
theorem fY.cells{agg:Bool}{cs:List Value}{v:Value}(h:fY agg cs v)(h1:∀c∈cs,c.oneCell'=aT):v.cells=cs.toArray:=by
 cases agg with
 |true=>have:v= .agg cs.toArray:=h;rw[this];rfl
 |false=>
  have e:cs=[v]:=h;have:=h1 v (by simp[e]);rw[e];cases v <;> first | rfl | (simp[dy]at this;done)
end Go.Ab
namespace Go.Ab
section
variable {α β:Type}
theorem ay{a b:α}:(Out.ok a).eval=al b↔a=b:=by simp[Out.eval]
theorem aw{b:α}:(Out.fail:Out α).eval=al b↔False:=by simp[Out.eval]
theorem bR{c:Bool}{r:Out α}{b:α}:(Out.tJ c r).eval=al b↔c=aT/\r.eval=al b:=by cases c <;> simp[Out.eval]
theorem aG{c:Bool}{r:Out α}{b:α}:(Out.guard c r).eval=al b↔c=aT/\r.eval=al b:=by cases c <;> simp[Out.guard,Out.eval]
theorem lW{x:Option β}{f:β->Out α}{b:α}:(Out.get x f).eval=al b↔∃y,x=al y/\(f y).eval=al b:=by cases x <;> simp[Out.eval]
theorem ja{x:Option α}{b:α}:(Out.opt x).eval=al b↔x=al b:=by cases x <;> simp[Out.opt,Out.eval]
theorem aap(o:Out α)(f:α->Out β):(o.bind f).eval=o.eval.bind λa=>(f a).eval:=by
 induction o with
 |ok a=>rfl
 |fail=>rfl
 |tJ c r ih=>cases c <;> simp[Out.bind,Out.eval,ih]
 |get x g ih=>cases x <;> simp[Out.bind,Out.eval,ih]
 |br c x y ih1 ih2=>cases c <;> simp[Out.bind,Out.eval,ih1,ih2]
theorem ax{o:Out α}{f:α->Out β}{b:β}:(o.bind f).eval=al b↔∃a,o.eval=al a/\(f a).eval=al b:=by rw[aap];simp[Option.bind_eq_some_iff]
theorem run_eq{R:Type}(o:Out α)(k:α->Option R):o.run k=o.eval.bind k:=by
 induction o with
 |ok a=>rfl
 |fail=>rfl
 |tJ c r ih=>cases c <;> simp[Out.run,Out.eval,aS,ih]
 |get x g ih=>cases x <;> simp[Out.run,Out.eval,aq,ih]
 |br c x y ih1 ih2=>cases c <;> simp[Out.run,Out.eval,aS,ih1,ih2]
theorem gS{R:Type}{o:Out α}{k:α->Option R}{r:R}:o.run k=al r↔∃a,o.eval=al a/\k a=al r:=by rw[run_eq];simp[Option.bind_eq_some_iff]
end
theorem iY{t t':Ty}{x:t.den}{y:t'.den}(h:sH t t' x=al y):∃e:t=t',e▸x=y:=by
 unfold sH at h;split at h
 ·rename_i e;exact⟨e,by simpa using h⟩
 ·cases h
theorem bo.map{α β:Type}{R:List Value->α->Prop}{R':List Value->β->Prop}{f:α->β}(h:∀c x,R c x->R' c (f x)):∀ {cs:List Value} {l:List α},bo R cs l->bo R' cs (l.map f)
 |_,[],hc=>hc
 |_,x::xs,⟨c,cs',e,hx,hr⟩=>⟨c,cs',e,h c x hx,bo.map h hr⟩
theorem cI.aEq{E:Env}:∀(a b:Ty) (f:a.den->b.den),Wu a b=al f->∀(cs:List Value) (x:a.den),cI E a cs x->cI E b cs (f x):=by
 intro a b
 induction a,b using Wu.induct with
 |case1 t=>
  intro f hf cs x hx;unfold Wu at hf;rw[xq rfl]at hf;obtain rfl:=aO hf;simp only[cI]at hx;obtain⟨h1,h2⟩:=hx;show cI E (.slice t) cs ((x:Option (List t.den)).getD []);simp only[cI];cases hx:(x:Option (List t.den)) with
  |none=>exact⟨aJ,0,[],h1 hx,aF _,λh=>absurd h (gC 0),λi v hh=>by simp at hh,rfl⟩
  |some l=>exact h2 l hx
 |case2 t t' gJ=>
  intro f hf;unfold Wu at hf;rw[Ai gJ]at hf;cases hf
 |case3 t=>
  intro f hf cs x hx;unfold Wu at hf;rw[xq rfl]at hf;obtain rfl:=aO hf;simp only[cI]at hx ⊢;refine⟨λh=>(by cases h),λl hl=> ?_⟩;obtain rfl:x=l:=aO hl;exact hx
 |case4 t t' gJ=>
  intro f hf;unfold Wu at hf;rw[Ai gJ]at hf;cases hf
 |case5 a b c d f g h1 h2 ih1 ih2=>
  intro k hk cs x hx;unfold Wu at hk;rw[h2,h1]at hk;obtain rfl:=aO hk;simp only[cI]at hx ⊢;obtain⟨ca,cb,e,ha,hb⟩:=hx;exact⟨ca,cb,e,ih1 f h2 ca x.1 ha,ih2 g h1 cb x.2 hb⟩
 |case6 a b c d hn ih1 ih2=>
  intro p hp;unfold Wu at hp;split at hp
  ·rename_i f k h1 h2;exact(hn _ _ h1 h2).elim
  ·cases hp
 |case7 a b f h1 ih=>
  intro k hk cs x hx;unfold Wu at hk;rw[h1]at hk;obtain rfl:=aO hk;simp only[cI]at hx ⊢;obtain⟨ad,cap,vs,e,hl,hs,hr,hc⟩:=hx;rw[cF];exact⟨ad,cap,vs,e,hl,hs,hr,hc.map λc x hx=>ih f h1 c x hx⟩
 |case8 a b h1 ih=>
  intro p hp;unfold Wu at hp;rw[h1]at hp;cases hp
 |case9 a h1 h2 h3 h4=>
  intro f hf cs x hx;rw[Wu.eq_5 _ _ h1 h2 h3 h4,xq rfl]at hf;obtain rfl:=aO hf;exact hx
 |case10 a b h1 h2 h3 h4 gJ=>
  intro f hf;rw[Wu.eq_5 _ _ h1 h2 h3 h4,Ai gJ]at hf;cases hf
theorem ayM{t t':Ty}{f:t.den->t'.den}(hp:Wu t t'=al f):t.agg=t'.agg:=by
 unfold Wu at hp;split at hp
 ·rfl
 ·rfl
 ·rfl
 ·rfl
 ·split at hp
  ·rename_i e;rw[e]
  ·cases hp
theorem XR{t t':Ty}{x:t.den}{y:t'.den}(h:EC t t' x=al y):t.agg=t'.agg:=by
 unfold EC at h;split at h
 ·rename_i z hz;obtain⟨e,_⟩:=iY hz;rw[e]
 ·split at h
  ·rename_i f hf;exact ayM hf
  ·cases h
theorem CC{E:Env}{t t':Ty}{x:t.den}{y:t'.den}(h:EC t t' x=al y){cs:List Value}(hx:cI E t cs x):cI E t' cs y:=by
 unfold EC at h;split at h
 ·rename_i z hz;obtain⟨e,hz⟩:=iY hz;subst e;obtain rfl:=aO h;simp only at hz;rw[<-hz];exact hx
 ·split at h
  ·rename_i f hf;obtain rfl:=aO h;exact cI.aEq _ _ f hf cs x hx
  ·cases h
theorem an0{E:Env}{t t':Ty}{x:List t.den}{y:List t'.den}(h:EC (.slice t) (.slice t') x=al y):y.length=x.length/\∀vs,bo (cI E t) vs x->bo (cI E t') vs y:=by
 unfold EC at h;split at h
 ·rename_i z hz;obtain⟨e,hz⟩:=iY hz;have e':t=t':=by simpa using e
  subst e';obtain rfl:=aO h;simp only at hz;subst hz;exact⟨rfl,λ_ h=>h⟩
 ·split at h
  ·rename_i p hp;obtain rfl:=aO h;unfold Wu at hp;cases hd:Wu t t' with
   |none=>rw[hd]at hp;cases hp
   |some q=>
    rw[hd]at hp;obtain rfl:=aO hp;exact⟨cF _,λvs hc=>hc.map λc x hx=>cI.aEq _ _ q hd c x hx⟩
  ·cases h
def VO(E:Env):aD->List Value->Prop
 | .vec _ t l,cs=>bo (cI E t) cs l
 |a,cs=>V E a cs
theorem VO.of{E:Env}{a:aD}{cs:List Value}(h:V E a cs):VO E a cs:=by cases a <;> first | exact h | (simp only[V]at h)
def aD.iu:aD->Bool | .vec .. =>aT | .mp .. =>aT | .qh .. =>aT | .yH .. =>aT | _=>aR
theorem VO.to{E:Env}{a:aD}{cs:List Value}(h:VO E a cs)(hn:a.iu=aR):V E a cs:=by cases a <;> first | exact h | (simp[aD.iu]at hn)
theorem VO.mono{E E':Env}(h:cU E E'){a:aD}{cs:List Value}(hv:VO E a cs):VO E' a cs:=by cases a <;> first | exact V.mono h hv | exact bo.mono (λ_ _ hx=>hx.mono h.mem) hv
theorem Ub{t:Ty}{l:List t.den}{i:Nat}(h:i < l.length):nth t l i=l[i]:=by unfold nth;simp[h]
theorem Ul{α:Type}(cs:List α)(n m k j:Nat)(h:k+j<=m):(((cs.drop n).take m).drop k).take j=(cs.drop (n+k)).take j:=by rw[sB,lS,gA];congr 1;omega
theorem Mt{E:Env}{t:Ty}{cs:List Value}{l:List t.den}(h:bo (cI E t) cs l){i:Nat}(hi:i < l.length):
  cI E t ((cs.drop (i*t.size)).take t.size) l[i]/\i*t.size+t.size<=cs.length:=by
 have hz:∀c x,cI E t c x->c.length=t.size:=λc x hx=>hx.size
 refine⟨h.get hz i hi,?_⟩;rw[h.length hz,<-Nat.succ_mul];exact c9 _ hi
theorem rO{E:Env}:∀(p:List GZ) (c:aD) (cs:List Value) (n:Nat) (v:aD),VO E c cs->(loc c p).eval=al (n,v)->
  (n=0/\v=c)\/(V E v ((cs.drop n).take v.size)/\n+v.size<=cs.length)
 |[],c,cs,n,v,hc,h=>by left;simp only[loc,ay,cM]at h;exact⟨h.1.symm,h.2.symm⟩
 |st::p,c,cs,n,v,hc,h=>by
  by_cases nG:st= .arr
  ·subst nG;have h':(loc c p).eval=al (n,v):=by cases c <;> simpa only[loc]using h
   exact rO p c cs n v hc h'
  right;have whole:∀(c':aD) (cs':List Value) (n':Nat) (v':aD),V E c' cs'->(loc c' p).eval=al (n',v')->V E v' ((cs'.drop n').take v'.size)/\n'+v'.size<=cs'.length:=by
   intro c' cs' n' v' hc' hl;rcases rO p c' cs' n' v' (VO.of hc') hl with⟨rfl,rfl⟩ | hh
   ·have:=hc'.size;rw[aQ,bC au];exact⟨hc',au⟩
   ·exact hh
  have second:∀(a b:aD) (ca cb:List Value),cs=ca++cb->ca.length=a.size->V E b cb->((loc b p).bind λ(n,v)=>Out.ok (a.size+n,v)).eval=al (n,v)->
    V E v ((cs.drop n).take v.size)/\n+v.size<=cs.length:=by
   intro a b ca cb e hl hb hh;obtain⟨⟨n',v'⟩,h1,h2⟩:=ax.1 hh;simp only[ay,cM]at h2;obtain⟨rfl,rfl⟩:=h2;obtain⟨h3,h4⟩:=whole b cb n' v' hb h1;subst e;rw[<-hl,jU,gj au,aV,Nat.add_sub_cancel_left];exact⟨h3,by simp only[aj];omega⟩
  have elem:∀(t:Ty) (l:List t.den) (i:Nat),bo (cI E t) cs l->(Out.tJ (decide (i < l.length)) ((loc (.d t (nth t l i)) p).bind λ(n,v)=>Out.ok (i*t.size+n,v))).eval=al (n,v)->
    V E v ((cs.drop n).take v.size)/\n+v.size<=cs.length:=by
   intro t l i uG hh;obtain⟨hi,hh⟩:=bR.1 hh;have hi:i < l.length:=by simpa using hi
   obtain⟨⟨n',v'⟩,h1,h2⟩:=ax.1 hh;simp only[ay,cM]at h2;obtain⟨rfl,rfl⟩:=h2;obtain⟨hp,hle⟩:=Mt uG hi;rw[Ub hi]at h1;have hv:V E (.d t l[i]) ((cs.drop (i*t.size)).take t.size):=by simpa only[V]using hp
   obtain⟨h3,h4⟩:=whole _ _ n' v' hv h1;have hlen:((cs.drop (i*t.size)).take t.size).length=t.size:=hp.size;rw[Ul _ _ _ _ _ au]at h3;exact⟨h3,au⟩
  cases c with
  |pr a b=>
   simp only[VO,V]at hc;obtain⟨ca,cb,e,ha,hb⟩:=hc;cases st with
   |arr=>exact absurd rfl nG
   |fst=>
    simp only[loc]at h;obtain⟨h3,h4⟩:=whole a ca n v ha h;subst e;refine⟨?_,by simp only[aj];omega⟩;rw[jU,pf,de,kh (by omega:v.size<=ca.length - n),fk,bO];exact h3
   |snd=>simp only[loc]at h;exact second a b ca cb e ha.size hb h
   |idx i=>simp only[loc,aw]at h
  |d t x=>
   simp only[VO,V]at hc;cases t with
   |pair ta tb=>
    simp only[cI]at hc;obtain⟨ca,cb,e,ha,hb⟩:=hc;cases st with
    |arr=>exact absurd rfl nG
    |fst=>
     simp only[loc]at h;obtain⟨h3,h4⟩:=whole (.d ta x.1) ca n v (by simpa only[V]using ha) h;subst e;refine⟨?_,by simp only[aj];omega⟩;rw[jU,pf,de,kh (by omega:v.size<=ca.length - n),fk,bO];exact h3
    |snd=>simp only[loc]at h;exact second (.d ta x.1) (.d tb x.2) ca cb e ha.size (by simpa only[V]using hb) h
    |idx i=>simp only[loc,aw]at h
   |arr m t=>
    simp only[cI]at hc;cases st with
    |arr=>exact absurd rfl nG
    |idx i=>simp only[loc]at h;exact elem t x i hc.2 h
    |fst=>simp only[loc,aw]at h
    |snd=>simp only[loc,aw]at h
   |_=>cases st <;> first | exact absurd rfl nG | (simp only[loc,aw]at h)
  |vec e t l=>
   simp only[VO]at hc;cases st with
   |arr=>exact absurd rfl nG
   |idx i=>simp only[loc]at h;exact elem t l i hc h
   |fst=>simp only[loc,aw]at h
   |snd=>simp only[loc,aw]at h
  |_=>cases st <;> first | exact absurd rfl nG | (simp only[loc,aw]at h)
theorem aho{E:Env}{a b:aD}{ca cb:List Value}(ha:V E a ca)(hb:V E b cb):V E (Lw a b) (ca++cb):=by
 have gen:V E (.pr a b) (ca++cb):=by simp only[V];exact⟨ca,cb,rfl,ha,hb⟩
 unfold Lw;split
 ·simp only[V]at ha hb ⊢;simp only[cI];exact⟨ca,cb,rfl,ha,hb⟩
 ·exact gen
theorem PO(a b:aD):(Lw a b).iu=aR:=by unfold Lw;split <;> rfl
def dE(cs:List Value)(n:Nat)(vs:List Value):List Value:=cs.take n++vs++cs.drop (n+vs.length)
theorem akk{cs vs:List Value}(h:cs.length=vs.length):dE cs 0 vs=vs:=by simp[dE,gj (by omega:cs.length<=vs.length)]
theorem AN{ca cb vs:List Value}{n:Nat}(h:n+vs.length<=ca.length):dE (ca++cb) n vs=dE ca n vs++cb:=by unfold dE;rw[pf,jU,kh (by omega:n<=ca.length),fk,bO,kh h,aQ];simp only[aM]
theorem MI{ca cb vs:List Value}{n:Nat}:dE (ca++cb) (ca.length+n) vs=ca++dE cb n vs:=by unfold dE;rw[pf,bC au,Nat.add_sub_cancel_left,jU,gj au,aV];simp only[aM];congr 4;omega
theorem akl{cs vs:List Value}{i z n:Nat}(hz:i+z<=cs.length)(h:n+vs.length<=z):
  dE cs (i+n) vs=cs.take i++dE ((cs.drop i).take z) n vs++cs.drop (i+z):=by
 have e:cs=cs.take i++((cs.drop i).take z++cs.drop (i+z)):=by rw[<-gA,dw,dw]
 have hl:(cs.take i).length=i:=by simp;omega
 have hm:((cs.drop i).take z).length=z:=by simp;omega
 conv=>lhs;rw[e,show i+n=(cs.take i).length+n by rw[hl]]
 rw[MI,AN au];simp only[aM]
theorem jQ{cs vs:List Value}{n:Nat}(h:n+vs.length<=cs.length):(dE cs n vs).length=cs.length:=by simp[dE];omega
def lT:aD->aD->Prop
 | .vec e t l,.vec e' t' l'=>e'=e/\t'=t/\l'.length=l.length
 | .vec ..,_=>False
 |_,.vec .. =>False
 | .mp ..,_ | .qh ..,_ | .yH ..,_=>False
 |_,.mp .. | _,.qh .. | _,.yH .. =>False
 |_,_=>True
theorem lT.s8{a b:aD}(h:lT a b)(ha:a.iu=aR):b.iu=aR:=by
 cases b <;> first
  |rfl
  | (cases a <;> first | (simp[aD.iu]at ha;done) | exact h.elim)
theorem lT.of{a b:aD}(ha:a.iu=aR)(hb:b.iu=aR):lT a b:=by
 cases a <;> first
  | (simp[aD.iu]at ha;done)
  | (cases b <;> first | trivial | (simp[aD.iu]at hb;done))
theorem V.s8{E:Env}{a:aD}{cs:List Value}(h:V E a cs):a.iu=aR:=by cases a <;> first | rfl | (simp only[V]at h)
theorem pW{E:Env}:∀(p:List GZ) (c:aD) (cs:List Value) (n:Nat) (o v c':aD) (vs:List Value),VO E c cs->(loc c p).eval=al (n,o)->V E v vs->
  (wJ c p v).eval=al c'->n+vs.length<=cs.length/\VO E c' (dE cs n vs)/\
   lT c c'
 |[],c,cs,n,o,v,c',vs,hc,hl,hv,h=>by
  simp only[loc,ay,cM]at hl;obtain⟨rfl,rfl⟩:=hl
  have main:∀(aFM:c.iu=aR),(Out.guard (v.eQ && (c.size==v.size)) (.ok v)).eval=al c'->0+vs.length<=cs.length/\VO E c' (dE cs 0 vs)/\
   lT c c':=by
   intro aFM hg;obtain⟨h1,h2⟩:=aG.1 hg;obtain rfl:=ay.1 h2;simp only[av,dD]at h1;have e1:=(hc.to aFM).size;have e2:=hv.size;refine⟨au,?_,?_⟩
   ·rw[akk au];exact VO.of hv
   ·exact lT.of aFM hv.s8
  cases c with
  |vec e t l=>simp only[wJ,aw]at h
  |mp k v l=>simp only[wJ,aw]at h
  |qh q ver k v rest cur=>simp only[wJ,aw]at h
  |yH k f p=>simp only[wJ,aw]at h
  |_=>exact main rfl (by simpa only[wJ]using h)
 |st::p,c,cs,n,o,v,c',vs,hc,hl,hv,h=>by
  by_cases nG:st= .arr
  ·subst nG;have hl':(loc c p).eval=al (n,o):=by cases c <;> simpa only[loc]using hl
   have h':(wJ c p v).eval=al c':=by cases c <;> simpa only[wJ]using h
   exact pW p c cs n o v c' vs hc hl' hv h'
  have left:∀(a b:aD) (ca cb:List Value),cs=ca++cb->V E a ca->V E b cb->(loc a p).eval=al (n,o)->((wJ a p v).bind λa'=>Out.ok (Lw a' b)).eval=al c'->
    n+vs.length<=cs.length/\VO E c' (dE cs n vs)/\c'.iu=aR:=by
   intro a b ca cb e ha hb hl hh;obtain⟨a',h1,h2⟩:=ax.1 hh;obtain rfl:=ay.1 h2;obtain⟨h3,h4,h5⟩:=pW p a ca n o v a' vs (VO.of ha) hl hv h1;subst e;refine⟨by simp only[aj];omega,?_,PO _ _⟩;rw[AN h3];have aHO:a'.iu=aR:=h5.s8 ha.s8;exact VO.of (aho (h4.to aHO) hb)
  have right:∀(a b:aD) (ca cb:List Value),cs=ca++cb->ca.length=a.size->V E a ca->V E b cb->((loc b p).bind λ(n,v)=>Out.ok (a.size+n,v)).eval=al (n,o)->
    ((wJ b p v).bind λb'=>Out.ok (Lw a b')).eval=al c'->n+vs.length<=cs.length/\VO E c' (dE cs n vs)/\c'.iu=aR:=by
   intro a b ca cb e at3 ha hb hl hh;obtain⟨⟨n',v'⟩,h1,h2⟩:=ax.1 hl;simp only[ay,cM]at h2;obtain⟨rfl,rfl⟩:=h2;obtain⟨b',h3,h4⟩:=ax.1 hh;obtain rfl:=ay.1 h4;obtain⟨h5,h6,h7⟩:=pW p b cb n' v' v b' vs (VO.of hb) h1 hv h3;subst e;refine⟨by simp only[aj];omega,?_,PO _ _⟩;rw[<-at3,MI];have aHO:b'.iu=aR:=h7.s8 hb.s8;exact VO.of (aho ha (h6.to aHO))
  have elem:∀(t:Ty) (l:List t.den) (i:Nat) (mk:List t.den->aD),bo (cI E t) cs l->(Out.tJ (decide (i < l.length)) ((loc (.d t (nth t l i)) p).bind λ(n,v)=>Out.ok (i*t.size+n,v))).eval=al (n,o)->
    (Out.tJ (decide (i < l.length)) ((wJ (.d t (nth t l i)) p v).bind fun
     | .d t' y=>(Out.opt (sH t' t y)).bind λy=> .ok (mk (l.set i y))
     |_=> .fail)).eval=al c'->
    n+vs.length<=cs.length/\∃l',c'=mk l'/\l'.length=l.length/\bo (cI E t) (dE cs n vs) l':=by
   intro t l i mk uG hl hh;obtain⟨hi,hl⟩:=bR.1 hl;have hi:i < l.length:=by simpa using hi
   obtain⟨⟨n',v'⟩,h1,h2⟩:=ax.1 hl;simp only[ay,cM]at h2;obtain⟨rfl,rfl⟩:=h2;obtain⟨_,hh⟩:=bR.1 hh;obtain⟨w,h3,h4⟩:=ax.1 hh;obtain⟨hp,hle⟩:=Mt uG hi;rw[Ub hi]at h1 h3;have aDf:V E (.d t l[i]) ((cs.drop (i*t.size)).take t.size):=by simpa only[V]using hp
   have hlen:((cs.drop (i*t.size)).take t.size).length=t.size:=hp.size;obtain⟨h5,h6,h7⟩:=pW p _ _ n' v' v w vs (VO.of aDf) h1 hv h3;cases w with
   |d t' y=>
    simp only at h4;obtain⟨y',h8,h9⟩:=ax.1 h4;obtain⟨rfl,h8⟩:=iY (ja.1 h8);simp only at h8;subst h8;obtain rfl:=ay.1 h9;refine⟨au,_,rfl,by simp,?_⟩;have hy:cI E t' (dE ((cs.drop (i*t'.size)).take t'.size) n' vs) y:=by simpa only[VO,V]using h6
    have:=bo.set (λc x hx=>cI.size hx) uG i hi hy;rw[akl (by omega:i*t'.size+t'.size<=cs.length) au];rwa[hy.size]at this
   |_=>simp only[aw]at h4
  cases c with
  |pr a b=>
   simp only[VO,V]at hc;obtain⟨ca,cb,e,ha,hb⟩:=hc;cases st with
   |arr=>exact absurd rfl nG
   |fst=>
    simp only[loc]at hl;simp only[wJ]at h;obtain⟨r1,r2,r3⟩:=left a b ca cb e ha hb hl h;exact⟨r1,r2,lT.of rfl r3⟩
   |snd=>
    simp only[loc]at hl;simp only[wJ]at h;obtain⟨r1,r2,r3⟩:=right a b ca cb e ha.size ha hb hl h;exact⟨r1,r2,lT.of rfl r3⟩
   |idx i=>simp only[loc,aw]at hl
  |d t x=>
   simp only[VO,V]at hc;cases t with
   |pair ta tb=>
    simp only[cI]at hc;obtain⟨ca,cb,e,ha,hb⟩:=hc;have ha':V E (.d ta x.1) ca:=by simpa only[V]using ha
    have hb':V E (.d tb x.2) cb:=by simpa only[V]using hb
    cases st with
    |arr=>exact absurd rfl nG
    |fst=>
     simp only[loc]at hl;simp only[wJ]at h;obtain⟨r1,r2,r3⟩:=left _ _ ca cb e ha' hb' hl h;exact⟨r1,r2,lT.of rfl r3⟩
    |snd=>
     simp only[loc]at hl;simp only[wJ]at h;obtain⟨r1,r2,r3⟩:=right (.d ta x.1) (.d tb x.2) ca cb e ha.size ha' hb' hl h;exact⟨r1,r2,lT.of rfl r3⟩
    |idx i=>simp only[loc,aw]at hl
   |arr m t=>
    simp only[cI]at hc;cases st with
    |arr=>exact absurd rfl nG
    |idx i=>
     simp only[loc]at hl;simp only[wJ]at h;obtain⟨r1,l',e,r2,r3⟩:=elem t x i (λl=> .d (.arr m t) l) hc.2 hl h;subst e;refine⟨r1,?_,trivial⟩;simp only[VO,V,cI];exact⟨by rw[r2];exact hc.1,r3⟩
    |fst=>simp only[loc,aw]at hl
    |snd=>simp only[loc,aw]at hl
   |_=>cases st <;> first | exact absurd rfl nG | (simp only[loc,aw]at hl)
  |vec e t l=>
   simp only[VO]at hc;cases st with
   |arr=>exact absurd rfl nG
   |idx i=>
    simp only[loc]at hl;simp only[wJ]at h;obtain⟨r1,l',e',r2,r3⟩:=elem t l i (λl=> .vec e t l) hc hl h;subst e';exact⟨r1,by simpa only[VO]using r3,rfl,rfl,r2⟩
   |fst=>simp only[loc,aw]at hl
   |snd=>simp only[loc,aw]at hl
  |_=>cases st <;> first | exact absurd rfl nG | (simp only[loc,aw]at hl)
end Go.Ab
namespace Go.Ab
def aCa(E:Env)(id:Id)(fr:Bool)(e:TypeId)(t:Ty)(l:List t.den):Prop:=
 0 < t.size/\match E.β id with
  |none=>l=[]
  |some pl=>∃cur k,E.w.heap[pl.b]? =al (.cells cur e (0,0))/\cur.size=pl.cap*t.size/\l.length<=pl.cap/\pl.cap<=maxLen/\E.g pl.b= .own (.id id) k/\
    k<=l.length*t.size/\(fr=aR->k=0)/\bo (cI E t) (cur.toList.take (l.length*t.size)) l
def aD.Ew:aD->Pl->Nat->TypeId->Prop
 | .bx e' 0 _,_,_,e=>e=e'
 | .bx e' (z+1) c,pl,n,e=>e=e'/\n=pl.cap*(z+1)/\pl.cap<=maxLen/\c.size<=n
 |_,_,_,_=>True
def aD.vl:aD->Nat->Nat
 | .bx _ (_+1) c,_=>c.size
 |_,n=>n
def aD.Wy:aD->Bool | .bx .. =>aT | _=>aR
theorem V.zo{E:Env}{a:aD}{cs:List Value}(h:V E a cs):a.Wy=aR:=by cases a <;> first | rfl | (simp only[V]at h)
theorem OF{c:aD}(h:c.Wy=aR):c.strip=c:=by cases c <;> first | rfl | (simp[aD.Wy]at h)
theorem Np{c:aD}(h:c.Wy=aR)(pl:Pl)(n:Nat)(e:TypeId):c.Ew pl n e:=by cases c <;> first | trivial | (simp[aD.Wy]at h)
theorem R6{c:aD}(h:c.Wy=aR)(n:Nat):c.vl n=n:=by cases c <;> first | rfl | (simp[aD.Wy]at h)
theorem JD(c:aD){c':aD}(h:c'.Wy=aR):(c.wrap c').strip=c':=by cases c <;> first | rfl | exact OF h
theorem Is{c c':aD}{pl:Pl}{n:Nat}{e:TypeId}(hc:c.Ew pl n e)(h:c'.Wy=aR)(hs:c'.size=c.strip.size):(c.wrap c').Ew pl n e:=by
 cases c with
 |bx e' z c=>cases z with
  |zero=>exact hc
  |succ z=>exact⟨hc.1,hc.2.1,hc.2.2.1,by rw[hs];exact hc.2.2.2⟩
 |_=>exact Np h pl n e
theorem No{c c':aD}{n:Nat}(h:c'.Wy=aR)(hs:c'.size=c.strip.size):(c.wrap c').vl n=c.vl n:=by
 cases c with
 |bx e' z c=>cases z with
  |zero=>rfl
  |succ z=>exact hs
 |_=>exact R6 h n
theorem Rh{c:aD}{pl:Pl}{n:Nat}{e:TypeId}(h:c.Ew pl n e):c.vl n<=n:=by
 cases c with
 |bx e' z c=>cases z with
  |zero=>exact aF _
  |succ z=>exact h.2.2.2
 |_=>exact aF _
def ahN(id:Id)(fr:Bool):lQ:=match fr with | true=> .free | false=> .own (.id id) 0
def Nb(E:Env)(id:Id)(fr:Bool)(c:aD):Prop:=∃pl cur e,E.β id=al pl/\E.w.heap[pl.b]? =al (.cells cur e (0,0))/\E.g pl.b=ahN id fr/\c.Ew pl cur.size e/\V E c.strip (cur.toList.take (c.vl cur.size))
def Alike{α β:Type}(R:α->β->Prop):List α->List β->Prop
 |[],[]=>True
 |x::xs,y::ys=>R x y/\Alike R xs ys
 |_,_=>False
theorem Alike.mono{α β:Type}{R R':α->β->Prop}(h:∀x y,R x y->R' x y):∀ {xs:List α} {ys:List β},Alike R xs ys->Alike R' xs ys
 |[],[],_=>trivial
 |_::_,_::_,⟨h1,h2⟩=>⟨h _ _ h1,Alike.mono h h2⟩
 |[],_::_,h=>h.elim
 |_::_,[],h=>h.elim
def BL(E:Env)(t:Ty)(v:Value)(x:t.den):Prop:=∃cs,cI E t cs x/\fY t.agg cs v
def Cs(E:Env)(kt vt:Ty)(e:fU)(x:kt.den×vt.den):Prop:=BL E kt e.key x.1/\BL E vt e.val x.2
theorem Cs.mono{E E':Env}(h:sC E E'){kt vt:Ty}{e:fU}{x:kt.den×vt.den}(he:Cs E kt vt e x):Cs E' kt vt e x:=
 let⟨⟨c1,a1,b1⟩,c2,a2,b2⟩:=he
 ⟨⟨c1,a1.mono h,b1⟩,c2,a2.mono h,b2⟩
def Zu(E:Env)(kt vt:Ty)(es:List fU)(l:List (kt.den×vt.den)):Prop:=∃l',Alike (Cs E kt vt) es l'/\l'.Perm l
theorem Zu.mono{E E':Env}(h:sC E E'){kt vt:Ty}{es:List fU}{l:List (kt.den×vt.den)}(hm:Zu E kt vt es l):Zu E' kt vt es l:=
 let⟨l',h1,h2⟩:=hm
 ⟨l',h1.mono λ_ _ he=>he.mono h,h2⟩
def nT(es:List fU)(clock:Nat):Prop:=(es.map (·.born)).Nodup/\∀e∈es,e.born < clock
theorem nT.nil(n:Nat):nT [] n:=⟨gZ,λ_ h=>(by cases h)⟩
theorem nT.push{es:List fU}{clock:Nat}(h:nT es clock){e:fU}(he:e.born=clock):nT (es++ [e]) (clock+1):=by
 refine⟨?_,λx hx=> ?_⟩
 ·rw[List.map_append,List.nodup_append];refine⟨h.1,by simp,λa ha b hb=> ?_⟩;obtain⟨x,hx,rfl⟩:=dO.1 ha;have:=h.2 x hx;simp only[cn,iT,bq]at hb;omega
 ·rcases bD.1 hx with hx | hx
  ·have:=h.2 x hx;omega
  ·rw[bq]at hx;subst hx;omega
theorem nT.erase{es:List fU}{clock:Nat}(h:nT es clock)(j:Nat):nT (es.eraseIdx j) clock:=⟨h.1.sublist ((List.eraseIdx_sublist es j).map _),λx hx=>h.2 x ((List.eraseIdx_sublist es j).subset hx)⟩
theorem nT.set{es:List fU}{clock:Nat}(h:nT es clock){j:Nat}{e x:fU}(hj:es[j]? =al e)(hx:x.born=e.born):nT (es.set j x) clock:=by
 have jb:=(dN.1 hj).1;have aJJ:=(dN.1 hj).2;have e1:(es.set j x).map (·.born)=es.map (·.born):=by
  rw[List.map_set,hx,<-aJJ];have:es[j].born=(es.map (·.born))[j]'(by simpa using jb):=by simp
  rw[this,gz]
 refine⟨by rw[e1];exact h.1,λy hy=> ?_⟩;rcases List.mem_or_eq_of_mem_set hy with hy | hy
 ·exact h.2 y hy
 ·rw[hy,hx,<-aJJ];exact h.2 _ (aX jb)
def aHx(E:Env)(id:Id)(kt vt:Ty)(l:List (kt.den×vt.den)):Prop:=
 ∃pl es clock,E.β id=al pl/\E.w.heap[pl.b]? =al (.map es clock)/\E.g pl.b= .own (.id id) 0/\(Zu E kt vt es.toList l/\(l.map (·.1)).Nodup)/\nT es.toList clock
def aB6(E:Env)(i q:Id)(ver:Nat)(kt vt:Ty)(rest:List (kt.den×vt.den))(cur:Option (kt.den×vt.den)):Prop:=
 ∃pl mb since seen c0,E.β i=al pl/\E.w.heap[pl.b]? =al (.mapIter (al mb) since seen c0)/\E.g pl.b= .own (.id i) 0/\∀vr,ver=vr+1->E.DL q vr/\
  (E.cur q vr->(∃k v l,E.s q=al (.obj vr aT (.mp k v l)))/\∃plq es clock,E.β q=al plq/\plq.b=mb/\E.w.heap[plq.b]? =al (.map es clock)/\E.g plq.b= .own (.id q) 0/\
   (∀x∈es.toList,x.born < since)/\(since<=c0/\since<=clock)/\(es.toList.map (·.born)).Nodup/\Zu E kt vt (es.toList.filter λe=> !seen.contains e.born) rest/\
   ∀x,cur=al x->∃(e:fU) (seen':Array Nat),e∈es.toList/\seen=seen'.push e.born/\c0=clock/\Cs E kt vt e x)
def af6:Nat->LoopState->Option Code->Prop
 | 0,st,pe=>st= .ready/\pe=aJ
 | 1,st,_=>st= .busy
 | 2,st,pe=>st= .done/\pe=al .ret
 |n+3,st,pe=>st= .done/\pe=al (.exit n)
def Ct(E:Env)(f:aD)(tmps:Array Value):Prop:=f.list.length=tmps.size/\∀i,VS E (f.list.getD i .undef) (tmps.getD i undef)
def aHy(E:Env)(id:Id)(c:tQ)(f:aD)(p:Nat):Prop:=∃pl r,E.β id=al pl/\E.w.heap[pl.b]? =al (.loop r)/\E.g pl.b= .own (.id id) 0/\(r.params=c.ps/\r.assign=c.as/\r.body=c.b)/\Ct E f r.tmps/\af6 p r.state r.pending
def vi(E:Env)(id:Id)(fr:Bool):aD->Prop
 | .yH c f p=>aHy E id c f p
 | .vec e t l=>aCa E id fr e t l
 | .mp kt vt l=>aHx E id kt vt l
 | .qh q ver kt vt rest cur=>aB6 E id q ver kt vt rest cur
 |c=>Nb E id fr c
theorem vi.box{E:Env}{id:Id}{fr:Bool}{c:aD}(h:vi E id fr c)(hn:c.iu=aR):Nb E id fr c:=by cases c <;> first | exact h | (simp[aD.iu]at hn)
theorem Nb.obj{E:Env}{id:Id}{fr:Bool}{c:aD}(h:Nb E id fr c):vi E id fr c:=by cases c <;> first | exact h | (obtain⟨_,_,_,_,_,_,_,hv⟩:=h;simp only[aD.strip,V]at hv)
def iP(E:Env):Prop:=∀id ver fr c,E.s id=al (.obj ver fr c)->vi E id fr c
structure Trans(w w':bU)(g g':Nat->lQ):Prop where
 os:w'.os=w.os
 tape:w'.tape=w.tape
 output:w'.output=w.output/\w.drawn<=w'.drawn
 size:w.heap.size<=w'.heap.size
 wZ:∀b,b < w.heap.size->match g b with
  | .free=>g' b= .free/\w'.heap[b]? =w.heap[b]?
  | .own .eM k=>g' b= .own .eM k/\w'.heap[b]? =w.heap[b]?
  | .own (.id _) k=>(g' b= .free\/∃i k',g' b= .own (.id i) k'/\k<=k')/\∀off v,off < k->w.cell? ⟨b,off,aJ⟩=al v->w'.cell? ⟨b,off,aJ⟩=al v
theorem Trans.refl(w:bU)(g:Nat->lQ):Trans w w g g:=
 ⟨rfl,rfl,⟨rfl,aF _⟩,aF _,λb _=>by
  cases g b with
  |free=>exact⟨rfl,rfl⟩
  |own o k=>cases o with
   |eM=>exact⟨rfl,rfl⟩
   |id i=>exact⟨.inr ⟨i,k,rfl,aF _⟩,λ_ _ _ h=>h⟩⟩
theorem Trans.trans{w w' w'':bU}{g g' g'':Nat->lQ}(h:Trans w w' g g')(h':Trans w' w'' g' g''):Trans w w'' g g'':=by
 refine⟨h'.os.trans h.os,h'.tape.trans h.tape,⟨h'.output.1.trans h.output.1,jx h.output.2 h'.output.2⟩,jx h.size h'.size,λb hb=> ?_⟩;have h1:=h.wZ b hb;have h2:=h'.wZ b (Nat.lt_of_lt_of_le hb h.size);cases hg:g b with
 |free=>
  rw[hg]at h1;simp only at h1 ⊢;rw[h1.1]at h2;simp only at h2;exact⟨h2.1,h2.2.trans h1.2⟩
 |own o k=>
  cases o with
  |eM=>
   rw[hg]at h1;simp only at h1 ⊢;rw[h1.1]at h2;simp only at h2;exact⟨h2.1,h2.2.trans h1.2⟩
  |id i=>
   rw[hg]at h1;simp only at h1 ⊢;obtain⟨aFc,aJt⟩:=h1;rcases aFc with aFc | ⟨i',k',aFc,hk⟩
   ·rw[aFc]at h2;simp only at h2;exact⟨.inl h2.1,λoff v ho hv=>by
     have:=aJt off v ho hv;simpa only[eP,h2.2]using this⟩
   ·rw[aFc]at h2;simp only at h2;refine⟨?_,λoff v ho hv=>h2.2 off v au (aJt off v ho hv)⟩;rcases h2.1 with aHL | ⟨i'',k'',aHL,hk'⟩
    ·exact .inl aHL
    ·exact .inr ⟨i'',k'',aHL,au⟩
theorem Trans.mem{E E':Env}(h:Trans E.w E'.w E.g E'.g):sC E E':=by
 refine⟨?_,λb ob hf ho=>by
  have h1:=h.wZ b (bN.1 ho).1;rw[hf]at h1;exact⟨h1.1,h1.2.trans ho⟩⟩
 intro b off v ⟨hc,ho⟩;have hb:b < E.w.heap.size:=World.block_lt_of_cell? _ _ hc;have h1:=h.wZ b hb;unfold Env.has so at*;cases hg:E.g b with
 |free=>
  rw[hg]at h1;simp only at h1;refine⟨?_,by rw[h1.1];trivial⟩;simpa only[eP,h1.2]using hc
 |own o k=>
  rw[hg]at ho;simp only at ho;cases o with
  |eM=>
   rw[hg]at h1;simp only at h1;refine⟨?_,by rw[h1.1];exact ho⟩;simpa only[eP,h1.2]using hc
  |id i=>
   rw[hg]at h1;simp only at h1;refine⟨h1.2 off v ho hc,?_⟩;rcases h1.1 with h2 | ⟨i',k',h2,hk⟩
   ·rw[h2];trivial
   ·rw[h2];show off < k';omega
theorem Ct.mono{E E':Env}(h:cU E E'){f:aD}{tmps:Array Value}(hs:Ct E f tmps):Ct E' f tmps:=⟨hs.1,λi=>(hs.2 i).mono h⟩
theorem vi.aBL{E E':Env}(h:cU E E'){id:Id}{fr:Bool}{c:aD}(ho:vi E id fr c)(hβ:E'.β id=E.β id)
    (hb:∀pl,E.β id=al pl->E'.w.heap[pl.b]? =E.w.heap[pl.b]? /\E'.g pl.b=E.g pl.b)
    (hq:∀q ver k v l,(∃kt vt rest cu,c= .qh q (ver+1) kt vt rest cu)->E.s q=al (.obj ver aT (.mp k v l))->E'.cur q ver->(∃k v l,E'.s q=al (.obj ver aT (.mp k v l)))/\∀pl,E.β q=al pl->E'.w.heap[pl.b]? =E.w.heap[pl.b]? /\E'.g pl.b=E.g pl.b):vi E' id fr c:=by
  by_cases hn:c.iu=aR
  · obtain⟨pl,cur,e,h1,h2,h3,h5,h4⟩:=ho.box hn
    obtain⟨b1,b2⟩:=hb pl h1;exact Nb.obj ⟨pl,cur,e,by rw[hβ,h1],by rw[b1,h2],by rw[b2,h3],h5,h4.mono h⟩
  · cases c <;> first
      | (exact absurd rfl hn)
      | (obtain⟨pl,r,h1,h2,h3,h4,h5,h6⟩:=ho
         obtain⟨b1,b2⟩:=hb pl h1;exact⟨pl,r,by rw[hβ,h1],by rw[b1,h2],by rw[b2,h3],h4,h5.mono h,h6⟩)
      | (obtain⟨pl,es,clock,h1,h2,h3,h4⟩:=ho
         obtain⟨b1,b2⟩:=hb pl h1;exact⟨pl,es,clock,by rw[hβ,h1],by rw[b1,h2],by rw[b2,h3],⟨h4.1.1.mono h.mem,h4.1.2⟩,h4.2⟩)
      | (obtain⟨pl,mb,since,seen,c0,h1,h2,h3,hv⟩:=ho
         obtain⟨b1,b2⟩:=hb pl h1;refine⟨pl,mb,since,seen,c0,by rw[hβ,h1],by rw[b1,h2],by rw[b2,h3],λvr ahb=> ?_⟩;obtain⟨h4,h5⟩:=hv vr ahb;refine⟨h.DL _ _ h4,λhc=> ?_⟩;obtain⟨c1,e1⟩:=h.cur _ _ h4 hc;obtain⟨⟨k,v,l,hk⟩,plq,es,clock,g1,g2,g3,g4,g5,g6,g7,g8,g9⟩:=h5 c1;obtain⟨q1,q2⟩:=hq _ _ _ _ _ ⟨_,_,_,_,by rw[ahb]⟩ hk hc;obtain⟨q3,q4⟩:=q2 plq g1;exact⟨q1,plq,es,clock,by rw[e1,g1],g2,by rw[q3,g3],by rw[q4,g4],g5,g6,g7,g8.mono h.mem,λx hx=>
           let⟨e,se,a1,a2,a3,a4⟩:=g9 x hx
           ⟨e,se,a1,a2,a3,a4.mono h.mem⟩⟩)
      |skip
    rename_i e t l;obtain⟨hz,ho⟩:=ho;refine⟨hz,?_⟩;rw[hβ];cases hp:E.β id with
    |none=>rw[hp]at ho;exact ho
    |some pl=>
      rw[hp]at ho;simp only at ho ⊢;obtain⟨b1,b2⟩:=hb pl hp;obtain⟨cur,k,h1,h2,h3,h4,h5,h6,h7,h8⟩:=ho;exact⟨cur,k,by rw[b1,h1],h2,h3,h4,by rw[b2,h5],h6,h7,h8.mono λc x hx=>hx.mono h.mem⟩
theorem vi.mono{E E':Env}(h:cU E E'){id:Id}{fr:Bool}{c:aD}(ho:vi E id fr c)(hβ:E'.β id=E.β id)(hb:∀pl,E.β id=al pl->E'.w.heap[pl.b]? =E.w.heap[pl.b]? /\E'.g pl.b=E.g pl.b)(hq:∀q ver k v l,E.s q=al (.obj ver aT (.mp k v l))->E'.cur q ver->(∃k v l,E'.s q=al (.obj ver aT (.mp k v l)))/\∀pl,E.β q=al pl->E'.w.heap[pl.b]? =E.w.heap[pl.b]? /\E'.g pl.b=E.g pl.b):vi E' id fr c:=ho.aBL h hβ hb λq ver k v l _=>hq q ver k v l
def AS.env(s:AS)(w:bU)(g:Nat->lQ)(β:Id->Option Pl):Env:= {w,g,β,s:=s.bS}
structure Ctx where
 E:Env
def Ctx.ok(C:Ctx):Prop:=(∀i j,C.E.s (.new i j)=aJ)/\∀k v fr c,C.E.s (.bG k)=al (.obj v fr c)->v=0
def tZ(D:Nat):Deferred:= {target:= .collected D,args:= #[]}
def akN(n:Nat)(ds:List Deferred)(w:bU)(g:Nat->lQ):Prop:=ds.Nodup/\∀d∈ds,∃D,d=tZ D/\n<=D/\w.heap[D]? =al (.deferred (al []))/\g D= .own .eM 0
theorem akN.mono{n:Nat}{ds:List Deferred}{w w':bU}{g g':Nat->lQ}(h:akN n ds w g)(ht:Trans w w' g g'):akN n ds w' g':=
 ⟨h.1,λd hd=>by
  obtain⟨D,h1,h2,h3,h4⟩:=h.2 d hd;have:=ht.wZ D (bN.1 h3).1;rw[h4]at this;exact⟨D,h1,h2,this.2.trans h3,this.1⟩⟩
structure Inv(C:Ctx)(g:Nat->lQ)(β:Id->Option Pl)(s:AS)(a:Act)(w:bU):Prop where
 defers:akN C.E.w.heap.size a.defers w g
 size:a.tmps.size=s.cr.length
 cr:∀i,VS (s.env w g β) (s.slot i) (a.tmps.getD i undef)
 bM:iP (s.env w g β)
 trans:Trans C.E.w w C.E.g g
 le:cU C.E (s.env w g β)
def gT(C:Ctx)(s:AS)(a:Act)(w:bU):Prop:=∃g β,Inv C g β s a w
theorem Vt(s:AS)(d:Nat)(v:aD)(i:Nat):(s.put (al d) v).slot i=if i=d/\d < s.cr.length then v else s.slot i:=by
 simp only[AS.put,AS.slot,aI,List.getElem?_set];by_cases h:d=i
 ·subst h;by_cases hl:d < s.cr.length
  ·simp[hl]
  ·simp[hl]
 ·simp[h,Ne.symm h]
@[simp] theorem Gz(s:AS)(d:Option Tmp)(v:aD):(s.put d v).bS=s.bS:=by cases d <;> rfl
@[simp] theorem aam(s:AS)(d:Option Tmp)(v:aD)(w:bU)(g:Nat->lQ)(β:Id->Option Pl):(s.put d v).env w g β=s.env w g β:=by simp[AS.env]
theorem agO(a:Act)(d:Nat)(v:Value)(i:Nat):(a.put (al d) v).tmps.getD i undef=if i=d/\d < a.tmps.size then v else a.tmps.getD i undef:=by
 simp only[Act.put,cQ,ek];by_cases h:d=i
 ·subst h;by_cases hl:d < a.tmps.size
  ·simp[hl]
  ·simp[hl]
 ·simp[h,Ne.symm h]
theorem Inv.put{C:Ctx}{g:Nat->lQ}{β:Id->Option Pl}{s:AS}{a:Act}{w:bU}(h:Inv C g β s a w)(d:Option Tmp){v:aD}{x:Value}(hv:VS (s.env w g β) v x):
  Inv C g β (s.put d v) (a.put d x) w:=by
 cases d with
 |none=>exact h
 |some d=>
  refine⟨h.defers,by simpa[Act.put,AS.put]using h.size,λi=> ?_,by simpa using h.bM,h.trans,by simpa using h.le⟩;rw[aam,Vt,agO,h.size];split
  ·exact hv
  ·exact h.cr i
theorem Inv.step{C:Ctx}{g g':Nat->lQ}{β β':Id->Option Pl}{s s':AS}{a:Act}{w w':bU}(h:Inv C g β s a w)(hs:s'.cr=s.cr)
  (ht:Trans w w' g g') (he:cU (s.env w g β) (s'.env w' g' β')) (ho:iP (s'.env w' g' β')):Inv C g' β' s' a w':=
 ⟨h.defers.mono ht,by rw[hs];exact h.size,λi=>by
  have:s'.slot i=s.slot i:=by simp[AS.slot,hs]
  rw[this];exact(h.cr i).mono he,ho,h.trans.trans ht,h.le.trans he⟩
theorem arM{E:Env}(v:Value):VS E (ofConst v) v:=by
 cases v with
 |bool b=>exact⟨_,by simp[ofConst,V,cI],rfl⟩
 |int k n=>exact⟨_,by simp[ofConst,V,cI],rfl⟩
 |string s=>exact⟨_,by simp[ofConst,V,cI],rfl⟩
 |slice a l c=>cases a with
  |none=>
   cases l with
   |zero=>cases c with
    |zero=>exact⟨_,by simp[ofConst,V],rfl⟩
    |succ _=>trivial
   |succ _=>trivial
  |some _=>trivial
 |pointer a=>cases a with
  |none=>exact⟨_,by simp[ofConst,V],rfl⟩
  |some _=>trivial
 |map r=>cases r with
  |none=>exact⟨_,by simp[ofConst,V],rfl⟩
  |some _=>trivial
 |nilFunc=>exact⟨_,by simp[ofConst,V],rfl⟩
 |_=>trivial
theorem Inv.ev{C:Ctx}{g:Nat->lQ}{β:Id->Option Pl}{s:AS}{a:Act}{w:bU}(h:Inv C g β s a w)(x:bJ):VS (s.env w g β) (s.ev x) (a.eval x):=by
 cases x with
 |tmp t=>exact h.cr t
 |const v=>exact arM v
 |func f=>exact⟨_,by simp only[AS.ev,V];exact⟨[],rfl,by simp[VC]⟩,rfl⟩
 |global _=>trivial
theorem eL(s:AS)(id:Id)(e:dR)(h:s.bS id≠aJ):(s.aZ id e).bS id=al e:=by
 cases id with
 |bG k=>
  simp only[AS.bS,AS.aZ]at*;have hk:k < s.cj.length:=by
   rcases ph k s.cj.length with h' | h'
   ·exact h'
   ·exact absurd (dP h') h
  simp[hk]
 |new i j=>
  simp only[AS.bS,AS.aZ]at*;have hj:j < (s.news.getD i []).length:=by
   rcases ph j (s.news.getD i []).length with h' | h'
   ·exact h'
   ·exact absurd (dP h') h
  have hi:i < s.news.length:=by
   rcases ph i s.news.length with h' | h'
   ·exact h'
   ·simp[dP h']at hj
  have:((s.news.set i ((s.news.getD i []).set j e)).getD i [])=(s.news.getD i []).set j e:=by simp[aI,hi]
  rw[this];simp only[List.getElem?_set,hj,da]
theorem df(s:AS)(id id':Id)(e:dR)(h:id'≠id):(s.aZ id e).bS id'=s.bS id':=by
 cases id with
 |bG k=>
  cases id' with
  |bG k'=>
   simp only[AS.bS,AS.aZ];rw[eF (λe=>h (by rw[e]))]
  |new i j=>rfl
 |new i j=>
  cases id' with
  |bG k'=>rfl
  |new i' j'=>
   simp only[AS.bS,AS.aZ];by_cases hi:i'=i
   ·subst hi;have hj:j≠j':=λe=>h (by rw[e])
    by_cases hl:i' < s.news.length
    ·have:((s.news.set i' ((s.news.getD i' []).set j e)).getD i' [])=(s.news.getD i' []).set j e:=by simp[aI,hl]
     rw[this,eF hj]
    ·rw[List.set_eq_of_length_le au]
   ·have:(s.news.set i ((s.news.getD i []).set j e)).getD i' []=s.news.getD i' []:=by simp only[aI];rw[eF (Ne.symm hi)]
    rw[this]
@[simp] theorem dv(s:AS)(id:Id)(e:dR):(s.aZ id e).cr=s.cr:=by cases id <;> rfl
@[simp] theorem aDW(s:AS)(i:Nat)(es:List dR):(s.born i es).cr=s.cr:=rfl
theorem dZ{s:AS}{id:Id}{v:Nat}{fr:Bool}{c:aD}(h:s.obj id=al (v,fr,c)):s.bS id=al (.obj v fr c):=by
 unfold AS.obj at h;split at h
 ·rename_i h';simp at h;obtain⟨rfl,rfl,rfl⟩:=h;exact h'
 ·cases h
theorem cU.aZ{s:AS}{w w':bU}{g g':Nat->lQ}{β β':Id->Option Pl}{id:Id}{v v':Nat}{fr fr':Bool}{c c':aD}(hs:s.bS id=al (.obj v fr c))(hv:v<=v')
  (ht:Trans w w' g g') (hβ:∀i,i≠id->β' i=β i) (hβ':v'=v->β' id=β id):cU (s.env w g β) ((s.aZ id (.obj v' fr' c')).env w' g' β'):=by
 have kS:=eL s id (.obj v' fr' c') (by rw[hs];simp);refine⟨Trans.mem ht,λi ver hb=> ?_,λi ver hb hc=> ?_⟩
 ·by_cases hi:i=id
  ·subst hi;obtain⟨_,h2⟩:=hb;refine⟨by show(s.aZ i (.obj v' fr' c')).bS i≠aJ;rw[kS];simp,λv'' fr'' c'' he=> ?_⟩;have he':(s.aZ i (.obj v' fr' c')).bS i=al (.obj v'' fr'' c''):=he;rw[kS]at he';simp only[az,dR.obj.injEq]at he';have:=h2 v fr c hs;omega
  ·have:=df s id i (.obj v' fr' c') hi;obtain⟨h1,h2⟩:=hb;exact⟨by show(s.aZ id (.obj v' fr' c')).bS i≠aJ;rw[this];exact h1,λv'' fr'' c'' he=>h2 v'' fr'' c'' (this.symm.trans he)⟩
 ·obtain⟨fr'',c'',hc⟩:=hc;by_cases hi:i=id
  ·subst hi;have hc':(s.aZ i (.obj v' fr' c')).bS i=al (.obj ver fr'' c''):=hc;rw[kS]at hc';simp only[az,dR.obj.injEq]at hc';have h2:=hb.2 v fr c hs;have e:v'=v:=au;refine⟨⟨fr,c,?_⟩,hβ' e⟩;rw[<-hc'.1,e];exact hs
  ·have hc':(s.aZ id (.obj v' fr' c')).bS i=al (.obj ver fr'' c''):=hc;rw[df s id i _ hi]at hc';exact⟨⟨fr'',c'',hc'⟩,hβ i hi⟩
theorem iP.aZ{s:AS}{w w':bU}{g g':Nat->lQ}{β β':Id->Option Pl}{id:Id}{v':Nat}{fr':Bool}{c':aD}(h:iP (s.env w g β))(gJ:s.bS id≠aJ)
  (he:cU (s.env w g β) ((s.aZ id (.obj v' fr' c')).env w' g' β')) (hβ:∀i,i≠id->β' i=β i)
  (hb:∀i ver fr c pl,i≠id->s.bS i=al (.obj ver fr c)->β i=al pl->w'.heap[pl.b]? =w.heap[pl.b]? /\g' pl.b=g pl.b)
  (ho:vi ((s.aZ id (.obj v' fr' c')).env w' g' β') id fr' c')
  (acH:∀ver k v l,s.bS id=al (.obj ver aT (.mp k v l))->v'=ver/\fr'=aT/\(∃k v l,c'= .mp k v l)/\∀pl,β id=al pl->w'.heap[pl.b]? =w.heap[pl.b]? /\g' pl.b=g pl.b):iP ((s.aZ id (.obj v' fr' c')).env w' g' β'):=by
 intro i ver fr c hi;by_cases dg:i=id
 ·subst dg;have hi':(s.aZ i (.obj v' fr' c')).bS i=al (.obj ver fr c):=hi;rw[eL s i _ gJ]at hi';simp only[az,dR.obj.injEq]at hi';obtain⟨rfl,rfl,rfl⟩:=hi';exact ho
 ·have hi':(s.aZ id (.obj v' fr' c')).bS i=al (.obj ver fr c):=hi;rw[df s id i _ dg]at hi';refine(h i ver fr c hi').mono he (hβ i dg) (λpl hp=>hb i ver fr c pl dg hi' hp) λq vq k v l hq hc=> ?_
  have hq:s.bS q=al (.obj vq aT (.mp k v l)):=hq;by_cases aIn:q=id
  ·subst aIn;obtain⟨rfl,rfl,⟨k',v',l',rfl⟩,aCP⟩:=acH _ _ _ _ hq;exact⟨⟨k',v',l',eL s q _ gJ⟩,aCP⟩
  ·exact⟨⟨k,v,l,by show(s.aZ id _).bS q=_;rw[df s id q _ aIn];exact hq⟩,λpl hp=>hb q vq aT _ pl aIn hq hp⟩
theorem Ru{s:AS}{w:bU}{g:Nat->lQ}{β:Id->Option Pl}{id:Id}{v:Nat}{fr:Bool}{c:aD}(hs:s.bS id=al (.obj v fr c)):
  ∀ver k v1 l,s.bS id=al (.obj ver aT (.mp k v1 l))->v=ver/\aT=aT/\(∃k v l,c= .mp k v l)/\∀pl,β id=al pl->w.heap[pl.b]? =w.heap[pl.b]? /\g pl.b=g pl.b:=λver k v1 l hl=>by
 rw[hs]at hl;cases hl;exact⟨rfl,rfl,⟨_,_,_,rfl⟩,λ_ _=>⟨rfl,rfl⟩⟩
theorem pF{s:AS}{id:Id}{v:Nat}{fr:Bool}{c:aD}(hs:s.bS id=al (.obj v fr c))(hc:∀k v1 l,c≠ .mp k v1 l){Q:Nat->Prop}:
  ∀ver k v1 l,s.bS id=al (.obj ver aT (.mp k v1 l))->Q ver:=λver k v1 l hl=>by
 rw[hs]at hl;cases hl;exact absurd rfl (hc _ _ _)
theorem Lo{s:AS}{id:Id}{v:Nat}{c:aD}(hs:s.bS id=al (.obj v aR c)){Q:Nat->Prop}:
  ∀ver k v1 l,s.bS id=al (.obj ver aT (.mp k v1 l))->Q ver:=λver k v1 l hl=>by
 rw[hs]at hl;cases hl
theorem zR{s:AS}{id:Id}{v:Nat}{fr:Bool}{c:aD}(hs:s.bS id=al (.obj v fr c))(h:s.tE id=aT):fr=aR:=by
 have e:s.obj id=al (v,fr,c):=by simp[AS.obj,hs]
 unfold AS.tE at h;rw[e]at h;simpa using h
theorem vi.label{E:Env}{id:Id}{fr:Bool}{c:aD}(h:vi E id fr c){pl:Pl}(hp:E.β id=al pl):
    pl.b < E.w.heap.size/\((∃k,E.g pl.b= .own (.id id) k)\/(fr=aT/\E.g pl.b= .free)):=by
  by_cases hn:c.iu=aR
  · obtain⟨pl',cur,e,h1,h2,h3,h4⟩:=h.box hn
    rw[hp]at h1;obtain rfl:pl=pl':=by simpa using h1
    refine⟨(bN.1 h2).1,?_⟩;cases fr with
    |true=>exact .inr ⟨rfl,h3⟩
    |false=>exact .inl ⟨0,h3⟩
  · cases c <;> first
      | (exact absurd rfl hn)
      | (obtain⟨pl',r,h1,h2,h3,_,_,_⟩:=h
         rw[hp]at h1;obtain rfl:pl=pl':=by simpa using h1
         exact⟨(bN.1 h2).1,.inl ⟨0,h3⟩⟩)
      | (obtain⟨pl',es,clock,h1,h2,h3,_⟩:=h
         rw[hp]at h1;obtain rfl:pl=pl':=by simpa using h1
         exact⟨(bN.1 h2).1,.inl ⟨0,h3⟩⟩)
      | (obtain⟨pl',mb,since,seen,c0,h1,h2,h3,_⟩:=h
         rw[hp]at h1;obtain rfl:pl=pl':=by simpa using h1
         exact⟨(bN.1 h2).1,.inl ⟨0,h3⟩⟩)
      |skip
    obtain⟨_,h⟩:=h;rw[hp]at h;obtain⟨cur,k,h1,_,_,_,h5,_⟩:=h;exact⟨(bN.1 h1).1,.inl ⟨k,h5⟩⟩
def na{α:Type}(f:Nat->α)(b:Nat)(x:α):Nat->α:=λb'=>if b'=b then x else f b'
@[simp] theorem fP{α:Type}(f:Nat->α)(b:Nat)(x:α):na f b x b=x:=by simp[na]
theorem fG{α:Type}(f:Nat->α)(b:Nat)(x:α){b':Nat}(h:b'≠b):na f b x b'=f b':=by simp[na,h]
def S8:aD->Nat->Prop
 | .vec _ t l,j=>j < l.length*t.size
 |_,_=>True
theorem S8.of{c:aD}(h:c.iu=aR)(j:Nat):S8 c j:=by cases c <;> first | trivial | (simp[aD.iu]at h)
theorem asA{w:bU}{b:Nat}{es:Array fU}{clock:Nat}(h:w.heap[b]? =al (.map es clock))(j:Nat):w.cell? ⟨b,j,aJ⟩=aJ:=by simp[eP,h]
theorem KU{C:Ctx}{g:Nat->lQ}{β:Id->Option Pl}{s:AS}{a:Act}{w:bU}(h:Inv C g β s a w)(id:Id):
    ∃g',Inv C g' β (s.freeze id) a w/\cU (s.env w g β) ((s.freeze id).env w g' β)/\Trans w w g g'/\
      (∀v fr c,s.bS id=al (.obj v fr c)->∀pl,β id=al pl->∀j x,w.cell? ⟨pl.b,j,aJ⟩=al x->
        S8 c j->so g' pl.b j):=by
  unfold AS.freeze;cases hs:s.bS id with
  |none=>exact⟨g,h,cU.refl _,Trans.refl _ _,λ_ _ _ hh=>by cases hh⟩
  |some e=>
    cases e with
    |dead=>exact⟨g,h,cU.refl _,Trans.refl _ _,λ_ _ _ hh=>by cases hh⟩
    |obj v fr c=>
      simp only;have kk:vi (s.env w g β) id fr c:=h.bM id v fr c hs;cases hp:β id with
      |none=>
        have ht:=Trans.refl w g;have he:cU (s.env w g β) ((s.aZ id (.obj v aT c)).env w g β):=cU.aZ hs (aF _) ht (λ_ _=>rfl) (λ_=>rfl);refine⟨g,h.step (dv _ _ _) ht he ?_,he,ht,λ_ _ _ _ pl QU=>by cases QU⟩;refine iP.aZ h.bM (by rw[hs];simp) he (λ_ _=>rfl) (λ_ _ _ _ _ _ _ _=>⟨rfl,rfl⟩) ?_ (Ru hs)
        by_cases hn:c.iu=aR
        · obtain⟨pl,_,_,h1,_⟩:=kk.box hn
          have h1':β id=al pl:=h1;rw[hp]at h1';cases h1'
        · cases c <;> first
            | (exact absurd rfl hn)
            | (obtain⟨pl,_,h1,_⟩:=kk
               have h1':β id=al pl:=h1;rw[hp]at h1';cases h1')
            | (obtain⟨pl,_,_,h1,_⟩:=kk
               have h1':β id=al pl:=h1;rw[hp]at h1';cases h1')
            | (obtain⟨pl,_,_,_,_,h1,_⟩:=kk
               have h1':β id=al pl:=h1;rw[hp]at h1';cases h1')
            |skip
          obtain⟨hz,ho⟩:=kk;have ho':(match β id with
            |none=>_
            |some pl=>_):=ho
          refine⟨hz,?_⟩;show(match β id with
            |none=>_
            |some pl=>_)
          rw[hp]at ho' ⊢;exact ho'
      |some pl=>
        have aoK:=kk.label (pl:=pl) hp;by_cases hn:c.iu=aR
        · obtain⟨pl',cur,e,h1,h2,h3,h5,h4⟩:=kk.box hn
          have h1':β id=al pl':=h1;rw[hp]at h1';obtain rfl:pl=pl':=by simpa using h1'
          have h3':g pl.b=ahN id fr:=h3;have ht:Trans w w g (na g pl.b .free):=by
            refine⟨rfl,rfl,⟨rfl,aF _⟩,aF _,λb hb=> ?_⟩;by_cases aaD:b=pl.b
            · subst aaD
              rw[h3',fP];cases fr with
              |true=>exact⟨rfl,rfl⟩
              |false=>exact⟨.inl rfl,λ_ _ _ hh=>hh⟩
            · rw[fG _ _ _ aaD]
              exact(Trans.refl w g).wZ b hb
          have he:cU (s.env w g β) ((s.aZ id (.obj v aT c)).env w (na g pl.b .free) β):=cU.aZ hs (aF _) ht (λ_ _=>rfl) (λ_=>rfl);refine⟨na g pl.b .free,h.step (dv _ _ _) ht he ?_,he,ht,?_⟩
          · refine iP.aZ h.bM (by rw[hs];simp) he (λ_ _=>rfl) (λi ver fr' c' pl' hi cO QU=>⟨rfl,?_⟩) ?_ (pF hs λk v1 l e=>by rw[e]at hn;simp[aD.iu]at hn)
            · by_cases aaD:pl'.b=pl.b
              · rw[aaD,fP]
                have hl:=(h.bM i ver fr' c' cO).label (pl:=pl') QU;have aiz:(∃k,g pl'.b= .own (.id i) k)\/(fr'=aT/\g pl'.b= .free):=hl.2;rw[aaD,h3']at aiz;cases fr with
                |true=>exact h3'.symm▸rfl
                |false=>
                  exfalso;rcases aiz with⟨k,hk⟩ | ⟨_,hk⟩
                  · simp only[ahN,lQ.own.injEq,Own.id.injEq]at hk
                    exact hi hk.1.symm
                  · cases hk
              · rw[fG _ _ _ aaD]
            · exact Nb.obj ⟨pl,cur,e,hp,h2,fP _ _ _,h5,V.mono he h4⟩
          · intro v1 fr1 c1 hh pl1 aaG j x hx hj
            obtain rfl:pl=pl1:=by simpa using aaG
            unfold so;rw[fP];trivial
        · cases c <;> first | (exact absurd rfl hn) | skip
          rotate_left;rotate_left
          · rename_i q vq kt vt rest cu
            have ht:=Trans.refl w g;have he:cU (s.env w g β) ((s.aZ id (.obj v aT (.qh q vq kt vt rest cu))).env w g β):=cU.aZ hs (aF _) ht (λ_ _=>rfl) (λ_=>rfl);have hob':=kk;obtain⟨pl',mb,since,seen,c0,h1,h2,_⟩:=kk;have h1':β id=al pl':=h1;rw[hp]at h1';obtain rfl:pl=pl':=by simpa using h1'
            refine⟨g,h.step (dv _ _ _) ht he ?_,he,ht,λ_ _ _ _ pl1 aaG j x hx _=> ?_⟩
            · refine iP.aZ h.bM (by rw[hs];simp) he (λ_ _=>rfl) (λ_ _ _ _ _ _ _ _=>⟨rfl,rfl⟩) ?_ (Ru hs)
              exact vi.mono he (fr:=aT) hob' rfl (λ_ _=>⟨rfl,rfl⟩) λq2 v2 k2 v3 l2 NI _=>⟨⟨k2,v3,l2,by
                have NI:s.bS q2=al (.obj v2 aT (.mp k2 v3 l2)):=NI;have gJ:q2≠id:=λe=>by rw[e,hs]at NI;cases NI
                show(s.aZ id _).bS q2=_;rw[df s id q2 _ gJ];exact NI⟩,λ_ _=>⟨rfl,rfl⟩⟩
            · obtain rfl:pl=pl1:=by simpa using aaG
              have h2:w.heap[pl.b]? =al (.mapIter (al mb) since seen c0):=h2
              simp[eP,h2]at hx
          · rename_i k f p
            have ht:=Trans.refl w g;have he:cU (s.env w g β) ((s.aZ id (.obj v aT (.yH k f p))).env w g β):=cU.aZ hs (aF _) ht (λ_ _=>rfl) (λ_=>rfl);obtain⟨pl',r,h1,h2,h3,h4,h5,h6⟩:=kk;have h1':β id=al pl':=h1;rw[hp]at h1';obtain rfl:pl=pl':=by simpa using h1'
            refine⟨g,h.step (dv _ _ _) ht he ?_,he,ht,λ_ _ _ _ pl1 aaG j x hx _=> ?_⟩
            · exact iP.aZ h.bM (by rw[hs];simp) he (λ_ _=>rfl) (λ_ _ _ _ _ _ _ _=>⟨rfl,rfl⟩) ⟨pl,r,hp,h2,h3,h4,h5.mono he,h6⟩ (Ru hs)
            · obtain rfl:pl=pl1:=by simpa using aaG
              have h2:w.heap[pl.b]? =al (.loop r):=h2
              simp[eP,h2]at hx
          rotate_left
          · obtain⟨pl',es,clock,h1,h2,h3,h4⟩:=kk
            have h1':β id=al pl':=h1;rw[hp]at h1';obtain rfl:pl=pl':=by simpa using h1'
            have ht:=Trans.refl w g;rename_i kt vt l;have he:cU (s.env w g β) ((s.aZ id (.obj v aT (.mp kt vt l))).env w g β):=cU.aZ hs (aF _) ht (λ_ _=>rfl) (λ_=>rfl);refine⟨g,h.step (dv _ _ _) ht he ?_,he,ht,λ_ _ _ _ pl1 aaG j x hx _=> ?_⟩
            · exact iP.aZ h.bM (by rw[hs];simp) he (λ_ _=>rfl) (λ_ _ _ _ _ _ _ _=>⟨rfl,rfl⟩) ⟨pl,es,clock,hp,h2,h3,⟨h4.1.1.mono he.mem,h4.1.2⟩,h4.2⟩ (Ru hs)
            · obtain rfl:pl=pl1:=by simpa using aaG
              have h2:w.heap[pl.b]? =al (.map es clock):=h2
              rw[asA h2]at hx;cases hx
          rename_i e t l;obtain⟨hz,ho⟩:=kk;have ho':(match β id with
            |none=>l=[]
            |some pl=>∃cur k,w.heap[pl.b]? =al (.cells cur e (0,0))/\cur.size=pl.cap*t.size/\l.length<=pl.cap/\pl.cap<=maxLen/\g pl.b= .own (.id id) k/\
                k<=l.length*t.size/\(fr=aR->k=0)/\bo (cI (s.env w g β) t) (cur.toList.take (l.length*t.size)) l):=ho
          rw[hp]at ho';obtain⟨cur,k,h1,h2,h3,h4,h5,h6,h7,h8⟩:=ho';have ht:Trans w w g (na g pl.b (.own (.id id) (l.length*t.size))):=by
            refine⟨rfl,rfl,⟨rfl,aF _⟩,aF _,λb hb=> ?_⟩;by_cases aaD:b=pl.b
            · subst aaD
              rw[h5,fP];exact⟨.inr ⟨id,_,rfl,h6⟩,λ_ _ _ hh=>hh⟩
            · rw[fG _ _ _ aaD]
              exact(Trans.refl w g).wZ b hb
          have he:cU (s.env w g β) ((s.aZ id (.obj v aT (.vec e t l))).env w (na g pl.b (.own (.id id) (l.length*t.size))) β):=cU.aZ hs (aF _) ht (λ_ _=>rfl) (λ_=>rfl);refine⟨_,h.step (dv _ _ _) ht he ?_,he,ht,?_⟩
          · refine iP.aZ h.bM (by rw[hs];simp) he (λ_ _=>rfl) (λi ver fr' c' pl' hi cO QU=>⟨rfl,?_⟩) ?_ (pF hs λk v1 l e=>by cases e)
            · by_cases aaD:pl'.b=pl.b
              · exfalso
                have hl:=(h.bM i ver fr' c' cO).label (pl:=pl') QU;have aiz:(∃k,g pl'.b= .own (.id i) k)\/(fr'=aT/\g pl'.b= .free):=hl.2;rw[aaD,h5]at aiz;rcases aiz with⟨k,hk⟩ | ⟨_,hk⟩
                · simp only[lQ.own.injEq,Own.id.injEq]at hk
                  exact hi hk.1.symm
                · cases hk
              · rw[fG _ _ _ aaD]
            · refine⟨hz,?_⟩
              show(match β id with
                |none=>l=[]
                |some pl=>_)
              rw[hp];exact⟨cur,_,h1,h2,h3,h4,fP _ _ _,aF _,(by intro hh;cases hh),h8.mono λc x hx=>hx.mono he.mem⟩
          · intro v1 fr1 c1 hh pl1 aaG j x hx hj
            obtain rfl:pl=pl1:=by simpa using aaG
            simp only[az,dR.obj.injEq]at hh;obtain⟨_,_,rfl⟩:=hh;unfold so;rw[fP];exact hj
end Go.Ab
namespace Go.Ab
def aET(E E':Env)(ids:List Id):Prop:=∀id∈ids,∀v fr c,E.s id=al (.obj v fr c)->∀pl,E.β id=al pl->∀j x,E.w.cell? ⟨pl.b,j,aJ⟩=al x->S8 c j->E'.has pl.b j x
theorem SH{s:AS}{id i:Id}{v:Nat}{fr:Bool}{c:aD}(h:s.bS i=al (.obj v fr c)):∃fr',(s.freeze id).bS i=al (.obj v fr' c):=by
 unfold AS.freeze;by_cases hi:i=id
 ·subst hi;rw[h];exact⟨aT,eL s i _ (by rw[h];simp)⟩
 ·split
  ·exact⟨fr,by rw[df s id i _ hi];exact h⟩
  ·exact⟨fr,h⟩
theorem fi{C:Ctx}{β:Id->Option Pl}{a:Act}{w:bU}:∀(ids:List Id) {g:Nat->lQ} {s:AS},Inv C g β s a w->
  ∃g',Inv C g' β (s.bp ids) a w/\cU (s.env w g β) ((s.bp ids).env w g' β)/\Trans w w g g'/\aET (s.env w g β) ((s.bp ids).env w g' β) ids
 |[],g,s,h=>⟨g,h,cU.refl _,Trans.refl _ _,λ_ hi=>by cases hi⟩
 |id::ids,g,s,h=>by
  obtain⟨g1,h1,e1,t1,f1⟩:=KU h id;obtain⟨g2,h2,e2,t2,f2⟩:=fi ids h1;refine⟨g2,h2,e1.trans e2,t1.trans t2,λi hi v fr c hs pl hp j x hx hj=> ?_⟩;rcases cg.1 hi with rfl | hi
  ·exact e2.mem.has _ _ _ ⟨hx,f1 v fr c hs pl hp j x hx hj⟩
  ·obtain⟨fr',hs'⟩:=SH (id:=id) hs;exact f2 i hi v fr' c hs' pl hp j x hx hj
theorem ab0(s:AS)(id:Id):(s.freeze id).cr=s.cr:=by unfold AS.freeze;split <;> simp
theorem nk:∀(ids:List Id) (s:AS),(s.bp ids).cr=s.cr
 |[],_=>rfl
 |id::ids,s=>by rw[AS.bp,nk ids,ab0]
theorem afl(s:AS)(id:Id)(q:Nat):(s.freeze id).eB q=s.eB q:=by
 unfold AS.freeze;split
 ·rename_i v b c h;cases id with
  |bG k=>rfl
  |new i j=>
   simp only[AS.aZ,AS.eB];by_cases hq:i=q
   ·subst hq;simp only[AS.bS]at h;by_cases hl:i < s.news.length
    ·rw[List.getElem?_set_self hl,bQ hl];rw[aI,bQ hl]at h ⊢;simp only[dB]at h ⊢;cases hh:s.news[i]with
     |nil=>rw[hh]at h;simp at h
     |cons x xs=>cases j <;> simp[gB]
    ·rw[List.set_eq_of_length_le au]
   ·rw[eF hq]
 ·rfl
theorem uo:∀(ids:List Id) (s:AS) (q:Nat),(s.bp ids).eB q=s.eB q
 |[],_,_=>rfl
 |id::ids,s,q=>by rw[AS.bp,uo ids,afl]
theorem Tv{e:TypeId}{t:Ty}:∀ {p:List GZ} {n:Nat} {v:aD},(loc (.vec e t []) p).eval=al (n,v)->n=0/\v= .vec e t []
 |[],n,v,h=>by simp only[loc,ay,cM]at h;exact⟨h.1.symm,h.2.symm⟩
 | .arr::p,n,v,h=>by simp only[loc]at h;exact Tv h
 | .idx i::p,n,v,h=>by simp[loc,bR]at h
 | .fst::p,n,v,h=>by simp only[loc,aw]at h
 | .snd::p,n,v,h=>by simp only[loc,aw]at h
theorem Rx{k:tQ}{f:aD}{m:Nat}:∀ {p:List GZ} {n:Nat} {v:aD},(loc (.yH k f m) p).eval=al (n,v)->n=0/\v= .yH k f m
 |[],n,v,h=>by simp only[loc,ay,cM]at h;exact⟨h.1.symm,h.2.symm⟩
 | .arr::p,n,v,h=>by simp only[loc]at h;exact Rx h
 | .idx i::p,n,v,h=>by simp only[loc,aw]at h
 | .fst::p,n,v,h=>by simp only[loc,aw]at h
 | .snd::p,n,v,h=>by simp only[loc,aw]at h
theorem aaW{k t:Ty}{l:List (k.den×t.den)}:∀ {p:List GZ} {n:Nat} {v:aD},(loc (.mp k t l) p).eval=al (n,v)->n=0/\v= .mp k t l
 |[],n,v,h=>by simp only[loc,ay,cM]at h;exact⟨h.1.symm,h.2.symm⟩
 | .arr::p,n,v,h=>by simp only[loc]at h;exact aaW h
 | .idx i::p,n,v,h=>by simp only[loc,aw]at h
 | .fst::p,n,v,h=>by simp only[loc,aw]at h
 | .snd::p,n,v,h=>by simp only[loc,aw]at h
theorem Rw{q:Id}{ver:Nat}{k t:Ty}{l:List (k.den×t.den)}{cu:Option (k.den×t.den)}:∀ {p:List GZ} {n:Nat} {v:aD},(loc (.qh q ver k t l cu) p).eval=al (n,v)->n=0/\v= .qh q ver k t l cu
 |[],n,v,h=>by simp only[loc,ay,cM]at h;exact⟨h.1.symm,h.2.symm⟩
 | .arr::p,n,v,h=>by simp only[loc]at h;exact Rw h
 | .idx i::p,n,v,h=>by simp only[loc,aw]at h
 | .fst::p,n,v,h=>by simp only[loc,aw]at h
 | .snd::p,n,v,h=>by simp only[loc,aw]at h
theorem Oy{E:Env}{s:AS}(hs:E.s=s.bS)(ho:iP E){id:Id}{ver:Nat}{p:List GZ}{n:Nat}{t:Ty}{l:List t.den}(h:(s.row id ver p).eval=al (n,⟨t,l⟩)):
    ∃fr c,E.s id=al (.obj ver fr c)/\((E.β id=aJ/\l=[]/\n=0)\/∃pl cur e,E.β id=al pl/\E.w.heap[pl.b]? =al (.cells cur e (0,0))/\n+l.length*t.size<=cur.size/\
      bo (cI E t) ((cur.toList.drop n).take (l.length*t.size)) l/\
      ∀j,j < n+l.length*t.size->S8 c j):=by
  unfold AS.row at h;cases kk:s.obj id with
  |none=>rw[kk]at h;simp only[aw]at h
  |some r=>
    obtain⟨v,fr,c⟩:=r;rw[kk]at h;obtain⟨h1,h2⟩:=aG.1 h;obtain⟨⟨n',v'⟩,h3,h4⟩:=ax.1 h2;have hv:v=ver:=by simpa using h1
    subst hv;have cO:E.s id=al (.obj v fr c):=by rw[hs];exact dZ kk
    refine⟨fr,c,cO,?_⟩;have hO:=ho id v fr c cO
    have aiv:∀(pl:Pl) (cur:Array Value) (e:TypeId) (m:Nat) (t':Ty) (l':List t'.den) (n':Nat),E.β id=al pl->E.w.heap[pl.b]? =al (.cells cur e (0,0))->c.iu=aR->
        V E (.d (.arr m t') l') ((cur.toList.drop n').take (aD.d (.arr m t') l').size)->n'+(aD.d (.arr m t') l').size<=cur.toList.length->(Out.ok (n',(⟨t',l'⟩:(t:Ty)×List t.den))).eval=al (n,⟨t,l⟩)->
        ∃pl cur e,E.β id=al pl/\E.w.heap[pl.b]? =al (.cells cur e (0,0))/\n+l.length*t.size<=cur.size/\bo (cI E t) ((cur.toList.drop n).take (l.length*t.size)) l/\
          ∀j,j < n+l.length*t.size->S8 c j:=by
      intro pl cur e m t' l' n' hp hh hn hv hl he;simp only[ay,cM]at he;obtain⟨rfl,he⟩:=he;obtain⟨rfl,he⟩:=he;simp only[V,cI]at hv;obtain⟨axS,M7⟩:=hv;have rM:∀(t:Ty) (l:List t.den),l.length=m->(aD.d (.arr m t) l).size=l.length*t.size:=λt l hh=>by simp[aD.size,Ty.size,hh]
      rw[rM _ _ axS]at M7 hl;exact⟨pl,cur,e,hp,hh,by simpa using hl,M7,λj _=>S8.of hn j⟩
    by_cases hn:c.iu=aR
    · right
      obtain⟨pl,cur,e,hp,hh,hg,hk,hV⟩:=hO.box hn;have hN:=Rh hk;generalize c.vl cur.size=N at hN hV;have hNl:(cur.toList.take N).length=N:=by rw[cG,cS];omega
      obtain⟨u,hu⟩:∃u,c.strip=u:=⟨_,rfl⟩;rw[hu]at hV h3;have ay6:∀m k:Nat,m+k<=(cur.toList.take N).length->((cur.toList.take N).drop m).take k=(cur.toList.drop m).take k/\m+k<=cur.toList.length:=λm k at8=>by rw[hNl]at at8;refine⟨?_,by rw[cS];omega⟩;rw[sB,lS,gF au]
      rcases rO p u (cur.toList.take N) n' v' (VO.of hV) h3 with⟨rfl,rfl⟩ | ⟨hV',hle⟩
      · cases v' with
        |d t' x=>cases t' with
          |arr m t'=>
            have hs:=hV.size;have hc:=ay6 0 (aD.d (.arr m t') x).size au;refine aiv pl cur e m t' x 0 hp hh hn ?_ hc.2 (by simpa only using h4)
            rw[<-hc.1,aQ,bC au];exact hV
          |_=>simp only[aw]at h4
        |vec=>simp only[V]at hV
        |_=>simp only[aw]at h4
      · cases v' with
        |d t' x=>cases t' with
          |arr m t'=>
            have hc:=ay6 _ _ hle;exact aiv pl cur e m t' x n' hp hh hn (by rw[<-hc.1];exact hV') hc.2 (by simpa only using h4)
          |_=>simp only[aw]at h4
        |vec=>simp only[V]at hV'
        |_=>simp only[aw]at h4
    · cases c <;> first
        | (exact absurd rfl hn)
        | (obtain⟨rfl,rfl⟩:=aaW h3
           simp only[aw]at h4)
        | (obtain⟨rfl,rfl⟩:=Rw h3
           simp only[aw]at h4)
        | (obtain⟨rfl,rfl⟩:=Rx h3
           simp only[aw]at h4)
        |skip
      rename_i e t0 l0;obtain⟨hz,hO⟩:=hO;cases hp:E.β id with
      |none=>
        rw[hp]at hO;have aFF:l0=[]:=hO;subst aFF;obtain⟨rfl,rfl⟩:=Tv h3;simp only[ay,cM]at h4;obtain⟨rfl,he⟩:=h4;obtain⟨rfl,he⟩:=he;exact .inl ⟨rfl,rfl,rfl⟩
      |some pl=>
        rw[hp]at hO;obtain⟨cur,k,q1,q2,q3,q4,q5,q6,q7,q8⟩:=hO;right;have hlen:(cur.toList.take (l0.length*t0.size)).length=l0.length*t0.size:=bo.length (λc x hx=>cI.size hx) q8;have aud:l0.length*t0.size<=cur.size:=by rw[q2];exact c9 _ q3
        rcases rO (E:=E) p (.vec e t0 l0) (cur.toList.take (l0.length*t0.size)) n' v' q8 h3 with⟨rfl,rfl⟩ | ⟨hV',hle⟩
        · simp only[ay,cM]at h4
          obtain⟨rfl,he⟩:=h4;obtain⟨rfl,he⟩:=he;exact⟨pl,cur,e,rfl,q1,au,by simpa using q8,λj hj=>by show j < l.length*t.size;omega⟩
        · have hle':=hle
          rw[hlen]at hle';rw[sB,lS,gF au]at hV';cases v' with
          |d t' x=>cases t' with
            |arr m t'=>
              simp only[ay,cM]at h4;obtain⟨rfl,he⟩:=h4;obtain⟨rfl,he⟩:=he;simp only[V,cI]at hV';obtain⟨axS,M7⟩:=hV';have rM:∀(t:Ty) (l:List t.den),l.length=m->(aD.d (.arr m t) l).size=l.length*t.size:=λt l hh=>by simp[aD.size,Ty.size,hh]
              rw[rM _ _ axS]at M7 hle';refine⟨pl,cur,e,rfl,q1,au,M7,λj hj=> ?_⟩;show j < l0.length*t0.size;omega
            |_=>simp only[aw]at h4
          |vec=>simp only[V]at hV'
          |_=>simp only[aw]at h4
theorem Iu{E:Env}{t:Ty}{cs:List Value}{l:List t.den}(h:bo (cI E t) cs l)(i len:Nat):bo (cI E t) ((cs.drop (i*t.size)).take (len*t.size)) (cut l i len):=bo.take (λ_ _ hx=>hx.size) len (bo.drop (λ_ _ hx=>hx.size) i h)
theorem CP{α:Type}{l:List α}{i len:Nat}(h:i+len<=l.length):(cut l i len).length=len:=by simp[cut];omega
theorem agB{E E':Env}{s:AS}(hs:E.s=s.bS)(ho:iP E)(he:cU E E'){id:Id}{ver c i len n:Nat}{p:List GZ}{t':Ty}{l:List t'.den}{cs:List Value}
  (h1:(s.row id ver p).eval=al (n,⟨t',l⟩)) (h3:decide (n+i*t'.size=c/\i+len<=l.length)=aT) (hv:V E (.b8 id ver p c i len) cs) (hf:aET E E' (aD.b8 id ver p c i len).shared):cI E' (.slice t') cs (cut l i len):=by
 simp only[aW]at h3;obtain⟨hc,hlen⟩:=h3;obtain⟨fr,c0,cO,si⟩:=Oy hs ho h1;simp only[V]at hv;obtain⟨a,cap,aoH,hle,pY,hb,fH⟩:=hv;have fH:=fH ⟨fr,c0,cO⟩;have axU:(cut l i len).length=len:=CP hlen;simp only[cI];refine⟨a,cap,?_⟩;rcases si with⟨hp,hl,_⟩ | ⟨pl,cur,e,hp,hh,rM,uG,hbound⟩
 ·rw[hp]at fH;simp only at fH;obtain⟨rfl,rfl,rfl⟩:=fH;refine⟨[],?_,au,au,λ_ _ hh=>by simp at hh,?_⟩
  ·rw[axU];exact aoH
  ·have:cut l i 0=[]:=by simp[cut]
   rw[this];rfl
 ·rw[hp]at fH;simp only at fH;refine⟨((((cur.toList.drop n).take (l.length*t'.size)).drop (i*t'.size)).take (len*t'.size)),by rw[axU];exact aoH,au,by rw[axU];exact pY,?_,(Iu uG i len).mono λ_ _ hx=>hx.mono he.mem⟩;have hmul:(i+len)*t'.size<=l.length*t'.size:=c9 _ hlen;rw[eO]at hmul;rw[Ul _ _ _ _ _ hmul];intro j v hj;rw[db]at hj;split at hj
  ·rename_i aC2;rw[fD,hc]at hj;have aH9:0 < len:=by
    rcases iO len with h0 | h0
    ·subst h0;simp at aC2
    ·exact h0
   refine⟨pl.b,c,fH.1 (.inl aH9),?_⟩;refine hf id (by simp[aD.shared]) ver fr c0 cO pl hp (c+j) v ?_ (hbound _ au)
   rw[cell_of_row E.w pl.b (c+j) cur e (0,0) hh];simpa using hj
  ·cases hj
theorem tx{E E':Env}{s:AS}(hs:E.s=s.bS)(ho:iP E)(he:cU E E'):∀(v:aD) (t:Ty) (x:t.den) (cs:List Value),V E v cs->(s.iL t v).eval=al x->aET E E' v.shared->cI E' t cs x
 | .d t' x',t,x,cs,hv,h,_=>by
  have h':(Out.opt (EC t' t x')).eval=al x:=by cases t <;> simpa only[AS.iL]using h
  simp only[V]at hv;exact CC (ja.1 h') (hv.mono he.mem)
 | .dI,.slice t,x,cs,hv,h,_=>by simp only[AS.iL,ay]at h;subst h;simp only[V]at hv;simp only[cI];exact⟨aJ,0,[],by simpa using hv,by simp,by simp,λi v hh=>by simp at hh,rfl⟩
 | .dI,.fZ t,x,cs,hv,h,_=>by simp only[AS.iL,ay]at h;subst h;simp only[V]at hv;simp only[cI];exact⟨λ_=>hv,λl hl=>(by cases hl)⟩
 | .b8 id ver p c i len,.fZ t,x,cs,hv,h,hf=>by simp only[AS.iL]at h;obtain⟨⟨n,t',l⟩,h1,h2⟩:=ax.1 h;obtain⟨h3,h4⟩:=bR.1 h2;exact CC (ja.1 h4) (agB hs ho he h1 h3 hv hf)
 | .b8 id ver p c i len,.slice t,x,cs,hv,h,hf=>by simp only[AS.iL]at h;obtain⟨⟨n,t',l⟩,h1,h2⟩:=ax.1 h;obtain⟨h3,h4⟩:=bR.1 h2;exact CC (ja.1 h4) (agB hs ho he h1 h3 hv hf)
 | .pr a b,.pair ta tb,x,cs,hv,h,hf=>by simp only[AS.iL]at h;obtain⟨x1,h1,h2⟩:=ax.1 h;obtain⟨x2,h3,h4⟩:=ax.1 h2;obtain rfl:=ay.1 h4;simp only[V]at hv;obtain⟨ca,cb,e,ha,hb⟩:=hv;simp only[cI];exact⟨ca,cb,e,tx hs ho he a ta x1 ca ha h1 (λi hi=>hf i (by simp[aD.shared,hi])),tx hs ho he b tb x2 cb hb h3 (λi hi=>hf i (by simp[aD.shared,hi]))⟩
 | .dI,.int _,_,_,_,h,_ | .dI,.bool,_,_,_,h,_ | .dI,.str,_,_,_,h,_ | .dI,.unit,_,_,_,h,_ | .dI,.pair _ _,_,_,_,h,_ | .dI,.arr _ _,_,_,_,h,_ | .dI,.nP _,_,_,_,h,_ | .dI,.gO _,_,_,_,h,_=>by simp only[AS.iL,aw]at h
 | .b8 ..,.int _,_,_,_,h,_ | .b8 ..,.bool,_,_,_,h,_ | .b8 ..,.str,_,_,_,h,_ | .b8 ..,.unit,_,_,_,h,_ | .b8 ..,.pair _ _,_,_,_,h,_ | .b8 ..,.arr _ _,_,_,_,h,_ | .b8 ..,.nP _,_,_,_,h,_ | .b8 ..,.gO _,_,_,_,h,_=>by simp only[AS.iL,aw]at h
 | .pr _ _,.int _,_,_,_,h,_ | .pr _ _,.bool,_,_,_,h,_ | .pr _ _,.str,_,_,_,h,_ | .pr _ _,.unit,_,_,_,h,_ | .pr _ _,.slice _,_,_,_,h,_ | .pr _ _,.arr _ _,_,_,_,h,_ | .pr _ _,.fZ _,_,_,_,h,_ | .pr _ _,.nP _,_,_,_,h,_ | .pr _ _,.gO _,_,_,_,h,_=>by simp only[AS.iL,aw]at h
 | .undef,t,_,_,_,h,_=>by cases t <;> simp only[AS.iL,aw]at h
 | .gone,t,_,_,_,h,_=>by cases t <;> simp only[AS.iL,aw]at h
 | .j7,.nP t,x,cs,hv,h,_=>by simp only[AS.iL,ay]at h;subst h;simp only[V]at hv;simp only[cI];exact⟨λ_=>hv,λy hy=>by cases hy⟩
 | .j7,.gO t,x,cs,hv,h,_=>by simp only[AS.iL,ay]at h;subst h;simp only[V]at hv;simp only[cI];exact⟨λ_=>hv,λy hy=>by cases hy⟩
 | .j7,.int _,_,_,_,h,_ | .j7,.bool,_,_,_,h,_ | .j7,.str,_,_,_,h,_ | .j7,.unit,_,_,_,h,_ | .j7,.pair _ _,_,_,_,h,_ | .j7,.arr _ _,_,_,_,h,_ | .j7,.slice _,_,_,_,h,_ | .j7,.fZ _,_,_,_,h,_=>by simp only[AS.iL,aw]at h
 | .vF,t,_,_,_,h,_=>by cases t <;> simp only[AS.iL,aw]at h
 | .yl ..,t,_,_,_,h,_ | .yH ..,t,_,_,_,h,_=>by cases t <;> simp only[AS.iL,aw]at h
 | .Bd,t,_,_,_,h,_=>by cases t <;> simp only[AS.iL,aw]at h
 | .sb _,t,_,_,_,h,_=>by cases t <;> simp only[AS.iL,aw]at h
 | .ptr ..,t,_,_,_,h,_=>by cases t <;> simp only[AS.iL,aw]at h
 | .eN ..,t,_,_,_,h,_=>by cases t <;> simp only[AS.iL,aw]at h
 | .fn ..,t,_,_,_,h,_=>by cases t <;> simp only[AS.iL,aw]at h
 | .cons ..,t,_,_,_,h,_=>by cases t <;> simp only[AS.iL,aw]at h
 | .nil,t,_,_,_,h,_=>by cases t <;> simp only[AS.iL,aw]at h
 | .vec ..,t,_,_,_,h,_=>by cases t <;> simp only[AS.iL,aw]at h
 | .bx ..,t,_,_,_,h,_ | .cP ..,t,_,_,_,h,_ | .mp ..,t,_,_,_,h,_ | .qh ..,t,_,_,_,h,_=>by cases t <;> simp only[AS.iL,aw]at h
theorem AP{s:AS}{t:Ty}{v:aD}{x:t.den}(h:(s.iL t v).eval=al x):v.eQ=aT:=by
 cases v <;> first
  |rfl
  | (cases t <;> simp only[AS.iL,aw]at h)
theorem VV{s:AS}{t:Ty}{v:aD}{x:t.den}(h:(s.iL t v).eval=al x):v.agg=t.agg:=by
 cases v with
 |d t' x'=>
  have h':(Out.opt (EC t' t x')).eval=al x:=by cases t <;> simpa only[AS.iL]using h
  exact XR (ja.1 h')
 |_=>cases t <;> first | rfl | (simp only[AS.iL,aw]at h)
theorem zL{C:Ctx}{g:Nat->lQ}{β:Id->Option Pl}{s:AS}{a:Act}{w:bU}(h:Inv C g β s a w){v:aD}{y:Value}(hv:VS (s.env w g β) v y){t:Ty}{x:t.den}(ht:(s.iL t v).eval=al x):
  ∃g',Inv C g' β (s.bp v.shared) a w/\cU (s.env w g β) ((s.bp v.shared).env w g' β)/\Trans w w g g'/\
   ∃cs,cI ((s.bp v.shared).env w g' β) t cs x/\fY t.agg cs y:=by
 obtain⟨g',h1,h2,h3,h4⟩:=fi v.shared h;obtain⟨cs,hV,hO⟩:=hv.eQ (AP ht);exact⟨g',h1,h2,h3,cs,tx rfl h.bM h2 v t x cs hV ht h4,by rw[<-VV ht];exact hO⟩
theorem SE{α:Type}{R:List Value->α->Prop}{f:α->List Value->Option (List Value)}(hf:∀x cs r,f x cs=al r->∃c,cs=c++r/\R c x):
  ∀(l:List α) (cs r:List Value),atw f l cs=al r->∃c,cs=c++r/\bo R c l
 |[],cs,r,h=>by simp only[atw,az]at h;exact⟨[],by simp[h],rfl⟩
 |x::xs,cs,r,h=>by
  simp only[atw]at h;cases hx:f x cs with
  |none=>rw[hx]at h;cases h
  |some r1=>
   rw[hx]at h;obtain⟨c1,e1,h1⟩:=hf x cs r1 hx;obtain⟨c2,e2,h2⟩:=SE hf xs r1 r h;exact⟨c1++c2,by rw[e1,e2,aM],c1,c2,rfl,h1,h2⟩
theorem CT(E:Env):∀(t:Ty) (x:t.den) (cs r:List Value),tS t x cs=al r->∃c,cs=c++r/\cI E t c x
 | .int k,x,cs,r,h=>by
  cases cs with
  |nil=>simp[tS]at h
  |cons v r'=>
   cases v <;> simp only[tS]at h <;> try (cases h;done)
   rename_i k' n;split at h
   ·rename_i h1 h2;simp at h1 h2 h;subst h1 h2 h;exact⟨[.int k n],rfl,by simp[cI]⟩
   ·cases h
 | .bool,x,cs,r,h=>by
  cases cs with
  |nil=>simp[tS]at h
  |cons v r'=>
   cases v <;> simp only[tS]at h <;> try (cases h;done)
   rename_i b;split at h
   ·rename_i h1;simp at h1 h;subst h1 h;exact⟨[.bool b],rfl,by simp[cI]⟩
   ·cases h
 | .str,x,cs,r,h=>by
  cases cs with
  |nil=>simp[tS]at h
  |cons v r'=>
   cases v <;> simp only[tS]at h <;> try (cases h;done)
   rename_i b;split at h
   ·rename_i h1;simp at h1 h;subst h1 h;exact⟨[.string b],rfl,by simp[cI]⟩
   ·cases h
 | .slice t,x,cs,r,h=>by
  cases x with
  |cons _ _=>simp[tS]at h
  |nil=>
   cases cs with
   |nil=>simp[tS]at h
   |cons v r'=>
    unfold tS at h;split at h <;> try (cases h;done)
    all_goals simp_all
    exact⟨[.slice aJ 0 0],rfl,by simp only[cI];exact⟨aJ,0,[],rfl,by simp,by simp,λi v hh=>by simp at hh,rfl⟩⟩
 | .fZ t,x,cs,r,h=>by
  cases x with
  |some _=>simp[tS]at h
  |none=>
   cases cs with
   |nil=>simp[tS]at h
   |cons v r'=>
    unfold tS at h;split at h <;> try (cases h;done)
    all_goals simp_all
    exact⟨[.slice aJ 0 0],rfl,by simp[cI]⟩
 | .nP t,x,cs,r,h=>by
  cases x with
  |some _=>simp[tS]at h
  |none=>
   cases cs with
   |nil=>simp[tS]at h
   |cons v r'=>
    unfold tS at h;split at h <;> try (cases h;done)
    all_goals simp_all
    exact⟨[.pointer aJ],rfl,by simp[cI]⟩
 | .gO t,x,cs,r,h=>by
  cases x with
  |some _=>simp[tS]at h
  |none=>
   cases cs with
   |nil=>simp[tS]at h
   |cons v r'=>
    unfold tS at h;split at h <;> try (cases h;done)
    all_goals simp_all
    exact⟨[.pointer aJ],rfl,by simp[cI]⟩
 | .unit,x,cs,r,h=>by simp only[tS,az]at h;exact⟨[],by simp[h],by simp[cI]⟩
 | .pair a b,x,cs,r,h=>by
  simp only[tS]at h;cases hx:tS a x.1 cs with
  |none=>rw[hx]at h;cases h
  |some r1=>
   rw[hx]at h;obtain⟨c1,e1,h1⟩:=CT E a x.1 cs r1 hx;obtain⟨c2,e2,h2⟩:=CT E b x.2 r1 r h;exact⟨c1++c2,by rw[e1,e2,aM],by simp only[cI];exact⟨c1,c2,rfl,h1,h2⟩⟩
 | .arr n t,x,cs,r,h=>by
  simp only[tS]at h;split at h
  ·rename_i h1;obtain⟨c,e,hc⟩:=SE (λx cs r hh=>CT E t x cs r hh) _ _ _ h;exact⟨c,e,by simp only[cI];exact⟨by simpa using h1,hc⟩⟩
  ·cases h
theorem aid(E:Env):∀(a:aD) (cs r:List Value),QQ a cs=al r->∃c,cs=c++r/\V E a c:=by
 intro a
 induction a with
 |d t x=>
  intro cs r h;simp only[QQ]at h;obtain⟨c,e,hc⟩:=CT E t x cs r h;exact⟨c,e,by simpa only[V]using hc⟩
 |pr a b iha ihb=>
  intro cs r h;simp only[QQ]at h;cases hx:QQ a cs with
  |none=>rw[hx]at h;cases h
  |some r1=>
   rw[hx]at h;obtain⟨c1,e1,h1⟩:=iha cs r1 hx;obtain⟨c2,e2,h2⟩:=ihb r1 r h;exact⟨c1++c2,by rw[e1,e2,aM],by simp only[V];exact⟨c1,c2,rfl,h1,h2⟩⟩
 |dI=>intro cs r h;unfold QQ at h;split at h <;> simp_all <;> exact⟨[.slice aJ 0 0],rfl,by simp[V]⟩
 |j7=>intro cs r h;unfold QQ at h;split at h <;> simp_all <;> exact⟨[.pointer aJ],rfl,by simp[V]⟩
 |vF=>intro cs r h;unfold QQ at h;split at h <;> simp_all <;> exact⟨[.nilFunc],rfl,by simp[V]⟩
 |Bd=>intro cs r h;unfold QQ at h;split at h <;> simp_all <;> exact⟨[.map aJ],rfl,by simp[V]⟩
 |_=>intro cs r h;simp[QQ]at h
theorem ur{P:aN}{T:TypeId}{z:aD}(h:acB P T z=aT)(E:Env):
  ∃i zv,P.info? T=al i/\i.zero=al zv/\V E z zv.cells.toList/\fY z.agg zv.cells.toList zv:=by
 unfold acB at h;split at h <;> try (cases h;done)
 rename_i i hi;split at h <;> try (cases h;done)
 rename_i zv hz;simp only[av,dD]at h;obtain⟨h1,h2⟩:=h;split at h1 <;> try (cases h1;done)
 rename_i he;obtain⟨c,e,hV⟩:=aid E z _ _ he;rw[bO]at e;rw[<-e]at hV;refine⟨i,zv,hi,hz,hV,?_⟩;cases aex:z.agg with
 |true=>
  rw[aex]at h2;cases zv <;> simp[rn]at h2;simp[fY,Value.cells]
 |false=>
  rw[aex]at h2;cases zv <;> first | (simp[rn]at h2;done) | simp[fY,Value.cells]
end Go.Ab
namespace Go.Ab
def Fr(r:Option Nat):Fence:= {Fence.wide with round:=r}
def fS(P:aN)(o:Oper)(a:Act)(w:bU)(K:Act->bU->Prop):Prop:=(∃x w',(execOp a.eval o).run P w= .ok (.value x) w'/\K (a.put o.dst x) w')\/(∃w',(execOp a.eval o).run P w= .ok .skip w'/\K (a.put o.dst undef) w')\/(∃f args w',(execOp a.eval o).run P w= .ok (.enter f args) w'/\Calls P f args w' λe w''=>∃x,e= .returned x/\K (a.put o.dst x) w'')\/(∃l f tmps as b w',(execOp a.eval o).run P w= .ok (.round l f tmps as b) w'/\∀r n,RoundIn (Fr r) n P l f tmps as b w' λe w''=>∃x,e= .returned x/\K (a.put o.dst x) w'')
theorem fS.plain{P:aN}{o:Oper}{a:Act}{w:bU}{K:Act->bU->Prop}(h:fS P o a w K)(c:Call):o.op≠ .defer c:=λho=>by
 have hd:∀x w',(execOp a.eval o).run P w= .ok x w'->∃d,x= .defer d:=λx w' hx=>by
  simp only[execOp,ho,cd]at hx;cases hr:(resolve a.eval c o.type).run P w with
  |ok d w1=>
   rw[hr]at hx;simp only[bH,dY,Result.ok.injEq]at hx;exact⟨d,hx.1.symm⟩
  |halt _ _=>rw[hr]at hx;simp[Result.andThen]at hx
 rcases h with⟨x,w',hr,_⟩ | ⟨w',hr,_⟩ | ⟨f,args,w',hr,_⟩ | ⟨l,f,tmps,as,b,w',hr,_⟩
 ·obtain⟨d,e⟩:=hd _ _ hr;cases e
 ·obtain⟨d,e⟩:=hd _ _ hr;cases e
 ·obtain⟨d,e⟩:=hd _ _ hr;cases e
 ·obtain⟨d,e⟩:=hd _ _ hr;cases e
theorem fS.wpIn{r:Option Nat}{n:Nat}{P:aN}{o:Oper}{a:Act}{w:bU}{K:Act->bU->Prop}{Q:Exit->Act->bU->Prop}(h:fS P o a w K):o.wpIn (Fr r) n P a w K Q:=by
 have hp:=h.plain;refine⟨λ_ _=>trivial,?_⟩;rw[Oper.semAt_eq _ _ _ hp];rcases h with⟨x,w',hr,hk⟩ | ⟨w',hr,hk⟩ | ⟨f,args,w',hr,hk⟩ | ⟨l,f,tmps,as,b,w',hr,hk⟩;rotate_left 3
 ·rw[hr,Oper.uponIn_round];refine⟨λh=>(by cases h),(hk r (n - 1)).mono λe w'' ⟨x,he,hx⟩=> ?_⟩;subst he;exact hx
 ·rw[hr,Oper.uponIn_value];exact hk
 ·rw[hr,Oper.uponIn_skip];exact hk
 ·rw[hr,Oper.uponIn_enter];refine⟨λh=>(by cases h),?_⟩;have h1:CallsIn (Fr r) (n - 1) P f args w' _:=callsIn_wide.2 hk;refine h1.mono λe w'' ⟨x,he,hx⟩=> ?_
  subst he;exact hx
theorem fS.mono{P:aN}{o:Oper}{a:Act}{w:bU}{K K':Act->bU->Prop}(h:fS P o a w K)(hk:∀a w,K a w->K' a w):fS P o a w K':=by
 rcases h with⟨x,w',hr,h⟩ | ⟨w',hr,h⟩ | ⟨f,args,w',hr,h⟩ | ⟨l,f,tmps,as,b,w',hr,h⟩
 ·exact .inl ⟨x,w',hr,hk _ _ h⟩
 ·exact .inr (.inl ⟨w',hr,hk _ _ h⟩)
 ·exact .inr (.inr (.inl ⟨f,args,w',hr,h.mono λe w'' ⟨x,he,hx⟩=>⟨x,he,hk _ _ hx⟩⟩))
 ·exact .inr (.inr (.inr ⟨l,f,tmps,as,b,w',hr,λr n=>(h r n).mono λe w'' ⟨x,he,hx⟩=>⟨x,he,hk _ _ hx⟩⟩))
section
variable {P:aN} {C:Ctx} {g:Nat->lQ} {β:Id->Option Pl} {s:AS} {a:Act} {w:bU} {o:Oper}
theorem Inv.value(h:Inv C g β s a w){v:aD}{x:Value}(hv:VS (s.env w g β) v x)(hr:(execOp a.eval o).run P w= .ok (.value x) w):fS P o a w (gT C (s.put o.dst v)):= .inl ⟨x,w,hr,g,β,h.put o.dst hv⟩
theorem eu{f:Sem Value}{x:Value}{w':bU}(he:execOp a.eval o=(do pure (.value (<-f))))(hf:f.run P w= .ok x w'):(execOp a.eval o).run P w= .ok (.value x) w':=by rw[he,cd,hf];rfl
theorem X5{f:Sem Unit}{w':bU}(he:execOp a.eval o=(do f;pure .skip))(hf:f.run P w= .ok () w'):(execOp a.eval o).run P w= .ok .skip w':=by rw[he,cd,hf];rfl
theorem tV{E:Env}{k:kF}{n:Int}{y:Value}(h:VS E (.d (.int k) n) y):y= .int k n:=by obtain⟨cs,hv,ho⟩:=h;simp only[V,cI]at hv;have ho':cs=[y]:=ho;rw[hv]at ho';simpa using ho'.symm
theorem Rg{E:Env}{b:Bool}{y:Value}(h:VS E (.d .bool b) y):y= .bool b:=by obtain⟨cs,hv,ho⟩:=h;simp only[V,cI]at hv;have ho':cs=[y]:=ho;rw[hv]at ho';simpa using ho'.symm
theorem FT{E:Env}{b:ByteArray}{y:Value}(h:VS E (.d .str b) y):y= .string b:=by obtain⟨cs,hv,ho⟩:=h;simp only[V,cI]at hv;have ho':cs=[y]:=ho;rw[hv]at ho';simpa using ho'.symm
theorem lu{E:Env}(k:kF)(n:Int):VS E (.d (.int k) n) (.int k n):=⟨[.int k n],by simp[V,cI],rfl⟩
theorem uv{E:Env}(b:Bool):VS E (.d .bool b) (.bool b):=⟨[.bool b],by simp[V,cI],rfl⟩
theorem Zw{E:Env}(b:ByteArray):VS E (.d .str b) (.string b):=⟨[.string b],by simp[V,cI],rfl⟩
theorem alN{T:TypeId}{d:TypeDesc}(h:P.underlying T=al d):∃i,P.info? T=al i:=by
 unfold Program.underlying at h;split at h
 ·rename_i h';exact⟨_,h'⟩
 ·rename_i i _ h';exact⟨_,h'⟩
 ·cases h
theorem run_sizeOf{T:TypeId}{i:TypeInfo}(h:P.info? T=al i)(w:bU):(sizeOf T).run P w= .ok i.size w:=by simp[sizeOf,typeInfo,h]
theorem mJ{T:TypeId}{i:TypeInfo}(h:P.info? T=al i):P.cellsOf T=i.size:=by simp[Program.cellsOf,h]
theorem rj{T:TypeId}{v:aD}(h:fits P T v=aT):v.eQ=aT/\∃i,P.info? T=al i/\i.size=v.size/\∀w,(isAgg T).run P w= .ok v.agg w:=by
 unfold fits at h;simp only[av,dD]at h;obtain⟨⟨h1,h2⟩,h3⟩:=h;cases hu:P.underlying T with
 |none=>rw[hu]at h3;cases h3
 |some d=>
  obtain⟨i,hi⟩:=alN hu;refine⟨h1,i,hi,by rw[mJ hi]at h2;exact h2,λw=> ?_⟩;rw[hu]at h3;unfold isAgg;rw[cd,run_underlying hu w];cases d <;> simp at h3 <;> simp[h3]
theorem tn{T:TypeId}{v:aD}(hf:fits P T v=aT){b off:Nat}{cs:List Value}(hl:cs.length=v.size)(hc:∀j x,cs[j]? =al x->w.cell? ⟨b,off+j,aJ⟩=al x):
  ∃y,(loadVar T ⟨b,off,aJ⟩).run P w= .ok y w/\fY v.agg cs y:=by
 obtain⟨_,i,hi,hs,aex⟩:=rj hf;unfold loadVar;rw[cd,aex w];simp only[bH];have BZ:∀j x,cs[j]? =al x->w.cell? ((⟨b,off,aJ⟩:Addr).add j)=al x:=λj x hj=>by rw[fC];exact hc j x hj
 cases ha:v.agg with
 |true=>
  refine⟨.agg cs.toArray,?_,rfl⟩;simp only[da,cd,run_sizeOf hi,bH,hs,<-hl,run_loadCells_list w _ cs BZ];rfl
 |false=>
  have h1:v.size=1:=aD.agv ha;obtain⟨y,rfl⟩:∃y,cs=[y]:=by
   match cs,hl with
   |[y],_=>exact⟨y,rfl⟩
   |[],hh=>simp[h1]at hh
   |_::_::_,hh=>simp[h1]at hh
  refine⟨y,?_,rfl⟩;have:=hc 0 y rfl;rw[cW]at this;simp[this]
theorem DW{T:TypeId}{v:aD}{E:Env}(hf:fits P T v=aT){cs:List Value}{y:Value}(hV:V E v cs)(ho:fY v.agg cs y){b off:Nat}{cur:Array Value}{e:TypeId}
  (hh:w.heap[b]? =al (.cells cur e (0,0))) (hle:off+cs.length<=cur.size):
  (storeVar T ⟨b,off,aJ⟩ y).run P w= .ok () (w.setRow b (dE cur.toList off cs).toArray):=by
 obtain⟨_,i,hi,hs,_⟩:=rj hf;have aoH:y.cells=cs.toArray:=ho.cells hV.one;have hl:=hV.size;have nG:=run_storeCells_at P b off e cs 0 cur w hh (by simpa using hle) hV.one;simp only[cW]at nG;unfold storeVar;simp only[aoH,cd,run_sizeOf hi,bH,hJ,hl,hs,ne_eq,not_true_eq_false,cK];simpa[dE]using nG
theorem ql(w:bU)(ob:Obj){b:Nat}(h:b < w.heap.size):(w.alloc ob).heap[b]? =w.heap[b]? :=by
 show(w.heap.push ob)[b]? =w.heap[b]?
 rw[Array.getElem?_push,if_neg (Nat.ne_of_lt h)]
theorem sE(w:bU)(ob:Obj):(w.alloc ob).heap[w.heap.size]? =al ob:=by
 show(w.heap.push ob)[w.heap.size]? =al ob
 simp
theorem Trans.alloc(w:bU)(g:Nat->lQ)(ob:Obj)(l:lQ):Trans w (w.alloc ob) g (na g w.heap.size l):=by
 refine⟨rfl,rfl,⟨rfl,aF _⟩,by simp,λb hb=> ?_⟩;rw[fG _ _ _ au,ql w ob hb];cases g b with
 |free=>exact⟨rfl,rfl⟩
 |own o k=>cases o with
  |eM=>exact⟨rfl,rfl⟩
  |id i=>exact⟨.inr ⟨i,k,rfl,aF _⟩,λoff v _ hv=>by rw[World.cell?_alloc_lt w ob _ hb];exact hv⟩
theorem Trans.drew(w:bU)(g:Nat->lQ):Trans w w.drew g g:=Trans.refl w g |> λh=>⟨h.os,h.tape,⟨h.output.1,Nat.le_succ _⟩,h.size,h.wZ⟩
theorem iP.same{w':bU}{g':Nat->lQ}(h:iP (s.env w g β))(he:cU (s.env w g β) (s.env w' g' β))(hb:∀i ver fr c pl,s.bS i=al (.obj ver fr c)->β i=al pl->w'.heap[pl.b]? =w.heap[pl.b]? /\g' pl.b=g pl.b):iP (s.env w' g' β):=λi ver fr c hi=>(h i ver fr c hi).mono he rfl (λpl hp=>hb i ver fr c pl hi hp) λq vq k v l hq _=>⟨⟨k,v,l,hq⟩,λpl hp=>hb q vq aT _ pl hq hp⟩
theorem cU.same{w':bU}{g':Nat->lQ}(ht:Trans w w' g g'):cU (s.env w g β) (s.env w' g' β):=⟨Trans.mem ht,λ_ _ h=>h,λ_ _ _ h=>⟨h,rfl⟩⟩
theorem Inv.Gg(h:Inv C g β s a w)(ob:Obj):Inv C (na g w.heap.size .free) β s a (w.alloc ob):=by have ht:=Trans.alloc w g ob .free;have he:cU (s.env w g β) (s.env (w.alloc ob) (na g w.heap.size .free) β):=cU.same ht;refine h.step rfl ht he (iP.same h.bM he λi ver fr c pl hi hp=> ?_);have hl:=((h.bM i ver fr c hi).label (pl:=pl) hp).1;have hl':pl.b < w.heap.size:=hl;exact⟨ql w ob hl',fG _ _ _ au⟩
theorem Inv.drew(h:Inv C g β s a w):Inv C g β s a w.drew:=by have ht:=Trans.drew w g;have he:cU (s.env w g β) (s.env w.drew g β):=cU.same ht;exact h.step rfl ht he (iP.same h.bM he λ_ _ _ _ _ _ _=>⟨rfl,rfl⟩)
theorem ke{q:Nat}(h:s.eB q=aT):(∀j,s.bS (.new q j)=aJ)/\q < s.news.length:=by
 unfold AS.eB at h;split at h
 ·rename_i hn;refine⟨λj=> ?_,(dN.1 hn).1⟩;simp[AS.bS,aI,hn]
 ·cases h
theorem xt{q:Nat}(hq:q < s.news.length)(es:List dR)(j:Nat):(s.born q es).bS (.new q j)=es[j]? :=by simp[AS.bS,AS.born,aI,hq]
theorem iZ{q:Nat}(es:List dR){id:Id}(h:∀j,id≠ .new q j):(s.born q es).bS id=s.bS id:=by
 cases id with
 |bG k=>rfl
 |new i j=>
  have:i≠q:=λe=>h j (by rw[e])
  simp only[AS.bS,AS.born,aI];rw[eF (Ne.symm this)]
def Ge(β:Id->Option Pl)(id:Id)(p:Option Pl):Id->Option Pl:=λi=>if i=id then p else β i
@[simp] theorem jX(β:Id->Option Pl)(id:Id)(p:Option Pl):Ge β id p id=p:=by simp[Ge]
theorem zS(β:Id->Option Pl)(id:Id)(p:Option Pl){i:Id}(h:i≠id):Ge β id p i=β i:=by simp[Ge,h]
theorem Inv.Nl(h:Inv C g β s a w){q:Nat}(hq:s.eB q=aT){w':bU}{g':Nat->lQ}{c:aD}{p:Option Pl}(ht:Trans w w' g g')
  (hb:∀b,b < w.heap.size->w'.heap[b]? =w.heap[b]? /\g' b=g b)
  (ho:cU (s.env w g β) ((s.born q [.obj 0 aR c]).env w' g' (Ge β (.new q 0) p))->vi ((s.born q [.obj 0 aR c]).env w' g' (Ge β (.new q 0) p)) (.new q 0) aR c):
  Inv C g' (Ge β (.new q 0) p) (s.born q [.obj 0 aR c]) a w'/\cU (s.env w g β) ((s.born q [.obj 0 aR c]).env w' g' (Ge β (.new q 0) p)):=by
 obtain⟨hv,hl⟩:=ke hq;have gJ:∀id,s.bS id≠aJ->∀j,id≠ .new q j:=λid dg j e=>dg (by rw[e];exact hv j)
 have he:cU (s.env w g β) ((s.born q [.obj 0 aR c]).env w' g' (Ge β (.new q 0) p)):=by
  refine⟨Trans.mem ht,λid ver aez=> ?_,λid ver aez hc=> ?_⟩
  ·have dg:=gJ id aez.1;have e:=iZ (s:=s) [.obj 0 aR c] dg;exact⟨by show(s.born q _).bS id≠aJ;rw[e];exact aez.1,λv fr c' hh=>aez.2 v fr c' (e.symm.trans hh)⟩
  ·have dg:=gJ id aez.1;have e:=iZ (s:=s) [.obj 0 aR c] dg;obtain⟨fr,c',hc⟩:=hc;exact⟨⟨fr,c',e.symm.trans hc⟩,zS _ _ _ (dg 0)⟩
 refine⟨h.step rfl ht he λid ver fr c' dg=> ?_,he⟩;have hid':(s.born q [.obj 0 aR c]).bS id=al (.obj ver fr c'):=dg;by_cases hi:∃j,id= .new q j
 ·obtain⟨j,rfl⟩:=hi;rw[xt hl]at hid';cases j with
  |zero=>
   simp only[fX,az,dR.obj.injEq]at hid';obtain⟨rfl,rfl,rfl⟩:=hid';exact ho he
  |succ j=>simp at hid'
 ·have hi':∀j,id≠ .new q j:=λj e=>hi ⟨j,e⟩
  rw[iZ _ hi']at hid';refine(h.bM id ver fr c' hid').mono he (zS _ _ _ (hi' 0)) (λpl hp=> ?_) λq2 vq k v l NI _=> ?_
  ·exact hb pl.b ((h.bM id ver fr c' hid').label (pl:=pl) hp).1
  ·have aIm:s.bS q2=al (.obj vq aT (.mp k v l)):=NI;refine⟨⟨k,v,l,by show(s.born q _).bS q2=_;rw[iZ _ (gJ q2 (by rw[aIm];simp))];exact aIm⟩,λpl hp=>hb pl.b ((h.bM q2 vq aT _ aIm).label (pl:=pl) hp).1⟩
theorem px{q:Nat}(hq:s.eB q=aT)(c:aD)(w':bU)(g':Nat->lQ)(β':Id->Option Pl):((s.born q [.obj 0 aR c]).env w' g' β').DL (.new q 0) 0:=by have e:=xt (s:=s) (ke hq).2 [.obj 0 aR c] 0;refine⟨by show(s.born q [.obj 0 aR c]).bS (.new q 0)≠aJ;rw[e];simp,λv fr c' _=>aP _⟩
theorem Inv.al3(h:Inv C g β s a w){q:Nat}(hq:s.eB q=aT){v:aD}{cs:List Value}{e:TypeId}(hk:∀pl n,v.Ew pl n e)(hN:∀n,v.vl n=n)(hv:V (s.env w g β) v.strip cs):
  ∃g' β',Inv C g' β' (s.born q [.obj 0 aR v]) a (w.alloc (.cells cs.toArray e))/\
   VS ((s.born q [.obj 0 aR v]).env (w.alloc (.cells cs.toArray e)) g' β') (.ptr (.new q 0) 0 [] 0) (.pointer (al ⟨w.heap.size,0,aJ⟩)):=by
 have ht:=Trans.alloc w g (.cells cs.toArray e) (.own (.id (.new q 0)) 0);obtain⟨h1,h2⟩:=h.Nl hq (c:=v) (p:=al ⟨w.heap.size,0⟩) ht (λb hb=>⟨ql w _ hb,fG _ _ _ au⟩) (λhe=>
  Nb.obj ⟨⟨w.heap.size,0⟩,cs.toArray,e,jX _ _ _,sE w _,fP _ _ _,hk _ _,by rw[hN,show cs.toArray.toList.take cs.toArray.size=cs by simp];exact hv.mono he⟩)
 refine⟨_,_,h1,?_⟩;refine⟨[.pointer (al ⟨w.heap.size,0,aJ⟩)],?_,rfl⟩;simp only[V];exact⟨_,rfl,px hq _ _ _ _,λ_=>⟨_,jX _ _ _,rfl⟩⟩
theorem Inv.aDz(h:Inv C g β s a w){q:Nat}(hq:s.eB q=aT){v:aD}{cs:List Value}(hv:V (s.env w g β) v cs)(e:TypeId):
  ∃g' β',Inv C g' β' (s.born q [.obj 0 aR v]) a (w.alloc (.cells cs.toArray e))/\
   VS ((s.born q [.obj 0 aR v]).env (w.alloc (.cells cs.toArray e)) g' β') (.ptr (.new q 0) 0 [] 0) (.pointer (al ⟨w.heap.size,0,aJ⟩)):=
 h.al3 hq (λpl n=>Np hv.zo pl n e) (λn=>R6 hv.zo n) (by rw[OF hv.zo];exact hv)
theorem aso(P:aN)(T:TypeId){z:aD}{E:Env}{cs:List Value}(hv:V E z cs):(∀pl n,(boxed P T z).Ew pl n T)/\(∀n,(boxed P T z).vl n=n)/\V E (boxed P T z).strip cs:=by
 unfold boxed;split
 ·exact⟨λ_ _=>rfl,λ_=>rfl,hv⟩
 ·exact⟨λpl n=>Np hv.zo pl n T,λn=>R6 hv.zo n,by rw[OF hv.zo];exact hv⟩
theorem Inv.azQ(h:Inv C g β s a w){t:Ty}{x:t.den}{cs:List Value}(hv:cI (s.env w g β) t cs x)(e:TypeId):
  ∃g',Inv C g' β s a (w.alloc (.cells cs.toArray e))/\cU (s.env w g β) (s.env (w.alloc (.cells cs.toArray e)) g' β)/\
   VS (s.env (w.alloc (.cells cs.toArray e)) g' β) (.eN t x) (.pointer (al ⟨w.heap.size,0,aJ⟩)):=by
 have ht:=Trans.alloc w g (.cells cs.toArray e) .free;have he:cU (s.env w g β) (s.env (w.alloc (.cells cs.toArray e)) (na g w.heap.size .free) β):=cU.same ht;refine⟨_,h.Gg _,he,[.pointer (al ⟨w.heap.size,0,aJ⟩)],?_,rfl⟩;simp only[V];refine⟨w.heap.size,0,cs,rfl,λi v hi=>⟨_,_,rfl,?_,?_⟩,hv.mono he.mem⟩
 ·show(w.alloc (.cells cs.toArray e)).cell? ⟨w.heap.size,0+i,aJ⟩=al v;rw[World.cell?_alloc_new,ba];simpa using hi
 ·show so (na g w.heap.size .free) w.heap.size (0+i);unfold so;rw[fP];trivial
theorem Vj(T:TypeId)(y:Value)(w:bU):(newVar T y).run P w= .ok ⟨w.heap.size,0,aJ⟩ (w.alloc (.cells y.cells T)):=by simp[newVar,newRow]
theorem ahq(h:Inv C g β s a w){T:TypeId}(ho:o.op= .alloc T){z:aD}{q:Nat}(hq:s.eB q=aT)(hz:acB P T z=aT):
  fS P o a w (gT C ((s.born q [.obj 0 aR (boxed P T z)]).put o.dst (.ptr (.new q 0) 0 [] 0))):=by
 obtain⟨i,zv,hi,ahd,hV,hO⟩:=ur hz (s.env w g β);obtain⟨hk,hN,hV⟩:=aso P T hV;obtain⟨g',β',h1,h2⟩:=h.al3 hq hk hN hV;refine .inl ⟨.pointer (al ⟨w.heap.size,0,aJ⟩),w.alloc (.cells zv.cells T),?_,g',β',?_⟩
 ·refine eu (f:=Instr.alloc T aT (.tuple #[])) (by simp only[execOp,ho]) ?_
  simp[Instr.alloc,zeroValue,typeInfo,hi,ahd,Vj]
 ·have:=h1.put o.dst h2;simpa using this
theorem VS.aF4{E:Env}{t:Ty}{x:t.den}{y:Value}(h:VS E (.eN t x) y)(dt:Bool):VS E (aCj dt t x) y:=by
 cases dt with
 |false=>exact h
 |true=>
  obtain⟨cs,hv,ho⟩:=h;simp only[V]at hv;refine⟨cs,?_,ho⟩;simp only[aCj,V,cI];simpa using hv
theorem Yh{E:Env}{t:Ty}{y:Value}(h:VS E (.d (.nP t) aJ) y):y= .pointer aJ:=by obtain⟨cs,hv,ho⟩:=h;simp only[V,cI]at hv;have ho':cs=[y]:=ho;have e:=hv.1 trivial;rw[e]at ho';simpa using ho'.symm
theorem KX{E:Env}{t:Ty}{x:t.den}{y:Value}(h:VS E (.d (.nP t) (al x)) y):VS E (.eN t x) y:=by obtain⟨cs,hv,ho⟩:=h;simp only[V,cI]at hv;refine⟨cs,?_,ho⟩;simp only[V];simpa using hv
theorem Ym{E:Env}{t:Ty}{y:Value}(h:VS E (.d (.gO t) aJ) y):y= .pointer aJ:=by obtain⟨cs,hv,ho⟩:=h;simp only[V,cI]at hv;have ho':cs=[y]:=ho;have e:=hv.1 trivial;rw[e]at ho';simpa using ho'.symm
theorem azw{E:Env}{t:Ty}{x:Nat×t.den}{y:Value}(h:VS E (.d (.gO t) (al x)) y):y= .pointer (al ⟨x.1,0,aJ⟩)/\(∃ca T,E.g x.1= .free/\E.w.heap[x.1]? =al (.cells ca T (0,0)))/\VS E (.eN t x.2) y:=by obtain⟨cs,hv,ho⟩:=h;simp only[V,cI]at hv;have ho':cs=[y]:=ho;obtain⟨ca,T,vs,e,h0,hr,hR⟩:=hv.2 x rfl;refine⟨by rw[e]at ho';simpa using ho'.symm,⟨ca,T,h0⟩,cs,?_,ho⟩;simp only[V];exact⟨_,_,vs,e,hr,hR⟩
theorem Le{E:Env}{t:Ty}{x:Nat×t.den}{y:Value}(h:VS E (.d (.gO t) (al x)) y):VS E (.eN t x.2) y:=(azw h).2.2
theorem asn(h:Inv C g β s a w){T:TypeId}{x:bJ}{obj dt:Bool}(ho:o.op= .box T x){s':AS}(he:(adp P s obj dt o.dst T (s.ev x)).eval=al s'):fS P o a w (gT C s'):=by
 unfold adp at he;cases hd:o.dst with
 |none=>rw[hd]at he;simp only[aw]at he
 |some q=>
  rw[hd]at he;have aeA:=h.ev x;have pz:∀cs:List Value,(a.eval x).cells=cs.toArray->(execOp a.eval o).run P w= .ok (.value (.pointer (al ⟨w.heap.size,0,aJ⟩))) (w.alloc (.cells cs.toArray T)):=by
   intro cs aoH;refine eu (f:=Instr.box T (a.eval x)) (by simp only[execOp,ho]) ?_
   simp[Instr.box,Vj,aoH]
  cases obj with
  |true=>
   obtain⟨hg,jd⟩:=aG.1 he;obtain rfl:=ay.1 jd;simp only[av]at hg;obtain⟨hq,hf⟩:=hg;obtain⟨hc,_⟩:=rj hf;obtain⟨cs,hV,hO⟩:=aeA.eQ hc;obtain⟨g',β',h1,h2⟩:=h.aDz hq hV T;refine .inl ⟨_,_,pz cs (hO.cells hV.one),g',β',?_⟩;rw[hd];exact h1.put (al q) h2
  |false=>
   simp only at he;cases ht:agY P depth T with
   |none=>rw[ht]at he;simp only[aw]at he
   |some t=>
    rw[ht]at he;obtain⟨_,he⟩:=aG.1 he;obtain⟨y,h1,h2⟩:=ax.1 he;obtain rfl:=ay.1 h2;obtain⟨g1,i1,e1,t1,cs,hR,hO⟩:=zL h aeA h1;obtain⟨g2,i2,e2,hv⟩:=i1.azQ hR T;refine .inl ⟨_,_,pz cs (hO.cells hR.one),g2,β,?_⟩;rw[hd];exact i2.put (al q) (hv.aF4 dt)
theorem mU{E:Env}{t:Ty}{x:t.den}{y:Value}(h:VS E (.eN t x) y):∃b off vs,y= .pointer (al ⟨b,off,aJ⟩)/\wz E (al ⟨b,off,aJ⟩) vs/\cI E t vs x:=by obtain⟨cs,hv,ho⟩:=h;simp only[V]at hv;obtain⟨b,off,vs,e,hr,hx⟩:=hv;have ho':cs=[y]:=ho;rw[e]at ho';exact⟨b,off,vs,by simpa using ho'.symm,hr,hx⟩
theorem tl{E:Env}{id:Id}{ver n:Nat}{p:List GZ}{y:Value}(h:VS E (.ptr id ver p n) y):
  ∃a,y= .pointer (al a)/\E.DL id ver/\(E.cur id ver->∃pl,E.β id=al pl/\a=⟨pl.b,n,aJ⟩):=by
 obtain⟨cs,hv,ho⟩:=h;simp only[V]at hv;obtain⟨a,e,hb,hc⟩:=hv;have ho':cs=[y]:=ho;rw[e]at ho';exact⟨a,by simpa using ho'.symm,hb,hc⟩
theorem qO{E:Env}{id:Id}{ver c i len:Nat}{p:List GZ}{y:Value}(h:VS E (.b8 id ver p c i len) y):
  ∃a cap,y= .slice a len cap/\len<=cap/\(0 < len->a.isSome=aT)/\E.DL id ver/\
   (E.cur id ver->match E.β id with
    |some pl=>(0 < len\/i=0->a=al ⟨pl.b,c,aJ⟩)/\(p=[]->i=0->cap=pl.cap)
    |none=>a=aJ/\len=0/\cap=0):=by
 obtain⟨cs,hv,ho⟩:=h;simp only[V]at hv;obtain⟨a,cap,e,rest⟩:=hv;have ho':cs=[y]:=ho;rw[e]at ho';exact⟨a,cap,by simpa using ho'.symm,rest⟩
theorem tq{E:Env}{t:Ty}{l:List t.den}{y:Value}(h:VS E (.d (.slice t) l) y):
  ∃a cap vs,y= .slice a l.length cap/\l.length<=cap/\(0 < l.length->a.isSome=aT)/\wz E a vs/\bo (cI E t) vs l:=by
 obtain⟨cs,hv,ho⟩:=h;simp only[V,cI]at hv;obtain⟨a,cap,vs,e,rest⟩:=hv;have ho':cs=[y]:=ho;rw[e]at ho';exact⟨a,cap,vs,by simpa using ho'.symm,rest⟩
theorem kZ{E:Env}{y:Value}(h:VS E .dI y):y= .slice aJ 0 0:=by obtain⟨cs,hv,ho⟩:=h;simp only[V]at hv;have ho':cs=[y]:=ho;rw[hv]at ho';simpa using ho'.symm
theorem apB{E:Env}{id:Id}{fr:Bool}{c:aD}(h:vi E id fr c){p:List GZ}{n:Nat}{v:aD}(hl:(loc c.strip p).eval=al (n,v))(hf:v.eQ=aT):
  ∃pl cur e,E.β id=al pl/\E.w.heap[pl.b]? =al (.cells cur e (0,0))/\V E v ((cur.toList.drop n).take v.size)/\n+v.size<=cur.size:=by
 by_cases hn:c.iu=aR
 ·obtain⟨pl,cur,e,hp,hh,hg,hk,hV⟩:=h.box hn;have hN:=Rh hk;generalize c.vl cur.size=N at hN hV;have hNl:(cur.toList.take N).length=N:=by rw[cG,cS];omega
  obtain⟨u,hu⟩:∃u,c.strip=u:=⟨_,rfl⟩;rw[hu]at hV hl;rcases rO p u (cur.toList.take N) n v (VO.of hV) hl with⟨rfl,rfl⟩ | ⟨h1,h2⟩
  ·have hs:=hV.size;rw[hNl]at hs;refine⟨pl,cur,e,hp,hh,?_,au⟩;rw[aQ,<-hs];exact hV
  ·rw[hNl]at h2;rw[sB,lS,gF au]at h1;exact⟨pl,cur,e,hp,hh,h1,au⟩
 ·cases c <;> first | (exact absurd rfl hn) | skip
  rotate_left
  ·have hl:(loc (.mp _ _ _) p).eval=_:=hl;obtain⟨_,rfl⟩:=aaW hl;simp[aD.eQ]at hf
  ·have hl:(loc (.qh _ _ _ _ _ _) p).eval=_:=hl;obtain⟨_,rfl⟩:=Rw hl;simp[aD.eQ]at hf
  ·have hl:(loc (.yH _ _ _) p).eval=_:=hl;obtain⟨_,rfl⟩:=Rx hl;simp[aD.eQ]at hf
  rename_i e t l;obtain⟨hz,h⟩:=h;cases hp:E.β id with
  |none=>
   rw[hp]at h;have:l=[]:=h;subst this;obtain⟨_,rfl⟩:=Tv hl;simp[aD.eQ]at hf
  |some pl=>
   rw[hp]at h;obtain⟨cur,k,q1,q2,q3,q4,q5,q6,q7,q8⟩:=h;have hlen:=bo.length (λc x hx=>cI.size hx) q8;have rM:l.length*t.size<=cur.size:=by rw[q2];exact c9 _ q3
   rcases rO (E:=E) p (.vec e t l) _ n v q8 hl with⟨rfl,rfl⟩ | ⟨h1,h2⟩
   ·simp[aD.eQ]at hf
   ·rw[hlen]at h2;rw[sB,lS,gF au]at h1;exact⟨pl,cur,e,rfl,q1,h1,au⟩
theorem apz{E:Env}{v v':aD}(h:(aDB v).eval=al v'):(∀cs,V E v cs->V E v' cs)/\v'.agg=v.agg:=by
 unfold aDB at h;split at h
 ·rename_i t l;obtain⟨h1,h2⟩:=bR.1 h;obtain rfl:=ay.1 h2;refine⟨λcs hv=> ?_,rfl⟩;simp only[V,cI]at hv ⊢;exact hv.1 (Option.isNone_iff_eq_none.1 h1)
 ·obtain rfl:=ay.1 h;exact⟨λ_ h=>h,rfl⟩
theorem Tu(h:Inv C g β s a w){T:TypeId}{x:aD}{y:Value}(hx:VS (s.env w g β) x y){v:aD}(he:(Lp P s T x).eval=al v):
  ∃ad z,y= .pointer (al ad)/\(loadVar T ad).run P w= .ok z w/\VS (s.env w g β) v z:=by
 unfold Lp at he;split at he
 ·rename_i id ver p n;cases kk:s.obj id with
  |none=>rw[kk]at he;simp only[aw]at he
  |some r=>
   obtain⟨v0,fr,c⟩:=r;rw[kk]at he;obtain⟨h1,h2⟩:=aG.1 he;obtain⟨⟨n',v'⟩,h3,h4⟩:=ax.1 h2;obtain⟨h5,h6⟩:=aG.1 h4;obtain⟨h7,h8⟩:=bR.1 h6;obtain⟨n1,n2⟩:=apz (E:=s.env w g β) h8;simp only[aW]at h7;have aEE:v0=ver:=by simpa using h1
   subst aEE h7;have cO:=dZ kk;obtain⟨ad,rfl,hb,hc⟩:=tl hx;obtain⟨pl,hp,rfl⟩:=hc ⟨fr,c,cO⟩;obtain⟨aiw,_⟩:=rj h5;obtain⟨pl',cur,e,hp',hh,hV,hle⟩:=apB (h.bM id v0 fr c cO) h3 aiw;rw[hp]at hp';obtain rfl:pl=pl':=by simpa using hp'
   obtain⟨z,M8,La⟩:=tn (P:=P) (w:=w) h5 (b:=pl.b) (off:=n') hV.size (λj x hj=>by
    rw[cell_of_row w pl.b (n'+j) cur e (0,0) hh];rw[db]at hj;split at hj
    ·rw[fD]at hj;simpa using hj
    ·cases hj)
   exact⟨_,z,rfl,M8,VS.of (n1 _ hV) (by rw[n2];exact La)⟩
 ·rename_i t x';obtain⟨h1,h2⟩:=aG.1 he;obtain rfl:=ay.1 h2;obtain⟨b,off,vs,rfl,hr,hR⟩:=mU hx;obtain⟨z,M8,La⟩:=tn (P:=P) (w:=w) h1 (b:=b) (off:=off) hR.size (λj x hj=>by
   obtain⟨b',off',e,hh⟩:=hr j x hj;simp only[az,Addr.mk.injEq,eG]at e;obtain⟨rfl,rfl⟩:=e;exact hh.1)
  exact⟨_,z,rfl,M8,VS.of (by simpa only[V]using hR) La⟩
 ·rename_i t x';obtain⟨u,e,he⟩:=lW.1 he;subst e;have hx:=KX hx;obtain⟨h1,h2⟩:=aG.1 he;obtain rfl:=ay.1 h2;obtain⟨b,off,vs,rfl,hr,hR⟩:=mU hx;obtain⟨z,M8,La⟩:=tn (P:=P) (w:=w) h1 (b:=b) (off:=off) hR.size (λj x hj=>by
   obtain⟨b',off',e,hh⟩:=hr j x hj;simp only[az,Addr.mk.injEq,eG]at e;obtain⟨rfl,rfl⟩:=e;exact hh.1)
  exact⟨_,z,rfl,M8,VS.of (by simpa only[V]using hR) La⟩
 ·rename_i t x';obtain⟨u,e,he⟩:=lW.1 he;subst e;have hx:=Le hx;obtain⟨h1,h2⟩:=aG.1 he;obtain rfl:=ay.1 h2;obtain⟨b,off,vs,rfl,hr,hR⟩:=mU hx;obtain⟨z,M8,La⟩:=tn (P:=P) (w:=w) h1 (b:=b) (off:=off) hR.size (λj x hj=>by
   obtain⟨b',off',e,hh⟩:=hr j x hj;simp only[az,Addr.mk.injEq,eG]at e;obtain⟨rfl,rfl⟩:=e;exact hh.1)
  exact⟨_,z,rfl,M8,VS.of (by simpa only[V]using hR) La⟩
 ·simp only[aw]at he
theorem ao9(h:Inv C g β s a w){T:TypeId}{x:bJ}(ho:o.op= .load T x){v:aD}(he:(Lp P s T (s.ev x)).eval=al v):fS P o a w (gT C (s.put o.dst v)):=by obtain⟨ad,z,hy,hr,hv⟩:=Tu h (h.ev x) he;refine h.value hv (eu (f:=Instr.loadAt T (a.eval x)) (by simp only[execOp,ho]) ?_);simp[Instr.loadAt,Instr.sureAddr,hy,hr]
theorem Trans.setRow(w:bU){b:Nat}{i:Id}(hg:g b= .own (.id i) 0)(cur:Array Value):Trans w (w.setRow b cur) g g:=by
 refine⟨by simp,by simp,by simp,by simp,λb' hb=> ?_⟩;by_cases he:b'=b
 ·subst he;rw[hg];exact⟨.inr ⟨i,0,rfl,aF _⟩,λ_ _ hh=>au⟩
 ·rw[setRow_other w b b' cur he];cases QR:g b' with
  |free=>exact⟨rfl,rfl⟩
  |own o' k=>cases o' with
   |eM=>exact⟨rfl,rfl⟩
   |id i'=>exact⟨.inr ⟨i',k,rfl,aF _⟩,λoff v _ hv=>by rw[cell_setRow_other w b cur _ he];exact hv⟩
theorem Inv.apart(h:Inv C g β s a w){id:Id}{k:Nat}{b:Nat}(hg:g b= .own (.id id) k){i:Id}{ver:Nat}{fr:Bool}{c:aD}{pl:Pl}(hi:i≠id)(hs:s.bS i=al (.obj ver fr c))(hp:β i=al pl):pl.b≠b:=by
 intro hb;have hl:(∃k,g pl.b= .own (.id i) k)\/(fr=aT/\g pl.b= .free):=((h.bM i ver fr c hs).label (pl:=pl) hp).2;rw[hb,hg]at hl;rcases hl with⟨k',hk⟩ | ⟨_,hk⟩
 ·simp only[lQ.own.injEq,Own.id.injEq]at hk;exact hi hk.1.symm
 ·cases hk
theorem agD(h:Inv C g β s a w){T:TypeId}{x v:aD}{y z:Value}(hx:VS (s.env w g β) x y)(hz:VS (s.env w g β) v z){s':AS}(he:(FR P s T x v).eval=al s'):
  ∃ad w',y= .pointer (al ad)/\(storeVar T ad z).run P w= .ok () w'/\∃g' β',Inv C g' β' s' a w':=by
 unfold FR at he;split at he
 ·rename_i id ver p n;cases kk:s.obj id with
  |none=>rw[kk]at he;simp only[aw]at he
  |some r=>
   obtain⟨v0,fr,c⟩:=r;rw[kk]at he;obtain⟨h1,h2⟩:=aG.1 he;obtain⟨⟨n',o'⟩,h3,h4⟩:=ax.1 h2;obtain⟨h5,h6⟩:=aG.1 h4;obtain⟨h7,h8⟩:=bR.1 h6;obtain⟨c',h9,aFb⟩:=ax.1 h8;obtain rfl:=ay.1 aFb;simp only[aW]at h7;simp only[av,dD,ct]at h1;obtain⟨⟨aEE,aCX⟩,SZ⟩:=h1;subst aEE h7 aCX;have cO:=dZ kk;obtain⟨ad,rfl,hb,hc⟩:=tl hx;obtain⟨pl,hp,rfl⟩:=hc ⟨aR,c,cO⟩;have hp:β id=al pl:=hp;obtain⟨aiw,_⟩:=rj SZ;obtain⟨cs,hV,hO⟩:=hz.eQ aiw;have hOb:=h.bM id v0 aR c cO;obtain⟨hcel',_⟩:=rj h5;have azk:c.iu=aR\/c.iu=aT:=by cases c.iu <;> simp
   rcases azk with hn | hn
   ·obtain⟨pl',cur,e,hp',hh,hg,hk,hVc⟩:=hOb.box hn;have hp':β id=al pl':=hp';rw[hp]at hp';obtain rfl:pl=pl':=by simpa using hp'
    have hg:g pl.b= .own (.id id) 0:=hg;have hh:w.heap[pl.b]? =al (.cells cur e (0,0)):=hh
    have hN:=Rh hk;have hNl:(cur.toList.take (c.vl cur.size)).length=c.vl cur.size:=by rw[cG,cS];omega
    obtain⟨u1,u2,u3⟩:=pW p c.strip (cur.toList.take (c.vl cur.size)) n' o' v c' cs (VO.of hVc) h3 hV h9;have u4:=u2.to (u3.s8 hVc.s8);have rM:c'.size=c.strip.size:=by have e1:=u4.size;have e2:=hVc.size;rw[jQ u1]at e1;omega
    rw[hNl]at u1;have aoM:(dE cur.toList n' cs).length=cur.toList.length:=jQ (by have e1:cur.toList.length=cur.size:=cS;omega);have aIt:(dE cur.toList n' cs).take (c.vl cur.size)=dE (cur.toList.take (c.vl cur.size)) n' cs:=by
     conv=>lhs;rw[<-dw (c.vl cur.size) cur.toList]
     rw[AN (by rw[hNl];exact u1),iW (by rw[jQ (by rw[hNl];exact u1),hNl];exact aF _)];exact bC (by rw[jQ (by rw[hNl];exact u1),hNl];exact aF _)
    have pz:=DW (P:=P) (w:=w) SZ hV hO (b:=pl.b) (off:=n') hh (by have e1:cur.toList.length=cur.size:=cS;have e2:cs.toArray.size=cs.length:=hJ;omega);have ht:=Trans.setRow w hg (dE cur.toList n' cs).toArray;have hle:cU (s.env w g β) ((s.aZ id (.obj v0 aR (c.wrap c'))).env (w.setRow pl.b (dE cur.toList n' cs).toArray) g β):=cU.aZ cO (aF _) ht (λ_ _=>rfl) (λ_=>rfl);refine⟨_,_,rfl,pz,g,β,h.step (dv _ _ _) ht hle (iP.aZ h.bM (by rw[cO];simp) hle (λ_ _=>rfl) (λi ver fr c pl2 hi S0 QT=>⟨setRow_other w pl.b pl2.b _ (h.apart hg hi S0 QT),rfl⟩) ?_ (pF cO λk v1 l e=>by rw[e]at hn;simp[aD.iu]at hn))⟩;exact Nb.obj ⟨pl,_,e,hp,setRow_heap w pl.b cur _ e (0,0) hh,hg,by rw[hJ,aoM,cS];exact Is hk u4.zo rM,by
     rw[JD c u4.zo,hJ,aoM,cS,No u4.zo rM,show(dE cur.toList n' cs).toArray.toList=dE cur.toList n' cs from rfl,aIt];exact V.mono hle u4⟩
   ·cases c <;> first | (simp[aD.iu]at hn;done) | skip
    rotate_left
    ·have h3:(loc (.mp _ _ _) p).eval=_:=h3;obtain⟨_,rfl⟩:=aaW h3;simp[aD.eQ]at hcel'
    ·have h3:(loc (.qh _ _ _ _ _ _) p).eval=_:=h3;obtain⟨_,rfl⟩:=Rw h3;simp[aD.eQ]at hcel'
    ·have h3:(loc (.yH _ _ _) p).eval=_:=h3;obtain⟨_,rfl⟩:=Rx h3;simp[aD.eQ]at hcel'
    rename_i e t l;obtain⟨ahe,hOb⟩:=hOb;have hOb:(match β id with
     |none=>l=[]
     |some pl=>∃cur k,w.heap[pl.b]? =al (.cells cur e (0,0))/\cur.size=pl.cap*t.size/\l.length<=pl.cap/\pl.cap<=maxLen/\g pl.b= .own (.id id) k/\
       k<=l.length*t.size/\(aR=aR->k=0)/\bo (cI (s.env w g β) t) (cur.toList.take (l.length*t.size)) l):=hOb
    rw[hp]at hOb;obtain⟨cur,k,q1,q2,q3,q4,q5,q6,q7,q8⟩:=hOb;have hk:=q7 rfl;subst hk;have hlen:=bo.length (λc x hx=>cI.size hx) q8;have rM:l.length*t.size<=cur.size:=by rw[q2];exact c9 _ q3
    obtain⟨u1,u2,u3⟩:=pW (E:=s.env w g β) p (.vec e t l) _ n' o' v c' cs q8 h3 hV h9;rw[hlen]at u1;have pz:=DW (P:=P) (w:=w) SZ hV hO (b:=pl.b) (off:=n') q1 au;cases c' <;> first | (exact u3.elim) | skip
    rename_i e' t' l';obtain⟨rfl,rfl,hl'⟩:=u3;have ht:=Trans.setRow w q5 (dE cur.toList n' cs).toArray;have hle:cU (s.env w g β) ((s.aZ id (.obj v0 aR (.vec e' t' l'))).env (w.setRow pl.b (dE cur.toList n' cs).toArray) g β):=cU.aZ cO (aF _) ht (λ_ _=>rfl) (λ_=>rfl);refine⟨_,_,rfl,pz,g,β,h.step (dv _ _ _) ht hle (iP.aZ h.bM (by rw[cO];simp) hle (λ_ _=>rfl) (λi ver fr c pl2 hi S0 QT=>⟨setRow_other w pl.b pl2.b _ (h.apart q5 hi S0 QT),rfl⟩) ?_ (pF cO λk v1 l e=>by cases e))⟩;refine⟨ahe,?_⟩;show(match β id with
     |none=>l'=[]
     |some pl=>_)
    rw[hp];have aoM:(dE cur.toList n' cs).length=cur.toList.length:=jQ (by simp;omega);refine⟨_,0,setRow_heap w pl.b cur _ e' (0,0) q1,by rw[hJ,aoM];simpa using q2,au,q4,q5,au,λ_=>rfl,?_⟩;have e2:(dE cur.toList n' cs).take (l'.length*t'.size)=dE (cur.toList.take (l.length*t'.size)) n' cs:=by
     rw[hl']
     conv=>lhs;rw[<-dw (l.length*t'.size) cur.toList]
     rw[AN (by rw[hlen];exact u1),iW (by rw[jQ (by rw[hlen];exact u1),hlen];exact aF _)];exact bC (by rw[jQ (by rw[hlen];exact u1),hlen];exact aF _)
    rw[show(dE cur.toList n' cs).toArray.toList=dE cur.toList n' cs from rfl,e2];exact bo.mono (λ_ _ hx=>hx.mono hle.mem) u2
 ·simp only[aw]at he
theorem akn(h:Inv C g β s a w){T:TypeId}{x v:bJ}(ho:o.op= .store T x v){s':AS}(he:(FR P s T (s.ev x) (s.ev v)).eval=al s'):fS P o a w (gT C (s'.put o.dst .undef)):=by obtain⟨ad,w',hy,hr,g',β',hi⟩:=agD h (h.ev x) (h.ev v) he;refine .inr (.inl ⟨w',X5 (f:=Instr.storeAt T (a.eval x) (a.eval v)) (by simp only[execOp,ho]) ?_,g',β',hi.put o.dst VS.undef⟩);simp[Instr.storeAt,Instr.sureAddr,hy,hr]
end
end Go.Ab
namespace Go.Ab
section
variable {P:aN} {C:Ctx} {g:Nat->lQ} {β:Id->Option Pl} {s:AS} {a:Act} {w:bU} {o:Oper}
theorem Yu(h:Inv C g β s a w){x:bJ}(ho:o.op= .move x\/o.op= .assign x):fS P o a w (gT C (s.put o.dst (s.ev x))):=by
 refine h.value (h.ev x) ?_
 rcases ho with ho | ho <;> simp[execOp,ho]
theorem apX(h:Inv C g β s a w){c x y:bJ}(ho:o.op= .pick c x y){v:aD}(he:(aml (s.ev c) (s.ev x) (s.ev y)).eval=al v):fS P o a w (gT C (s.put o.dst v)):=by
 have hc:=h.ev c;have hx:=h.ev x;have hy:=h.ev y;unfold aml at he;split at he
 ·rename_i b hb;rw[hb]at hc;have aKl:=Rg hc;have hr:(execOp a.eval o).run P w= .ok (.value (if b then a.eval x else a.eval y)) w:=by simp[execOp,ho,aKl,asBool]
  split at he
  ·rename_i bx by' aHR aKi;obtain rfl:=ay.1 he;rw[aHR]at hx;rw[aKi]at hy;refine h.value ?_ hr
   cases b
   ·simpa using hy
   ·simpa using hx
  ·cases b with
   |true=>
    simp only[Out.eval,az]at he;subst he;exact h.value (by simpa using hx) hr
   |false=>
    simp only[Out.eval,az]at he;subst he;exact h.value (by simpa using hy) hr
 ·simp only[aw]at he
theorem WM(h:Inv C g β s a w){x:bJ}(ho:o.op= .nilCheck x){s':AS}(he:(match s.ev x with
  | .ptr id v p n=>Out.ok (s.put o.dst (.ptr id v p n))
  | .eN t y=> .ok (s.put o.dst (.eN t y))
  | .d (.nP t) y=> .get (y:Option t.den) λy=> .ok (s.put o.dst (.eN t y))
  | .d (.gO t) y=> .get (y:Option (Nat×t.den)) λy=> .ok (s.put o.dst (.eN t y.2))
  | .fn f c=> .ok (s.put o.dst (.fn f c))
  |_=> .fail).eval=al s'):fS P o a w (gT C s'):=by
 have hx:=h.ev x;split at he
 ·rename_i id v p n hv;obtain rfl:=ay.1 he;rw[hv]at hx;obtain⟨ad,hy,_⟩:=tl hx;exact h.value hx (by simp[execOp,ho,hy])
 ·rename_i t y hv;obtain rfl:=ay.1 he;rw[hv]at hx;obtain⟨b,off,vs,hy,_⟩:=mU hx;exact h.value hx (by simp[execOp,ho,hy])
 ·rename_i t y hv;obtain⟨z,e,he⟩:=lW.1 he;subst e;obtain rfl:=ay.1 he;rw[hv]at hx;have hx:=KX hx;obtain⟨b,off,vs,hy,_⟩:=mU hx;exact h.value hx (by simp[execOp,ho,hy])
 ·rename_i t y hv;obtain⟨z,e,he⟩:=lW.1 he;subst e;obtain rfl:=ay.1 he;rw[hv]at hx;have hx:=Le hx;obtain⟨b,off,vs,hy,_⟩:=mU hx;exact h.value hx (by simp[execOp,ho,hy])
 ·rename_i f c hv;obtain rfl:=ay.1 he;rw[hv]at hx;obtain⟨cs,hV,hO⟩:=hx.eQ rfl;simp only[V]at hV;obtain⟨vs,e,hc⟩:=hV;have hO':cs=[a.eval x]:=hO;rw[e]at hO';have hy:a.eval x= .func (.func f) #[] vs.toArray:=by simpa using hO'.symm
  refine h.value (v:= .fn f c) ⟨cs,by simp only[V];exact⟨vs,e,hc⟩,hO⟩ (by simp[execOp,ho,hy])
 ·simp only[aw]at he
theorem aeS{op:BinOp}{k k':kF}{x y:Int}{v:aD}(he:(auv op k x k' y).eval=al v)(T:TypeId)(E:Env):
  ∃z,(binOp op T (.int k x) (.int k' y)).run P w= .ok z w/\VS E v z:=by
 unfold auv at he;have same:∀(hk:decide (k=k')=aT),k=k':=λhk=>by simpa using hk
 cases op with
 |shl=>
  obtain⟨h1,h2⟩:=bR.1 he;obtain rfl:=ay.1 h2;have h1:¬y < 0:=by simpa using h1
  exact⟨_,by simp[binOp,Op.shift,h1],lu _ _⟩
 |shr=>
  obtain⟨h1,h2⟩:=bR.1 he;obtain rfl:=ay.1 h2;have h1:¬y < 0:=by simpa using h1
  exact⟨_,by simp[binOp,Op.shift,h1],lu _ _⟩
 |quo=>
  obtain⟨h1,h2⟩:=aG.1 he;obtain rfl:=same h1;obtain⟨h3,h4⟩:=bR.1 h2;obtain rfl:=ay.1 h4;have h3:y≠0:=by simpa using h3
  exact⟨_,by simp[binOp,Op.intDiv,h3],lu _ _⟩
 |rem=>
  obtain⟨h1,h2⟩:=aG.1 he;obtain rfl:=same h1;obtain⟨h3,h4⟩:=bR.1 h2;obtain rfl:=ay.1 h4;have h3:y≠0:=by simpa using h3
  exact⟨_,by simp[binOp,Op.intDiv,h3],lu _ _⟩
 |add | sub | mul=>
  obtain⟨h1,h2⟩:=aG.1 he;obtain rfl:=same h1;obtain rfl:=ay.1 h2;exact⟨_,by simp[binOp,Op.intArith],lu _ _⟩
 |and | or | xor | andNot=>
  obtain⟨h1,h2⟩:=aG.1 he;obtain rfl:=same h1;obtain rfl:=ay.1 h2;refine⟨_,?_,lu _ _⟩;unfold binOp Op.intBits;simp[eh]
 |eql | neq | lss | leq | gtr | geq=>
  obtain⟨h1,h2⟩:=aG.1 he;obtain rfl:=same h1;obtain rfl:=ay.1 h2;refine⟨_,?_,uv _⟩;simp[binOp,Op.intCmp]
theorem agE{op:BinOp}{x y:ByteArray}{v:aD}(he:(axa op x y).eval=al v)(T:TypeId)(E:Env):
  ∃z,(binOp op T (.string x) (.string y)).run P w= .ok z w/\VS E v z:=by
 unfold axa at he;cases op <;> simp only[aw]at he
 case add=>
  obtain⟨h1,h2⟩:=bR.1 he;obtain rfl:=ay.1 h2;have h1:¬((x.size+y.size:Nat):Int) > IntKind.i64.max:=by simpa using h1
  refine⟨.string (x++y),?_,Zw _⟩;show(Op.stringOp .add x y).run P w=_;unfold Op.stringOp;simp only[h1,cK];rfl
 all_goals
  obtain rfl:=ay.1 he;exact⟨_,by simp[binOp,Op.stringOp],uv _⟩
theorem nq{op:BinOp}{T:TypeId}{x y:bJ}{u v:Value}(h1:u≠ .nilIface)(h2:rn u=aR):(eqGuard op T x y u v).run P w= .ok () w:=by
 unfold eqGuard;cases op <;> simp
 all_goals (cases u <;> simp_all [rn])
theorem xG{T:TypeId}{b:Bool}(h:I6 P T b=aT):∃i,P.info? T=al i/\∀w,(isAgg T).run P w= .ok b w:=by
 unfold I6 at h;cases hu:P.underlying T with
 |none=>rw[hu]at h;cases h
 |some d=>
  obtain⟨i,hi⟩:=alN hu;refine⟨i,hi,λw=> ?_⟩;rw[hu]at h;unfold isAgg;rw[cd,run_underlying hu w];cases d <;> simp at h <;> simp[h]
theorem vP{T:TypeId}{b:Bool}(h:I6 P T b=aT){cs:List Value}{off n:Nat}(hn:P.cellsOf T=n)(hb:b=aR->n=1)(hl:off+n<=cs.length):
  ∃y,(part T cs.toArray off).run P w= .ok y w/\fY b ((cs.drop off).take n) y:=by
 obtain⟨i,hi,aex⟩:=xG h;rw[mJ hi]at hn;unfold part;rw[cd,aex w];simp only[bH];cases b with
 |true=>
  refine⟨.agg ((cs.drop off).take n).toArray,?_,rfl⟩;simp only[da,cd,run_sizeOf hi,bH,hn,dY];simp[List.extract_eq_take_drop]
 |false=>
  have h1:=hb rfl;subst h1;have jb:off < cs.length:=au;refine⟨cs[off],?_,?_⟩
  ·simp[jb]
  ·show(cs.drop off).take 1=[cs[off]];rw[aC jb,List.take_succ_cons,fk]
theorem vR{t:Ty}(h:t.agg=aR):t.size=1:=by cases t <;> first | rfl | (simp[Ty.agg]at h)
theorem Tq{α:Type}(f:α->α->Bool)(x y:α)(xs ys:List α):mO f (x::xs) (y::ys)=(f x y && mO f xs ys):=rfl
theorem Tk{E:Env}(hE:E.w=w){T U:TypeId}(hT:P.underlying T=al (.pointer U))(hU:aAq P U=aT){t:Ty}(hn:t.al4=aT){x y:(Ty.gO t).den}{cx cy:List Value}(hx:cI E (.gO t) cx x)(hy:cI E (.gO t) cy y){u v:Value}(hu:cx=[u])(hv:cy=[v]):
  (∃a,u= .pointer a)/\(∃b,v= .pointer b)/\∀d,(dh (d+1) T u v).run P w= .ok ((Ty.gO t).beq x y) w:=by
 unfold aAq at hU;split at hU <;> try (cases hU;done)
 rename_i i hi;have rM:i.size≠0:=by simpa using hU
 subst hu hv;have yes:u=v->(Ty.gO t).beq x y=aT:=λe=>by subst e;exact @ot _ ((Ty.gO t).arw x y) (cI.uniq (t:= .gO t) (by simpa only[Ty.al4]using hn) hx hy)
 have no:x≠y->(Ty.gO t).beq x y=aR:=λe=> @jm _ ((Ty.gO t).arw x y) e
 simp only[cI]at hx hy;cases aoN:(x:Option (Nat×t.den)) with
 |none=>
  have e1:=hx.1 aoN;simp only[cz,eG]at e1;subst e1;cases azl:(y:Option (Nat×t.den)) with
  |none=>
   have e2:=hy.1 azl;simp only[cz,eG]at e2;subst e2;exact⟨⟨_,rfl⟩,⟨_,rfl⟩,λd=>by rw[aoN,azl]at yes;rw[yes rfl];simp[dh,run_underlying hT]⟩
  |some b=>
   obtain⟨cb,Tb,vb,e2,hb,_⟩:=hy.2 b azl;simp only[cz,eG]at e2;subst e2;exact⟨⟨_,rfl⟩,⟨_,rfl⟩,λd=>by rw[aoN,azl]at no;rw[no (λe=>by cases e)];simp[dh,run_underlying hT]⟩
 |some a=>
  obtain⟨ca,Ta,va,e1,ha,_⟩:=hx.2 a aoN;simp only[cz,eG]at e1;subst e1;cases azl:(y:Option (Nat×t.den)) with
  |none=>
   have e2:=hy.1 azl;simp only[cz,eG]at e2;subst e2;exact⟨⟨_,rfl⟩,⟨_,rfl⟩,λd=>by rw[aoN,azl]at no;rw[no (λe=>by cases e)];simp[dh,run_underlying hT]⟩
  |some b=>
   obtain⟨cb,Tb,vb,e2,hb,_⟩:=hy.2 b azl;simp only[cz,eG]at e2;subst e2;refine⟨⟨_,rfl⟩,⟨_,rfl⟩,λd=> ?_⟩;rw[aoN,azl]at yes no;by_cases acG:a.1=b.1
   ·rw[yes (by rw[acG])];simp[dh,run_underlying hT,run_sizeOf hi,rM,acG,run_sameAddr_same]
   ·rw[no (λe=>acG (bE Prod.fst (aO e)))];have hd:=run_sameAddr_other (P:=P) w (a:=⟨a.1,0,aJ⟩) (b:=⟨b.1,0,aJ⟩) (by intro e;exact acG (bE Addr.block e)) (hE▸ha.2) (hE▸hb.2);simp[dh,run_underlying hT,run_sizeOf hi,rM,hd]
theorem uF(E:Env)(hE:E.w=w):∀(n:Nat) (T:TypeId) (t:Ty),rK P n T t=aT->∀(d:Nat),n<=d->∀(cx cy:List Value) (x y:t.den) (u v:Value),cI E t cx x->cI E t cy y->fY t.agg cx u->fY t.agg cy v->
  (dh d T u v).run P w= .ok (t.beq x y) w
 | 0,T,t,h,_,_,_,_,_,_,_,_,_,_,_,_=>by simp[rK]at h
 |n+1,T,t,h,0,hd,_,_,_,_,_,_,_,_,_,_=>au
 |n+1,T,t,h,d+1,hd,cx,cy,x,y,u,v,hx,hy,hu,hv=>by
  simp only[rK]at h;split at h
  ·rename_i k k' hT;simp only[cI]at hx hy;have e1:cx=[u]:=hu;have e2:cy=[v]:=hv;rw[hx]at e1;rw[hy]at e2;simp only[cz,eG]at e1 e2;subst e1 e2;rw[run_equalIn_int w d T _ _ _ _ hT];rfl
  ·rename_i hT;simp only[cI]at hx hy;have e1:cx=[u]:=hu;have e2:cy=[v]:=hv;rw[hx]at e1;rw[hy]at e2;simp only[cz,eG]at e1 e2;subst e1 e2;rw[run_equalIn_bool' w d T _ _ hT];rfl
  ·rename_i hT;simp only[cI]at hx hy;have e1:cx=[u]:=hu;have e2:cy=[v]:=hv;rw[hx]at e1;rw[hy]at e2;simp only[cz,eG]at e1 e2;subst e1 e2;rw[run_equalIn_string w d T _ _ hT];rfl
  ·rename_i U t' hT;simp only[av]at h;exact(Tk hE hT h.1 h.2 hx hy hu hv).2.2 d
  ·rename_i m e m' t' hT;simp only[av,dD]at h;obtain⟨⟨⟨⟨rfl,aDi⟩,rM⟩,JT⟩,uG⟩:=h;simp only[cI]at hx hy;obtain⟨aIa,aHW⟩:=hx;obtain⟨aKB,aKm⟩:=hy;have e1:u= .agg cx.toArray:=hu;have e2:v= .agg cy.toArray:=hv;subst e1 e2;obtain⟨i,hi,aex⟩:=xG JT;have hsz':=rM;rw[mJ hi]at hsz';simp only[dh,cd,run_underlying hT,bH,run_sizeOf hi,hsz'];simp only[Std.Legacy.Range.forIn_eq_forIn_range'];have hm:([:m]:Std.Legacy.Range).size=m:=by simp[Std.Legacy.Range.size]
   rw[hm];have ahe:∀c z,cI E t' c z->c.length=t'.size:=λc z hz=>hz.size
   have bx:t'.agg=aR->t'.size=1:=vR
   have key:∀(k:Nat) (x y:List t'.den) (j:Nat),x.length=k->y.length=k->bo (cI E t') (cx.drop (j*t'.size)) x->bo (cI E t') (cy.drop (j*t'.size)) y->
     (forIn (List.range' j k) ((aJ,()):Option Bool×Unit) λi __s=>(do
      let __do_lift <-part e cx.toArray (i*t'.size)
      let __do_lift_1 <-part e cy.toArray (i*t'.size)
      let __do_lift <-dh d e __do_lift __do_lift_1
      if(!__do_lift)=aT then pure (ForInStep.done (al aR,())) else pure (ForInStep.yield (aJ,())):Sem (ForInStep (Option Bool×Unit)))).run P w= .ok (if mO t'.beq x y then aJ else al aR,()) w:=by
    intro k
    induction k with
    |zero=>
     intro x y j hx hy _ _;rw[List.length_eq_zero_iff.1 hx,List.length_eq_zero_iff.1 hy];rfl
    |succ k ih=>
     intro x y j hx hy hcx' hcy';cases x with
     |nil=>simp at hx
     |cons x0 xs=>
      cases y with
      |nil=>simp at hy
      |cons y0 ys=>
       have gx:=bo.get ahe hcx' 0 (by simp);have gy:=bo.get ahe hcy' 0 (by simp);simp only[my,aQ,List.getElem_cons_zero]at gx gy;have lenx:((cx.drop (j*t'.size)).take t'.size).length=t'.size:=gx.size;have leny:((cy.drop (j*t'.size)).take t'.size).length=t'.size:=gy.size;have M8:t'.size≠0:=by simpa using aDi
       have aH6:j*t'.size+t'.size<=cx.length:=by simp only[cG,de]at lenx;omega
       have aKy:j*t'.size+t'.size<=cy.length:=by simp only[cG,de]at leny;omega
       obtain⟨ux,h1,o1⟩:=vP (w:=w) JT rM bx (cs:=cx) (off:=j*t'.size) aH6;obtain⟨uy,h2,o2⟩:=vP (w:=w) JT rM bx (cs:=cy) (off:=j*t'.size) aKy;have h3:=uF E hE n e t' uG d au _ _ x0 y0 ux uy gx gy o1 o2;have nx:bo (cI E t') (cx.drop ((j+1)*t'.size)) xs:=by have:=bo.drop ahe 1 hcx';rw[gA]at this;simpa[eO]using this
       have ny:bo (cI E t') (cy.drop ((j+1)*t'.size)) ys:=by have:=bo.drop ahe 1 hcy';rw[gA]at this;simpa[eO]using this
       have:=ih xs ys (j+1) (by simpa using hx) (by simpa using hy) nx ny;rw[List.range'_succ,List.forIn_cons];simp only[cd,h1,h2,h3,bH,Tq];rcases iS (t'.beq x0 y0) with hb | hb
       ·simp only[hb,cv,bW,cK,dY,bH,cH];exact this
       ·simp only[hb,fj,da,dY,bH,fJ,bW,cK]
   have:=key m x y 0 aIa aKB (by simpa using aHW) (by simpa using aKm);rw[this];show _=Result.ok (mO t'.beq x y) w;cases mO t'.beq x y <;> rfl
  ·rename_i t0 _ _ fs hT;simp only[av,ct]at h;obtain⟨nG,aCY⟩:=h;have hF:P.fieldsOf T=fs:=by simp[Program.fieldsOf,hT]
   have hT':P.underlying T=al (.struct (P.fieldsOf T)):=by rw[hF];exact hT
   have key:∀(fl:List Field) (t:Ty) (off:Nat),IP P (rK P n) fl t off=aT->∀(x y:t.den),cI E t (cx.drop off) x->cI E t (cy.drop off) y->
     (Op.eqFields d cx.toArray cy.toArray fl).run P w= .ok (t.beq x y) w:=by
    intro fl
    induction fl with
    |nil=>
     intro t off hc x y _ _;cases t <;> first | (simp[IP]at hc;done) | rfl
    |cons f fl ih=>
     intro t off hc x y hx hy;cases t <;> first | (simp[IP]at hc;done) | skip
     rename_i ta tb;simp only[IP,av,ct,dD,gv]at hc;obtain⟨⟨⟨⟨⟨⟨aIf,azd⟩,hz⟩,rM⟩,JT⟩,uG⟩,auc⟩:=hc;simp only[cI]at hx hy;obtain⟨xa,xb,ex,aF0,aID⟩:=hx;obtain⟨ya,yb,ey,aJV,aKV⟩:=hy;have bx:ta.agg=aR->ta.size=1:=vR;have lx:xa.length=ta.size:=aF0.size;have ly:ya.length=ta.size:=aJV.size;have split:∀(cs xa xb:List Value),cs.drop off=xa++xb->xa.length=ta.size->(cs.drop off).take ta.size=xa/\cs.drop (off+ta.size)=xb/\off+ta.size<=cs.length:=by intro cs xa xb e l;refine⟨by rw[e];exact kA l,by rw[<-gA,e];exact kz l,?_⟩;have:=bE ag e;simp only[de,aj]at this;omega
     obtain⟨sx1,sx2,sx3⟩:=split cx xa xb ex lx;obtain⟨sy1,sy2,sy3⟩:=split cy ya yb ey ly;obtain⟨ux,h1,o1⟩:=vP (w:=w) JT rM bx (cs:=cx) (off:=off) sx3;obtain⟨uy,h2,o2⟩:=vP (w:=w) JT rM bx (cs:=cy) (off:=off) sy3;rw[sx1]at o1;rw[sy1]at o2;have h3:=uF E hE n f.type ta uG d au _ _ x.1 y.1 ux uy aF0 aJV o1 o2;have h4:=ih tb (off+ta.size) auc x.2 y.2 (by rw[sx2];exact aID) (by rw[sy2];exact aKV);simp only[Op.eqFields,ne_eq,aIf,not_false_eq_true,da,cd,azd,h1,h2,h3,bH];show _=Result.ok (ta.beq x.1 y.1 && tb.beq x.2 y.2) w;rcases iS (ta.beq x.1 y.1) with hb | hb
     ·simp only[hb,cv,bW,cK,cH];exact h4
     ·simp[hb]
   have JT:t0.agg=aT:=by cases hl:fs.toList <;> rw[hl]at aCY <;> cases t0 <;> first | rfl | (simp[IP]at aCY;done)
   rw[JT]at hu hv;have e1:u= .agg cx.toArray:=hu;have e2:v= .agg cy.toArray:=hv;subst e1 e2;rw[run_equalIn_struct w d T _ _ hT' nG,hF];exact key fs.toList t0 0 aCY x y (by simpa using hx) (by simpa using hy)
  ·cases h
end
end Go.Ab
namespace Go.Ab
section
variable {P:aN} {C:Ctx} {g:Nat->lQ} {β:Id->Option Pl} {s:AS} {a:Act} {w:bU} {o:Oper}
theorem avo{E:Env}{v:aD}{y c:Value}(h:VS E v y)(hc:v.eQ=aT)(ha:v.agg=aR)(hV:∀cs,V E v cs->cs=[c]):y=c:=by have:=h.single hc ha;simpa using hV _ this
theorem Ay{E:Env}{y:Value}(h:VS E .j7 y):y= .pointer aJ:=avo h rfl rfl λcs hv=>by simpa only[V]using hv
theorem Rz{E:Env}{y:Value}(h:VS E .vF y):y= .nilFunc:=avo h rfl rfl λcs hv=>by simpa only[V]using hv
theorem SM{E:Env}{f:fR}{c:aD}{y:Value}(h:VS E (.fn f c) y):∃vs,y= .func (.func f) #[] vs.toArray/\VC E c vs:=by have h1:=h.single rfl rfl;simp only[V]at h1;obtain⟨vs,e,hc⟩:=h1;exact⟨vs,by simpa using e,hc⟩
theorem eI{T:TypeId}{u v:Value}{b:Bool}(h:∀d,(dh (d+1) T u v).run P w= .ok b w):(Op.equal T u v).run P w= .ok b w:=h 9999
theorem SI{T:TypeId}{x y:aD}{u v:Value}{E:Env}(hx:VS E x u)(hy:VS E y v){b:Bool}(he:(xu P T x y).eval=al b)(hE:E.w=w):
  (Op.equal T u v).run P w= .ok b w/\u≠ .nilIface/\(rn u=aR\/(rn v=aT/\P.eqGuardType P.depth T=aR))/\
   (∀op,binOp op T u v=(match op with | .eql=>do pure (.bool (<-Op.equal T u v)) | .neq=>do pure (.bool (!(<-Op.equal T u v))) | _=>binOp op T u v)):=by
 unfold xu at he;split at he
 ·rename_i t x' t' y';obtain⟨y'',h1,h2⟩:=ax.1 he;obtain⟨e,h1⟩:=iY (ja.1 h1);obtain rfl:t'=t:=Ty.gO.inj e;simp only at h1;subst h1;obtain⟨h3,h4⟩:=aG.1 h2;obtain rfl:=ay.1 h4;simp only[av]at h3;obtain⟨h1,hn⟩:=h3;unfold aF6 at h1;split at h1 <;> try (cases h1;done)
  rename_i U hT;obtain⟨cx,hVx,hOx⟩:=hx.eQ rfl;obtain⟨cy,hVy,hOy⟩:=hy.eQ rfl;simp only[V]at hVx hVy;obtain⟨⟨_,rfl⟩,⟨_,rfl⟩,hr⟩:=Tk hE hT h1 hn hVx hVy hOx hOy;exact⟨eI hr,by simp,.inl rfl,λop=>by cases op <;> rfl⟩
 ·rename_i t x' t' y' _;obtain⟨y'',h1,h2⟩:=ax.1 he;obtain⟨rfl,h1⟩:=iY (ja.1 h1);simp only at h1;subst h1;obtain⟨h3,h4⟩:=aG.1 h2;obtain rfl:=ay.1 h4;simp only[av,iq,ct,aW]at h3;obtain⟨h3,h5⟩:=h3;obtain⟨cx,hVx,hOx⟩:=hx.eQ rfl;obtain⟨cy,hVy,hOy⟩:=hy.eQ rfl;simp only[V]at hVx hVy;have hr:=uF (w:=w) E hE depth T t' h5 10000 fb cx cy x' y' u v hVx hVy hOx hOy;refine⟨hr,?_⟩;rcases h3 with⟨JT,aKt⟩ | rfl
  ·have hOx':fY t'.agg cx u:=hOx;have hOy':fY t'.agg cy v:=hOy;rw[JT]at hOx' hOy';have e1:u= .agg cx.toArray:=hOx';have e2:v= .agg cy.toArray:=hOy';subst e1 e2;exact⟨by simp,.inr ⟨rfl,aKt⟩,λop=>by cases op <;> rfl⟩
  ·simp only[cI]at hVx hVy;have e1:cx=[u]:=hOx;have e2:cy=[v]:=hOy;rw[hVx]at e1;rw[hVy]at e2;simp only[cz,eG]at e1 e2;subst e1 e2;exact⟨by simp,.inl rfl,λop=>by cases op <;> rfl⟩
 ·obtain⟨h1,h2⟩:=aG.1 he;obtain rfl:=ay.1 h2;rw[kZ hx,kZ hy];unfold xu.isSl at h1;split at h1 <;> try (cases h1;done)
  rename_i e hT;exact⟨eI λd=>by simp[dh,run_underlying hT],by simp,.inl rfl,λop=>by cases op <;> rfl⟩
 ·obtain⟨h1,h2⟩:=aG.1 he;obtain⟨h3,h4⟩:=bR.1 h2;obtain rfl:=ay.1 h4;obtain⟨ad,cap,vs,rfl,_,hs,_⟩:=tq hx;rw[kZ hy];have hs:=hs (by simpa using h3);obtain⟨ad',rfl⟩:=bA.1 hs;unfold xu.isSl at h1;split at h1 <;> try (cases h1;done)
  rename_i e hT;exact⟨eI λd=>by simp[dh,run_underlying hT],by simp,.inl rfl,λop=>by cases op <;> rfl⟩
 ·obtain⟨h1,h2⟩:=aG.1 he;obtain⟨h3,h4⟩:=bR.1 h2;obtain rfl:=ay.1 h4;obtain⟨ad,cap,vs,rfl,_,hs,_⟩:=tq hy;rw[kZ hx];have hs:=hs (by simpa using h3);obtain⟨ad',rfl⟩:=bA.1 hs;unfold xu.isSl at h1;split at h1 <;> try (cases h1;done)
  rename_i e hT;exact⟨eI λd=>by simp[dh,run_underlying hT],by simp,.inl rfl,λop=>by cases op <;> rfl⟩
 ·obtain⟨h1,h2⟩:=aG.1 he;obtain⟨h3,h4⟩:=bR.1 h2;obtain rfl:=ay.1 h4;obtain⟨ad,cap,rfl,_,hs,_⟩:=qO hx;rw[kZ hy];have hs:=hs (by simpa using h3);obtain⟨ad',rfl⟩:=bA.1 hs;unfold xu.isSl at h1;split at h1 <;> try (cases h1;done)
  rename_i e hT;exact⟨eI λd=>by simp[dh,run_underlying hT],by simp,.inl rfl,λop=>by cases op <;> rfl⟩
 ·obtain⟨h1,h2⟩:=aG.1 he;obtain⟨h3,h4⟩:=bR.1 h2;obtain rfl:=ay.1 h4;obtain⟨ad,cap,rfl,_,hs,_⟩:=qO hy;rw[kZ hx];have hs:=hs (by simpa using h3);obtain⟨ad',rfl⟩:=bA.1 hs;unfold xu.isSl at h1;split at h1 <;> try (cases h1;done)
  rename_i e hT;exact⟨eI λd=>by simp[dh,run_underlying hT],by simp,.inl rfl,λop=>by cases op <;> rfl⟩
 ·obtain⟨h1,h2⟩:=aG.1 he;obtain rfl:=ay.1 h2;rw[Ay hx,Ay hy];unfold xu.isPt at h1;split at h1 <;> try (cases h1;done)
  rename_i e hT;exact⟨eI λd=>by simp[dh,run_underlying hT],by simp,.inl rfl,λop=>by cases op <;> rfl⟩
 ·obtain⟨h1,h2⟩:=aG.1 he;obtain rfl:=ay.1 h2;obtain⟨ad,rfl,_⟩:=tl hx;rw[Ay hy];unfold xu.isPt at h1;split at h1 <;> try (cases h1;done)
  rename_i e hT;exact⟨eI λd=>by simp[dh,run_underlying hT],by simp,.inl rfl,λop=>by cases op <;> rfl⟩
 ·obtain⟨h1,h2⟩:=aG.1 he;obtain rfl:=ay.1 h2;obtain⟨ad,rfl,_⟩:=tl hy;rw[Ay hx];unfold xu.isPt at h1;split at h1 <;> try (cases h1;done)
  rename_i e hT;exact⟨eI λd=>by simp[dh,run_underlying hT],by simp,.inl rfl,λop=>by cases op <;> rfl⟩
 ·rename_i t q;obtain⟨h1,h2⟩:=aG.1 he;obtain rfl:=ay.1 h2;unfold xu.isPt at h1;split at h1 <;> try (cases h1;done)
  rename_i e hT;rw[Ay hy];cases q with
  |none=>
   rw[Yh hx];exact⟨eI λd=>by simp[dh,run_underlying hT],by simp,.inl rfl,λop=>by cases op <;> rfl⟩
  |some z=>
   obtain⟨b,off,vs,rfl,_⟩:=mU (KX hx);exact⟨eI λd=>by simp[dh,run_underlying hT],by simp,.inl rfl,λop=>by cases op <;> rfl⟩
 ·rename_i t q;obtain⟨h1,h2⟩:=aG.1 he;obtain rfl:=ay.1 h2;unfold xu.isPt at h1;split at h1 <;> try (cases h1;done)
  rename_i e hT;rw[Ay hx];cases q with
  |none=>
   rw[Yh hy];exact⟨eI λd=>by simp[dh,run_underlying hT],by simp,.inl rfl,λop=>by cases op <;> rfl⟩
  |some z=>
   obtain⟨b,off,vs,rfl,_⟩:=mU (KX hy);exact⟨eI λd=>by simp[dh,run_underlying hT],by simp,.inl rfl,λop=>by cases op <;> rfl⟩
 ·rename_i t q;obtain⟨h1,h2⟩:=aG.1 he;obtain rfl:=ay.1 h2;unfold xu.isPt at h1;split at h1 <;> try (cases h1;done)
  rename_i e hT;rw[Ay hy];cases q with
  |none=>
   rw[Ym hx];exact⟨eI λd=>by simp[dh,run_underlying hT],by simp,.inl rfl,λop=>by cases op <;> rfl⟩
  |some z=>
   obtain⟨b,off,vs,rfl,_⟩:=mU (Le hx);exact⟨eI λd=>by simp[dh,run_underlying hT],by simp,.inl rfl,λop=>by cases op <;> rfl⟩
 ·rename_i t q;obtain⟨h1,h2⟩:=aG.1 he;obtain rfl:=ay.1 h2;unfold xu.isPt at h1;split at h1 <;> try (cases h1;done)
  rename_i e hT;rw[Ay hx];cases q with
  |none=>
   rw[Ym hy];exact⟨eI λd=>by simp[dh,run_underlying hT],by simp,.inl rfl,λop=>by cases op <;> rfl⟩
  |some z=>
   obtain⟨b,off,vs,rfl,_⟩:=mU (Le hy);exact⟨eI λd=>by simp[dh,run_underlying hT],by simp,.inl rfl,λop=>by cases op <;> rfl⟩
 ·obtain⟨h1,h2⟩:=aG.1 he;obtain rfl:=ay.1 h2;rw[Rz hx,Rz hy];unfold xu.isFn at h1;split at h1 <;> try (cases h1;done)
  rename_i hT;exact⟨eI λd=>by simp[dh,run_underlying hT],by simp,.inl rfl,λop=>by cases op <;> rfl⟩
 ·obtain⟨h1,h2⟩:=aG.1 he;obtain rfl:=ay.1 h2;obtain⟨vs,rfl,_⟩:=SM hx;rw[Rz hy];unfold xu.isFn at h1;split at h1 <;> try (cases h1;done)
  rename_i hT;exact⟨eI λd=>by simp[dh,run_underlying hT],by simp,.inl rfl,λop=>by cases op <;> rfl⟩
 ·obtain⟨h1,h2⟩:=aG.1 he;obtain rfl:=ay.1 h2;obtain⟨vs,rfl,_⟩:=SM hy;rw[Rz hx];unfold xu.isFn at h1;split at h1 <;> try (cases h1;done)
  rename_i hT;exact⟨eI λd=>by simp[dh,run_underlying hT],by simp,.inl rfl,λop=>by cases op <;> rfl⟩
 ·simp only[aw]at he
theorem aeg{op:BinOp}{T:TypeId}{x y:bJ}{u v:Value}(hu:rn u=aT)(hv:rn v=aT)(hm:P.eqGuardType P.depth T=aR):(eqGuard op T x y u v).run P w= .ok () w:=by
 cases u <;> first | (simp[rn]at hu;done) | skip
 cases v <;> first | (simp[rn]at hv;done) | skip
 exact run_eqGuard_agg w op T x y _ _ hm
theorem ahA(h:Inv C g β s a w){op:BinOp}{T U:TypeId}{x y:bJ}(ho:o.op= .binOp op T x y U){v:aD}(he:(aCf P T op (s.ev x) (s.ev y)).eval=al v):fS P o a w (gT C (s.put o.dst v)):=by
 have hx:=h.ev x;have hy:=h.ev y;have fin:∀z,(binOp op T (a.eval x) (a.eval y)).run P w= .ok z w->(eqGuard op T x y (a.eval x) (a.eval y)).run P w= .ok () w->VS (s.env w g β) v z->fS P o a w (gT C (s.put o.dst v)):=by
  intro z h1 h2 h3;refine h.value h3 ?_
  simp[execOp,ho,h1,h2]
 unfold aCf at he;split at he
 ·rename_i k n k' m hn hm;rw[hn]at hx;rw[hm]at hy;have e1:=tV hx;have e2:=tV hy;obtain⟨z,h1,h2⟩:=aeS (P:=P) (w:=w) he T (s.env w g β);exact fin z (by rw[e1,e2];exact h1) (by rw[e1,e2];exact nq (by simp) rfl) h2
 ·rename_i n m hn hm;rw[hn]at hx;rw[hm]at hy;have e1:=FT hx;have e2:=FT hy;obtain⟨z,h1,h2⟩:=agE (P:=P) (w:=w) he T (s.env w g β);exact fin z (by rw[e1,e2];exact h1) (by rw[e1,e2];exact nq (by simp) rfl) h2
 ·have grd:(rn (a.eval x)=aR\/(rn (a.eval y)=aT/\P.eqGuardType P.depth T=aR))->a.eval x≠ .nilIface->(eqGuard op T x y (a.eval x) (a.eval y)).run P w= .ok () w:=by
   intro hh gJ;rcases hh with hh | ⟨hh,hm⟩
   ·exact nq gJ hh
   ·rcases iS (rn (a.eval x)) with hx | hx
    ·exact aeg hx hh hm
    ·exact nq gJ hx
  split at he
  ·obtain⟨b,h1,h2⟩:=ax.1 he;obtain rfl:=ay.1 h2;obtain⟨q1,q2,q3,q4⟩:=SI (w:=w) hx hy h1 rfl;refine fin (.bool b) ?_ (grd q3 q2) (uv b)
   rw[q4 .eql];simp[q1]
  ·obtain⟨b,h1,h2⟩:=ax.1 he;obtain rfl:=ay.1 h2;obtain⟨q1,q2,q3,q4⟩:=SI (w:=w) hx hy h1 rfl;refine fin (.bool (!b)) ?_ (grd q3 q2) (uv (!b))
   rw[q4 .neq];simp[q1]
  ·simp only[aw]at he
theorem arp(h:Inv C g β s a w){op:UnOp}{T:TypeId}{x:bJ}(ho:o.op= .unOp op T x){v:aD}(he:(aHm op (s.ev x)).eval=al v):fS P o a w (gT C (s.put o.dst v)):=by
 have hx:=h.ev x;unfold aHm at he;split at he
 ·rename_i b hb;rw[hb]at hx;obtain rfl:=ay.1 he;exact h.value (uv _) (by simp[execOp,ho,Rg hx,Op.unary])
 ·rename_i k n hb;rw[hb]at hx;obtain rfl:=ay.1 he;exact h.value (lu _ _) (by simp[execOp,ho,tV hx,Op.unary,Op.intArith])
 ·rename_i k n hb;rw[hb]at hx;obtain rfl:=ay.1 he;refine h.value (lu _ _) ?_
  simp only[execOp,ho,tV hx,Op.unary,Op.intBits];simp[eh]
 ·simp only[aw]at he
end
end Go.Ab
namespace Go.Ab
section
variable {P:aN} {C:Ctx} {g:Nat->lQ} {β:Id->Option Pl} {s:AS} {a:Act} {w:bU} {o:Oper}
theorem yL{E:Env}{v:aD}{y:Value}(h:VS E v y){n:Int}(he:(asInt v).eval=al n):∃k,y= .int k n:=by
 unfold asInt at he;split at he
 ·rename_i k m;obtain rfl:=ay.1 he;exact⟨k,tV h⟩
 ·simp only[aw]at he
theorem yI{k:kF}{i:Int}{y:Nat}(code:BoundsCode)(h:0<=i/\i<=(y:Int)):(Instr.sliceBound (.int k i) y code).run P w= .ok i.toNat w:=run_sliceBound w k i y code h.1 h.2
theorem w5(h:Inv C g β s a w){n cap:Nat}(hn:n<=cap){lo hi:Option bJ}{r:Nat×Nat}(he:(bounds s n lo hi).eval=al r)(isS:Bool){mx:Option Value}{cap':Nat}
  (hm:(mx=aJ/\cap'=cap)\/∃k mv,hi.isSome=aT/\mx=al (.int k mv)/\(r.2:Int)<=mv/\mv<=n/\cap'=mv.toNat):
  (Instr.sliceBounds isS n cap (lo.map a.eval) (hi.map a.eval) mx).run P w= .ok (r.1,r.2,cap') w/\r.1<=r.2/\r.2<=n:=by
 unfold bounds at he;obtain⟨hh,h1,h2⟩:=ax.1 he;obtain⟨ll,h3,h4⟩:=ax.1 h2;obtain rfl:=ay.1 h4;have aBu:hh<=n/\∀y,hi.map a.eval=al y->∃k i,y= .int k i/\0<=i/\i<=(n:Int)/\hh=i.toNat:=by
  cases hi with
  |none=>
   simp only at h1;obtain rfl:=ay.1 h1;exact⟨aF _,λy hy=>by cases hy⟩
  |some x=>
   simp only at h1;obtain⟨i,q1,q2⟩:=ax.1 h1;obtain⟨q3,q4⟩:=bR.1 q2;obtain rfl:=ay.1 q4;simp only[aW]at q3;obtain⟨k,hk⟩:=yL (h.ev x) q1;refine⟨au,λy hy=> ?_⟩;simp only[eo,az]at hy;exact⟨k,i,by rw[<-hy];exact hk,q3.1,q3.2,rfl⟩
 have ay7:hi.map a.eval=aJ->hh=n:=by
  intro hy;cases hi with
  |none=>simp only at h1;exact(ay.1 h1).symm
  |some x=>cases hy
 have lo1:ll<=hh/\∀y,lo.map a.eval=al y->∃k i,y= .int k i/\0<=i/\i<=(hh:Int)/\ll=i.toNat:=by
  cases lo with
  |none=>
   simp only at h3;obtain rfl:=ay.1 h3;exact⟨aP _,λy hy=>by cases hy⟩
  |some x=>
   simp only at h3;obtain⟨i,q1,q2⟩:=ax.1 h3;obtain⟨q3,q4⟩:=bR.1 q2;obtain rfl:=ay.1 q4;simp only[aW]at q3;obtain⟨k,hk⟩:=yL (h.ev x) q1;refine⟨au,λy hy=> ?_⟩;simp only[eo,az]at hy;exact⟨k,i,by rw[<-hy];exact hk,q3.1,q3.2,rfl⟩
 have lo0:lo.map a.eval=aJ->ll=0:=by
  intro hy;cases lo with
  |none=>simp only at h3;exact(ay.1 h3).symm
  |some x=>cases hy
 refine⟨?_,lo1.1,aBu.1⟩;unfold Instr.sliceBounds;rcases hm with⟨rfl,rfl⟩ | ⟨k2,mv,hs,rfl,aJL,aLv,rfl⟩
 ·cases aG1:hi.map a.eval with
  |none=>
   obtain rfl:=ay7 aG1;cases Rq:lo.map a.eval with
   |none=>
    obtain rfl:=lo0 Rq;rfl
   |some y=>
    obtain⟨k,i,rfl,q1,q2,rfl⟩:=lo1.2 y Rq;simp only[cd,dY,bH,yI _ ⟨q1,q2⟩]
  |some z=>
   obtain⟨k',i',rfl,p1,p2,rfl⟩:=aBu.2 z aG1;have hb:∀code,(Instr.sliceBound (.int k' i') cap' code).run P w= .ok i'.toNat w:=λcode=>yI code ⟨p1,au⟩
   cases Rq:lo.map a.eval with
   |none=>
    obtain rfl:=lo0 Rq;simp only[cd,dY,bH,hb]
   |some y=>
    obtain⟨k,i,rfl,q1,q2,rfl⟩:=lo1.2 y Rq;simp only[cd,dY,bH,hb,yI _ ⟨q1,q2⟩]
 ·cases aG1:hi.map a.eval with
  |none=>cases hi <;> simp_all
  |some z=>
   obtain⟨k',i',rfl,p1,p2,rfl⟩:=aBu.2 z aG1;have aJL:((i'.toNat:Nat):Int)<=mv:=aJL;have h0:∀code,(Instr.sliceBound (.int k2 mv) cap code).run P w= .ok mv.toNat w:=λcode=>yI code ⟨au,au⟩
   have hb:∀code,(Instr.sliceBound (.int k' i') mv.toNat code).run P w= .ok i'.toNat w:=λcode=>yI code ⟨p1,au⟩
   cases Rq:lo.map a.eval with
   |none=>
    obtain rfl:=lo0 Rq;simp only[cd,dY,bH,hb,h0]
   |some y=>
    obtain⟨k,i,rfl,q1,q2,rfl⟩:=lo1.2 y Rq;simp only[cd,dY,bH,hb,h0,yI _ ⟨q1,q2⟩]
theorem ou{T:TypeId}{z:Nat}(h1:kP P T=al z)(h2:wG P T=aJ):∃e,P.underlying T=al (.slice e)/\P.cellsOf e=z/\0 < z:=by
 unfold kP at h1;unfold wG at h2;split at h1
 ·rename_i n e hT;rw[hT]at h2;cases h2
 ·rename_i e hT;cases hc:P.cellsOf e with
  |zero=>rw[hc]at h1;cases h1
  |succ k=>
   rw[hc]at h1;simp only[az]at h1;exact⟨e,hT,au,au⟩
 ·cases h1
theorem xr{T:TypeId}{z n:Nat}(h1:kP P T=al z)(h2:wG P T=al n):∃e,P.underlying T=al (.array n e)/\P.cellsOf e=z/\0 < z:=by
 unfold kP at h1;unfold wG at h2;split at h1
 ·rename_i n e hT;rw[hT]at h2;simp only[az]at h2;subst h2;cases hc:P.cellsOf e with
  |zero=>rw[hc]at h1;cases h1
  |succ k=>
   rw[hc]at h1;simp only[az]at h1;exact⟨e,hT,au,au⟩
 ·rename_i e hT;rw[hT]at h2;cases h2
 ·cases h1
theorem oU{e:TypeId}{z:Nat}(h:P.cellsOf e=z)(hz:0 < z)(w:bU):(sizeOf e).run P w= .ok z w:=by
 unfold Program.cellsOf at h;cases hi:P.info? e with
 |none=>rw[hi]at h;simp at h;omega
 |some i=>rw[hi]at h;rw[run_sizeOf hi];simpa using h
set_option maxHeartbeats 1000000 in
theorem Vr(h:Inv C g β s a w){T:TypeId}{x:bJ}{lo hi mx:Option bJ}(ho:o.op= .slice T x lo hi mx)
  (hm:mx=aJ\/∃m y hv mv,mx=al m/\hi=al y/\(asInt (s.ev y)).eval=al hv/\(asInt (s.ev m)).eval=al mv/\0<=hv/\hv<=mv/\mv<=azC (s.ev x))
  {v:aD} (he:(FP P s T (s.ev x) lo hi).eval=al v):fS P o a w (gT C (s.put o.dst (ad7 mx v))):=by
 have hx:=h.ev x;have fin:∀z,(Instr.sliceAt T (a.eval x) (lo.map a.eval) (hi.map a.eval) (mx.map a.eval)).run P w= .ok z w->VS (s.env w g β) (ad7 mx v) z->fS P o a w (gT C (s.put o.dst (ad7 mx v))):=by intro z h1 h2;exact h.value h2 (eu (f:=Instr.sliceAt T (a.eval x) (lo.map a.eval) (hi.map a.eval) (mx.map a.eval)) (by simp only[execOp,ho]) h1)
 have no:∀ {q:Prop},azC (s.ev x)= -1->(mx=aJ->q)->q:=by
  intro q h1 h2;rcases hm with h3 | ⟨_,_,hv,mv,_,_,_,_,h3,h4,h5⟩
  ·exact h2 h3
  ·omega
 have sl:∀(e:TypeId) (z:Nat) (ad:Option Addr) (len cap:Nat) (b:Nat×Nat),azC (s.ev x)=(len:Int)->P.underlying T=al (.slice e)->P.cellsOf e=z->0 < z->a.eval x= .slice ad len cap->len<=cap->(bounds s len lo hi).eval=al b->
   ∃cap',(Instr.sliceAt T (a.eval x) (lo.map a.eval) (hi.map a.eval) (mx.map a.eval)).run P w= .ok (.slice (if cap'=b.1 then ad else ad.map (·.add (b.1*z))) (b.2 - b.1) (cap' - b.1)) w/\b.1<=b.2/\b.2<=len/\b.2<=cap'/\cap'<=cap/\(mx=aJ->cap'=cap):=by
  intro e z ad len cap b hL hT hz sh hy arx hb;rcases hm with rfl | ⟨m,y,hv,mv,rfl,rfl,q1,q2,q3,q4,q5⟩
  ·obtain⟨h1,h2,h3⟩:=w5 (P:=P) h arx hb aT (.inl ⟨rfl,rfl⟩);refine⟨cap,?_,h2,h3,au,aF _,λ_=>rfl⟩;rw[hy];simp[Instr.sliceAt,Instr.slice,run_underlying hT,h1,oU hz sh]
  ·obtain⟨k,hk⟩:=yL (h.ev m) q2;have Ro:(b.2:Int)<=mv:=by obtain⟨hh,h1,h2⟩:=ax.1 hb;obtain⟨i,r1,r2⟩:=ax.1 h1;obtain⟨r3,r4⟩:=bR.1 r2;obtain rfl:=ay.1 r4;obtain⟨ll,_,h4⟩:=ax.1 h2;obtain rfl:=ay.1 h4;rw[q1]at r1;obtain rfl:=aO r1;show((hv.toNat:Nat):Int)<=mv;omega
   obtain⟨h1,h2,h3⟩:=w5 (P:=P) h arx hb aT (mx:=al (.int k mv)) (cap':=mv.toNat) (.inr ⟨k,mv,rfl,rfl,Ro,au,rfl⟩);refine⟨mv.toNat,?_,h2,h3,au,au,λh=>by cases h⟩;rw[hy,eo (a:=m),hk];simp[Instr.sliceAt,Instr.slice,run_underlying hT,oU hz sh];simp only[eo]at h1;simp[h1]
 have ar:∀(e:TypeId) (z n:Nat) (ad:Addr) (b:Nat×Nat),mx=aJ->P.underlying T=al (.array n e)->P.cellsOf e=z->0 < z->a.eval x= .pointer (al ad)->(bounds s n lo hi).eval=al b->
   (Instr.sliceAt T (a.eval x) (lo.map a.eval) (hi.map a.eval) (mx.map a.eval)).run P w= .ok (.slice (al (if n=b.1 then ad else ad.add (b.1*z))) (b.2 - b.1) (n - b.1)) w/\b.1<=b.2/\b.2<=n:=by
  intro e z n ad b hN hT hz sh hy hb;obtain⟨h1,h2,h3⟩:=w5 (P:=P) h (aF n) hb aR (.inl ⟨rfl,rfl⟩);refine⟨?_,h2,h3⟩;rw[hy,hN];simp[Instr.sliceAt,Instr.sureAddr,run_underlying hT,h1,oU hz sh]
 have cutR:∀(t:Ty) (z:Nat) (ad ad':Option Addr) (len' cap':Nat) (vs:List Value) (l:List t.den) (b:Nat×Nat),z=t.size->wz (s.env w g β) ad vs->bo (cI (s.env w g β) t) vs l->b.1<=b.2->b.2<=l.length->
   (∀bb off,ad=al ⟨bb,off,aJ⟩->b.1 < b.2->ad'=al ⟨bb,off+b.1*z,aJ⟩)->(b.1 < b.2->ad'.isSome=aT)->len'=b.2 - b.1->len'<=cap'->VS (s.env w g β) (.d (.slice t) (cut l b.1 (b.2 - b.1))) (.slice ad' len' cap'):=by
  intro t z ad ad' len' cap' vs l b hz hr hc h1 h2 aHN pY hlen hle;subst hz hlen;have alC:(cut l b.1 (b.2 - b.1)).length=b.2 - b.1:=CP au;refine⟨_,?_,rfl⟩;simp only[V,cI];refine⟨ad',cap',(vs.drop (b.1*t.size)).take ((b.2 - b.1)*t.size),by rw[alC],au,by rw[alC];intro hp;exact pY au,?_,Iu hc b.1 _⟩;intro i v hi;rw[db]at hi;split at hi
  ·rename_i aKv;rw[fD]at hi;obtain⟨bb,off,e,hh⟩:=hr _ v hi;have jb:b.1 < b.2:=by
    rcases ph b.1 b.2 with h' | h'
    ·exact h'
    ·rw[kh h',my]at aKv;omega
   exact⟨bb,_,aHN bb off e jb,by rw[fN];exact hh⟩
  ·cases hi
 unfold FP at he;split at he
 ·rename_i st nG;rw[nG]at hx;have e1:=FT hx;obtain⟨h1,h2⟩:=aG.1 he;obtain⟨b,h3,h4⟩:=ax.1 h2;obtain rfl:=ay.1 h4;split at h1 <;> try (cases h1;done)
  rename_i hT;obtain⟨q1,q2,q3⟩:=w5 (P:=P) h (aF _) h3 aR (.inl ⟨rfl,rfl⟩);refine no (by rw[nG];rfl) λhN=> ?_
  subst hN;refine fin (.string (st.extract b.1 b.2)) ?_ (Zw _)
  rw[e1];simp[Instr.sliceAt,Instr.slice,run_underlying hT,q1]
 ·rename_i t l hl;rw[hl]at hx;obtain⟨ad,cap,vs,hy,arx,pY,si,uG⟩:=tq hx;obtain⟨h1,h2⟩:=aG.1 he;obtain⟨b,h3,h4⟩:=ax.1 h2;obtain rfl:=ay.1 h4;split at h1 <;> try (cases h1;done)
  rename_i z M8 La;obtain⟨e,hT,hz,sh⟩:=ou M8 La;have aoP:z=t.size:=by simpa using h1
  obtain⟨cap',q1,q2,q3,q4,_,_⟩:=sl e z ad _ cap b (by rw[hl];rfl) hT hz sh hy arx h3;refine fin _ q1 ?_
  rw[show ad7 mx (.d (.slice t) (cut l b.1 (b.2 - b.1)))= .d (.slice t) (cut l b.1 (b.2 - b.1)) by cases mx <;> rfl];refine cutR t z ad _ _ _ vs l b aoP si uG q2 q3 ?_ ?_ rfl au
  ·intro bb off e1 jb;rw[if_neg au,e1];simp[fC]
  ·intro jb;rw[if_neg au];have:=pY au;cases ad <;> simp_all
 ·rename_i hl;rw[hl]at hx;have hy:=kZ hx;obtain⟨h1,h2⟩:=aG.1 he;obtain⟨b,h3,h4⟩:=ax.1 h2;obtain rfl:=ay.1 h4;split at h1 <;> try (cases h1;done)
  rename_i z M8 La;obtain⟨e,hT,hz,sh⟩:=ou M8 La;obtain⟨cap',q1,q2,q3,q4,q6,q5⟩:=sl e z aJ 0 0 b (by rw[hl];rfl) hT hz sh hy (aF _) h3;have M5:b.1=0:=au;have Ro:b.2=0:=au;have Rp:cap'=0:=au;refine fin _ q1 ?_
  rw[show ad7 mx .dI= .dI by cases mx <;> rfl,M5,Ro,Rp];exact⟨_,by simp[V],rfl⟩
 ·rename_i id ver p c i len hl;rw[hl]at hx;obtain⟨ad,cap,hy,arx,pY,SX,fH⟩:=qO hx;obtain⟨r,aC9,he⟩:=ax.1 he;obtain⟨h1,h2⟩:=aG.1 he;obtain⟨b,h3,h4⟩:=ax.1 h2;obtain rfl:=ay.1 h4;split at h1 <;> try (cases h1;done)
  rename_i z M8 La;obtain⟨e,hT,hz,sh⟩:=ou M8 La;have aoP:z=r.2.1.size:=by simpa using h1
  obtain⟨cap',q1,q2,q3,q4,q6,q5⟩:=sl e z ad _ cap b (by rw[hl];rfl) hT hz sh hy arx h3;obtain⟨p',aEz,QT⟩:∃p',ad7 mx (.b8 id ver p (c+b.1*r.2.1.size) (i+b.1) (b.2 - b.1))= .b8 id ver p' (c+b.1*r.2.1.size) (i+b.1) (b.2 - b.1)/\(p'=[]->p=[]/\mx=aJ):=by
   cases mx with
   |none=>exact⟨p,rfl,λh=>⟨h,rfl⟩⟩
   |some m=>exact⟨p++ [.arr],rfl,λh=>by simp at h⟩
  refine fin _ q1 ?_
  rw[aEz];refine⟨_,?_,rfl⟩;simp only[V];refine⟨_,_,rfl,au,?_,SX,λhc=> ?_⟩
  ·intro jb;rw[if_neg au];have:=pY au;cases ad <;> simp_all
  ·have fH:=fH hc;cases hp:β id with
   |none=>
    have hp':(s.env w g β).β id=aJ:=hp;rw[hp']at fH ⊢;simp only at fH ⊢;obtain⟨rfl,rfl,rfl⟩:=fH;have Rp:cap'=0:=au;refine⟨by simp,au,au⟩
   |some pl=>
    have hp':(s.env w g β).β id=al pl:=hp;rw[hp']at fH ⊢;simp only at fH ⊢;refine⟨λhh=> ?_,λaIl ay7=> ?_⟩
    ·by_cases aCR:cap'=b.1
     ·rw[if_pos aCR];have aGT:b.1=0:=au;rw[aGT,my,cW];exact fH.1 (.inr au)
     ·rw[if_neg aCR,fH.1 au,<-aoP];simp[fC]
    ·obtain⟨e1,e2⟩:=QT aIl;have:=fH.2 e1 au;have:=q5 e2;omega
 ·rename_i id ver p n hl;rw[hl]at hx;obtain⟨ad,hy,SX,fH⟩:=tl hx;obtain⟨r,aC9,he⟩:=ax.1 he;obtain⟨h1,h2⟩:=aG.1 he;obtain⟨h5,h6⟩:=bR.1 h2;obtain⟨b,h3,h4⟩:=ax.1 h6;obtain rfl:=ay.1 h4;split at h1 <;> try (cases h1;done)
  rename_i z m M8 La;obtain⟨e,hT,hz,sh⟩:=xr M8 La;have aoP:z=r.2.1.size:=by simpa using h1
  rw[La,dB]at h3;refine no (by rw[hl];rfl) λhN=> ?_
  obtain⟨q1,q2,q3⟩:=ar e z m ad b hN hT hz sh hy h3;subst hN;obtain⟨fr,c0,cO,_⟩:=Oy rfl h.bM aC9;obtain⟨pl,hp,aiu⟩:=fH ⟨fr,c0,cO⟩;refine fin _ q1 ⟨_,?_,rfl⟩;simp only[ad7,V];refine⟨_,_,rfl,au,λ_=>rfl,SX,λ_=> ?_⟩;rw[hp];simp only;refine⟨λhh=> ?_,λaIl=>by simp at aIl⟩;rw[aiu];by_cases aCR:m=b.1
  ·have aGT:b.1=0:=au;rw[if_pos aCR,aGT,my,cW]
  ·rw[if_neg aCR,<-aoP,fC]
 ·rename_i n t l hl;rw[hl]at hx;obtain⟨bb,off,vs,hy,si,hR⟩:=mU hx;obtain⟨h1,h2⟩:=aG.1 he;obtain⟨b,h3,h4⟩:=ax.1 h2;obtain rfl:=ay.1 h4;split at h1 <;> try (cases h1;done)
  rename_i z m M8 La;obtain⟨e,hT,hz,sh⟩:=xr M8 La;simp only[av,dD]at h1;obtain⟨aoP,rfl⟩:=h1;refine no (by rw[hl];rfl) λhN=> ?_
  obtain⟨q1,q2,q3⟩:=ar e z m _ b hN hT hz sh hy h3;subst hN;simp only[cI]at hR;obtain⟨hlen,uG⟩:=hR;refine fin _ q1 (cutR t z (al ⟨bb,off,aJ⟩) _ _ _ vs l b aoP si uG q2 au ?_ (λ_=>rfl) rfl au);intro bb' off' e1 jb;simp only[az,Addr.mk.injEq,eG]at e1;obtain⟨rfl,rfl⟩:=e1;rw[if_neg au,fC]
 ·simp only[aw]at he
end
end Go.Ab
namespace Go.Ab
section
variable {P:aN} {C:Ctx} {g:Nat->lQ} {β:Id->Option Pl} {s:AS} {a:Act} {w:bU} {o:Oper}
theorem Tc(h:Inv C g β s a w){T:TypeId}{x y:bJ}(ho:o.op= .indexAddr T x y){i:Int}(hi:(asInt (s.ev y)).eval=al i){v:aD}(he:(rk P s T (s.ev x) i).eval=al v):fS P o a w (gT C (s.put o.dst v)):=by
 have hx:=h.ev x;obtain⟨k,hy⟩:=yL (h.ev y) hi;have fin:∀z,(Instr.indexAt T (a.eval x) (a.eval y)).run P w= .ok z w->VS (s.env w g β) v z->fS P o a w (gT C (s.put o.dst v)):=by intro z h1 h2;exact h.value h2 (eu (f:=Instr.indexAt T (a.eval x) (a.eval y)) (by simp only[execOp,ho]) h1)
 have sl:∀(e:TypeId) (z:Nat) (ad:Addr) (len cap:Nat),P.underlying T=al (.slice e)->P.cellsOf e=z->0 < z->a.eval x= .slice (al ad) len cap->0<=i/\i < (len:Int)->
   (Instr.indexAt T (a.eval x) (a.eval y)).run P w= .ok (.pointer (al (ad.add (i.toNat*z)))) w:=by
  intro e z ad len cap hT hz sh hv hb;rw[hv,hy];simp[Instr.indexAt,asIntOf,run_underlying hT,hb,oU hz sh]
 have ar:∀(e:TypeId) (z n:Nat) (ad:Addr),P.underlying T=al (.array n e)->P.cellsOf e=z->0 < z->a.eval x= .pointer (al ad)->0<=i/\i < (n:Int)->
   (Instr.indexAt T (a.eval x) (a.eval y)).run P w= .ok (.pointer (al (ad.add (i.toNat*z)))) w:=by
  intro e z n ad hT hz sh hv hb;rw[hv,hy];simp[Instr.indexAt,Instr.sureAddr,asIntOf,run_underlying hT,hb,oU hz sh]
 have elt:∀(t:Ty) (z:Nat) (bb off:Nat) (vs:List Value) (l:List t.den),z=t.size->wz (s.env w g β) (al ⟨bb,off,aJ⟩) vs->bo (cI (s.env w g β) t) vs l->0<=i/\i < (l.length:Int)->
   VS (s.env w g β) (.eN t (nth t l i.toNat)) (.pointer (al ⟨bb,off+i.toNat*z,aJ⟩)):=by
  intro t z bb off vs l hz hr hc hb;subst hz;have jb:i.toNat < l.length:=au;rw[Ub jb];obtain⟨hp,_⟩:=Mt hc jb;refine⟨_,?_,rfl⟩;simp only[V];refine⟨_,_,_,rfl,λj v hj=> ?_,hp⟩;rw[db]at hj;split at hj
  ·rw[fD]at hj;obtain⟨b',o',e,hh⟩:=hr _ v hj;simp only[az,Addr.mk.injEq,eG]at e;obtain⟨rfl,rfl⟩:=e;exact⟨_,_,rfl,by rw[fN];exact hh⟩
  ·cases hj
 unfold rk at he;split at he
 ·rename_i t l hl;rw[hl]at hx;obtain⟨ad,cap,vs,hv,arx,pY,si,uG⟩:=tq hx;obtain⟨h1,h2⟩:=aG.1 he;obtain⟨h3,h4⟩:=bR.1 h2;obtain rfl:=ay.1 h4;simp only[aW]at h3;split at h1 <;> try (cases h1;done)
  rename_i z M8 La;obtain⟨e,hT,hz,sh⟩:=ou M8 La;have aoP:z=t.size:=by simpa using h1
  have hlen:=bo.length (λc x hx=>cI.size hx) uG;have jb:i.toNat < l.length:=au;have h0:0 < vs.length:=by rw[hlen];exact Nat.mul_pos au au
  obtain⟨bb,off,e1,_⟩:=si 0 vs[0] (by simp[h0]);subst e1;have:=sl e z _ _ cap hT hz sh hv h3;rw[fC]at this;exact fin _ this (elt t z bb off vs l aoP si uG h3)
 ·rename_i n t l hl;rw[hl]at hx;obtain⟨bb,off,vs,hv,si,hR⟩:=mU hx;obtain⟨h1,h2⟩:=aG.1 he;obtain⟨h3,h4⟩:=bR.1 h2;obtain rfl:=ay.1 h4;simp only[aW]at h3;split at h1 <;> try (cases h1;done)
  rename_i z m M8 La;obtain⟨e,hT,hz,sh⟩:=xr M8 La;simp only[av,dD]at h1;obtain⟨aoP,rfl⟩:=h1;simp only[cI]at hR;have:=ar e z m _ hT hz sh hv h3;rw[fC]at this;exact fin _ this (elt t z bb off vs l aoP si hR.2 (by rw[hR.1];exact h3))
 ·rename_i id ver p c j len hl;rw[hl]at hx;obtain⟨ad,cap,hv,arx,pY,SX,fH⟩:=qO hx;obtain⟨r,aC9,he⟩:=ax.1 he;obtain⟨h1,h2⟩:=aG.1 he;obtain⟨h3,h4⟩:=bR.1 h2;obtain rfl:=ay.1 h4;simp only[aW]at h3;split at h1 <;> try (cases h1;done)
  rename_i z M8 La;obtain⟨e,hT,hz,sh⟩:=ou M8 La;have aoP:z=r.2.1.size:=by simpa using h1
  have hs:=pY au;obtain⟨ad',rfl⟩:=bA.1 hs;refine fin _ (sl e z ad' len cap hT hz sh hv h3) ⟨_,?_,rfl⟩;simp only[V];refine⟨_,rfl,SX,λhc=> ?_⟩;have fH:=fH hc;cases hp:β id with
  |none=>
   have hp':(s.env w g β).β id=aJ:=hp;rw[hp']at fH;exact absurd fH.1 (by simp)
  |some pl=>
   have hp':(s.env w g β).β id=al pl:=hp;rw[hp']at fH;have e1:=fH.1 (.inl au);simp only[az]at e1;exact⟨pl,hp,by rw[e1,fC,aoP]⟩
 ·rename_i id ver p n hl;rw[hl]at hx;obtain⟨ad,hv,SX,fH⟩:=tl hx;obtain⟨h1,h2⟩:=aG.1 he;obtain⟨h3,h4⟩:=bR.1 h2;obtain rfl:=ay.1 h4;simp only[aW]at h3;split at h1 <;> try (cases h1;done)
  rename_i z m M8 La;obtain⟨e,hT,hz,sh⟩:=xr M8 La;rw[La,dB]at h3;refine fin _ (ar e z m ad hT hz sh hv h3) ⟨_,?_,rfl⟩;simp only[V];refine⟨_,rfl,SX,λhc=> ?_⟩;obtain⟨pl,hp,aiu⟩:=fH hc;exact⟨pl,hp,by rw[aiu,fC,M8,dB]⟩
 ·simp only[aw]at he
theorem DN{T:TypeId}{f off:Nat}{ft:TypeId}(h:fieldInfo P T f=al (off,ft)):∃fs fd,P.underlying T=al (.struct fs)/\fs[f]? =al fd/\fd.offset=off/\fd.type=ft:=by
 unfold fieldInfo at h;split at h
 ·rename_i fs hT;split at h
  ·rename_i fd hf;simp only[az,cM]at h;exact⟨fs,fd,hT,hf,h.1,h.2⟩
  ·cases h
 ·cases h
theorem xS{E:Env}:∀(x:aD) (f off:Nat) (v:aD) (cs:List Value),V E x cs->partOf x f=al (off,v)->V E v ((cs.drop off).take v.size)/\off+v.size<=cs.length:=by
 intro x f
 induction f generalizing x with
 |zero=>
  intro off v cs hx h;cases x with
  |d t y=>
   cases t <;> simp only[partOf,reduceCtorEq]at h;rename_i ta tb;simp only[az,cM]at h;obtain⟨rfl,rfl⟩:=h;simp only[V,cI]at hx ⊢;obtain⟨ca,cb,rfl,ha,hb⟩:=hx;have:=ha.size;simp only[aD.size,aQ,aj,ba];rw[kA this];exact⟨ha,au⟩
  |pr b c=>
   simp only[partOf,az,cM]at h;obtain⟨rfl,rfl⟩:=h;simp only[V]at hx;obtain⟨ca,cb,rfl,ha,hb⟩:=hx;have:=ha.size;simp only[aQ,aj,ba];rw[kA this];exact⟨ha,au⟩
  |_=>simp only[partOf,reduceCtorEq]at h
 |succ f ih=>
  intro off v cs hx h;have second:∀(ca cb:List Value) (n:Nat) (b:aD),cs=ca++cb->ca.length=n->V E b cb->(match partOf b f with | some (o,v)=>al (n+o,v) | none=>aJ)=al (off,v)->V E v ((cs.drop off).take v.size)/\off+v.size<=cs.length:=by
   intro ca cb n b e hl hb hh;cases hp:partOf b f with
   |none=>rw[hp]at hh;cases hh
   |some r=>
    obtain⟨o',v'⟩:=r;rw[hp]at hh;simp only[az,cM]at hh;obtain⟨rfl,rfl⟩:=hh;obtain⟨h1,h2⟩:=ih b o' v' cb hb hp;subst e;rw[<-hl,jU,gj au,aV,Nat.add_sub_cancel_left];exact⟨h1,by simp only[aj];omega⟩
  cases x with
  |d t y=>
   cases t with
   |pair ta tb=>
    simp only[partOf]at h;simp only[V,cI]at hx;obtain⟨ca,cb,e,ha,hb⟩:=hx;exact second ca cb ta.size (.d tb y.2) e ha.size (by simpa only[V]using hb) h
   |_=>simp only[partOf,reduceCtorEq]at h
  |pr b c=>
   simp only[partOf]at h;simp only[V]at hx;obtain⟨ca,cb,e,ha,hb⟩:=hx;exact second ca cb b.size c e ha.size hb h
  |_=>simp only[partOf,reduceCtorEq]at h
theorem SL(h:Inv C g β s a w){T:TypeId}{x:bJ}{f:Nat}(ho:o.op= .fieldAddr T x f){v:aD}(he:(CY P T (s.ev x) f).eval=al v):fS P o a w (gT C (s.put o.dst v)):=by
 have hx:=h.ev x;unfold CY at he;split at he
 ·rename_i off ft hf;obtain⟨fs,fd,hT,aGW,rfl,rfl⟩:=DN hf;obtain⟨h1,h2⟩:=aG.1 he;have hz:P.cellsOf fd.type≠0:=by simpa using h1
  have run:∀bb n,a.eval x= .pointer (al ⟨bb,n,aJ⟩)->(Instr.fieldAt T (a.eval x) f).run P w= .ok (.pointer (al ⟨bb,n+fd.offset,aJ⟩)) w:=by intro bb n hy;rw[hy];simp[Instr.fieldAt,run_underlying hT,aGW,Instr.sureAddr,fieldPlace,oU (P:=P) (e:=fd.type) rfl au,hz,fC]
  have runS:∀ad,a.eval x= .pointer (al ad)->(Instr.fieldAt T (a.eval x) f).run P w= .ok (.pointer (al (ad.add fd.offset))) w:=by intro ad hy;rw[hy];simp[Instr.fieldAt,run_underlying hT,aGW,Instr.sureAddr,fieldPlace,oU (P:=P) (e:=fd.type) rfl au,hz]
  have fin:∀z,(Instr.fieldAt T (a.eval x) f).run P w= .ok z w->VS (s.env w g β) v z->fS P o a w (gT C (s.put o.dst v)):=by intro z h1 h2;exact h.value h2 (eu (f:=Instr.fieldAt T (a.eval x) f) (by simp only[execOp,ho]) h1)
  split at h2
  ·rename_i id ver p n hl;rw[hl]at hx;obtain rfl:=ay.1 h2;obtain⟨ad,hy,SX,fH⟩:=tl hx;refine fin _ (runS ad hy) ⟨_,?_,rfl⟩;simp only[V];refine⟨_,rfl,SX,λhc=> ?_⟩;obtain⟨pl,hp,aiu⟩:=fH hc;exact⟨pl,hp,by rw[aiu,fC]⟩
  ·rename_i t y hl;rw[hl]at hx;obtain⟨bb,off,vs,hy,si,hR⟩:=mU hx;split at h2
   ·rename_i o' t' y' hp;obtain⟨h3,h4⟩:=aG.1 h2;obtain rfl:=ay.1 h4;have h3:fd.offset=o':=by simpa using h3
    obtain⟨hV,hle⟩:=xS (.d t y) f o' (.d t' y') vs (by simpa only[V]using hR) hp;refine fin _ (run bb off hy) ⟨_,?_,rfl⟩;simp only[V]at hV ⊢;refine⟨_,_,_,rfl,λj u hj=> ?_,hV⟩;rw[db]at hj;split at hj
    ·rw[fD]at hj;obtain⟨b',o'',e,hh⟩:=si _ u hj;simp only[az,Addr.mk.injEq,eG]at e;obtain⟨rfl,rfl⟩:=e;exact⟨_,_,rfl,by rw[h3,fN];exact hh⟩
    ·cases hj
   ·simp only[aw]at h2
  ·rename_i t q hl;obtain⟨y,e,h5⟩:=lW.1 h2;subst e;rw[hl]at hx;have hx:=KX hx;obtain⟨bb,off,vs,hy,si,hR⟩:=mU hx;split at h5
   ·rename_i o' t' y' hp;obtain⟨h3,h4⟩:=aG.1 h5;obtain rfl:=ay.1 h4;have h3:fd.offset=o':=by simpa using h3
    obtain⟨hV,hle⟩:=xS (.d t y) f o' (.d t' y') vs (by simpa only[V]using hR) hp;refine fin _ (run bb off hy) ⟨_,?_,rfl⟩;simp only[V]at hV ⊢;refine⟨_,_,_,rfl,λj u hj=> ?_,hV⟩;rw[db]at hj;split at hj
    ·rw[fD]at hj;obtain⟨b',o'',e,hh⟩:=si _ u hj;simp only[az,Addr.mk.injEq,eG]at e;obtain⟨rfl,rfl⟩:=e;exact⟨_,_,rfl,by rw[h3,fN];exact hh⟩
    ·cases hj
   ·simp only[aw]at h5
  ·rename_i t q hl;obtain⟨y,e,h5⟩:=lW.1 h2;subst e;rw[hl]at hx;have hx:=Le hx;obtain⟨bb,off,vs,hy,si,hR⟩:=mU hx;split at h5
   ·rename_i o' t' y' hp;obtain⟨h3,h4⟩:=aG.1 h5;obtain rfl:=ay.1 h4;have h3:fd.offset=o':=by simpa using h3
    obtain⟨hV,hle⟩:=xS (.d t y.2) f o' (.d t' y') vs (by simpa only[V]using hR) hp;refine fin _ (run bb off hy) ⟨_,?_,rfl⟩;simp only[V]at hV ⊢;refine⟨_,_,_,rfl,λj u hj=> ?_,hV⟩;rw[db]at hj;split at hj
    ·rw[fD]at hj;obtain⟨b',o'',e,hh⟩:=si _ u hj;simp only[az,Addr.mk.injEq,eG]at e;obtain⟨rfl,rfl⟩:=e;exact⟨_,_,rfl,by rw[h3,fN];exact hh⟩
    ·cases hj
   ·simp only[aw]at h5
  ·simp only[aw]at h2
 ·simp only[aw]at he
theorem Wl{x:aD}{f:Nat}{r:Nat×aD}(h:partOf x f=al r):x.agg=aT/\x.eQ=aT:=by
 cases x with
 |d t y=>cases t <;> cases f <;> simp[partOf]at h <;> exact⟨rfl,rfl⟩
 |pr b c=>exact⟨rfl,rfl⟩
 |_=>cases f <;> simp[partOf]at h
theorem EN{T:TypeId}{v:aD}(h:fits P T v=aT):I6 P T v.agg=aT/\P.cellsOf T=v.size/\v.eQ=aT:=by unfold fits at h;simp only[av,dD]at h;exact⟨h.2,h.1.2,h.1.1⟩
theorem ail(h:Inv C g β s a w){T:TypeId}{x:bJ}{f:Nat}(ho:o.op= .field T x f){v:aD}(he:(aax P T (s.ev x) f).eval=al v):fS P o a w (gT C (s.put o.dst v)):=by
 have hx:=h.ev x;unfold aax at he;split at he
 ·rename_i off ft o' v' hf hp;obtain⟨fs,fd,hT,aGW,rfl,rfl⟩:=DN hf;obtain⟨h1,h2⟩:=aG.1 he;obtain rfl:=ay.1 h2;simp only[av,dD]at h1;obtain⟨rfl,SZ⟩:=h1;obtain⟨JT,aiw⟩:=Wl hp;obtain⟨cs,hV,hO⟩:=hx.eQ aiw;rw[JT]at hO;have hy:a.eval x= .agg cs.toArray:=hO;obtain⟨hVp,hle⟩:=xS _ _ _ _ cs hV hp;obtain⟨q1,q2,q3⟩:=EN SZ;obtain⟨y,hr,hOy⟩:=vP (w:=w) q1 q2 (λhh=>aD.agv hh) hle;refine h.value (VS.of hVp hOy) (eu (f:=Instr.field T (a.eval x) f) (by simp only[execOp,ho]) ?_);rw[hy];simp[Instr.field,run_underlying hT,aGW,asAgg,hr]
 ·simp only[aw]at he
theorem aiK(h:Inv C g β s a w){T:TypeId}{x y:bJ}(ho:o.op= .index T x y){i:Int}(hi:(asInt (s.ev y)).eval=al i){v:aD}(he:(aaN P T (s.ev x) i).eval=al v):fS P o a w (gT C (s.put o.dst v)):=by
 have hx:=h.ev x;obtain⟨k,hy⟩:=yL (h.ev y) hi;have fin:∀z,(Instr.index T (a.eval x) (a.eval y)).run P w= .ok z w->VS (s.env w g β) v z->fS P o a w (gT C (s.put o.dst v)):=by intro z h1 h2;exact h.value h2 (eu (f:=Instr.index T (a.eval x) (a.eval y)) (by simp only[execOp,ho]) h1)
 unfold aaN at he;split at he
 ·rename_i n t l m e hl hT;rw[hl]at hx;obtain⟨h1,h2⟩:=aG.1 he;obtain⟨h3,h4⟩:=bR.1 h2;obtain rfl:=ay.1 h4;simp only[av,dD,aW]at h1 h3;obtain⟨rfl,SZ⟩:=h1;obtain⟨q1,q2,q3⟩:=EN SZ;obtain⟨cs,hV,hO⟩:=hx.eQ rfl;have aKW:a.eval x= .agg cs.toArray:=hO;simp only[V,cI]at hV;obtain⟨hlen,uG⟩:=hV;have jb:i.toNat < l.length:=au;obtain⟨hp,hle⟩:=Mt uG jb;have q2':P.cellsOf e=t.size:=q2;have q1':I6 P e t.agg=aT:=q1;obtain⟨y',hr,hOy⟩:=vP (w:=w) q1' q2' vR hle;obtain⟨j,hj,_⟩:=xG q1';rw[<-Ub jb]at hp;refine fin y' ?_ (VS.of (by simpa only[V]using hp) hOy)
  rw[aKW,hy];have rM:=run_sizeOf hj w;rw[<-mJ hj,q2']at rM;simp[Instr.index,asIntOf,run_underlying hT,h3,rM,hr]
 ·rename_i st hl hT;rw[hl]at hx;obtain⟨h3,h4⟩:=bR.1 he;obtain rfl:=ay.1 h4;simp only[aW]at h3;have e1:=FT hx;have jb:i.toNat < st.data.toList.length:=by
   have:st.size=st.data.toList.length:=by rw[cS];rfl
   omega
  have aHZ:st[i.toNat]? =al (st.data.toList[i.toNat]):=by have hlt':i.toNat < st.size:=au;rw[getElem?_pos st i.toNat hlt'];rfl
  refine fin (.int .u8 ((st.data.toList.getD i.toNat 0).toNat:Int)) ?_ (lu _ _)
  rw[e1,hy];simp[Instr.index,asIntOf,run_underlying hT,h3.1,aHZ,aI,bQ jb]
 ·simp only[aw]at he
theorem aB9{E:Env}:∀(c:aD) (vs:List Value) (i:Nat) (v:aD),VC E c vs->c.list[i]? =al v->∃y,vs[i]? =al y/\VS E v y:=by
 intro c
 induction c with
 |cons x y _ ih=>
  intro vs i v hc hi;simp only[VC]at hc;obtain⟨u,vs',cs,rfl,hV,hO,hc⟩:=hc;cases i with
  |zero=>
   simp only[aD.list,fX,az]at hi;subst hi;exact⟨u,rfl,VS.of hV hO⟩
  |succ i=>
   simp only[aD.list,lR]at hi ⊢;exact ih vs' i v hc hi
 |_=>intro vs i v hc hi;simp[aD.list]at hi
theorem aaq(h:Inv C g β s a w){x:bJ}{i:Nat}(ho:o.op= .extract x i){v:aD}(he:(Out.opt ((s.ev x).list[i]?)).eval=al v):fS P o a w (gT C (s.put o.dst v)):=by
 have hx:=h.ev x;have he:=ja.1 he;cases hc:s.ev x with
 |cons p q=>
  rw[hc]at hx he;obtain⟨vs,hy,hVC⟩:=hx;obtain⟨y,hv,hVS⟩:=aB9 _ vs i v hVC he;refine h.value hVS (eu (f:=Instr.extract (a.eval x) i) (by simp only[execOp,ho]) ?_);rw[hy];simp[Instr.extract,hv]
 |_=>rw[hc]at he;simp[aD.list]at he
theorem akS(h:Inv C g β s a w):∀(l:List bJ),yR (q9 s l)=aT->VC (s.env w g β) (q9 s l) (l.map a.eval)
 |[],_=>by simp[q9,VC]
 |x::xs,hc=>by simp only[q9,yR,av]at hc;obtain⟨cs,hV,hO⟩:=(h.ev x).eQ hc.1;simp only[q9,VC,cn];exact⟨_,_,cs,rfl,hV,hO,akS h xs hc.2⟩
theorem WG(h:Inv C g β s a w){f:fR}{first caps:Array bJ}(ho:o.op= .makeFunc (.func f) first caps)(h1:first.isEmpty=aT)(h2:yR (q9 s caps.toList)=aT):
  fS P o a w (gT C (s.put o.dst (.fn f (q9 s caps.toList)))):=by
 have hf:first= #[]:=by simpa using h1
 refine h.value (x:= .func (.func f) #[] (caps.toList.map a.eval).toArray) ⟨_,?_,rfl⟩ (eu (f:=Instr.makeFunc (.func f) (first.map a.eval) (caps.map a.eval)) (by simp only[execOp,ho]) ?_)
 ·simp only[V];exact⟨_,rfl,akS h _ h2⟩
 ·subst hf;have:caps.map a.eval=(caps.toList.map a.eval).toArray:=by apply gr;simp
  simp[Instr.makeFunc,this]
theorem akx(h:Inv C g β s a w){T:TypeId}{x:bJ}(ho:o.op= .sliceToArrayPointer T x){s':AS}(he:(JE P s o.dst T (s.ev x)).eval=al s'):fS P o a w (gT C s'):=by
 have hx:=h.ev x;unfold JE at he;split at he
 ·rename_i n e hT;split at he
  ·rename_i t ht;obtain⟨h1,h2⟩:=aG.1 he;obtain⟨l,h3,h4⟩:=ax.1 h2;obtain⟨h5,h6⟩:=bR.1 h4;obtain rfl:=ay.1 h6;simp only[av,ct,dD,gv,aW]at h1 h5;obtain⟨⟨hz,hn⟩,aDi⟩:=h1;obtain⟨g1,i1,e1,t1,cs,hR,hO⟩:=zL h hx h3;simp only[cI]at hR;obtain⟨ad,cap,vs,rfl,arx,pY,si,uG⟩:=hR;have hO': [Value.slice ad (ag l) cap]=[a.eval x]:=hO;have hy:a.eval x= .slice ad (ag l) cap:=by simpa using hO'.symm
   have hlen:=bo.length (λc x hx=>cI.size hx) uG;have h0:0 < vs.length:=by rw[hlen];exact Nat.mul_pos au au
   obtain⟨bb,off,e2,_⟩:=si 0 vs[0] (by simp[h0]);subst e2;refine .inl ⟨.pointer (al ⟨bb,off,aJ⟩),w,?_,g1,β,i1.put o.dst ⟨_,?_,rfl⟩⟩
   ·refine eu (f:=Instr.arrayAt T (a.eval x)) (by simp only[execOp,ho]) ?_
    rw[hy];have:¬ag l < n:=au;simp[Instr.arrayAt,run_underlying hT,this]
   ·simp only[V];refine⟨bb,off,vs.take (n*t.size),rfl,λj u hj=> ?_,?_⟩
    ·rw[db]at hj;split at hj
     ·exact si j u hj
     ·cases hj
    ·simp only[cI];exact⟨by simp;omega,bo.take (λ_ _ hx=>hx.size) n uG⟩
  ·simp only[aw]at he
 ·simp only[aw]at he
end
end Go.Ab
namespace Go.Ab
theorem Tr{α:Type}{f:α->α->Bool}(hf:∀x y,f x y=aT->x=y):∀ {xs ys:List α},mO f xs ys=aT->xs=ys
 |[],[],_=>rfl
 |x::xs,y::ys,h=>by simp only[mO,av]at h;rw[hf _ _ h.1,Tr hf h.2]
 |[],_::_,h=>by simp[mO]at h
 |_::_,[],h=>by simp[mO]at h
theorem beq_eq:∀(t:Ty) (x y:t.den),t.comp=aT->t.beq x y=aT->x=y
 | .int _,x,y,_,h=>by simpa[Ty.beq]using h
 | .bool,x,y,_,h=>by simpa[Ty.beq]using h
 | .str,x,y,_,h=>by
  have h:(x:ByteArray).toList=(y:ByteArray).toList:=by simpa[Ty.beq]using h
  rw[Go.ByteArray.toList_eq,Go.ByteArray.toList_eq]at h;exact ByteArray.ext (Array.toList_inj.1 h)
 | .slice _,_,_,h,_=>by simp[Ty.comp]at h
 | .unit,_,_,_,_=>rfl
 | .pair a b,x,y,hc,h=>by simp only[Ty.comp,av]at hc;simp only[Ty.beq,av]at h;exact Prod.ext (beq_eq a _ _ hc.1 h.1) (beq_eq b _ _ hc.2 h.2)
 | .arr _ t,x,y,hc,h=>Tr (λx y=>beq_eq t x y hc) h
 | .gO t,x,y,_,h=> @of_decide_eq_true _ ((Ty.gO t).arw x y) h
theorem cI.aaR{E:Env}{t:Ty}{cs:List Value}{x:(Ty.gO t).den}(h:cI E (.gO t) cs x):cs=[.pointer ((x:Option (Nat×t.den)).map λp=>⟨p.1,0,aJ⟩)]:=by
 simp only[cI]at h;cases hx:(x:Option (Nat×t.den)) with
 |none=>exact h.1 hx
 |some u=>
  obtain⟨_,_,_,e,_⟩:=h.2 u hx;exact e
def Plain(c:Value):Prop:=∀n,Instr.sameBits n c c=aT
theorem cI.plain{E:Env}:∀ {t:Ty} {cs:List Value} {x:t.den},t.comp=aT->cI E t cs x->∀c∈cs,Plain c
 | .int _,_,_,_,h,c,hc,n=>by simp only[cI]at h;rw[h,bq]at hc;subst hc;cases n <;> simp[Instr.sameBits]
 | .bool,_,_,_,h,c,hc,n=>by simp only[cI]at h;rw[h,bq]at hc;subst hc;cases n <;> simp[Instr.sameBits]
 | .str,_,_,_,h,c,hc,n=>by simp only[cI]at h;rw[h,bq]at hc;subst hc;cases n <;> exact(Go.MapKept.bytes_beq _ _).2 rfl
 | .slice _,_,_,hc,_,_,_,_=>by simp[Ty.comp]at hc
 | .unit,_,_,_,h,c,hc,_=>by simp only[cI]at h;rw[h]at hc;cases hc
 | .pair a b,_,_,hp,h,c,hc,n=>by
  simp only[Ty.comp,av]at hp;simp only[cI]at h;obtain⟨ca,cb,rfl,ha,hb⟩:=h;rcases bD.1 hc with hc | hc
  ·exact cI.plain hp.1 ha c hc n
  ·exact cI.plain hp.2 hb c hc n
 | .arr _ t,_,_,hp,h,c,hc,n=>by simp only[cI]at h;exact bo.all (p:=Plain) (λc x hx v hv=>cI.plain (t:=t) hp hx v hv) h.2 c hc n
 | .gO t,_,x,_,h,c,hc,n=>by rw[h.aaR,bq]at hc;subst hc;cases n <;> simp[Instr.sameBits]
theorem cI.aCx{E:Env}:∀ {t:Ty} {cs cs':List Value} {x:t.den},t.comp=aT->cI E t cs x->cI E t cs' x->cs=cs'
 | .int _,_,_,_,_,h,h'=>by simp only[cI]at h h';rw[h,h']
 | .bool,_,_,_,_,h,h'=>by simp only[cI]at h h';rw[h,h']
 | .str,_,_,_,_,h,h'=>by simp only[cI]at h h';rw[h,h']
 | .slice _,_,_,_,hc,_,_=>by simp[Ty.comp]at hc
 | .unit,_,_,_,_,h,h'=>by simp only[cI]at h h';rw[h,h']
 | .pair a b,_,_,_,hp,h,h'=>by simp only[Ty.comp,av]at hp;simp only[cI]at h h';obtain⟨ca,cb,rfl,ha,hb⟩:=h;obtain⟨ca',cb',rfl,ha',hb'⟩:=h';rw[cI.aCx hp.1 ha ha',cI.aCx hp.2 hb hb']
 | .arr _ t,cs,cs',x,hp,h,h'=>by
  simp only[cI]at h h';have key:∀(l:List t.den) (cs cs':List Value),bo (cI E t) cs l->bo (cI E t) cs' l->cs=cs':=by
   intro l
   induction l with
   |nil=>intro cs cs' h h';have h:cs=[]:=h;have h':cs'=[]:=h';rw[h,h']
   |cons x l ih=>
    intro cs cs' h h';obtain⟨c,r,rfl,hx,hr⟩:=h;obtain⟨c',r',rfl,hx',hr'⟩:=h';rw[cI.aCx (t:=t) hp hx hx',ih _ _ hr hr']
  exact key _ _ _ h.2 h'.2
 | .gO t,_,_,_,_,h,h'=>by rw[h.aaR,h'.aaR]
theorem BL.aCx{E:Env}{t:Ty}{v v':Value}{x:t.den}(hc:t.comp=aT)(h:BL E t v x)(h':BL E t v' x):v=v':=by
 obtain⟨cs,h1,h2⟩:=h;obtain⟨cs',h1',h2'⟩:=h';have e:=cI.aCx hc h1 h1';subst e;unfold fY at h2 h2';cases ha:t.agg with
 |true=>rw[ha]at h2 h2';rw[h2,h2']
 |false=>
  rw[ha]at h2 h2';have h2:cs=[v]:=h2;have h2':cs=[v']:=h2';rw[h2]at h2';simpa using h2'
theorem BL.same{E:Env}{t:Ty}{v:Value}{x:t.den}(hc:t.comp=aT)(h:BL E t v x):Instr.sameBits 10000 v v=aT:=by
 obtain⟨cs,h1,h2⟩:=h;have hp:=cI.plain hc h1;unfold fY at h2;cases ha:t.agg with
 |true=>
  rw[ha]at h2;have h2:v= .agg cs.toArray:=h2;subst h2;simp only[Instr.sameBits,beq_self_eq_true,cH,c7];intro p hp';obtain⟨a,b⟩:=p;have:∀(l:List Value),(a,b)∈l.zip l->a∈l/\a=b:=by
   intro l
   induction l with
   |nil=>intro h;simp at h
   |cons y l ih=>
    intro h;simp only[List.zip_cons_cons,cg,cM]at h;rcases h with⟨rfl,rfl⟩ | h
    ·exact⟨aL,rfl⟩
    ·exact⟨aK _ (ih h).1,(ih h).2⟩
  obtain⟨hm,rfl⟩:=this _ hp';exact hp a (by simpa using hm) _
 |false=>
  rw[ha]at h2;have h2:cs=[v]:=h2;subst h2;exact hp v (by simp) _
theorem aqF{P:aN}{w:bU}{E:Env}{t:Ty}{v:Value}{x:t.den}(hc:t.comp=aT)(h:BL E t v x):(Instr.keyThatStays v v).run P w= .ok v w:=by unfold Instr.keyThatStays;rw[if_pos (h.same hc)];rfl
section
variable {P:aN} {w:bU} {E:Env}
theorem y7:∀(n:Nat) (T:TypeId) (t:Ty),rK P n T t=aT->t.comp=aT
 | 0,T,t,h=>by simp[rK]at h
 |n+1,T,t,h=>by
  simp only[rK]at h;split at h
  ·rfl
  ·rfl
  ·rfl
  ·rfl
  ·rename_i m e m' t' hT;simp only[av]at h;exact y7 n e t' h.2
  ·rename_i t0 _ _ fs hT;simp only[av]at h;have key:∀(fl:List Field) (t:Ty) (off:Nat),IP P (rK P n) fl t off=aT->t.comp=aT:=by
    intro fl
    induction fl with
    |nil=>intro t off hc;cases t <;> first | rfl | (simp[IP]at hc;done)
    |cons f fl ih=>
     intro t off hc;cases t <;> first | (simp[IP]at hc;done) | skip
     rename_i ta tb;simp only[IP,av]at hc;simp only[Ty.comp,av];exact⟨y7 n _ _ hc.1.2,ih tb _ hc.2⟩
   exact key _ _ _ h.2
  ·cases h
theorem od(em:Bool):∀(n:Nat) (T:TypeId) (t:Ty),rK P n T t=aT->∀(d:Nat),n<=d->∀(v:Value) (x:t.den),BL E t v x->(Instr.checkKey em d T v).run P w= .ok () w
 | 0,T,t,h,_,_,_,_,_=>by simp[rK]at h
 |n+1,T,t,h,0,hd,_,_,_=>au
 |n+1,T,t,h,d+1,hd,v,x,⟨cs,hx,hv⟩=>by
  simp only[rK]at h;split at h
  ·rename_i hT;simp only[cI]at hx;have e1:cs=[v]:=hv;rw[hx]at e1;simp only[cz,eG]at e1;subst e1;simp[Instr.checkKey,run_underlying hT]
  ·rename_i hT;simp only[cI]at hx;have e1:cs=[v]:=hv;rw[hx]at e1;simp only[cz,eG]at e1;subst e1;simp[Instr.checkKey,run_underlying hT]
  ·rename_i hT;simp only[cI]at hx;have e1:cs=[v]:=hv;rw[hx]at e1;simp only[cz,eG]at e1;subst e1;simp[Instr.checkKey,run_underlying hT]
  ·rename_i U t' hT;simp only[cI]at hx;have e1:cs=[v]:=hv;subst e1;cases aoN:(x:Option (Nat×t'.den)) with
   |none=>
    have e2:=hx.1 aoN;simp only[cz,eG]at e2;subst e2;simp[Instr.checkKey,run_underlying hT]
   |some a=>
    obtain⟨_,_,_,e2,_⟩:=hx.2 a aoN;simp only[cz,eG]at e2;subst e2;simp[Instr.checkKey,run_underlying hT]
  ·rename_i m e m' t' hT;simp only[av,dD]at h;obtain⟨⟨⟨⟨rfl,aDi⟩,rM⟩,JT⟩,uG⟩:=h;simp only[cI]at hx;obtain⟨aIa,aHW⟩:=hx;have e1:v= .agg cs.toArray:=hv;subst e1;obtain⟨i,hi,aex⟩:=xG JT;have hsz':=rM;rw[mJ hi]at hsz';simp only[Instr.checkKey,cd,run_underlying hT,bH];simp only[Std.Legacy.Range.forIn_eq_forIn_range'];have hm:([:m]:Std.Legacy.Range).size=m:=by simp[Std.Legacy.Range.size]
   rw[hm];have ahe:∀c z,cI E t' c z->c.length=t'.size:=λc z hz=>hz.size
   have bx:t'.agg=aR->t'.size=1:=vR
   have key:∀(k:Nat) (x:List t'.den) (j:Nat),x.length=k->bo (cI E t') (cs.drop (j*t'.size)) x->
     (forIn (List.range' j k) () λi __s=>(do
      let __do_lift <-sizeOf e
      let __do_lift <-part e cs.toArray (i*__do_lift)
      Instr.checkKey em d e __do_lift
      pure (ForInStep.yield ()):Sem (ForInStep Unit))).run P w= .ok () w:=by
    intro k
    induction k with
    |zero=>intro x j _ _;rfl
    |succ k ih=>
     intro x j hx hcx';cases x with
     |nil=>simp at hx
     |cons x0 xs=>
      have gx:=bo.get ahe hcx' 0 (by simp);simp only[my,aQ,List.getElem_cons_zero]at gx;have lenx:((cs.drop (j*t'.size)).take t'.size).length=t'.size:=gx.size;have M8:t'.size≠0:=by simpa using aDi
      have aH6:j*t'.size+t'.size<=cs.length:=by simp only[cG,de]at lenx;omega
      obtain⟨ux,h1,o1⟩:=vP (w:=w) JT rM bx (cs:=cs) (off:=j*t'.size) aH6;have h3:=od em n e t' uG d au ux x0 ⟨_,gx,o1⟩;have nx:bo (cI E t') (cs.drop ((j+1)*t'.size)) xs:=by have:=bo.drop ahe 1 hcx';rw[gA]at this;simpa[eO]using this
      have:=ih xs (j+1) (by simpa using hx) nx;rw[List.range'_succ,List.forIn_cons];simp only[cd,run_sizeOf hi,hsz',h1,h3,bH,dY];exact this
   exact(bE (λr:Result Unit=>r.andThen λ_ w'=>Sem.run P (pure ()) w') (key m x 0 aIa (by simpa using aHW))).trans rfl
  ·rename_i t0 _ _ fs hT;simp only[av,ct]at h;obtain⟨nG,aCY⟩:=h;have JT:t0.agg=aT:=by cases hl:fs.toList <;> rw[hl]at aCY <;> cases t0 <;> first | rfl | (simp[IP]at aCY;done)
   rw[JT]at hv;have e1:v= .agg cs.toArray:=hv;subst e1
   have key:∀(fl:List Field) (t:Ty) (off:Nat),IP P (rK P n) fl t off=aT->∀(x:t.den),cI E t (cs.drop off) x->
     (forIn fl () λf __s=>(do
      if f.name≠ "_" then
       let __do_lift <-part f.type cs.toArray f.offset
       Instr.checkKey em d f.type __do_lift
       pure (ForInStep.yield ())
      else pure (ForInStep.yield ()):Sem (ForInStep Unit))).run P w= .ok () w:=by
    intro fl
    induction fl with
    |nil=>intro t off _ x _;rfl
    |cons f fl ih=>
     intro t off hc x hx;cases t <;> first | (simp[IP]at hc;done) | skip
     rename_i ta tb;simp only[IP,av,ct,dD,gv]at hc;obtain⟨⟨⟨⟨⟨⟨aIf,azd⟩,hz⟩,rM⟩,JT⟩,uG⟩,auc⟩:=hc;simp only[cI]at hx;obtain⟨xa,xb,ex,aF0,aID⟩:=hx;have bx:ta.agg=aR->ta.size=1:=vR;have lx:xa.length=ta.size:=aF0.size;have sx1:(cs.drop off).take ta.size=xa:=by rw[ex];exact kA lx
     have sx2:cs.drop (off+ta.size)=xb:=by rw[<-gA,ex];exact kz lx
     have sx3:off+ta.size<=cs.length:=by have:=bE ag ex;simp only[de,aj]at this;omega
     obtain⟨ux,h1,o1⟩:=vP (w:=w) JT rM bx (cs:=cs) (off:=off) sx3;rw[sx1]at o1;have h3:=od em n f.type ta uG d au ux x.1 ⟨_,aF0,o1⟩;have h4:=ih tb (off+ta.size) auc x.2 (by rw[sx2];exact aID);rw[List.forIn_cons];simp only[ne_eq,aIf,not_false_eq_true,da,cd,azd,h1,h3,bH,dY];exact h4
   have:=key fs.toList t0 0 aCY x (by simpa using hx);simp only[Instr.checkKey,cd,run_underlying hT,bH,Array.forIn_toList]at this ⊢;exact(bE (λr:Result Unit=>r.andThen λ_ w'=>Sem.run P (pure ()) w') this).trans rfl
  ·cases h
theorem J0{K:TypeId}{kt vt:Ty}(hK:rK P depth K kt=aT){v:Value}{x:kt.den}(hx:BL E kt v x)(hE:E.w=w):∀(es:List fU) (l:List (kt.den×vt.den)) (i:Nat),Alike (Cs E kt vt) es l->
  ∃r,(Instr.findAsking K v es i).run P w= .ok r w/\match r with | none=>iR kt x l=aJ | some (j,u)=>∃n e,iR kt x l=al n/\j=i+n/\es[n]? =al e/\u=e.val
 |[],[],i,_=>⟨aJ,by simp[Instr.findAsking],rfl⟩
 |e::es,p::l,i,⟨he,hr⟩=>by
  have hx':=hx;obtain⟨c1,r1,o1⟩:=hx';obtain⟨c2,r2,o2⟩:=he.1;have heq:(Op.equal K v e.key).run P w= .ok (kt.beq x p.1) w:=uF E hE depth K kt hK 10000 fb c1 c2 x p.1 v e.key r1 r2 o1 o2;cases hb:kt.beq x p.1 with
  |true=>
   rw[hb]at heq;refine⟨al (i,e.val),by simp[Instr.findAsking,heq],0,e,by simp[iR,hb],rfl,rfl,rfl⟩
  |false=>
   rw[hb]at heq;obtain⟨r,h1,h2⟩:=J0 hK hx hE es l (i+1) hr;refine⟨r,by simp[Instr.findAsking,heq,h1],?_⟩;cases r with
   |none=>simp only at h2 ⊢;simp[iR,hb,h2]
   |some u=>
    obtain⟨j,u⟩:=u;obtain⟨n,e',g1,g2,g3,g4⟩:=h2;exact⟨n+1,e',by simp[iR,hb,g1],au,by simpa using g3,g4⟩
 |[],_::_,_,h=>h.elim
 |_::_,[],_,h=>h.elim
theorem YF{d:TypeDesc}{kt vt:Ty}{v:Value}{x:kt.den}(hd:∀u y,BL E kt u y->Instr.sameNow d v u=al (kt.beq x y)):∀(es:List fU) (l:List (kt.den×vt.den)) (i:Nat),Alike (Cs E kt vt) es l->
  ∃r,Instr.findNow d v es i=al r/\match r with | none=>iR kt x l=aJ | some (j,u)=>∃n e,iR kt x l=al n/\j=i+n/\es[n]? =al e/\u=e.val
 |[],[],i,_=>⟨aJ,rfl,rfl⟩
 |e::es,p::l,i,⟨he,hr⟩=>by
  have h0:=hd e.key p.1 he.1;cases hb:kt.beq x p.1 with
  |true=>
   rw[hb]at h0;exact⟨al (i,e.val),by simp[Instr.findNow,h0],0,e,by simp[iR,hb],rfl,rfl,rfl⟩
  |false=>
   rw[hb]at h0;obtain⟨r,h1,h2⟩:=YF hd es l (i+1) hr;refine⟨r,by simp[Instr.findNow,h0,h1],?_⟩;cases r with
   |none=>simp only at h2 ⊢;simp[iR,hb,h2]
   |some u=>
    obtain⟨j,u⟩:=u;obtain⟨n,e',g1,g2,g3,g4⟩:=h2;exact⟨n+1,e',by simp[iR,hb,g1],au,by simpa using g3,g4⟩
 |[],_::_,_,h=>h.elim
 |_::_,[],_,h=>h.elim
theorem IX{K:TypeId}{kt vt:Ty}(hK:rK P depth K kt=aT){v:Value}{x:kt.den}(hx:BL E kt v x)(hE:E.w=w){es:List fU}{l:List (kt.den×vt.den)}(h:Alike (Cs E kt vt) es l):
  ∃r,(Instr.findKey K v es).run P w= .ok r w/\match r with | none=>iR kt x l=aJ | some (j,u)=>∃e,iR kt x l=al j/\es[j]? =al e/\u=e.val:=by
 have fin:∀r:Option (Nat×Value),(match r with | none=>iR kt x l=aJ | some (j,u)=>∃n e,iR kt x l=al n/\j=0+n/\es[n]? =al e/\u=e.val)->match r with | none=>iR kt x l=aJ | some (j,u)=>∃e,iR kt x l=al j/\es[j]? =al e/\u=e.val:=by
  intro r hr;cases r with
  |none=>exact hr
  |some u=>
   obtain⟨j,u⟩:=u;obtain⟨n,e,g1,g2,g3,g4⟩:=hr;obtain rfl:j=n:=au;exact⟨e,g1,g3,g4⟩
 have scalar:∀d,P.underlying K=al d->(∀u y,BL E kt u y->Instr.sameNow d v u=al (kt.beq x y))->∃r,(Instr.findKey K v es).run P w= .ok r w/\match r with | none=>iR kt x l=aJ | some (j,u)=>∃e,iR kt x l=al j/\es[j]? =al e/\u=e.val:=by intro d hd hs;obtain⟨r,h1,h2⟩:=YF hs es l 0 h;exact⟨r,by simp[Instr.findKey,run_underlying hd,h1],fin r h2⟩
 have agg:∀d,P.underlying K=al d->(∀u y,BL E kt u y->Instr.sameNow d v u=aJ)->∃r,(Instr.findKey K v es).run P w= .ok r w/\match r with | none=>iR kt x l=aJ | some (j,u)=>∃e,iR kt x l=al j/\es[j]? =al e/\u=e.val:=by
  intro d hd hs;cases es with
  |nil=>
   cases l with
   |nil=>exact⟨aJ,by simp[Instr.findKey,run_underlying hd,Instr.findNow],rfl⟩
   |cons _ _=>exact h.elim
  |cons e es=>
   cases l with
   |nil=>exact h.elim
   |cons p l=>
    have hn:Instr.findNow d v (e::es) 0=aJ:=by simp[Instr.findNow,hs e.key p.1 h.1.1]
    obtain⟨r,h1,h2⟩:=J0 (w:=w) (vt:=vt) hK hx hE (e::es) (p::l) 0 h;exact⟨r,by simp[Instr.findKey,run_underlying hd,hn,h1],fin r h2⟩
 have hK0:=hK;unfold depth at hK0;simp only[rK]at hK0;obtain⟨cx,rx,ox⟩:=hx;split at hK0
 ·rename_i k k' hT;refine scalar _ hT λu y ⟨cy,ry,oy⟩=> ?_
  simp only[cI]at rx ry;have e1:cx=[v]:=ox;have e2:cy=[u]:=oy;rw[rx]at e1;rw[ry]at e2;simp only[cz,eG]at e1 e2;subst e1 e2;simp[Instr.sameNow,Ty.beq]
 ·rename_i hT;refine scalar _ hT λu y ⟨cy,ry,oy⟩=> ?_
  simp only[cI]at rx ry;have e1:cx=[v]:=ox;have e2:cy=[u]:=oy;rw[rx]at e1;rw[ry]at e2;simp only[cz,eG]at e1 e2;subst e1 e2;simp[Instr.sameNow,Ty.beq]
 ·rename_i hT;refine scalar _ hT λu y ⟨cy,ry,oy⟩=> ?_
  simp only[cI]at rx ry;have e1:cx=[v]:=ox;have e2:cy=[u]:=oy;rw[rx]at e1;rw[ry]at e2;simp only[cz,eG]at e1 e2;subst e1 e2;have hs:∀a b:ByteArray,(a==b)=(a.toList==b.toList):=λa b=>by
   by_cases acG:a=b
   ·subst acG;rw[(Go.MapKept.bytes_beq a a).2 rfl];simp
   ·have h1:(a==b)=aR:=by
     cases h:(a==b) with
     |false=>rfl
     |true=>exact absurd ((Go.MapKept.bytes_beq a b).1 h) acG
    have h2:(a.toList==b.toList)=aR:=by
     cases h:(a.toList==b.toList) with
     |false=>rfl
     |true=>exact absurd (beq_eq .str a b rfl h) acG
    rw[h1,h2]
  simp[Instr.sameNow,Ty.beq,hs]
 ·rename_i U t' hT;exact agg _ hT λu y _=>by simp[Instr.sameNow]
 ·rename_i m e m' t' hT;exact agg _ hT λu y _=>by simp[Instr.sameNow]
 ·rename_i t0 _ _ fs hT;exact agg _ hT λu y _=>by simp[Instr.sameNow]
 ·cases hK0
end
section
variable {α β:Type} {R:α->β->Prop}
theorem Alike.get:∀ {xs:List α} {ys:List β} {i:Nat} {x:α},Alike R xs ys->xs[i]? =al x->∃y,ys[i]? =al y/\R x y
 |[],_,_,_,_,h=>by simp at h
 |_::_,[],_,_,h,_=>h.elim
 |x::xs,y::ys,0,z,⟨h1,_⟩,h=>by simp at h;subst h;exact⟨y,rfl,h1⟩
 |x::xs,y::ys,i+1,z,⟨_,h2⟩,h=>by simp at h;simpa using Alike.get h2 h
theorem Alike.set{x:α}{y:β}(hx:R x y):∀ {xs:List α} {ys:List β} (i:Nat),Alike R xs ys->Alike R (xs.set i x) (ys.set i y)
 |[],[],_,_=>trivial
 |[],_::_,_,h=>h.elim
 |_::_,[],_,h=>h.elim
 |_::_,_::_,0,⟨_,h2⟩=>⟨hx,h2⟩
 |_::_,_::_,i+1,⟨h1,h2⟩=>⟨h1,Alike.set hx i h2⟩
theorem Alike.push{x:α}{y:β}(hx:R x y):∀ {xs:List α} {ys:List β},Alike R xs ys->Alike R (xs++ [x]) (ys++ [y])
 |[],[],_=>⟨hx,trivial⟩
 |[],_::_,h=>h.elim
 |_::_,[],h=>h.elim
 |_::_,_::_,⟨h1,h2⟩=>⟨h1,Alike.push hx h2⟩
theorem Alike.erase:∀ {xs:List α} {ys:List β} (i:Nat),Alike R xs ys->Alike R (xs.eraseIdx i) (ys.eraseIdx i)
 |[],[],_,_=>by simp[Alike]
 |[],_::_,_,h=>h.elim
 |_::_,[],_,h=>h.elim
 |_::_,_::_,0,⟨_,h2⟩=>h2
 |_::_,_::_,i+1,⟨h1,h2⟩=>⟨h1,Alike.erase i h2⟩
end
theorem Lm{α:Type}{f:α->α->Bool}(hf:∀x,f x x=aT):∀xs:List α,mO f xs xs=aT
 |[]=>rfl
 |x::xs=>by simp[mO,hf x,Lm hf xs]
theorem beq_refl:∀(t:Ty) (x:t.den),t.comp=aT->t.beq x x=aT
 | .int _,x,_=>by simp[Ty.beq]
 | .bool,x,_=>by simp[Ty.beq]
 | .str,x,_=>by simp[Ty.beq]
 | .slice _,_,h=>by simp[Ty.comp]at h
 | .fZ _,_,h | .nP _,_,h=>by simp[Ty.comp]at h
 | .gO t,x,_=> @ot _ ((Ty.gO t).arw x x) rfl
 | .unit,_,_=>rfl
 | .pair a b,x,h=>by simp only[Ty.comp,av]at h;simp only[Ty.beq,beq_refl a _ h.1,beq_refl b _ h.2,Bool.and_self]
 | .arr _ t,x,h=>by simp only[Ty.comp]at h;exact Lm (λy=>beq_refl t y h) x
section
variable {β:Type} {kt:Ty}
theorem ua{x:kt.den}:cq kt x ([]:List (kt.den×β))=aJ:=rfl
theorem eT{x:kt.den}{p:kt.den×β}{l:List (kt.den×β)}:cq kt x (p::l)=if kt.beq x p.1=aT then al p.2 else cq kt x l:=by
 unfold cq;cases h:kt.beq x p.1 with
 |true=>simp[iR,h]
 |false=>
  simp only[iR,h];cases iR kt x l <;> simp
theorem NZ{x:kt.den}{v:β}:ff kt x v []=[(x,v)]:=rfl
theorem zj{x:kt.den}{v:β}{p:kt.den×β}{l:List (kt.den×β)}:ff kt x v (p::l)=if kt.beq x p.1=aT then(x,v)::l else p::ff kt x v l:=by
 unfold ff;cases h:kt.beq x p.1 with
 |true=>simp[iR,h]
 |false=>
  simp only[iR,h];cases iR kt x l <;> simp
theorem apq{x:kt.den}:j6 kt x ([]:List (kt.den×β))=[]:=rfl
theorem Je{x:kt.den}{p:kt.den×β}{l:List (kt.den×β)}:j6 kt x (p::l)=if kt.beq x p.1=aT then l else p::j6 kt x l:=by
 unfold j6;cases h:kt.beq x p.1 with
 |true=>simp[iR,h]
 |false=>
  simp only[iR,h];cases iR kt x l <;> simp
theorem GK{x:kt.den}{v:β}:∀l:List (kt.den×β),(ff kt x v l).Perm ((x,v)::j6 kt x l)
 |[]=>nV _
 |p::l=>by
  rw[zj,Je];split
  ·exact nV _
  ·exact((GK l).cons p).trans (List.Perm.swap _ _ _)
theorem sW(hc:kt.comp=aT){x:kt.den}:∀ {l:List (kt.den×β)},(l.map (·.1)).Nodup->j6 kt x l=l.filter λp=> !kt.beq x p.1
 |[],_=>rfl
 |p::l,hn=>by
  rw[cn,dr]at hn;rw[Je,List.filter_cons];by_cases h:kt.beq x p.1=aT
  ·rw[if_pos h];simp only[h,cv,bW,cK];have hx:=beq_eq kt _ _ hc h;exact(jq.2 λq hq=>by
    simp only[ct];rw[Bool.eq_false_iff];intro hb;have:=beq_eq kt _ _ hc hb;exact hn.1 (by rw[<-hx,this];exact dO.2 ⟨q,hq,rfl⟩)).symm
  ·have h':kt.beq x p.1=aR:=by simpa using h
   rw[if_neg h];simp only[h',fj,da];rw[sW hc hn.2]
theorem lX(hc:kt.comp=aT){x:kt.den}{v:β}:∀ {l:List (kt.den×β)},(l.map (·.1)).Nodup->(cq kt x l=al v↔(x,v)∈l)
 |[],_=>by simp[ua]
 |p::l,hn=>by
  rw[cn,dr]at hn;rw[eT,cg];by_cases h:kt.beq x p.1=aT
  ·rw[if_pos h];have hx:=beq_eq kt _ _ hc h;constructor
   ·intro e;left;rw[hx,<-aO e]
   ·rintro(e | e)
    ·rw[<-e]
    ·exact absurd (dO.2 ⟨_,e,rfl⟩) (by rw[<-hx]at hn;exact hn.1)
  ·rw[if_neg h,lX hc hn.2];constructor
   ·exact .inr
   ·rintro(e | e)
    ·exact absurd (by rw[<-e];exact beq_refl kt x hc) h
    ·exact e
theorem TO(hc:kt.comp=aT){x:kt.den}{l l':List (kt.den×β)}(hn:(l.map (·.1)).Nodup)(hp:l'.Perm l):cq kt x l'=cq kt x l:=by apply Option.ext;intro v;rw[lX hc ((hp.map _).nodup_iff.2 hn),lX hc hn,hp.mem_iff]
theorem TN(hc:kt.comp=aT){x:kt.den}{l l':List (kt.den×β)}(hn:(l.map (·.1)).Nodup)(hp:l'.Perm l):(j6 kt x l').Perm (j6 kt x l):=by rw[sW hc ((hp.map _).nodup_iff.2 hn),sW hc hn];exact hp.filter _
theorem ai5(hc:kt.comp=aT){x:kt.den}{v:β}{l l':List (kt.den×β)}(hn:(l.map (·.1)).Nodup)(hp:l'.Perm l):(ff kt x v l').Perm (ff kt x v l):=
 (GK l').trans (((TN hc hn hp).cons _).trans (GK l).symm)
theorem E6(hc:kt.comp=aT){x:kt.den}{l:List (kt.den×β)}(hn:(l.map (·.1)).Nodup):((j6 kt x l).map (·.1)).Nodup:=by rw[sW hc hn];exact hn.sublist (List.filter_sublist.map _)
theorem PS(hc:kt.comp=aT){x:kt.den}{v:β}{l:List (kt.den×β)}(hn:(l.map (·.1)).Nodup):((ff kt x v l).map (·.1)).Nodup:=by rw[((GK l).map _).nodup_iff,cn,dr];refine⟨λh=> ?_,E6 hc hn⟩;obtain⟨p,hp,he⟩:=dO.1 h;rw[sW hc hn,nb]at hp;have:=hp.2;have he:p.1=x:=he;rw[he,beq_refl kt x hc]at this;cases this
end
theorem Jx{E:Env}:∀(v:aD) (t:Ty) (x:t.den) (cs:List Value),V E v cs->(qd t v).eval=al x->cI E t cs x/\v.agg=t.agg/\v.eQ=aT
 | .d t' x',t,x,cs,hv,h=>by
  have h':(Out.opt (sH t' t x')).eval=al x:=by cases t <;> simpa only[qd]using h
  obtain⟨rfl,h'⟩:=iY (ja.1 h');simp only at h';subst h';simp only[V]at hv;exact⟨hv,rfl,rfl⟩
 | .dI,.slice t,x,cs,hv,h=>by simp only[qd,ay]at h;subst h;simp only[V]at hv;simp only[cI];exact⟨⟨aJ,0,[],by simpa using hv,by simp,by simp,λi v hh=>by simp at hh,rfl⟩,rfl,rfl⟩
 | .pr a b,.pair ta tb,x,cs,hv,h=>by simp only[qd]at h;obtain⟨x1,h1,h2⟩:=ax.1 h;obtain⟨x2,h3,h4⟩:=ax.1 h2;obtain rfl:=ay.1 h4;simp only[V]at hv;obtain⟨ca,cb,rfl,ha,hb⟩:=hv;simp only[cI];exact⟨⟨ca,cb,rfl,(Jx a ta x1 ca ha h1).1,(Jx b tb x2 cb hb h3).1⟩,rfl,rfl⟩
 | .dI,.int _,_,_,_,h | .dI,.bool,_,_,_,h | .dI,.str,_,_,_,h | .dI,.unit,_,_,_,h | .dI,.pair _ _,_,_,_,h | .dI,.arr _ _,_,_,_,h=>by simp only[qd,aw]at h
 | .pr _ _,.int _,_,_,_,h | .pr _ _,.bool,_,_,_,h | .pr _ _,.str,_,_,_,h | .pr _ _,.unit,_,_,_,h | .pr _ _,.slice _,_,_,_,h | .pr _ _,.arr _ _,_,_,_,h=>by simp only[qd,aw]at h
 | .undef,t,_,_,_,h | .gone,t,_,_,_,h | .j7,t,_,_,_,h | .vF,t,_,_,_,h | .yl ..,t,_,_,_,h | .Bd,t,_,_,_,h | .ptr ..,t,_,_,_,h | .eN ..,t,_,_,_,h | .b8 ..,t,_,_,_,h | .fn ..,t,_,_,_,h
 | .cons ..,t,_,_,_,h | .nil,t,_,_,_,h | .vec ..,t,_,_,_,h | .sb _,t,_,_,_,h | .bx ..,t,_,_,_,h | .cP ..,t,_,_,_,h | .mp ..,t,_,_,_,h | .qh ..,t,_,_,_,h | .yH ..,t,_,_,_,h=>by cases t <;> simp only[qd,aw]at h
theorem W0{v:aD}{t:Ty}{x:t.den}(h:(qd t v).eval=al x):v.eQ=aT:=by cases v <;> first | rfl | (cases t <;> simp only[qd,aw]at h)
theorem Dm{E:Env}{v:aD}{y:Value}(hv:VS E v y){t:Ty}{x:t.den}(h:(qd t v).eval=al x):BL E t y x:=by obtain⟨cs,h1,h2⟩:=hv.eQ (W0 h);obtain⟨h3,h4,_⟩:=Jx v t x cs h1 h;exact⟨cs,h3,by rw[<-h4];exact h2⟩
theorem Au{P:aN}{T K V':TypeId}{kt vt:Ty}(h:mapOf P T=al (K,V',kt,vt)):P.underlying T=al (.map K V')/\rK P depth K kt=aT/\acB P V' (.d vt vt.zero)=aT:=by
 unfold mapOf at h;split at h
 ·rename_i K0 V0 hT;split at h
  ·split at h
   ·rename_i hc;simp only[az,cM]at h;obtain⟨rfl,rfl,rfl,rfl⟩:=h;rw[av]at hc;exact⟨hT,hc.1,hc.2⟩
   ·cases h
  ·cases h
 ·cases h
theorem O5{k v k' v':Ty}{l:List (k.den×v.den)}{l':List (k'.den×v'.den)}(h:ahX k v k' v' l=al l'):∃(e1:k=k') (e2:v=v'),(e1▸e2▸l)=l':=by
 unfold ahX at h;split at h
 ·rename_i e;exact⟨e.1,e.2,by simpa using h⟩
 ·cases h
section
variable {P:aN} {C:Ctx} {g:Nat->lQ} {β:Id->Option Pl} {s:AS} {a:Act} {w:bU} {o:Oper}
theorem xL(h:Inv C g β s a w){id:Id}{ver:Nat}{kt vt:Ty}{l:List (kt.den×vt.den)}(ho:(s.qb id ver kt vt).eval=al l){y:Value}(hv:VS (s.env w g β) (.cP id ver) y):
  ∃fr pl es clock,s.bS id=al (.obj ver fr (.mp kt vt l))/\β id=al pl/\y= .map (al pl.b)/\w.heap[pl.b]? =al (.map es clock)/\g pl.b= .own (.id id) 0/\Zu (s.env w g β) kt vt es.toList l/\nT es.toList clock/\(l.map (·.1)).Nodup:=by
 unfold AS.qb at ho;split at ho
 ·rename_i v fr k' v' l' kk;obtain⟨auh,aIi⟩:=aG.1 ho;have auh:v=ver:=by simpa using auh
  obtain⟨rfl,rfl,rfl⟩:=O5 (ja.1 aIi);subst auh;have cO:=dZ kk;obtain⟨pl,es,clock,h1,h2,h3,h4⟩:=h.bM id v fr _ cO;have hs:=hv.single rfl rfl;simp only[V]at hs;obtain⟨b,hb,_,hc⟩:=hs;obtain⟨pl',h5,h6⟩:=hc ⟨fr,_,cO⟩;have h1:β id=al pl:=h1;have h5:β id=al pl':=h5;rw[h1]at h5;obtain rfl:pl=pl':=by simpa using h5
  refine⟨fr,pl,es,clock,cO,h1,?_,h2,h3,h4.1.1,h4.2,h4.1.2⟩;have hb:y= .map (al b):=by simpa using hb
  rw[hb,h6]
 ·simp only[aw]at ho
theorem aa6(h:Inv C g β s a w){T:TypeId}(dq:o.op= .makeMap T aJ){s':AS}(he:(E3 P s o.dst T).eval=al s'):fS P o a w (gT C s'):=by
 unfold E3 at he;split at he
 ·rename_i K V' kt vt q hm hd;obtain⟨hq,he⟩:=aG.1 he;obtain rfl:=ay.1 he;have ht:=Trans.alloc w g (.map #[] 0) (.own (.id (.new q 0)) 0);obtain⟨h1,h2⟩:=h.Nl hq (c:= .mp kt vt []) (p:=al ⟨w.heap.size,0⟩) ht (λb hb=>⟨ql w _ hb,fG _ _ _ au⟩) (λ_=>
   ⟨⟨w.heap.size,0⟩,#[],0,jX _ _ _,sE w _,fP _ _ _,⟨⟨[],trivial,nV _⟩,gZ⟩,nT.nil _⟩)
  refine .inl ⟨.map (al w.heap.size),w.alloc (.map #[] 0),?_,_,_,h1.put o.dst (v:= .cP (.new q 0) 0) ⟨[.map (al w.heap.size)],?_,rfl⟩⟩
  ·refine eu (f:=Instr.makeMap T aJ) (by simp only[execOp,dq];rfl) ?_
   simp[Instr.makeMap,run_newObj_alloc]
  ·simp only[V];exact⟨_,rfl,px hq _ _ _ _,λ_=>⟨_,jX _ _ _,rfl⟩⟩
 ·simp only[aw]at he
theorem BL.vs{E:Env}{t:Ty}{v:Value}{x:t.den}(h:BL E t v x):VS E (.d t x) v:=by obtain⟨cs,h1,h2⟩:=h;exact⟨cs,by simpa only[V]using h1,h2⟩
theorem ae5(h:Inv C g β s a w){T:TypeId}{x i:bJ}{ok:Bool}(dq:o.op= .lookup T x i ok){v:aD}(he:(C3 P s T (s.ev x) (s.ev i) ok).eval=al v):fS P o a w (gT C (s.put o.dst v)):=by
 unfold C3 at he;split at he
 ·rename_i K V' kt vt id ver hm hx;obtain⟨l,h1,he⟩:=ax.1 he;obtain⟨k,h2,he⟩:=ax.1 he;obtain rfl:=ay.1 he;obtain⟨hT,hK,hz⟩:=Au hm;have S4:=h.ev x;rw[hx]at S4;obtain⟨fr,pl,es,clock,g1,g2,g3,g4,g5,g6,g7,gn⟩:=xL h h1 S4;have Hy:=y7 depth K kt hK;obtain⟨l0,g6,gp⟩:=g6;rw[<-TO Hy gn gp];clear gn h1;generalize l0=l at g6;have hk:=Dm (h.ev i) h2;have axQ:=od (P:=P) (w:=w) es.isEmpty depth K kt hK 10000 fb _ _ hk;obtain⟨r,hf,hr⟩:=IX (P:=P) (w:=w) hK hk rfl g6;obtain⟨iz,zv,z1,z2,z3,z4⟩:=ur hz (s.env w g β);have aoO:BL (s.env w g β) vt zv vt.zero:=⟨_,by simpa only[V]using z3,z4⟩;have hzero:(zeroValue V').run P w= .ok zv w:=by simp[zeroValue,typeInfo,z1,z2]
  obtain⟨val,pz,zd⟩:∃val:Value×Bool,(Instr.lookup T (a.eval x) (a.eval i) ok).run P w= .ok (if ok then .tuple #[val.1,.bool val.2] else val.1) w/\BL (s.env w g β) vt val.1 ((cq kt k l).getD vt.zero)/\val.2=(cq kt k l).isSome:=by
   cases r with
   |none=>
    simp only at hr;have hg:cq kt k l=aJ:=by simp[cq,hr]
    refine⟨(zv,aR),?_,by rw[hg];exact aoO,by rw[hg];rfl⟩;simp[Instr.lookup,run_underlying hT,g3,Go.MapKept.run_getObj_map g4,axQ,hf,hzero]
   |some u=>
    obtain⟨j,u⟩:=u;obtain⟨e,m1,m2,rfl⟩:=hr;obtain⟨p,m3,m4⟩:=g6.get m2;have hg:cq kt k l=al p.2:=by simp[cq,m1,m3]
    refine⟨(e.val,aT),?_,by rw[hg];exact m4.2,by rw[hg];rfl⟩;simp[Instr.lookup,run_underlying hT,g3,Go.MapKept.run_getObj_map g4,axQ,hf]
  refine h.value (x:=if ok then .tuple #[val.1,.bool val.2] else val.1) ?_ (eu (f:=Instr.lookup T (a.eval x) (a.eval i) ok) (by simp only[execOp,dq]) pz)
  unfold aBI;cases ok with
  |true=>
   obtain⟨cs,c1,c2⟩:=zd.1;refine⟨[val.1,.bool val.2],rfl,?_⟩;simp only[VC];refine⟨_,_,cs,rfl,by simpa only[V]using c1,c2,_,_,[.bool val.2],rfl,?_,rfl,rfl⟩;simp only[V,cI,zd.2]
  |false=>exact zd.1.vs
 ·simp only[aw]at he
theorem Inv.awU(h:Inv C g β s a w){id:Id}{ver:Nat}{fr:Bool}{kt vt:Ty}{l l':List (kt.den×vt.den)}{pl:Pl}{es es':Array fU}{clock clock':Nat}(cO:s.bS id=al (.obj ver fr (.mp kt vt l)))(hp:β id=al pl)
  (hb:w.heap[pl.b]? =al (.map es clock)) (hg:g pl.b= .own (.id id) 0) (hr:Zu (s.env w g β) kt vt es'.toList l') (aua:(l'.map (·.1)).Nodup) (aFk:nT es'.toList clock') (aDe:s.tE id=aT):
  Inv C g β (s.aZ id (.obj ver aR (.mp kt vt l'))) a {w with heap:=w.heap.setIfInBounds pl.b (.map es' clock')}:=by
 have jb:pl.b < w.heap.size:=(bN.1 hb).1;have hother:∀b',b'≠pl.b->({w with heap:=w.heap.setIfInBounds pl.b (.map es' clock')}:bU).heap[b']? =w.heap[b']? :=λb' gJ=>by
  show(w.heap.setIfInBounds pl.b _)[b']? =_
  rw[ek,if_neg (λe=>gJ e.symm)]
 have ht:Trans w {w with heap:=w.heap.setIfInBounds pl.b (.map es' clock')} g g:=by
  refine⟨rfl,rfl,⟨rfl,aF _⟩,by simp,λb' _=> ?_⟩;by_cases he:b'=pl.b
  ·subst he;rw[hg];exact⟨.inr ⟨id,0,rfl,aF _⟩,λ_ _ hh=>au⟩
  ·rw[hother b' he];cases QR:g b' with
   |free=>exact⟨rfl,rfl⟩
   |own o' k=>cases o' with
    |eM=>exact⟨rfl,rfl⟩
    |id i'=>exact⟨.inr ⟨i',k,rfl,aF _⟩,λoff v _ hv=>by simpa only[eP,hother b' he]using hv⟩
 have hle:cU (s.env w g β) ((s.aZ id (.obj ver aR (.mp kt vt l'))).env {w with heap:=w.heap.setIfInBounds pl.b (.map es' clock')} g β):=cU.aZ cO (aF _) ht (λ_ _=>rfl) (λ_=>rfl);refine h.step (dv _ _ _) ht hle (iP.aZ h.bM (by rw[cO];simp) hle (λ_ _=>rfl) (λi ver fr c pl2 hi S0 QT=>⟨hother _ (h.apart hg hi S0 QT),rfl⟩) ?_ (by obtain rfl:=zR cO aDe;exact Lo cO));refine⟨pl,es',clock',hp,?_,hg,⟨hr.mono hle.mem,aua⟩,aFk⟩;show(w.heap.setIfInBounds pl.b _)[pl.b]? =_
 rw[ek,if_pos rfl,if_pos jb]
theorem afc(h:Inv C g β s a w){T:TypeId}{m k x:bJ}(dq:o.op= .mapUpdate T m k x){s':AS}(he:(C8 P s T (s.ev m) (s.ev k) (s.ev x)).eval=al s'):fS P o a w (gT C (s'.put o.dst .undef)):=by
 unfold C8 at he;split at he
 ·rename_i K V' kt vt id ver hm hx;obtain⟨l,h1,he⟩:=ax.1 he;obtain⟨kx,h2,he⟩:=ax.1 he;obtain⟨vx,h3,he⟩:=ax.1 he;obtain⟨aDe,he⟩:=aG.1 he;obtain rfl:=ay.1 he;obtain⟨hT,hK,_⟩:=Au hm;have S4:=h.ev m;rw[hx]at S4;obtain⟨fr,pl,es,clock,g1,g2,g3,g4,g5,g6,g7,gn⟩:=xL h h1 S4;obtain⟨l0,g6,gp⟩:=g6;have hk:=Dm (h.ev k) h2;have hv:=Dm (h.ev x) h3;have axQ:=od (P:=P) (w:=w) aR depth K kt hK 10000 fb _ _ hk;obtain⟨r,hf,hr⟩:=IX (P:=P) (w:=w) hK hk rfl g6;have Hy:=y7 depth K kt hK
  have fin:∀(es':Array fU) (clock':Nat),(Instr.mapUpdate T (a.eval m) (a.eval k) (a.eval x)).run P w= .ok () {w with heap:=w.heap.setIfInBounds pl.b (.map es' clock')}->Alike (Cs (s.env w g β) kt vt) es'.toList (ff kt kx vx l0)->nT es'.toList clock'->
    fS P o a w (gT C ((s.aZ id (.obj ver aR (.mp kt vt (ff kt kx vx l)))).put o.dst .undef)):=λes' clock' pz at3 aFk=>
   .inr (.inl ⟨_,X5 (f:=Instr.mapUpdate T (a.eval m) (a.eval k) (a.eval x)) (by simp only[execOp,dq]) pz,g,β,(h.awU g1 g2 g4 g5 ⟨_,at3,ai5 Hy gn gp⟩ (PS Hy gn) aFk aDe).put o.dst VS.undef⟩)
  cases r with
  |none=>
   simp only at hr;refine fin (es.push {key:=a.eval k,val:=a.eval x,born:=clock}) (clock+1) ?_ ?_ (by rw[Array.toList_push];exact g7.push rfl)
   ·simp[Instr.mapUpdate,run_underlying hT,g3,Go.MapKept.run_getObj_map g4,axQ,hf,Go.MapKept.run_setObj_map _ g4]
   ·simp only[ff,hr,Array.toList_push];exact g6.push ⟨hk,hv⟩
  |some u=>
   obtain⟨j,u⟩:=u;obtain⟨e,m1,m2,rfl⟩:=hr;obtain⟨p,m3,m4⟩:=g6.get m2;have aHQ:kt.beq kx p.1=aT:=by
    have:∀(l:List (kt.den×vt.den)) (j:Nat),iR kt kx l=al j->∀p,l[j]? =al p->kt.beq kx p.1=aT:=by
     intro l
     induction l with
     |nil=>intro j hj;simp[iR]at hj
     |cons q l ih=>
      intro j hj p hp;simp only[iR]at hj;cases hb:kt.beq kx q.1 with
      |true=>
       rw[hb]at hj;simp only[az]at hj;subst hj;simp at hp;subst hp;exact hb
      |false=>
       rw[hb]at hj;simp only[dz]at hj;obtain⟨j',hj',rfl⟩:=hj;exact ih j' hj' p (by simpa using hp)
    exact this l0 j m1 p m3
   have aoN:=beq_eq kt kx p.1 Hy aHQ;have aH7:e.key=a.eval k:=BL.aCx Hy (aoN▸m4.1) hk;have m2':es[j]? =al e:=by simpa using m2
   refine fin (es.modify j λe=> {e with key:=a.eval k,val:=a.eval x}) clock ?_ ?_ (by rw[Array.toList_modify,Go.ChangeMaps.modify_eq_set _ _ _ _ m2];exact g7.set m2 rfl)
   ·simp[Instr.mapUpdate,run_underlying hT,g3,Go.MapKept.run_getObj_map g4,axQ,hf,m2',aH7,aqF Hy hk,Go.MapKept.run_setObj_map _ g4]
   ·simp only[ff,m1,Array.toList_modify];rw[Go.ChangeMaps.modify_eq_set _ _ _ _ m2];exact Alike.set (R:=Cs (s.env w g β) kt vt) ⟨hk,hv⟩ j g6
 ·simp only[aw]at he
end
end Go.Ab
end
