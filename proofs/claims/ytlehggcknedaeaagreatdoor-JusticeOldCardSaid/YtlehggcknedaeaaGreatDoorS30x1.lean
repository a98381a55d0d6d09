/-
  Made short by a program of mine (wip/tools/mini.py).
-/
import Derived.WalkKit
import Derived.KernelRfl
import Derived.OrdersIn
import Derived.LoopNIn
import Derived.TacticsIn
import Derived.RangeFuncCalls
import Derived.RangeFuncLeaves
import Derived.RangeFuncRecord
import Derived.MapKept
import Derived.ChangeMaps3
set_option linter.unusedVariables false
set_option linter.unusedSimpArgs false
set_option maxRecDepth 100000
set_option synthInstance.maxSize 5000
open Go renaming IntKind->iv,FuncId->gg,Operand->bF,Program->aK,MapEntry->eZ
open List renaming replicate->ai,set->df,length->ae
open BitVec renaming ofInt->bf
open Nat renaming beq->gG
open Go.Value renaming oneCell'->du
open Go.World renaming cell?->eO
open Go.Sem renaming run_bind->bY,run_pure->dA
open Go.Result renaming andThen_ok->bB
open Go.Addr renaming add_lit->eQ
open Go.Op renaming equalIn->dJ
open Option renaming some->av,none->aF
open Bool renaming true->aS,false->bq
noncomputable section
namespace Go.Ab
theorem fB:type_of% @Array.ext':= @Array.ext'
theorem cC:type_of% @Array.getD_eq_getD_getElem?:= @Array.getD_eq_getD_getElem?
theorem jF:type_of% @Array.getElem?_eq_getElem:= @Array.getElem?_eq_getElem
theorem cg:type_of% @Array.getElem?_eq_some_iff:= @Array.getElem?_eq_some_iff
theorem jw:type_of% @Array.getElem?_modify:= @Array.getElem?_modify
theorem dI:type_of% @Array.getElem?_setIfInBounds:= @Array.getElem?_setIfInBounds
theorem cO:type_of% @Array.length_toList:= @Array.length_toList
theorem bT:type_of% @Array.toList_append:= @Array.toList_append
theorem mN:type_of% @BitVec.ofInt_natCast:= @BitVec.ofInt_natCast
theorem pC:type_of% @BitVec.toNat_ofInt:= @BitVec.toNat_ofInt
theorem pD:type_of% @BitVec.toNat_ofNat:= @BitVec.toNat_ofNat
theorem au:type_of% @Bool.and_eq_true:= @Bool.and_eq_true
theorem mO:type_of% @Bool.and_eq_true_iff:= @Bool.and_eq_true_iff
theorem jl:type_of% @Bool.and_false:= @Bool.and_false
theorem kc:type_of% @Bool.and_self:= @Bool.and_self
theorem iS:type_of% @Bool.and_true:= @Bool.and_true
theorem gR:type_of% @Bool.eq_false_or_eq_true:= @Bool.eq_false_or_eq_true
theorem dC:type_of% @Bool.false_and:= @Bool.false_and
theorem bJ:type_of% @Bool.false_eq_true:= @Bool.false_eq_true
theorem cr:type_of% @Bool.not_eq_true':= @Bool.not_eq_true'
theorem dy:type_of% @Bool.not_false:= @Bool.not_false
theorem bm:type_of% @Bool.not_true:= @Bool.not_true
theorem gB:type_of% @Bool.or_eq_true:= @Bool.or_eq_true
theorem bD:type_of% @Bool.true_and:= @Bool.true_and
theorem mA:type_of% @Classical.choose_spec:= @Classical.choose_spec
theorem th:type_of% @Int.add_assoc:= @Int.add_assoc
theorem lC:type_of% @Int.add_emod:= @Int.add_emod
theorem lD:type_of% @Int.add_zero:= @Int.add_zero
theorem lE:type_of% @Int.dvd_refl:= @Int.dvd_refl
theorem fh:type_of% @Int.emod_emod_of_dvd:= @Int.emod_emod_of_dvd
theorem fE:type_of% @Int.emod_eq_of_lt:= @Int.emod_eq_of_lt
theorem fQ:type_of% @Int.emod_lt_of_pos:= @Int.emod_lt_of_pos
theorem gC:type_of% @Int.emod_nonneg:= @Int.emod_nonneg
theorem iu:type_of% @Int.eq_ofNat_of_zero_le:= @Int.eq_ofNat_of_zero_le
theorem jm:type_of% @Int.fdiv_eq_ediv_of_nonneg:= @Int.fdiv_eq_ediv_of_nonneg
theorem nI:type_of% @Int.le_of_lt:= @Int.le_of_lt
theorem iT:type_of% @Int.le_refl:= @Int.le_refl
theorem eY:type_of% @Int.mul_emod:= @Int.mul_emod
theorem qv:type_of% @Int.mul_nonneg:= @Int.mul_nonneg
theorem nJ:type_of% @Int.natCast_emod:= @Int.natCast_emod
theorem ph:type_of% @Int.natCast_mul:= @Int.natCast_mul
theorem pE:type_of% @Int.natCast_nonneg:= @Int.natCast_nonneg
theorem lF:type_of% @Int.pow_succ:= @Int.pow_succ
theorem nK:type_of% @Int.pow_zero:= @Int.pow_zero
theorem nL:type_of% @Int.sub_zero:= @Int.sub_zero
theorem eH:type_of% @Int.tdiv_eq_ediv_of_nonneg:= @Int.tdiv_eq_ediv_of_nonneg
theorem dT:type_of% @Int.tmod_eq_emod_of_nonneg:= @Int.tmod_eq_emod_of_nonneg
theorem aa:type_of% @Int.toNat_natCast:= @Int.toNat_natCast
theorem bg:type_of% @Int.toNat_zero:= @Int.toNat_zero
theorem qw:type_of% @Int.zero_add:= @Int.zero_add
theorem fI:type_of% @List.Perm.refl:= @List.Perm.refl
theorem gS:type_of% @List.all_cons:= @List.all_cons
theorem cS:type_of% @List.all_eq_true:= @List.all_eq_true
theorem nM:type_of% @List.all_nil:= @List.all_nil
theorem mm:type_of% @List.any_cons:= @List.any_cons
theorem fF:type_of% @List.any_eq_false:= @List.any_eq_false
theorem bh:type_of% @List.append_assoc:= @List.append_assoc
theorem bW:type_of% @List.append_nil:= @List.append_nil
theorem ee:type_of% @List.cons.injEq:= @List.cons.injEq
theorem fT:type_of% @List.cons_append:= @List.cons_append
theorem ji:type_of% @List.drop_append:= @List.drop_append
theorem fi:type_of% @List.drop_drop:= @List.drop_drop
theorem aD:type_of% @List.drop_eq_getElem_cons:= @List.drop_eq_getElem_cons
theorem bj:type_of% @List.drop_length:= @List.drop_length
theorem eh:type_of% @List.drop_of_length_le:= @List.drop_of_length_le
theorem qx:type_of% @List.drop_take:= @List.drop_take
theorem aL:type_of% @List.drop_zero:= @List.drop_zero
theorem bV:type_of% @List.eq_nil_of_length_eq_zero:= @List.eq_nil_of_length_eq_zero
theorem gM:type_of% @List.filter_append:= @List.filter_append
theorem eJ:type_of% @List.filter_cons:= @List.filter_cons
theorem iC:type_of% @List.filter_eq_self:= @List.filter_eq_self
theorem jK:type_of% @List.flatten_cons:= @List.flatten_cons
theorem nN:type_of% @List.flatten_nil:= @List.flatten_nil
theorem dS:type_of% @List.foldl_cons:= @List.foldl_cons
theorem oD:type_of% @List.getD_cons_succ:= @List.getD_cons_succ
theorem iD:type_of% @List.getD_cons_zero:= @List.getD_cons_zero
theorem gF:type_of% @List.getElem?_append_left:= @List.getElem?_append_left
theorem kN:type_of% @List.getElem?_cons_succ:= @List.getElem?_cons_succ
theorem fe:type_of% @List.getElem?_cons_zero:= @List.getElem?_cons_zero
theorem fR:type_of% @List.getElem?_drop:= @List.getElem?_drop
theorem cm:type_of% @List.getElem?_eq_getElem:= @List.getElem?_eq_getElem
theorem dW:type_of% @List.getElem?_eq_none:= @List.getElem?_eq_none
theorem dO:type_of% @List.getElem?_set_ne:= @List.getElem?_set_ne
theorem de:type_of% @List.getElem?_take:= @List.getElem?_take
theorem aq:type_of% @List.length_append:= @List.length_append
theorem aI:type_of% @List.length_cons:= @List.length_cons
theorem eK:type_of% @List.length_drop:= @List.length_drop
theorem jy:type_of% @List.length_filter_le:= @List.length_filter_le
theorem bC:type_of% @List.length_map:= @List.length_map
theorem aU:type_of% @List.length_nil:= @List.length_nil
theorem cv:type_of% @List.length_replicate:= @List.length_replicate
theorem cD:type_of% @List.length_set:= @List.length_set
theorem dD:type_of% @List.length_take:= @List.length_take
theorem pj:type_of% @List.map_append:= @List.map_append
theorem gv:type_of% @List.map_congr_left:= @List.map_congr_left
theorem bE:type_of% @List.map_cons:= @List.map_cons
theorem fv:type_of% @List.map_nil:= @List.map_nil
theorem bt:type_of% @List.mem_append:= @List.mem_append
theorem bI:type_of% @List.mem_cons:= @List.mem_cons
theorem aN:type_of% @List.mem_cons_of_mem:= @List.mem_cons_of_mem
theorem aM:type_of% @List.mem_cons_self:= @List.mem_cons_self
theorem fp:type_of% @List.mem_filter:= @List.mem_filter
theorem jz:type_of% @List.mem_iff_getElem?:= @List.mem_iff_getElem?
theorem cT:type_of% @List.mem_map:= @List.mem_map
theorem cH:type_of% @List.mem_of_getElem?:= @List.mem_of_getElem?
theorem pG:type_of% @List.mem_replicate:= @List.mem_replicate
theorem aR:type_of% @List.nil_append:= @List.nil_append
theorem dn:type_of% @List.nodup_cons:= @List.nodup_cons
theorem gh:type_of% @List.nodup_nil:= @List.nodup_nil
theorem fj:type_of% @List.pairwise_cons:= @List.pairwise_cons
theorem oE:type_of% @List.replicate_succ:= @List.replicate_succ
theorem oF:type_of% @List.replicate_zero:= @List.replicate_zero
theorem dX:type_of% @List.set_getElem_self:= @List.set_getElem_self
theorem dp:type_of% @List.singleton_append:= @List.singleton_append
theorem gj:type_of% @List.size_toArray:= @List.size_toArray
theorem nO:type_of% @List.take_append:= @List.take_append
theorem dH:type_of% @List.take_append_drop:= @List.take_append_drop
theorem gX:type_of% @List.take_append_of_le_length:= @List.take_append_of_le_length
theorem bK:type_of% @List.take_length:= @List.take_length
theorem bu:type_of% @List.take_of_length_le:= @List.take_of_length_le
theorem kO:type_of% @List.take_take:= @List.take_take
theorem fJ:type_of% @List.take_zero:= @List.take_zero
theorem dP:type_of% @Nat.add_assoc:= @Nat.add_assoc
theorem ei:type_of% @Nat.add_mul:= @Nat.add_mul
theorem kP:type_of% @Nat.add_sub_cancel_left:= @Nat.add_sub_cancel_left
theorem cz:type_of% @Nat.add_zero:= @Nat.add_zero
theorem eC:type_of% @Nat.eq_of_beq_eq_true:= @Nat.eq_of_beq_eq_true
theorem lG:type_of% @Nat.eq_zero_or_pos:= @Nat.eq_zero_or_pos
theorem bN:type_of% @Nat.le_of_ble_eq_true:= @Nat.le_of_ble_eq_true
theorem aC:type_of% @Nat.le_refl:= @Nat.le_refl
theorem qz:type_of% @Nat.le_trans:= @Nat.le_trans
theorem ke:type_of% @Nat.lt_irrefl:= @Nat.lt_irrefl
theorem nQ:type_of% @Nat.lt_or_ge:= @Nat.lt_or_ge
theorem fN:type_of% @Nat.min_eq_left:= @Nat.min_eq_left
theorem cW:type_of% @Nat.mul_le_mul_right:= @Nat.mul_le_mul_right
theorem jL:type_of% @Nat.mul_mod:= @Nat.mul_mod
theorem fU:type_of% @Nat.mul_one:= @Nat.mul_one
theorem gY:type_of% @Nat.one_mul:= @Nat.one_mul
theorem mQ:type_of% @Nat.pow_add:= @Nat.pow_add
theorem jA:type_of% @Nat.sub_eq_zero_of_le:= @Nat.sub_eq_zero_of_le
theorem aO:type_of% @Nat.zero_le:= @Nat.zero_le
theorem kQ:type_of% @Nat.zero_lt_succ:= @Nat.zero_lt_succ
theorem lH:type_of% @Nat.zero_mul:= @Nat.zero_mul
theorem dE:type_of% @Option.getD_some:= @Option.getD_some
theorem cd:type_of% @Option.isSome_iff_exists:= @Option.isSome_iff_exists
theorem da:type_of% @Option.map_some:= @Option.map_some
theorem aB:type_of% @Option.some.injEq:= @Option.some.injEq
theorem cG:type_of% @Prod.mk.injEq:= @Prod.mk.injEq
theorem kS:type_of% @Sum.getLeft?_inl:= @Sum.getLeft?_inl
theorem ej:type_of% @Sum.getRight?_inr:= @Sum.getRight?_inr
theorem mS:type_of% @Sum.isLeft_inl:= @Sum.isLeft_inl
theorem fk:type_of% @Sum.isLeft_inr:= @Sum.isLeft_inr
theorem jM:type_of% @and_self:= @and_self
theorem gZ:type_of% @and_true:= @and_true
theorem fC:type_of% @beq_eq_false_iff_ne:= @beq_eq_false_iff_ne
theorem dk:type_of% @beq_iff_eq:= @beq_iff_eq
theorem cf:type_of% @congrArg:= @congrArg
theorem aP:type_of% @decide_eq_true_eq:= @decide_eq_true_eq
theorem cP:type_of% @decide_true:= @decide_true
theorem iO:type_of% @eq_self:= @eq_self
theorem bz:type_of% @if_false:= @if_false
theorem bG:type_of% @if_true:= @if_true
end Go.Ab
namespace Go.Ab
theorem fg{p:Prop}(h:p:=by decide):p:=h
theorem ao{p:Prop}(h:p:=by omega):p:=h
theorem cq{p:Prop}(h:p:=by kernel_rfl):p:=h
inductive Ty where
 |int (k:iv) | bool | str | slice (t:Ty) | unit | pair (a b:Ty) | arr (n:Nat) (t:Ty)
 |gE (t:Ty)
 |gm (t:Ty)
 deriving DecidableEq,Inhabited
@[reducible] def Ty.den:Ty->Type
 | .int _=>Int
 | .bool=>Bool
 | .str=>ByteArray
 | .slice t=>List t.den
 | .unit=>Unit
 | .pair a b=>a.den×b.den
 | .arr _ t=>List t.den
 | .gE t=>Option (List t.den)
 | .gm t=>Option t.den
def Ty.size:Ty->Nat
 | .unit=>0
 | .pair a b=>a.size+b.size
 | .arr n t=>n*t.size
 | .int _ | .bool | .str | .slice _ | .gE _ | .gm _=>1
def Ty.agg:Ty->Bool
 | .unit | .pair _ _ | .arr _ _=>aS
 | .int _ | .bool | .str | .slice _ | .gE _ | .gm _=>bq
def Ty.zero:(t:Ty)->t.den
 | .int _=>(0:Int)
 | .bool=>bq
 | .str=>ByteArray.empty
 | .slice _=> []
 | .unit=>()
 | .pair a b=>(a.zero,b.zero)
 | .arr n t=>ai n t.zero
 | .gE _=>aF
 | .gm _=>aF
def Ty.comp:Ty->Bool
 | .slice _ | .gE _ | .gm _=>bq
 | .pair a b=>a.comp && b.comp
 | .arr _ t=>t.comp
 | .int _ | .bool | .str | .unit=>aS
def lS{α:Type}(f:α->α->Bool):List α->List α->Bool
 |[],[]=>aS
 |x::xs,y::ys=>f x y && lS f xs ys
 |_,_=>bq
def Ty.beq:(t:Ty)->t.den->t.den->Bool
 | .int _,x,y=>(x:Int)==y
 | .bool,x,y=>(x:Bool)==y
 | .str,x,y=>(x:ByteArray).toList==(y:ByteArray).toList
 | .slice t,x,y=>lS t.beq x y
 | .unit,_,_=>aS
 | .pair a b,x,y=>a.beq x.1 y.1 && b.beq x.2 y.2
 | .arr _ t,x,y=>lS t.beq x y
 | .gE t,x,y=>lS t.beq (x.getD []) (y.getD [])
 | .gm _,_,_=>bq
def sE(t t':Ty)(x:t.den):Option t'.den:=if h:t=t' then av (h▸x) else aF
def Vo:(a b:Ty)->Option (a.den->b.den)
 | .gE t,.slice t'=>if h:t=t' then av λo=>cast (cf (λt:Ty=>List t.den) h) (o.getD []) else aF
 | .slice t,.gE t'=>if h:t=t' then av λl=>av (cast (cf (λt:Ty=>List t.den) h) l) else aF
 | .pair a b,.pair c d=>match Vo a c,Vo b d with
  |some f,av k=>av λx=>(f x.1,k x.2)
  |_,_=>aF
 | .slice a,.slice b=>match Vo a b with
  |some f=>av (List.map f)
  |none=>aF
 |a,b=>if h:a=b then av (cast (cf Ty.den h)) else aF
def aJZ(a b:Ty)(x:a.den):b.den:=match Vo a b with | some f=>f x | none=>b.zero
def DQ(t t':Ty)(x:t.den):Option t'.den:=
 match sE t t' x with
 |some y=>av y
 |none=>match Vo t t' with
  |some f=>av (f x)
  |none=>aF
def nth(t:Ty)(l:List t.den)(i:Nat):t.den:=l.getD i t.zero
inductive Id where
 |cl (k:Nat)
 |new (site j:Nat)
 deriving DecidableEq,Inhabited
inductive Gm where
 |fst | snd
 |idx (i:Nat)
 |arr
structure sA where
 y:Nat
 ps:Array Tmp
 as:Code
 b:Code
inductive aE where
 |undef
 |gone
 |cX | ns | uq | zX
 |d (t:Ty) (x:t.den)
 |pr (a b:aE)
 |ptr (id:Id) (ver:Nat) (p:List Gm) (n:Nat)
 |dN (t:Ty) (x:t.den)
 |dj (id:Id) (ver:Nat) (p:List Gm) (c i len:Nat)
 |fn (f:gg) (caps:aE)
 |cons (a b:aE)
 |nil
 |vec (e:TypeId) (t:Ty) (l:List t.den)
 |sb (l:List Int)
 |bx (e:TypeId) (z:Nat) (c:aE)
 |iy (id:Id) (ver:Nat)
 |mp (k v:Ty) (l:List (k.den×v.den))
 |qu (q:Id) (ver:Nat) (k v:Ty) (rest:List (k.den×v.den)) (cur:Option (k.den×v.den))
 |yl (id:Id) (ver:Nat)
 |xU (c:sA) (frame:aE) (p:Nat)
inductive dB where
 |dead
 |obj (ver:Nat) (fr:Bool) (c:aE)
def ub(c:aE):dB:= .obj 0 bq c
def di(c:aE):List dB:=[.obj 0 bq c]
def fc(q:Nat):aE:= .ptr (.new q 0) 0 [] 0
def kZ(q n:Nat):aE:= .dj (.new q 0) 0 [] 0 0 n
def Ma:aE:= .d .unit ()
def bX:aE:= .undef
structure AS where
 cj:List aE
 bS:List dB
 news:List (List dB)
def aW(n:Nat)(l:List aE):List aE:=ai n .undef++l
def bR(n:Nat)(l:List (List dB)):List (List dB):=ai n []++l
inductive Out(α:Type):Type 1 where
 |ok (a:α)
 |fail
 |pZ (c:Bool) (r:Out α)
 |get {β:Type} (x:Option β) (f:β->Out α)
 |br (c:Bool) (a b:Out α)
def Out.eval{α:Type}:Out α->Option α
 | .ok a=>av a
 | .fail=>aF
 | .pZ c r=>match c with | true=>r.eval | false=>aF
 | .get x f=>match x with | some y=>(f y).eval | none=>aF
 | .br c a b=>match c with | true=>a.eval | false=>b.eval
def aG{α:Type}(c:Bool)(x y:Option α):Option α:=match c with | true=>x | false=>y
def ak{α β:Type}(x:Option α)(f:α->Option β):Option β:=match x with | some a=>f a | none=>aF
def Out.run{α R:Type}:Out α->(α->Option R)->Option R
 | .ok a,k=>k a
 | .fail,_=>aF
 | .pZ c r,k=>aG c (r.run k) aF
 | .get x f,k=>ak x λy=>(f y).run k
 | .br c a b,k=>aG c (a.run k) (b.run k)
def Out.bind{α β:Type}:Out α->(α->Out β)->Out β
 | .ok a,f=>f a
 | .fail,_=> .fail
 | .pZ c r,f=> .pZ c (r.bind f)
 | .get x g,f=> .get x λy=>(g y).bind f
 | .br c a b,f=> .br c (a.bind f) (b.bind f)
def Out.opt{α:Type}:Option α->Out α
 |some a=> .ok a
 |none=> .fail
def Out.guard{α:Type}(c:Bool)(r:Out α):Out α:=match c with | true=>r | false=> .fail
def aE.size:aE->Nat
 | .d t _=>t.size
 | .pr a b=>a.size+b.size
 |_=>1
def aE.agg:aE->Bool
 | .d t _=>t.agg
 | .pr _ _=>aS
 |_=>bq
def aE.ew:aE->Bool
 | .undef | .cons _ _ | .nil | .vec .. | .bx .. | .mp .. | .qu .. | .xU .. =>bq
 |_=>aS
def aE.strip:aE->aE
 | .bx _ _ c=>c
 |c=>c
def aE.wrap:aE->aE->aE
 | .bx e z _,c=> .bx e z c
 |_,c=>c
def KH:aE->aE->aE
 | .d a x,.d b y=> .d (.pair a b) (x,y)
 |a,b=> .pr a b
def ofConst:Value->aE
 | .bool b=> .d .bool b
 | .int k n=> .d (.int k) n
 | .string s=> .d .str s
 | .slice aF 0 0=> .cX
 | .pointer aF=> .ns
 | .nilFunc=> .uq
 | .map aF=> .zX
 |_=> .undef
def AS.slot(s:AS)(i:Nat):aE:=s.cj.getD i .undef
structure aLy where
 g:Nat
 n:Nat
 k:iv
 zs:List Int
def aHK:List Int:=[0,1,56,2,57,49,28,3,61,58,42,50,38,29,17,4,62,47,59,36,45,43,51,22,53,39,33,30,24,18,12,5,63,55,48,27,60,41,37,16,46,35,44,21,52,32,23,11,54,26,40,15,34,20,31,10,25,14,19,9,13,8,7,6]
def GT:List aLy:=[⟨1,64,.u8,aHK⟩]
def alG(g:Nat):List aLy->aE
 |[]=> .undef
 |t::l=>match t.g==g with | true=> .dN (.arr t.n (.int t.k)) t.zs | false=>alG g l
def AS.ev(s:AS):bF->aE
 | .tmp t=>s.slot t
 | .const v=>ofConst v
 | .func f=> .fn f .nil
 | .global g=>alG g GT
def AS.put(s:AS)(dst:Option Tmp)(v:aE):AS:=
 match dst with
 |some t=> {s with cj:=s.cj.set t v}
 |none=>s
def AS.bU(s:AS):Id->Option dB
 | .cl k=>s.bS[k]?
 | .new i j=>(s.news.getD i [])[j]?
def AS.aY(s:AS)(id:Id)(e:dB):AS:=
 match id with
 | .cl k=> {s with bS:=s.bS.set k e}
 | .new i j=> {s with news:=s.news.set i ((s.news.getD i []).set j e)}
def AS.dM(s:AS)(i:Nat):Bool:=match s.news[i]? with | some []=>aS | _=>bq
def AS.born(s:AS)(i:Nat)(es:List dB):AS:= {s with news:=s.news.set i es}
def AS.obj(s:AS)(id:Id):Option (Nat×Bool×aE):=
 match s.bU id with
 |some (.obj v f c)=>av (v,f,c)
 |_=>aF
def UZ(P:aK)(nl:Bool):Nat->TypeId->Option Ty
 | 0,_=>aF
 |n+1,T=>
  match P.underlying T with
  |some (.int k)=>av (.int k)
  |some .bool=>av .bool
  |some .string=>av .str
  |some (.slice e)=>match UZ P bq n e with | some t=>av (match nl with | true=> .gE t | false=> .slice t) | none=>aF
  |some (.array k e)=>match UZ P nl n e with | some t=>av (.arr k t) | none=>aF
  |some (.pointer e)=>match UZ P bq n e with | some t=>av (.gm t) | none=>aF
  |some (.struct fs)=>fs.toList.foldr (λf acc=>match UZ P nl n f.type,acc with | some a,av b=>av (.pair a b) | _,_=>aF) (av .unit)
  |_=>aF
def ahc(P:aK):Nat->TypeId->Option Ty:=UZ P bq
def zeroOf(P:aK):Nat->TypeId->Option aE
 | 0,_=>aF
 |n+1,T=>
  match P.underlying T with
  |some (.int k)=>av (.d (.int k) (0:Int))
  |some .bool=>av (.d .bool bq)
  |some .string=>av (.d .str ByteArray.empty)
  |some (.slice _)=>av .cX
  |some (.pointer _)=>av .ns
  |some (.map _ _)=>av .zX
  |some (.func _ _ _)=>av .uq
  |some (.array k e)=>match ahc P n e with | some t=>av (.d (.arr k t) (ai k t.zero)) | none=>aF
  |some (.struct fs)=>fs.toList.foldr (λf acc=>match zeroOf P n f.type,acc with | some a,av b=>av (KH a b) | _,_=>aF) (av (.d .unit ()))
  |_=>aF
def depth:Nat:=12
def fits(P:aK)(T:TypeId)(v:aE):Bool:=
 v.ew && (P.cellsOf T==v.size) &&
 (match P.underlying T with | some (.struct _)=>v.agg | some (.array _ _)=>v.agg | some _=> !v.agg | none=>bq)
def mr:Nat->List Gm
 | 0=> [.fst]
 |n+1=> .snd::mr n
def loc:aE->List Gm->Out (Nat×aE)
 |c,[]=> .ok (0,c)
 |c,.arr::p=>loc c p
 | .pr a _,.fst::p=>loc a p
 | .pr a b,.snd::p=>(loc b p).bind λ(n,v)=> .ok (a.size+n,v)
 | .d (.pair a _) x,.fst::p=>loc (.d a x.1) p
 | .d (.pair a b) x,.snd::p=>(loc (.d b x.2) p).bind λ(n,v)=> .ok (a.size+n,v)
 | .d (.arr _ t) l,.idx i::p=> .pZ (decide (i < (l:List t.den).length)) ((loc (.d t (nth t l i)) p).bind λ(n,v)=> .ok (i*t.size+n,v))
 | .vec _ t l,.idx i::p=> .pZ (decide (i < l.length)) ((loc (.d t (nth t l i)) p).bind λ(n,v)=> .ok (i*t.size+n,v))
 |_,_::_=> .fail
def vm:aE->List Gm->aE->Out aE
 |c,.arr::p,v=>vm c p v
 | .vec ..,[],_=> .fail
 | .mp ..,[],_=> .fail
 | .qu ..,[],_=> .fail
 | .xU ..,[],_=> .fail
 |c,[],v=> .guard (v.ew && (c.size==v.size)) (.ok v)
 | .pr a b,.fst::p,v=>(vm a p v).bind λa'=> .ok (KH a' b)
 | .pr a b,.snd::p,v=>(vm b p v).bind λb'=> .ok (KH a b')
 | .d (.pair a b) x,.fst::p,v=>(vm (.d a x.1) p v).bind λa'=> .ok (KH a' (.d b x.2))
 | .d (.pair a b) x,.snd::p,v=>(vm (.d b x.2) p v).bind λb'=> .ok (KH (.d a x.1) b')
 | .d (.arr n t) l,.idx i::p,v=> .pZ (decide (i < (l:List t.den).length)) ((vm (.d t (nth t l i)) p v).bind fun
   | .d t' y=>(Out.opt (sE t' t y)).bind λy=> .ok (.d (.arr n t) ((l:List t.den).set i y))
   |_=> .fail)
 | .vec e t l,.idx i::p,v=> .pZ (decide (i < l.length)) ((vm (.d t (nth t l i)) p v).bind fun
   | .d t' y=>(Out.opt (sE t' t y)).bind λy=> .ok (.vec e t (l.set i y))
   |_=> .fail)
 |_,_::_,_=> .fail
def AS.row(s:AS)(id:Id)(ver:Nat)(p:List Gm):Out (Nat×(t:Ty)×List t.den):=
 match s.obj id with
 |some (v,_,c)=> .guard (v==ver) ((loc c.strip p).bind fun
  | (n,.d (.arr _ t) l)=> .ok (n,⟨t,l⟩)
  | (n,.vec _ t l)=> .ok (n,⟨t,l⟩)
  |_=> .fail)
 |none=> .fail
def cut{α:Type}(l:List α)(i len:Nat):List α:=(l.drop i).take len
def AS.im(s:AS):(t:Ty)->aE->Out t.den
 |t,.d t' x=>Out.opt (DQ t' t x)
 | .slice _,.cX=> .ok []
 | .gE _,.cX=> .ok aF
 | .slice t,.dj id ver p c i len=>(s.row id ver p).bind λr=> .pZ (decide (r.1+i*r.2.1.size=c/\i+len<=r.2.2.length)) (Out.opt (DQ (.slice r.2.1) (.slice t) (cut r.2.2 i len)))
 | .gE t,.dj id ver p c i len=>(s.row id ver p).bind λr=> .pZ (decide (r.1+i*r.2.1.size=c/\i+len<=r.2.2.length)) (Out.opt (DQ (.slice r.2.1) (.gE t) (cut r.2.2 i len)))
 | .pair a b,.pr x y=>(s.im a x).bind λx=>(s.im b y).bind λy=> .ok (x,y)
 |_,_=> .fail
def aE.shared:aE->List Id
 | .dj id _ _ _ _ _=> [id]
 | .pr a b=>a.shared++b.shared
 |_=> []
def AS.freeze(s:AS)(id:Id):AS:=
 match s.bU id with
 |some (.obj v _ c)=>s.aY id (.obj v aS c)
 |_=>s
def AS.bn(s:AS):List Id->AS
 |[]=>s
 |id::ids=>(s.freeze id).bn ids
end Go.Ab
namespace Go.Ab
def au5{α:Type}(f:α->List Value->Option (List Value)):List α->List Value->Option (List Value)
 |[],cs=>av cs
 |x::xs,cs=>match f x cs with | some r=>au5 f xs r | none=>aF
def vS:(t:Ty)->t.den->List Value->Option (List Value)
 | .int k,x,.int k' n::r=>match decide (k=k'),decide (n=(x:Int)) with | true,aS=>av r | _,_=>aF
 | .bool,x,.bool b::r=>match decide (b=(x:Bool)) with | true=>av r | false=>aF
 | .str,x,.string s::r=>match decide (s=(x:ByteArray)) with | true=>av r | false=>aF
 | .slice _,[],.slice aF 0 0::r=>av r
 | .gE _,aF,.slice aF 0 0::r=>av r
 | .gm _,aF,.pointer aF::r=>av r
 | .unit,_,r=>av r
 | .pair a b,x,r=>match vS a x.1 r with | some r'=>vS b x.2 r' | none=>aF
 | .arr n t,l,r=>match decide ((l:List t.den).length=n) with | true=>au5 (vS t) l r | false=>aF
 |_,_,_=>aF
def PS:aE->List Value->Option (List Value)
 | .d t x,r=>vS t x r
 | .cX,.slice aF 0 0::r=>av r
 | .ns,.pointer aF::r=>av r
 | .uq,.nilFunc::r=>av r
 | .zX,.map aF::r=>av r
 | .pr a b,r=>match PS a r with | some r'=>PS b r' | none=>aF
 |_,_=>aF
def pR:Value->Bool | .agg _=>aS | _=>bq
def ab5(P:aK)(T:TypeId)(z:aE):Bool:=
 match P.info? T with
 |some i=>match i.zero with
  |some zv=>(match PS z zv.cells.toList with | some []=>aS | _=>bq) && (pR zv==z.agg)
  |none=>bq
 |none=>bq
structure iJ where
 val:aE
 bS:List dB
 news:List dB
structure Entry where
 params:List (Option Ty)
 X:Type
 run:List aE->List dB->Option X
 out:List aE->List dB->X->iJ
 sp:X->Out X:= .ok
 an4:∀x y,(sp x).eval=av y->y=x:=by exact λx y h=>(Option.some.inj h).symm
 rel:Bool:=bq
 set:List aE->List dB->X->Prop:=λ_ _ _=>False
abbrev sa:=gg->List aE->Option Entry
def aE.ids:aE->List Id
 | .ptr id _ _ _=> [id]
 | .dj id _ _ _ _ _=> [id]
 | .pr a b=>a.ids++b.ids
 | .cons a b=>a.ids++b.ids
 | .fn _ c=>c.ids
 | .bx _ _ c=>c.ids
 | .iy id _=> [id]
 | .yl id _=> [id]
 | .xU _ f _=>f.ids
 | .qu id _ _ _ _ _=> [id]
 |_=> []
def dB.ids:dB->List Id
 | .obj _ _ c=>c.ids
 | .dead=> []
def AS.reach(s:AS):Nat->List Id->List Id->List Id
 | 0,_,acc=>acc
 |_+1,[],acc=>acc
 |n+1,id::todo,acc=>if acc.contains id then s.reach n todo acc else s.reach n (((s.bU id).getD .dead).ids++todo) (acc++ [id])
def idxOf(id:Id):List Id->Option Nat
 |[]=>aF
 |x::xs=>if x=id then av 0 else(idxOf id xs).map (· +1)
def aE.gJ(ρ:Id->Nat->Option (Id×Nat)):aE->aE
 | .ptr id ver p n=>match ρ id ver with | some r=> .ptr r.1 r.2 p n | none=> .gone
 | .dj id ver p c i len=>match ρ id ver with | some r=> .dj r.1 r.2 p c i len | none=> .gone
 | .pr a b=> .pr (a.gJ ρ) (b.gJ ρ)
 | .cons a b=> .cons (a.gJ ρ) (b.gJ ρ)
 | .fn f c=> .fn f (c.gJ ρ)
 | .bx e z c=> .bx e z (c.gJ ρ)
 | .iy id ver=>match ρ id ver with | some r=> .iy r.1 r.2 | none=> .gone
 | .yl id ver=>match ρ id ver with | some r=> .yl r.1 r.2 | none=> .gone
 | .xU k f p=> .xU k (f.gJ ρ) p
 | .qu id _ k v rest cur=> .qu id 0 k v rest cur
 |v=>v
def AS.uC(s:AS)(ids:List Id)(id:Id)(ver:Nat):Option (Id×Nat):=
 match idxOf id ids,s.obj id with
 |some k,av (v,_,_)=>if v=ver then av (.cl k,0) else aF
 |_,_=>aF
def AS.lk(s:AS)(ids:List Id)(id:Id):dB:=
 match s.bU id with
 |some (.obj _ fr c)=> .obj 0 fr (c.gJ (s.uC ids))
 |_=> .dead
def AS.zC(s:AS)(id:Id):Nat:=match s.obj id with | some (v,_,_)=>v | none=>0
def aD9(ids:List Id)(dst:Nat):Id->Id
 | .cl k=>ids.getD k (.cl 0)
 | .new _ j=> .new dst j
def AS.sT(s:AS)(ids:List Id)(dst:Nat):Id->Nat->Option (Id×Nat)
 | .cl k,v=>match ids[k]? with | some id=>av (id,s.zC id+v) | none=>aF
 | .new _ j,v=>av (.new dst j,v)
def AS.pM(s:AS)(ids:List Id)(dst:Nat)(ver:Nat):dB->dB
 | .obj v fr c=> .obj (ver+v) fr (c.gJ (s.sT ids dst))
 | .dead=> .dead
def AS.conv(s:AS):List (Option Ty)->List aE->Out (List aE×List Id)
 |[],[]=> .ok ([],[])
 |some t::ps,v::vs=>(s.im t v).bind λx=>(s.conv ps vs).bind λr=> .ok (.d t x::r.1,v.shared++r.2)
 |none::ps,v::vs=>(s.conv ps vs).bind λr=> .ok (v::r.1,r.2)
 |_,_=> .fail
def AS.iR(s0:AS)(all:List Id)(dst:Nat)(s:AS):List Id->List dB->AS
 |id::ids,e::es=>AS.iR s0 all dst (s.aY id (s0.pM all dst (s0.zC id) e)) ids es
 |_,_=>s
def aE.list:aE->List aE
 | .cons a b=>a::b.list
 |_=> []
def AS.made(s:AS)(ids:List Id)(t:Nat):List dB->AS
 |[]=>s
 |e::es=>s.born t ((e::es).map (s.pM ids t 0))
def AS.back(s:AS)(ids:List Id)(dst:Option Tmp)(g:iJ):Out AS:=
 match dst with
 |some t=> .guard ((g.bS.length==ids.length) && (g.news.isEmpty || s.dM t))
   (.ok ((AS.iR s ids t (s.made ids t g.news) ids g.bS).put dst (g.val.gJ (s.sT ids t))))
 |none=> .guard ((g.bS.length==ids.length) && g.news.isEmpty) (.ok (AS.iR s ids 0 s ids g.bS))
def AS.XZ(s:AS)(vs:List aE):List Id:=s.reach 64 (vs.flatMap aE.ids) []
def AS.M1(s:AS)(id:Id):Bool:=match s.obj id with | some (_,aS,.mp ..)=>bq | _=>aS
def AS.enter(s:AS)(en:Entry)(dst:Option Tmp)(ids:List Id)(vs:List aE):Out AS:= .guard (ids.all λid=>(s.obj id).isSome && s.M1 id) (.get (en.run (vs.map (aE.gJ (s.uC ids))) (ids.map (s.lk ids))) λx=>(en.sp x).bind λx=>s.back ids dst (en.out (vs.map (aE.gJ (s.uC ids))) (ids.map (s.lk ids)) x))
def AS.call(s:AS)(en:Entry)(dst:Option Tmp)(vs:List aE):Out AS:=(s.conv en.params vs).bind λr=>(s.bn r.2).enter en dst ((s.bn r.2).XZ r.1) r.1
def cn(op:BinOp)(k:iv)(x y:Int):Int:=
 match op with
 | .and=>k.wrap ((bf k.bits x &&& bf k.bits y).toNat)
 | .or=>k.wrap ((bf k.bits x ||| bf k.bits y).toNat)
 | .xor=>k.wrap ((bf k.bits x^^^bf k.bits y).toNat)
 |_=>k.wrap ((bf k.bits x &&& ~~~bf k.bits y).toNat)
def awf(op:BinOp)(k:iv)(x:Int)(k':iv)(y:Int):Out aE:=
 match op with
 | .shl=> .pZ (decide (0<=y)) (.ok (.d (.int k) (k.wrap (x*2^(min y.toNat k.bits)))))
 | .shr=> .pZ (decide (0<=y)) (.ok (.d (.int k) (x.fdiv (2^(min y.toNat k.bits)))))
 |_=> .guard (decide (k=k')) (match op with
  | .add=> .ok (.d (.int k) (k.wrap (x+y)))
  | .sub=> .ok (.d (.int k) (k.wrap (x - y)))
  | .mul=> .ok (.d (.int k) (k.wrap (x*y)))
  | .quo=> .pZ (!(decide (y=0))) (.ok (.d (.int k) (k.wrap (x.tdiv y))))
  | .rem=> .pZ (!(decide (y=0))) (.ok (.d (.int k) (x.tmod y)))
  | .eql=> .ok (.d .bool (x==y))
  | .neq=> .ok (.d .bool (x !=y))
  | .lss=> .ok (.d .bool (decide (x < y)))
  | .leq=> .ok (.d .bool (decide (x<=y)))
  | .gtr=> .ok (.d .bool (decide (x > y)))
  | .geq=> .ok (.d .bool (decide (x>=y)))
  |op=> .ok (.d (.int k) (cn op k x y)))
def azn(op:BinOp)(x y:ByteArray):Out aE:=
 match op with
 | .add=> .pZ (decide (((x.size+y.size:Nat):Int)<=IntKind.i64.max)) (.ok (.d .str (x++y)))
 | .eql=> .ok (.d .bool (x.toList==y.toList))
 | .neq=> .ok (.d .bool (!(x.toList==y.toList)))
 | .lss=> .ok (.d .bool (Op.bytesLess x.toList y.toList))
 | .geq=> .ok (.d .bool (!(Op.bytesLess x.toList y.toList)))
 |_=> .fail
def Il(P:aK)(T:TypeId)(b:Bool):Bool:=
 match P.underlying T with | some (.struct _)=>b | some (.array _ _)=>b | some _=> !b | none=>bq
def H2(P:aK)(pZ:TypeId->Ty->Bool):List Field->Ty->Nat->Bool
 |[],.unit,_=>aS
 |f::fs,.pair a b,off=> !(f.name== "_") && (f.offset==off) && !(a.size==0) && (P.cellsOf f.type==a.size) && Il P f.type a.agg && pZ f.type a && H2 P pZ fs b (off+a.size)
 |_,_,_=>bq
def qc(P:aK):Nat->TypeId->Ty->Bool
 | 0,_,_=>bq
 |n+1,T,t=>match P.underlying T,t with
  |some (.int _),.int _=>aS
  |some .bool,.bool=>aS
  |some .string,.str=>aS
  |some (.array m e),.arr m' t'=>(m==m') && !(t'.size==0) && (P.cellsOf e==t'.size) && Il P e t'.agg && qc P n e t'
  |some (.struct fs),t=> !P.stoodInHeld T && H2 P (qc P n) fs.toList t 0
  |_,_=>bq
def yD(P:aK)(T:TypeId):aE->aE->Out Bool
 | .d t x,.d t' y=>(Out.opt (sE t' t y)).bind λy=> .guard ((t.agg && !P.eqGuardType P.depth T || decide (t= .bool)) && qc P depth T t) (.ok (t.beq x y))
 | .cX,.cX=> .guard (isSl P T) (.ok aS)
 | .d (.slice t) l,.cX=> .guard (isSl P T) (.pZ (decide (0 < (l:List t.den).length)) (.ok bq))
 | .cX,.d (.slice t) l=> .guard (isSl P T) (.pZ (decide (0 < (l:List t.den).length)) (.ok bq))
 | .dj _ _ _ _ _ len,.cX=> .guard (isSl P T) (.pZ (decide (0 < len)) (.ok bq))
 | .cX,.dj _ _ _ _ _ len=> .guard (isSl P T) (.pZ (decide (0 < len)) (.ok bq))
 | .ns,.ns=> .guard (isPt P T) (.ok aS)
 | .ptr ..,.ns=> .guard (isPt P T) (.ok bq)
 | .ns,.ptr .. => .guard (isPt P T) (.ok bq)
 | .d (.gm t) x,.ns=> .guard (isPt P T) (.ok (x:Option t.den).isNone)
 | .ns,.d (.gm t) x=> .guard (isPt P T) (.ok (x:Option t.den).isNone)
 | .uq,.uq=> .guard (isFn P T) (.ok aS)
 | .fn ..,.uq=> .guard (isFn P T) (.ok bq)
 | .uq,.fn .. => .guard (isFn P T) (.ok bq)
 |_,_=> .fail
where
 isSl (P:aK) (T:TypeId):Bool:=match P.underlying T with | some (.slice _)=>aS | _=>bq
 isPt (P:aK) (T:TypeId):Bool:=match P.underlying T with | some (.pointer _)=>aS | _=>bq
 isFn (P:aK) (T:TypeId):Bool:=match P.underlying T with | some (.func _ _ _)=>aS | _=>bq
def aEO(P:aK)(T:TypeId)(op:BinOp)(x y:aE):Out aE:=
 match x,y with
 | .d (.int k) a,.d (.int k') b=>awf op k a k' b
 | .d .str a,.d .str b=>azn op a b
 |x,y=>match op with
  | .eql=>(yD P T x y).bind λb=> .ok (.d .bool b)
  | .neq=>(yD P T x y).bind λb=> .ok (.d .bool (!b))
  |_=> .fail
def aJO(op:UnOp)(x:aE):Out aE:=
 match op,x with
 | .not,.d .bool b=> .ok (.d .bool (!b))
 | .neg,.d (.int k) n=> .ok (.d (.int k) (k.wrap (0 - n)))
 | .xor,.d (.int k) n=> .ok (.d (.int k) (cn .xor k (if k.signed then -1 else k.max) n))
 |_,_=> .fail
def bw(s:ByteArray):List Int:=s.data.toList.map λb=>(b.toNat:Int)
def gO(l:List Int):ByteArray:=⟨(l.map λn=>UInt8.ofNat n.toNat).toArray⟩
def AS.aj2(s:AS)(t:Ty)(v:aE):Out t.den:=s.im t v
def auq(P:aK)(s:AS)(obj:Bool)(src dst:TypeId)(x:aE):Out aE:=
 match x,P.underlying dst,P.underlying src with
 | .d (.int _) n,av (.int k),av _=> .ok (.d (.int k) (k.wrap n))
 | .d .str a,av .string,av _=> .ok (.d .str a)
 | .d .str a,av (.slice e),av _=>match P.underlying e with
  |some (.int .u8)=>match obj with | true=> .ok (.sb (bw a)) | false=> .ok (.d (.slice (.int .u8)) (bw a))
  |_=> .fail
 |x,av .string,av (.slice e)=>match P.underlying e with
  |some (.int .u8)=>(s.aj2 (.slice (.int .u8)) x).bind λl=> .ok (.d .str (gO l))
  |_=> .fail
 |_,_,_=> .fail
def aur(P:aK)(src dst:TypeId)(l:List Int):Out aE:=
 match P.underlying dst,P.underlying src with
 |some (.slice e),av (.slice _)=>match P.underlying e with
  |some (.int .u8)=> .guard (src==dst) (.ok (.d (.slice (.int .u8)) l))
  |_=> .fail
 |_,_=> .fail
def Xd(P:aK)(s:AS)(obj:Bool)(src dst:TypeId)(x:aE):Out aE:=
 match x with
 | .sb l=>aur P src dst l
 |x=>auq P s obj src dst x
def ac4(P:aK)(s:AS)(d:Option Tmp)(src dst:TypeId)(id:Id)(ver len:Nat):Out AS:=
 match s.obj id,P.underlying dst with
 |some (v,bq,.vec _ (.int .u8) l),av (.slice e)=>match P.underlying e with
  |some (.int .u8)=> .guard ((v==ver) && (src==dst)) (.pZ (decide (0 < len/\len=(l:List Int).length)) (.ok ((s.aY id .dead).put d (.d (.slice (.int .u8)) l))))
  |_=> .fail
 |_,_=> .fail
def Xe(P:aK)(s:AS)(src dst:TypeId)(id:Id)(ver:Nat):Out aE:=
 match s.obj id with
 |some (v,_,.bx e 0 c)=>match P.underlying src,P.underlying dst with
  |some (.pointer t),av .unsafePointer=> .guard ((v==ver) && !(P.cellsOf t==0) && !(c.size==0)) (.ok (.ptr id ver [] 0))
  |some .unsafePointer,av (.pointer u)=> .guard ((v==ver) && !(P.cellsOf u==0) && liesAt P P.depth e (c.size / P.cellsOf e) 0 u 1) (.ok (.ptr id ver [] 0))
  |_,_=> .fail
 |_=> .fail
def aI0(P:aK)(T:TypeId):Bool:=match P.underlying T with | some (.pointer u)=>(P.info? u).isSome | _=>bq
def aG6(P:aK)(s:AS)(T:TypeId)(op:BinOp)(i:Id)(v:Nat)(j:Id)(w:Nat):Out aE:=
 match s.obj i with
 |some (v',_,_)=> .guard (decide (i=j) && (v==w) && (v==v') && aI0 P T) (match op with | .eql=> .ok (.d .bool aS) | .neq=> .ok (.d .bool bq) | _=> .fail)
 |none=> .fail
def agW(P:aK)(s:AS)(d:Option Tmp)(T:TypeId)(id:Id)(ver:Nat)(n:Int):Out AS:=
 match s.obj id,P.underlying T with
 |some (v,bq,.vec e (.int .u8) l),av (.pointer u)=> .guard ((v==ver) && (u==e) && (P.cellsOf e==1))
   (.pZ (decide (0 < n/\n<=((l:List Int).length:Int))) (.ok ((s.aY id .dead).put d (.d .str (gO ((l:List Int).take n.toNat))))))
 |_,_=> .fail
def asInt:aE->Out Int
 | .d (.int _) n=> .ok n
 |_=> .fail
def bounds(s:AS)(n:Nat)(lo hi:Option bF):Out (Nat×Nat):=
 (match hi with
  |some h=>(asInt (s.ev h)).bind λh=> .pZ (decide (0<=h/\h<=(n:Int))) (.ok h.toNat)
  |none=> .ok n).bind λh=>
 (match lo with
  |some l=>(asInt (s.ev l)).bind λl=> .pZ (decide (0<=l/\l<=(h:Int))) (.ok l.toNat)
  |none=> .ok 0).bind λl=> .ok (l,h)
def jU(P:aK)(T:TypeId):Option Nat:=
 match P.underlying T with
 |some (.array _ e)=>match P.cellsOf e with | 0=>aF | z+1=>av (z+1)
 |some (.slice e)=>match P.cellsOf e with | 0=>aF | z+1=>av (z+1)
 |_=>aF
def vi(P:aK)(T:TypeId):Option Nat:=
 match P.underlying T with
 |some (.array n _)=>av n
 |_=>aF
def Fe(P:aK)(s:AS)(T:TypeId)(x:aE)(lo hi:Option bF):Out aE:=
 match x with
 | .d .str a=> .guard (match P.underlying T with | some .string=>aS | _=>bq) ((bounds s a.size lo hi).bind λb=> .ok (.d .str (a.extract b.1 b.2)))
 | .d (.slice t) l=> .guard (match jU P T,vi P T with | some z,aF=>z==t.size | _,_=>bq)
   ((bounds s (l:List t.den).length lo hi).bind λb=> .ok (.d (.slice t) (cut l b.1 (b.2 - b.1))))
 | .cX=> .guard (match jU P T,vi P T with | some _,aF=>aS | _,_=>bq) ((bounds s 0 lo hi).bind λ_=> .ok .cX)
 | .dj id ver p c i len=>(s.row id ver p).bind λr=> .guard (match jU P T,vi P T with | some z,aF=>z==r.2.1.size | _,_=>bq)
   ((bounds s len lo hi).bind λb=> .ok (.dj id ver p (c+b.1*r.2.1.size) (i+b.1) (b.2 - b.1)))
 | .ptr id ver p n=>(s.row id ver p).bind λr=> .guard (match jU P T,vi P T with | some z,av _=>z==r.2.1.size | _,_=>bq)
   (.pZ (decide (vi P T=av r.2.2.length/\r.1=n)) ((bounds s ((vi P T).getD 0) lo hi).bind λb=> .ok (.dj id ver (p++ [.arr]) (n+b.1*r.2.1.size) b.1 (b.2 - b.1))))
 | .dN (.arr n t) l=> .guard (match jU P T,vi P T with | some z,av m=>(z==t.size) && (m==n) | _,_=>bq)
   ((bounds s n lo hi).bind λb=> .ok (.d (.slice t) (cut l b.1 (b.2 - b.1))))
 |_=> .fail
def aCh:aE->Int
 | .d (.slice t) l=>((l:List t.den).length:Int)
 | .dj _ _ _ _ _ len=>(len:Int)
 | .cX=>0
 |_=> -1
def ado:Option bF->aE->aE
 |some _,.dj id ver p c i len=> .dj id ver (p++ [.arr]) c i len
 |_,v=>v
def LL(P:aK)(s:AS)(T:TypeId)(x:aE)(lo:Option bF)(h m:bF):Out aE:=(asInt (s.ev h)).bind λhv=>(asInt (s.ev m)).bind λmv=> .pZ (decide (0<=hv/\hv<=mv/\mv<=aCh x)) ((Fe P s T x lo (av h)).bind λv=> .ok (ado (av m) v))
def pQ(P:aK)(s:AS)(T:TypeId)(x:aE)(i:Int):Out aE:=
 match x with
 | .d (.slice t) l=> .guard (match jU P T,vi P T with | some z,aF=>z==t.size | _,_=>bq)
   (.pZ (decide (0<=i/\i < ((l:List t.den).length:Int))) (.ok (.dN t (nth t l i.toNat))))
 | .dN (.arr n t) l=> .guard (match jU P T,vi P T with | some z,av m=>(z==t.size) && (m==n) | _,_=>bq)
   (.pZ (decide (0<=i/\i < (n:Int))) (.ok (.dN t (nth t l i.toNat))))
 | .dj id ver p c j len=>(s.row id ver p).bind λr=> .guard (match jU P T,vi P T with | some z,aF=>z==r.2.1.size | _,_=>bq)
   (.pZ (decide (0<=i/\i < (len:Int))) (.ok (.ptr id ver (p++ [.idx (j+i.toNat)]) (c+i.toNat*r.2.1.size))))
 | .ptr id ver p n=> .guard (match jU P T,vi P T with | some _,av _=>aS | _,_=>bq)
   (.pZ (decide (0<=i/\i < (((vi P T).getD 0:Nat):Int))) (.ok (.ptr id ver (p++ [.idx i.toNat]) (n+i.toNat*(jU P T).getD 0))))
 |_=> .fail
def fieldInfo(P:aK)(T:TypeId)(f:Nat):Option (Nat×TypeId):=
 match P.underlying T with
 |some (.struct fs)=>match fs[f]? with | some x=>av (x.offset,x.type) | none=>aF
 |_=>aF
def partOf:aE->Nat->Option (Nat×aE)
 | .d (.pair a _) x,0=>av (0,.d a x.1)
 | .d (.pair a b) x,n+1=>match partOf (.d b x.2) n with | some (o,v)=>av (a.size+o,v) | none=>aF
 | .pr a _,0=>av (0,a)
 | .pr a b,n+1=>match partOf b n with | some (o,v)=>av (a.size+o,v) | none=>aF
 |_,_=>aF
def BJ(P:aK)(T:TypeId)(x:aE)(f:Nat):Out aE:=
 match fieldInfo P T f with
 |some (o,ft)=> .guard (!(P.cellsOf ft==0)) (match x with
  | .ptr id ver p n=> .ok (.ptr id ver (p++mr f) (n+o))
  | .dN t x=>match partOf (.d t x) f with
   |some (o',.d t' y)=> .guard (o==o') (.ok (.dN t' y))
   |_=> .fail
  | .d (.gm t) x=> .get (x:Option t.den) λx=>match partOf (.d t x) f with
   |some (o',.d t' y)=> .guard (o==o') (.ok (.dN t' y))
   |_=> .fail
  |_=> .fail)
 |none=> .fail
def ZM(P:aK)(T:TypeId)(x:aE)(f:Nat):Out aE:=
 match fieldInfo P T f,partOf x f with
 |some (o,ft),av (o',v)=> .guard ((o==o') && fits P ft v) (.ok v)
 |_,_=> .fail
def aac(P:aK)(T:TypeId)(x:aE)(i:Int):Out aE:=
 match x,P.underlying T with
 | .d (.arr n t) l,av (.array m e)=> .guard ((n==m) && fits P e (.d t t.zero)) (.pZ (decide (0<=i/\i < (n:Int))) (.ok (.d t (nth t l i.toNat))))
 | .d .str a,av .string=> .pZ (decide (0<=i/\i < (a.size:Int))) (.ok (.d (.int .u8) ((a.data.toList.getD i.toNat 0).toNat:Int)))
 |_,_=> .fail
def aF9:aE->Out aE
 | .d (.gE t) l=> .pZ (l:Option (List t.den)).isNone (.ok .cX)
 |v=> .ok v
def Kx(P:aK)(s:AS)(T:TypeId)(x:aE):Out aE:=
 match x with
 | .ptr id ver p n=>match s.obj id with
  |some (v,_,c)=> .guard (v==ver) ((loc c.strip p).bind λr=> .guard (fits P T r.2) (.pZ (decide (r.1=n)) (aF9 r.2)))
  |none=> .fail
 | .dN t y=> .guard (fits P T (.d t y)) (.ok (.d t y))
 | .d (.gm t) y=> .get (y:Option t.den) λy=> .guard (fits P T (.d t y)) (.ok (.d t y))
 |_=> .fail
def Fg(P:aK)(s:AS)(T:TypeId)(x v:aE):Out AS:=
 match x with
 | .ptr id ver p n=>match s.obj id with
  |some (ve,fr,c)=> .guard ((ve==ver) && !fr && fits P T v) ((loc c.strip p).bind λr=> .guard (fits P T r.2) (.pZ (decide (r.1=n)) ((vm c.strip p v).bind λc'=> .ok (s.aY id (.obj ve fr (c.wrap c'))))))
  |none=> .fail
 |_=> .fail
def aCg(P:aK)(T:TypeId)(x:aE):Out aE:=
 match P.underlying T,x with
 |some .string,.d .str a=> .ok (.d (.int .i64) (a.size:Int))
 |some (.slice _),.d (.slice t) l=> .ok (.d (.int .i64) ((l:List t.den).length:Int))
 |some (.slice _),.cX=> .ok (.d (.int .i64) (0:Int))
 |some (.slice _),.dj _ _ _ _ _ len=> .ok (.d (.int .i64) (len:Int))
 |some (.array n _),_=> .ok (.d (.int .i64) (n:Int))
 |_,_=> .fail
def Ev(P:aK)(s:AS)(t:Ty)(X:TypeId)(x:aE):Out (List t.den):=
 match x with
 | .d .str a=>match P.underlying X with
  |some .string=>Out.opt (sE (.slice (.int .u8)) (.slice t) (bw a))
  |_=> .fail
 |x=>match P.underlying X with
  |some (.slice _)=>s.aj2 (.slice t) x
  |_=> .fail
def db(n b:Nat):Bool:=decide (n*b<=140737488355328/\n<=9223372036854775807)
def BH(P:aK)(nl:Bool)(T:TypeId):Option (TypeId×Ty×Nat):=
 match P.underlying T with
 |some (.slice e)=>match UZ P nl depth e with
  |some t=>match(P.cellsOf e==t.size) && !(t.size==0) && ab5 P e (.d t t.zero) with | true=>av (e,t,P.bytesOf e) | false=>aF
  |none=>aF
 |_=>aF
def Qd(P:aK)(T:TypeId):Option (TypeId×Ty×Nat):=BH P bq T
def ZE(P:aK)(T:TypeId):Option (TypeId×Ty×Nat):=
 match Nat.ble 100000 T with
 |true=>BH P aS (T - 100000)
 |false=>BH P bq T
def adH(P:aK)(s:AS)(dst:Option Tmp)(T X:TypeId)(n:Int):Out AS:=
 match Qd P T,dst,P.underlying X with
 |some (e,t,b),av q,av (.int _)=> .guard (s.dM q) (.pZ (decide (0 < n) && db n.toNat b)
   (.ok ((s.born q [.obj 0 bq (.vec e t (ai n.toNat t.zero))]).put dst (.dj (.new q 0) 0 [] 0 0 n.toNat))))
 |_,_,_=> .fail
def aqY(mx:Bool):List aE->Out aE
 |[.d (.int k) x,.d (.int k') y]=> .guard (decide (k=k')) (.ok (.d (.int k) (match mx with | true=>(if x < y then y else x) | false=>(if y < x then y else x))))
 |[.d (.int k) x,.d (.int k') y,.d (.int k2) z]=> .guard (decide (k=k') && decide (k=k2)) (.ok (.d (.int k) (match mx with | true=>(if(if x < y then y else x) < z then z else(if x < y then y else x)) | false=>(if z < (if y < x then y else x) then z else(if y < x then y else x)))))
 |_=> .fail
def vo(P:aK)(s:AS)(nl dt:Bool)(dst:Option Tmp)(T X:TypeId)(x y:aE):Out AS:=
 match BH P nl T,dst with
 |some (e,t,b),av q=>(Ev P s t X y).bind λm=>
  match x with
  | .cX=>match dt with
   |true=> .pZ (db m.length b && decide (0 < m.length)) (.ok (s.put dst (.d (.gE t) (av m))))
   |false=> .guard (s.dM q) (.pZ (db m.length b) (.ok ((s.born q [.obj 0 bq (.vec e t m)]).put dst (.dj (.new q 0) 0 [] 0 0 m.length))))
  | .dj id ver [] 0 0 len=>match s.obj id with
   |some (v,fr,.vec e' t' l)=> .guard ((v==ver) && (e==e')) ((Out.opt (sE (.slice t') (.slice t) l)).bind λl=>
     .pZ (decide (len<=l.length)) <| .pZ ((!fr) || decide (len=l.length)) (.pZ (db (len+m.length) b)
      (.ok ((s.aY id (.obj (v+1) fr (.vec e t (l.take len++m)))).put dst (.dj id (v+1) [] 0 0 (len+m.length))))))
   |_=> .fail
  |_=> .fail
 |_,_=> .fail
def Rm(P:aK)(s:AS)(dst:Option Tmp)(T X:TypeId)(x y:aE):Out AS:=
 match Qd P T,x with
 |some (_,t,_),.dj id ver [.arr] 0 0 len=>(Ev P s t X y).bind λm=>match s.obj id with
  |some (ve,bq,.d (.arr n t') l)=> .guard ((ve==ver) && (len==n)) ((Out.opt (sE (.slice t') (.slice t) l)).bind λl=> .pZ (decide (m.length<=n))
    (.ok ((s.aY id (.obj ve bq (.d (.arr n t) (m++(l:List t.den).drop m.length)))).put dst (.d (.int .i64) (m.length:Int)))))
  |_=> .fail
 |_,_=> .fail
def iH(t:Ty)(s:AS):List (Nat×bF)->List t.den->Out (List t.den×List Id)
 |[],l=> .ok (l,[])
 | (i,x)::ps,l=> .guard (decide (i < l.length)) ((s.im t (s.ev x)).bind λy=>(iH t s ps (l.set i y)).bind λr=> .ok (r.1,(s.ev x).shared++r.2))
def ou(P:aK)(fs:Array Field)(s:AS):List (Nat×bF)->aE->Out aE
 |[],v=> .ok v
 | (i,x)::ps,v=>match fs[i]?,partOf v i with
  |some f,av (o,cl)=> .guard ((f.offset==o) && fits P f.type cl && fits P f.type (s.ev x)) ((vm v (mr i) (s.ev x)).bind λv'=>ou P fs s ps v')
  |_,_=> .fail
def DL(P:aK)(s:AS)(dst:Option Tmp)(T:TypeId)(parts:List (Nat×bF)):Out AS:=
 match P.underlying T with
 |some (.struct fs)=>match zeroOf P depth T with
  |some z=> .guard (ab5 P T z && z.agg && fs.toList.all λf=>(P.info? f.type).isSome)
    ((ou P fs s parts z).bind λv=> .ok (s.put dst v))
  |none=> .fail
 |some (.array n e)=>match ahc P depth e with
  |some t=> .guard ((P.cellsOf e==t.size) && ab5 P T (.d (.arr n t) (ai n t.zero))) ((iH t s parts (ai n t.zero)).bind λr=> .ok ((s.bn r.2).put dst (.d (.arr n t) r.1)))
  |none=> .fail
 |_=> .fail
def lj(P:aK)(s:AS)(nl obj:Bool)(dst:Option Tmp)(T:TypeId)(n:Nat)(parts:List (Nat×bF)):Out AS:=
 match BH P nl T,dst with
 |some (e,t,_),av q=> .guard (decide (n*t.size<=16777216)) ((iH t s parts (ai n t.zero)).bind λr=>
   match obj with
   |true=> .guard (s.dM q) (.ok (((s.bn r.2).born q [.obj 0 bq (.vec e t r.1)]).put dst (.dj (.new q 0) 0 [] 0 0 r.1.length)))
   |false=> .ok ((s.bn r.2).put dst (.d (.slice t) r.1)))
 |_,_=> .fail
def pT(P:aK)(s:AS)(dst:Option Tmp)(T:TypeId)(len cap:Int):Out AS:=
 match Qd P T,dst with
 |some (e,t,b),av q=> .guard (s.dM q) (.pZ (decide (0<=len/\len<=cap) && db cap.toNat b)
   (.ok ((s.born q [.obj 0 bq (.vec e t (ai len.toNat t.zero))]).put dst (.dj (.new q 0) 0 [] 0 0 len.toNat))))
 |_,_=> .fail
def aC1(P:aK)(T:TypeId):Bool:=
 match P.underlying T with
 |some (.struct fs)=>fs.toList.any λf=>match P.underlying f.type with | some (.pointer u)=>decide (u=T) | _=>bq
 |_=>bq
def boxed(P:aK)(T:TypeId)(z:aE):aE:=match aC1 P T with | true=> .bx T 0 z | false=>z
def aEP(dt:Bool)(t:Ty)(x:t.den):aE:=match dt with | true=> .d (.gm t) (av x) | false=> .dN t x
def acD(P:aK)(s:AS)(obj dt:Bool)(dst:Option Tmp)(T:TypeId)(v:aE):Out AS:=
 match dst with
 |some q=>match obj with
  |true=> .guard (s.dM q && fits P T v) (.ok ((s.born q [.obj 0 bq v]).put dst (.ptr (.new q 0) 0 [] 0)))
  |false=>match ahc P depth T with
   |some t=> .guard (fits P T (.d t t.zero)) ((s.im t v).bind λx=> .ok ((s.bn v.shared).put dst (aEP dt t x)))
   |none=> .fail
 |none=> .fail
def I0(P:aK)(s:AS)(dst:Option Tmp)(T:TypeId)(x:aE):Out AS:=
 match P.underlying T with
 |some (.array n e)=>match ahc P depth e with
  |some t=> .guard ((P.cellsOf e==t.size) && !(n==0) && !(t.size==0)) ((s.im (.slice t) x).bind λl=> .pZ (decide (n<=(l:List t.den).length)) (.ok ((s.bn x.shared).put dst (.dN (.arr n t) (l.take n)))))
  |none=> .fail
 |_=> .fail
def pI(s:AS):List bF->aE
 |[]=> .nil
 |x::xs=> .cons (s.ev x) (pI s xs)
def xg:aE->Bool
 | .cons a b=>a.ew && xg b
 | .nil=>aS
 |_=>bq
def anO(c a b:aE):Out aE:=
 match c with
 | .d .bool c=>match a,b with
  | .d .bool x,.d .bool y=> .ok (.d .bool (bif c then x else y))
  |a,b=> .br c (.ok a) (.ok b)
 |_=> .fail
def isObj(bH:List Nat):Option Tmp->Bool
 |some q=>bH.any λx=>decide (x=q)
 |none=>bq
def aqb(bH:List Nat)(dst:Option Tmp):Bool:=isObj bH (dst.map (· +100000))
def aiV(bH:List Nat)(dst:Option Tmp):Bool:=isObj bH (dst.map (· +200000))
def oK:(t:Ty)->aE->Out t.den
 |t,.d t' x=>Out.opt (sE t' t x)
 | .slice _,.cX=> .ok []
 | .pair a b,.pr x y=>(oK a x).bind λx=>(oK b y).bind λy=> .ok (x,y)
 |_,_=> .fail
def mapOf(P:aK)(T:TypeId):Option (TypeId×TypeId×Ty×Ty):=
 match P.underlying T with
 |some (.map K V)=>match ahc P depth K,ahc P depth V with
  |some kt,av vt=>match qc P depth K kt && ab5 P V (.d vt vt.zero) with | true=>av (K,V,kt,vt) | false=>aF
  |_,_=>aF
 |_=>aF
def gQ{β:Type}(kt:Ty)(x:kt.den):List (kt.den×β)->Option Nat
 |[]=>aF
 |p::l=>match kt.beq x p.1 with | true=>av 0 | false=>(gQ kt x l).map (· +1)
def dq{β:Type}(kt:Ty)(x:kt.den)(l:List (kt.den×β)):Option β:=(gQ kt x l).bind λi=>(l[i]?).map (·.2)
def jq{β:Type}(kt:Ty)(x:kt.den)(v:β)(l:List (kt.den×β)):List (kt.den×β):=
 match gQ kt x l with | some i=>l.set i (x,v) | none=>l++ [(x,v)]
def kV{β:Type}(kt:Ty)(x:kt.den)(l:List (kt.den×β)):List (kt.den×β):=
 match gQ kt x l with | some i=>l.eraseIdx i | none=>l
def ahV(k v k' v':Ty)(l:List (k.den×v.den)):Option (List (k'.den×v'.den)):=if h:k=k'/\v=v' then av (h.1▸h.2▸l) else aF
def AS.qY(s:AS)(id:Id)(ver:Nat)(kt vt:Ty):Out (List (kt.den×vt.den)):=
 match s.obj id with
 |some (v,_,.mp k' v' l)=> .guard (v==ver) (Out.opt (ahV k' v' kt vt l))
 |_=> .fail
def AS.r9(s:AS)(id:Id):Bool:=match s.obj id with | some (_,fr,_)=> !fr | none=>bq
def aEj(vt:Ty)(ok:Bool)(r:Option vt.den):aE:=
 match ok with
 |true=> .cons (.d vt (r.getD vt.zero)) (.cons (.d .bool r.isSome) .nil)
 |false=> .d vt (r.getD vt.zero)
def Et(P:aK)(s:AS)(dst:Option Tmp)(T:TypeId):Out AS:=
 match mapOf P T,dst with
 |some (_,_,kt,vt),av q=> .guard (s.dM q) (.ok ((s.born q [.obj 0 bq (.mp kt vt [])]).put dst (.iy (.new q 0) 0)))
 |_,_=> .fail
def BZ(P:aK)(s:AS)(T:TypeId)(m k:aE)(ok:Bool):Out aE:=
 match mapOf P T,m with
 |some (_,_,kt,vt),.iy id ver=>(s.qY id ver kt vt).bind λl=>(oK kt k).bind λk=> .ok (aEj vt ok (dq kt k l))
 |_,_=> .fail
def B3(P:aK)(s:AS)(T:TypeId)(m k v:aE):Out AS:=
 match mapOf P T,m with
 |some (_,_,kt,vt),.iy id ver=>(s.qY id ver kt vt).bind λl=>(oK kt k).bind λk=>(oK vt v).bind λv=> .guard (s.r9 id) (.ok (s.aY id (.obj ver bq (.mp kt vt (jq kt k v l)))))
 |_,_=> .fail
def B2(P:aK)(s:AS)(T:TypeId)(m k:aE):Out AS:=
 match mapOf P T,m with
 |some (_,_,kt,vt),.iy id ver=>(s.qY id ver kt vt).bind λl=>(oK kt k).bind λk=> .guard (s.r9 id) (.ok (s.aY id (.obj ver bq (.mp kt vt (kV kt k l)))))
 |_,_=> .fail
def AS.aeM(s:AS)(id:Id)(ver:Nat):Bool:=match s.obj id with | some (v,aS,.mp ..)=>v==ver | _=>bq
def dB.awj(q:Id):dB->Bool
 | .obj _ _ (.qu q' ver _ _ _ _)=>decide (q'=q) && !(ver==0)
 |_=>bq
def AS.TA(s:AS)(q:Id):Bool:=s.bS.any (dB.awj q) || s.news.any λes=>es.any (dB.awj q)
def aaT(kt vt:Ty)(l:List (kt.den×vt.den))(j:Nat):kt.den×vt.den:=l.getD j (kt.zero,vt.zero)
def akz(P:aK)(s:AS)(dst:Option Tmp)(T:TypeId)(m:aE):Out AS:=
 match mapOf P T,m,dst with
 |some (_,_,kt,vt),.iy id ver,av q=>(s.qY id ver kt vt).bind λl=> .guard (s.r9 id && s.dM q)
   (.ok (((s.aY id (.obj ver aS (.mp kt vt l))).born q [.obj 0 bq (.qu id (ver+1) kt vt l aF)]).put dst (.ptr (.new q 0) 0 [] 0)))
 |_,_,_=> .fail
structure aoq where
 i:Id
 v:Nat
 fr:Bool
 q:Id
 vr:Nat
 kt:Ty
 vt:Ty
 rest:List (kt.den×vt.den)
 cur:Option (kt.den×vt.den)
def AS.awi(s:AS)(x:aE):Option aoq:=
 match x with
 | .ptr i ver [] 0=>match s.obj i with
  |some (v,fr,.qu q (vr+1) kt vt rest cur)=>match v==ver,s.aeM q vr with
   |true,aS=>av ⟨i,v,fr,q,vr,kt,vt,rest,cur⟩
   |_,_=>aF
  |_=>aF
 |_=>aF
def ain(s:AS)(x:aE):Out aE:=
 match s.awi x with
 |some ⟨_,_,_,_,_,kt,vt,_,av c⟩=> .ok (.cons (.d kt c.1) (.cons (.d vt c.2) .nil))
 |_=> .fail
def AS.drawn(s:AS)(t:aoq)(dst:Option Tmp)(j:Nat):AS:=(s.aY t.i (.obj t.v t.fr (.qu t.q (t.vr+1) t.kt t.vt (t.rest.eraseIdx j) (av (aaT t.kt t.vt t.rest j))))).put dst (.cons (.d .bool aS) (.cons (.d t.kt (aaT t.kt t.vt t.rest j).1) (.cons (.d t.vt (aaT t.kt t.vt t.rest j).2) .nil)))
def AS.unlock(s:AS)(id:Id):AS:=match s.obj id with | some (v,_,c)=>s.aY id (.obj v bq c) | none=>s
def AS.over(s:AS)(t:aoq)(dst:Option Tmp):Option AS:=
 match(s.aY t.i (.obj t.v t.fr (.qu t.q 0 t.kt t.vt [] aF))).TA t.q with
 |false=>av (((s.aY t.i (.obj t.v t.fr (.qu t.q 0 t.kt t.vt [] aF))).unlock t.q).put dst (.cons (.d .bool bq) .nil))
 |true=>aF
open Classical in
def aJ0{R:Type}(n:Nat)(k:Nat->Option R):Option R:=if h:∃r,0 < n/\∀j,j < n->k j=av r then av h.choose else aF
open Classical in
def aAT{X R:Type}(S:X->Prop)(k:X->Option R):Option R:=if h:∃r,(∃x,S x)/\∀x,S x->k x=av r then av h.choose else aF
def axw{R:Type}(s:AS)(dst:Option Tmp)(t:aoq)(k:AS->Option R):Option R:=
 aG (decide (0 < t.rest.length)) (aJ0 t.rest.length λj=>k (s.drawn t dst j)) (match s.over t dst with | some s'=>k s' | none=>aF)
def AS.anw(s:AS)(ids:List Id):Bool:=ids.all λid=>(s.obj id).isSome && s.M1 id
def AS.au7{R:Type}(s:AS)(en:Entry)(dst:Option Tmp)(ids:List Id)(vs:List aE)(k:AS->Option R):Option R:=aAT (en.set (vs.map (aE.gJ (s.uC ids))) (ids.map (s.lk ids))) λx=>((en.sp x).bind λx=>s.back ids dst (en.out (vs.map (aE.gJ (s.uC ids))) (ids.map (s.lk ids)) x)).run k
def AS.acI{R:Type}(s:AS)(en:Entry)(dst:Option Tmp)(vs:List aE)(k:AS->Option R):Option R:=((s.conv en.params vs).bind λr=> .guard ((s.bn r.2).anw ((s.bn r.2).XZ r.1)) (.ok r)).run λr=>(s.bn r.2).au7 en dst ((s.bn r.2).XZ r.1) r.1 k
def AS.aDM{R:Type}(s:AS)(en:Entry)(dst:Option Tmp)(vs:List aE)(k:AS->Option R):Option R:=
 match en.rel with | true=>s.acI en dst vs k | false=>(s.call en dst vs).run k
def yB:Nat:=4294967296
def oG(P:aK)(Γ:sa)(bH:List Nat)(o:Oper)(s:AS):Out AS:=
 match o.op with
 | .move x=> .ok (s.put o.dst (s.ev x))
 | .assign x=> .ok (s.put o.dst (s.ev x))
 | .pick c a b=>(anO (s.ev c) (s.ev a) (s.ev b)).bind λv=> .ok (s.put o.dst v)
 | .alloc T=>match zeroOf P depth T,o.dst with
  |some z,av q=> .guard (s.dM q && ab5 P T z) (.ok ((s.born q [.obj 0 bq (boxed P T z)]).put o.dst (.ptr (.new q 0) 0 [] 0)))
  |_,_=> .fail
 | .box T x=>acD P s (isObj bH o.dst) (aiV bH o.dst) o.dst T (s.ev x)
 | .build T parts=>DL P s o.dst T parts.toList
 | .buildSlice T n parts=>lj P s (aqb bH o.dst) (isObj bH o.dst) o.dst T n parts.toList
 | .load T x=>(Kx P s T (s.ev x)).bind λv=> .ok (s.put o.dst v)
 | .store T x v=>(Fg P s T (s.ev x) (s.ev v)).bind λs'=> .ok (s'.put o.dst .undef)
 | .nilCheck x=>match s.ev x with
  | .ptr id v p n=> .ok (s.put o.dst (.ptr id v p n))
  | .dN t y=> .ok (s.put o.dst (.dN t y))
  | .d (.gm t) y=> .get (y:Option t.den) λy=> .ok (s.put o.dst (.dN t y))
  | .fn f c=> .ok (s.put o.dst (.fn f c))
  |_=> .fail
 | .binOp op T x y _=>match s.ev x,s.ev y with
  | .ptr i v [] 0,.ptr j w [] 0=>(aG6 P s T op i v j w).bind λv=> .ok (s.put o.dst v)
  |_,_=>(aEO P T op (s.ev x) (s.ev y)).bind λv=> .ok (s.put o.dst v)
 | .unOp op _ x=>(aJO op (s.ev x)).bind λv=> .ok (s.put o.dst v)
 | .convert src dst x=>match src==dst,s.ev x with
  |true,.dj id ver [] 0 0 len=>ac4 P s o.dst src dst id ver len
  |_,.ptr id ver [] 0=>(Xe P s src dst id ver).bind λv=> .ok (s.put o.dst v)
  |_,_=>(Xd P s (isObj bH o.dst) src dst (s.ev x)).bind λv=> .ok (s.put o.dst v)
 | .sliceToArrayPointer T x=>I0 P s o.dst T (s.ev x)
 | .makeFunc (.func f) first caps=> .guard (first.isEmpty && xg (pI s caps.toList)) (.ok (s.put o.dst (.fn f (pI s caps.toList))))
 | .makeSlice T l c=>(asInt (s.ev l)).bind λl=>(asInt (s.ev c)).bind λc=>pT P s o.dst T l c
 | .slice T x lo hi aF=>(Fe P s T (s.ev x) lo hi).bind λv=> .ok (s.put o.dst v)
 | .slice T x lo (av h) (av m)=>(LL P s T (s.ev x) lo h m).bind λv=> .ok (s.put o.dst v)
 | .fieldAddr T x f=>(BJ P T (s.ev x) f).bind λv=> .ok (s.put o.dst v)
 | .field T x f=>(ZM P T (s.ev x) f).bind λv=> .ok (s.put o.dst v)
 | .indexAddr T x i=>(asInt (s.ev i)).bind λi=>(pQ P s T (s.ev x) i).bind λv=> .ok (s.put o.dst v)
 | .index T x i=>(asInt (s.ev i)).bind λi=>(aac P T (s.ev x) i).bind λv=> .ok (s.put o.dst v)
 | .extract x i=>(Out.opt ((s.ev x).list[i]?)).bind λv=> .ok (s.put o.dst v)
 | .makeMap T aF=>Et P s o.dst T
 | .lookup T x i ok=>(BZ P s T (s.ev x) (s.ev i) ok).bind λv=> .ok (s.put o.dst v)
 | .mapUpdate T m k x=>(B3 P s T (s.ev m) (s.ev k) (s.ev x)).bind λs'=> .ok (s'.put o.dst .undef)
 | .call c=>match c.callee with
  | .builtin .delete=>match c.args.toList,c.argTypes.toList with
   |[m,k],[T,_]=>(B2 P s T (s.ev m) (s.ev k)).bind λs'=> .ok (s'.put o.dst .nil)
   |_,_=> .fail
  | .builtin .copy=>match c.args.toList,c.argTypes.toList with
   |[x,y],[T,X]=>Rm P s o.dst T X (s.ev x) (s.ev y)
   |_,_=> .fail
  | .builtin .len=>match c.args.toList,c.argTypes.toList with
   |[x],[T]=>(aCg P T (s.ev x)).bind λv=> .ok (s.put o.dst v)
   |_,_=> .fail
  | .builtin .append=>match c.args.toList,c.argTypes.toList with
   |[x,y],[T,X]=>match s.ev x,s.ev y with
    | .cX,.d (.int _) n=>adH P s o.dst T X n
    |_,_=>vo P s (aqb bH o.dst) (aiV bH o.dst) o.dst T X (s.ev x) (s.ev y)
   |_,_=> .fail
  | .builtin .cap=>match c.args.toList,c.argTypes.toList with
   |[x],[T]=>match s.ev x,P.underlying T with
    | .cX,av (.slice _)=> .ok (s.put o.dst (.d (.int .i64) (0:Int)))
    |_,_=> .fail
   |_,_=> .fail
  | .builtin .max=>(aqY aS (c.args.toList.map s.ev)).bind λv=> .ok (s.put o.dst v)
  | .builtin .min=>(aqY bq (c.args.toList.map s.ev)).bind λv=> .ok (s.put o.dst v)
  | .builtin .unsafeSliceData=>match c.args.toList with
   |[x]=>match s.ev x with
    | .dj id ver [] 0 0 len=> .pZ (decide (0 < len)) (.ok (s.put o.dst (.ptr id ver [.idx 0] 0)))
    |_=> .fail
   |_=> .fail
  | .builtin .unsafeString=>match c.args.toList,c.argTypes.toList with
   |[x,y],[T,_]=>match s.ev x,s.ev y with
    | .ptr id ver [.idx 0] 0,.d (.int .i64) n=>agW P s o.dst T id ver n
    |_,_=> .fail
   |_,_=> .fail
  | .value f=>match s.ev f with
   | .fn f caps=>match Γ f (c.args.toList.map s.ev++caps.list) with
    |some en=> .guard (Nat.blt f yB) (s.call en o.dst (c.args.toList.map s.ev++caps.list))
    |none=> .fail
   |_=> .fail
  |_=> .fail
 |_=> .fail
def QA(xs:Array bF):List Nat:=xs.toList.filterMap λ | .tmp t=>av t | _=>aF
def Mz(ops:Array Oper)(o:Oper):List Nat:=
 match o.guard with
 |some (j,_)=>match(ops[j]?).bind (·.dst) with | some t=> [t] | none=> []
 |none=> []
def aA7{R:Type}(P:aK)(Γ:sa)(bH:List Nat)(ops:Array Oper)(o:Oper)(s:AS)(k:AS->Option R):Option R:=
 match o.guard with
 |none=>(oG P Γ bH o s).run k
 |some (j,want)=>match(ops[j]?).bind (·.dst) with
  |some q=>match s.slot q with
   | .d .bool b=>match want with
    |true=>aG b ((oG P Γ bH o (s.put (av q) (.d .bool aS))).run k) (k ((s.put (av q) (.d .bool bq)).put o.dst .nil))
    |false=>aG b (k ((s.put (av q) (.d .bool aS)).put o.dst .nil)) ((oG P Γ bH o (s.put (av q) (.d .bool bq))).run k)
   | .nil=>k (s.put o.dst .nil)
   |_=>aF
  |none=>aF
def Te(s:AS)(x y:bF):Option Nat:=
 match s.ev x,s.ev y with
 | .d (.slice t) l,.cX=>av (l:List t.den).length
 | .cX,.d (.slice t) l=>av (l:List t.den).length
 | .dj _ _ _ _ _ len,.cX=>av len
 | .cX,.dj _ _ _ _ _ len=>av len
 |_,_=>aF
open Classical in
def nd{R:Type}(x y:Option R):Option R:=if x=y then x else aF
def Ph:Code->List (Array Tmp×Code×Code)
 | .seq a b=>Ph a++Ph b
 | .cond _ a b=>Ph a++Ph b
 | .block _ b=>Ph b
 | .scope b=>Ph b
 | .loop b=>Ph b
 | .rangeFunc _ ps as b=> [(ps,as,b)]
 |_=> []
def aLh(fn:Func)(i y:Nat):sA:=match fn.body with
 |some c=>match(Ph c)[i]? with
  |some x=>⟨y,x.1,x.2.1,x.2.2⟩
  |none=>⟨y,#[],.skip,.skip⟩
 |none=>⟨y,#[],.skip,.skip⟩
def TI(P:aK)(y:Nat):sA:=match P.funcs[y%yB / 16]? with
 |some fn=>aLh fn (y%16) y
 |none=>⟨y,#[],.skip,.skip⟩
open Classical in
def same{R:Type}(c c':sA)(x:Option R):Option R:=if c=c' then x else aF
def AS.yielded(s:AS)(F:aE)(n:Nat):Option (Id×Nat×sA×aE):=
 match F with
 | .yl id ver=>match s.obj id with
  |some (v,bq,.xU c f 0)=>match v==ver && n==c.ps.size && Nat.ble yB c.y with
   |true=>av (id,ver,c,f)
   |false=>aF
  |_=>aF
 |_=>aF
def aEu(Γ:sa)(F:aE)(vs:List aE):Option (Entry×List aE):=
 match F with
 | .fn f caps=>match Γ f (vs++caps.list) with
  |some en=>match en.rel && Nat.blt f yB with | true=>av (en,vs++caps.list) | false=>aF
  |none=>aF
 |_=>aF
def aA8{R:Type}(P:aK)(Γ:sa)(bH:List Nat)(ops:Array Oper)(o:Oper)(s:AS)(k:AS->Option R):Option R:=
 match o.guard,o.op with
 |none,.binOp .eql T x y _=>match Te s x y,yD.isSl P T with
  |some n,aS=>aG (decide (0 < n)) (k (s.put o.dst (.d .bool bq))) (nd (k (s.put o.dst (.d .bool aS))) (k (s.put o.dst (.d .bool bq))))
  |_,_=>aA7 P Γ bH ops o s k
 |none,.binOp .neq T x y _=>match Te s x y,yD.isSl P T with
  |some n,aS=>aG (decide (0 < n)) (k (s.put o.dst (.d .bool aS))) (nd (k (s.put o.dst (.d .bool aS))) (k (s.put o.dst (.d .bool bq))))
  |_,_=>aA7 P Γ bH ops o s k
 |none,.range T m=>(akz P s o.dst T (s.ev m)).run k
 |none,.entry x=>((ain s (s.ev x)).bind λv=> .ok (s.put o.dst v)).run k
 |none,.next x bq=>match s.awi (s.ev x) with
  |some t=>axw s o.dst t k
  |none=>aF
 |none,.call c=>match c.callee with
  | .value F=>match s.yielded (s.ev F) c.args.size with
   |some (id,ver,rc,f)=>match Γ rc.y (.yl id ver::(c.args.toList.map s.ev++f.list)) with
    |some en=>same rc (TI P rc.y) ((s.call en o.dst (.yl id ver::(c.args.toList.map s.ev++f.list))).run k)
    |none=>aF
   |none=>match aEu Γ (s.ev F) (c.args.toList.map s.ev) with
    |some (en,vs)=>s.acI en o.dst vs k
    |none=>aA7 P Γ bH ops o s k
  |_=>aA7 P Γ bH ops o s k
 |_,_=>aA7 P Γ bH ops o s k
def seen{α R:Type}(l:List α):(List α->R)->R:=List.rec (motive:=λ_=>(List α->R)->R) (λk=>k []) (λx _ ih k=>ih λl'=>k (x::l')) l
theorem Lv{α R:Type}:∀(l:List α) (k:List α->R),seen l k=k l
 |[],_=>rfl
 |_::l,k=>Lv l _
def AS.seen{R:Type}(s:AS)(k:AS->R):R:=Go.Ab.seen s.cj λl=>k ⟨l,s.bS,s.news⟩
theorem AS.Lv{R:Type}(s:AS)(k:AS->R):s.seen k=k s:=Go.Ab.Lv _ _
def aA9{R:Type}(P:aK)(Γ:sa)(bH:List Nat)(ops:Array Oper):List Oper->AS->(AS->Option R)->Option R
 |[],s,k=>k s
 |o::l,s,k=>aA8 P Γ bH ops o s λs'=>s'.seen λs'=>aA9 P Γ bH ops l s' k
def Y3(acc:List Nat)(o:Oper):Nat:=(o.after.toList.filter (Region.binds .any)).foldr (λe m=>Nat.lor (Nat.lor (Nat.pow 2 e.on) (acc.getD e.on 0)) m) 0
def acq(ops:List Oper):List Nat:=ops.foldl (λacc o=>acc++ [Y3 acc o]) []
structure DB where
 dst:Option Tmp
 cj:List Nat
 rs:List Id
 ws:List Id
def X3:Op->Bool
 | .move _=>aS
 |_=>bq
def afd(s:AS)(o:Oper):List Id:=match X3 o.op with | true=> [] | false=>(QA o.op.operands).flatMap λi=>(s.slot i).ids
def tq:List (Option Ty)->List aE->List Id
 |none::ps,v::vs=>v.ids++tq ps vs
 |some _::ps,_::vs=>tq ps vs
 |_,_=> []
def writes(Γ:sa)(s:AS)(o:Oper):List Id:=
 match o.op with
 | .store _ x _=>(s.ev x).ids
 | .mapUpdate _ m _ _=>(s.ev m).ids
 | .convert src dst x=>match src==dst with | true=>(s.ev x).ids | false=> []
 | .call c=>match c.callee with
  | .builtin .append=>match c.args.toList with | x::_=>(s.ev x).ids | []=> []
  | .builtin .delete=>match c.args.toList with | x::_=>(s.ev x).ids | []=> []
  | .builtin .copy=>match c.args.toList with | x::_=>(s.ev x).ids | []=> []
  | .builtin .unsafeString=>match c.args.toList with | x::_=>(s.ev x).ids | []=> []
  | .value F=>match s.ev F with
   | .fn f caps=>match Γ f (c.args.toList.map s.ev++caps.list) with
    |some en=>s.reach 64 (tq en.params (c.args.toList.map s.ev++caps.list)) []
    |none=> []
   |_=> []
  |_=> []
 |_=> []
def fV(Γ:sa)(ops:Array Oper)(s:AS)(o:Oper):DB:= {dst:=o.dst,cj:=QA o.op.operands++Mz ops o,rs:=afd s o++writes Γ s o,ws:=writes Γ s o}
def meets(xs ys:List Id):Bool:=xs.any λx=>ys.any λy=>decide (x=y)
def DB.aIm(f g:DB):Bool:=
 match f.dst with
 |some t=>(g.cj.any λx=>decide (x=t)) || decide (g.dst=av t)
 |none=>bq
def Uh(d:Option Tmp)(ids:List Id):Bool:=
 match d with
 |some q=>ids.any λx=>match x with | .new i _=>decide (i=q) | .cl _=>bq
 |none=>bq
def DB.indep(f g:DB):Bool:= !f.aIm g && !g.aIm f && !meets f.ws g.rs && !meets g.ws f.rs && !Uh f.dst g.rs && !Uh g.dst f.rs
def XC{R:Type}(P:aK)(Γ:sa)(bH:List Nat)(ops:Array Oper)(anc:List Nat):Nat->List Oper->List (Nat×DB)->AS->(AS->Option R)->Option R
 |_,[],_,s,k=>k s
 |i,o::l,fs,s,k=>
  match fs.all λx=>(anc.getD i 0).testBit x.1 || x.2.indep (fV Γ ops s o) with
  |true=>aA7 P Γ bH ops o s λs'=>s'.seen λs'=>XC P Γ bH ops anc (i+1) l ((i,fV Γ ops s o)::fs) s' k
  |false=>aF
def ZD(ops:List Oper):Bool:=ops.zipIdx.all λx=>x.1.after.toList.all λe=> !Region.binds .any e || decide (e.on < x.2)
structure atw where
 j:Nat
 p:List Gm
 q:Nat
 T:TypeId
structure aJl where
 j:Nat
 p:List Gm
 t:Ty
structure nP where
 aX:List Nat:=[]
 sites:List Nat:=[]
 am0:List Id:=[]
 data:List (Nat×Ty):=[]
 owns:List atw:=[]
 Vp:List aJl:=[]
 aLY:List Nat:=[]
 aHG:List Id:=[]
 aMi:List Nat:=[]
 aNA:List Nat:=[]
 aJp:List (Nat×Nat):=[]
 aMj:Option Nat:=aF
structure eb where
 X:Type
 run:AS->Option X
 out:X->Out (Exit×AS)
 set:Option (AS->X->Prop):=aF
structure aor where
 an:nP
 X:Type
 aJG:Exit->AS->Option X
 out:X->Out (Exit×AS)
 ok:∀e s x,aJG e s=av x->(out x).eval=av (e,s)
structure A4 where
 bH:List Nat:=[]
 loops:Nat->nP:=λ_=> {}
 outs:Nat->Bool->nP:=λ_ _=> {}
 fo:Nat->Option eb:=λ_=>aF
 owns:List atw:=[]
 trim:List Nat:=[]
 res:List (Option Ty):=[]
 Vp:List aJl:=[]
 aIP:Nat->Option aor:=λ_=>aF
 aIQ:Nat->Option aor:=λ_=>aF
 rf:Nat->Option (Nat×List Nat):=λ_=>aF
 aNt:Nat->Option (List atw):=λ_=>aF
 ky:Option Nat:=aF
 aJp:List (Nat×Nat):=[]
def dz:Code->Nat
 | .region id _ _=>id
 | .seq a _=>dz a
 | .block _ b=>dz b
 | .loop b=>dz b
 | .scope b=>dz b
 | .cond _ a b=>match dz a with | 0=>dz b | n=>n
 |_=>0
def eg(aX:List Nat):Nat->List aE->List aE
 |_,[]=> []
 |i,v::vs=>(match aX.any (λx=>decide (x=i)) with | true=>v | false=> .undef)::eg aX (i+1) vs
def mu(aX:List Nat):Nat->List (List dB)->List (List dB)
 |_,[]=> []
 |i,v::vs=>(match aX.any (λx=>decide (x=i)) with | true=>v | false=> [])::mu aX (i+1) vs
def aE.head:aE->Option (Id×Nat)
 | .dj id ver [] 0 0 _=>av (id,ver)
 | .ptr id ver [] 0=>av (id,ver)
 |_=>aF
def K9(es:List dB)(b q:Nat)(i:Id)(ver:Nat):Option (Id×Nat):=
 match i with
 | .cl k=>av (.cl k,ver)
 | .new x j=>match decide (x=b) with
  |true=>(match es[j]? with | some (.obj v _ _)=>(match ver==v with | true=>av (.new q j,0) | false=>aF) | _=>aF)
  |false=>(match decide (x=q) with | true=>aF | false=>av (.new x j,ver))
def dB.akD(ρ:Id->Nat->Option (Id×Nat)):dB->dB
 | .obj _ fr c=> .obj 0 fr (c.gJ ρ)
 | .dead=> .dead
def aE.ar0(ρ:Id->Nat->Option (Id×Nat))(kp:Id->Bool):aE->aE
 | .qu q ver k v rest cur=>match kp q with | true=> .qu q ver k v rest cur | false=> .qu q 0 k v rest cur
 |c=>c.gJ ρ
def dB.We(ρ:Id->Nat->Option (Id×Nat))(kp:Id->Bool):dB->dB
 | .obj v fr c=> .obj v fr (c.ar0 ρ kp)
 | .dead=> .dead
def F1(b q:Nat):Id->Bool | .cl _=>aS | .new x _=> !decide (x=b) && !decide (x=q)
def AS.ET(s:AS)(b q:Nat)(es:List dB):AS:= {cj:=s.cj.map (aE.gJ (K9 es b q)),bS:=s.bS.map (dB.We (K9 es b q) (F1 b q)),news:=((s.news.map λes'=>es'.map (dB.We (K9 es b q) (F1 b q))).set b []).set q (es.map (dB.akD (K9 es b q)))}
def AS.at(s:AS)(j:Nat):List Gm->Out aE
 |[]=> .ok (s.slot j)
 |p=>match s.slot j with
  | .ptr id ver p0 _=>match s.obj id with
   |some (v,_,c)=> .guard (v==ver) ((loc c.strip (p0++p)).bind λr=> .ok r.2)
   |none=> .fail
  |_=> .fail
def AS.putAt(s:AS)(j:Nat)(v:aE):List Gm->Out AS
 |[]=> .ok (s.put (av j) v)
 |p=>match s.slot j with
  | .ptr id _ p0 _=>match s.obj id with
   |some (ver,fr,c)=>match c.strip with
    | .vec .. => .fail
    |c1=>(vm c1 (p0++p) v).bind λc'=> .ok (s.aY id (.obj ver fr (c.wrap c')))
   |none=> .fail
  |_=> .fail
def AS.still(s:AS):List Nat->AS
 |[]=>s
 |q::l=>(match s.obj (.new q 0) with | some (v,fr,.qu i ver k t r _)=>s.aY (.new q 0) (.obj v fr (.qu i ver k t r aF)) | _=>s).still l
def axU(α:Type):Setoid (List α):=⟨List.Perm,fI,List.Perm.symm,List.Perm.trans⟩
def ahU{α:Type}(l:List α):List α:=(Quotient.exists_rep (Quotient.mk (axU α) l)).choose
def AS.canon(s:AS):List Id->AS
 |[]=>s
 |id::l=>(match s.obj id with | some (v,fr,.mp k t r)=>s.aY id (.obj v fr (.mp k t (ahU r))) | _=>s).canon l
def Om(s:AS):List aJl->Out AS
 |[]=> .ok s
 |o::l=>match o.p,s.slot o.j with
  |_::_,.ns=>Om s l
  |_,_=>(s.at o.j o.p).bind λu=>(s.im o.t u).bind λx=>((s.bn u.shared).putAt o.j (.d o.t x) o.p).bind λs'=>Om s' l
def JY:(t:Ty)->t.den->Out aE
 | .gE t,x=> .pZ (x:Option (List t.den)).isNone (.ok .cX)
 | .pair a b,x=>(JY a x.1).bind λu=>(JY b x.2).bind λv=> .ok (KH u v)
 |t,x=> .ok (.d t x)
def apN(s:AS):List Nat->Out AS
 |[]=> .ok s
 |j::l=>match s.slot j with
  | .ptr id ver (.idx k::p) n=>match s.obj id with
   |some (v,bq,.vec e t r)=> .guard (v==ver) (.pZ (decide (k < r.length)) ((JY t (nth t r k)).bind λu=>
     apN ((s.aY id (.obj v bq (.bx e t.size (.pr (.d (.arr k t) (r.take k)) (.pr u (.d (.arr (r.drop (k+1)).length t) (r.drop (k+1)))))))).put (av j) (.ptr id ver (.snd:: .fst::p) n)) l))
   |_=> .fail
  | .ptr _ _ (.snd::_) _=>apN s l
  |_=> .fail
def azT(s:AS):List Nat->Out AS
 |[]=> .ok s
 |j::l=>match s.slot j with
  | .ptr id ver (.snd:: .fst::p) n=>match s.obj id with
   |some (v,bq,.bx e z (.pr (.d (.arr k t) l1) (.pr u (.d (.arr _ t') l2))))=> .guard ((v==ver) && (z==t.size) && !(z==0) && !(u.shared.any λi=>decide (i=id)))
     ((Out.opt (sE (.slice t') (.slice t) l2)).bind λl2=>(s.im t u).bind λx=>
      azT (((s.bn u.shared).aY id (.obj v bq (.vec e t (l1++x::l2)))).put (av j) (.ptr id ver (.idx k::p) n)) l)
   |_=> .fail
  |_=> .fail
def tE(P:aK)(s:AS):List atw->Out AS
 |[]=> .ok s
 |o::l=>match o.p,s.slot o.j with
  |_::_,.ns=>tE P s l
  |_,_=>(s.at o.j o.p).bind λu=>match u with
  | .cX=>match ZE P o.T,s.dM o.q with
   |some (e,t,_),aS=>((s.born o.q [.obj 0 bq (.vec e t [])]).putAt o.j (.dj (.new o.q 0) 0 [] 0 0 0) o.p).bind λs'=>tE P s' l
   |_,_=> .fail
  |u=>match u.head with
   |some (.new b j,ver)=>match s.obj (.new b j),decide (o.q < s.news.length) with
    |some (v,_,_),aS=>match v==ver with
     |true=>tE P (s.ET b o.q (s.news.getD b [])) l
     |false=> .fail
    |_,_=> .fail
   |_=> .fail
def YN(s:AS):List Nat->Out AS
 |[]=> .ok s
 |j::l=>match s.slot j with
  | .dj id ver [] 0 0 len=>match s.obj id with
   |some (v,bq,.vec e t r)=>match v==ver with
    |true=> .pZ (decide (len<=r.length)) (YN (s.aY id (.obj v bq (.vec e t (r.take len)))) l)
    |false=> .fail
   |_=> .fail
  |_=> .fail
def asData(s:AS):List (Nat×Ty)->Out AS
 |[]=> .ok s
 | (j,t)::l=>(s.im t (s.slot j)).bind λx=>asData ((s.bn (s.slot j).shared).put (av j) (.d t x)) l
def aE.there(s:AS):aE->Bool
 | .ptr id _ _ _=>(s.obj id).isSome
 | .dj id _ _ _ _ _=>(s.obj id).isSome
 | .pr a b=>a.there s && b.there s
 | .cons a b=>a.there s && b.there s
 | .fn _ c=>c.there s
 | .bx _ _ c=>c.there s
 | .iy id _=>(s.obj id).isSome
 | .yl id _=>(s.obj id).isSome
 | .xU _ f _=>f.there s
 | .qu .. =>bq
 |_=>aS
def dB.there(s:AS):dB->Bool
 | .obj _ _ (.qu id _ _ _ _ _)=>(s.obj id).isSome
 | .obj _ _ c=>c.there s
 | .dead=>aS
def Kr(an:nP)(s:AS):AS:= {cj:=eg an.aX 0 s.cj,bS:=s.bS,news:=mu an.sites 0 s.news}
def AS.acn(s:AS):Bool:=(s.cj.all (aE.there s)) && (s.bS.all (dB.there s)) && (s.news.all λes=>es.all (dB.there s))
def sq(k v n:Nat)(i:Id)(ver:Nat):Option (Id×Nat):=match i with
 | .cl j=>match gG j k with
  |true=>match gG ver v with | true=>av (.cl j,n) | false=>aF
  |false=>av (.cl j,ver)
 |i=>av (i,ver)
def Ed(k:Nat):Id->Bool | .cl j=> !gG j k | _=>aS
def dB.akE(ρ:Id->Nat->Option (Id×Nat))(kp:Id->Bool):dB->dB
 | .obj v fr c=> .obj v fr (c.ar0 ρ kp)
 | .dead=> .dead
def AS.atY(s:AS)(k n:Nat):Out AS:=match s.bU (.cl k) with
 |some (.obj v fr c)=> .guard (Nat.ble v n || Nat.ble 1 n) (.ok {cj:=s.cj.map (aE.gJ (sq k v n)),bS:=(s.bS.map (dB.akE (sq k v n) (Ed k))).set k (.obj n fr (c.gJ (sq k v n))),news:=s.news.map λes=>es.map (dB.akE (sq k v n) (Ed k))})
 |_=> .fail
def acH(s:AS):List (Nat×Nat)->Out AS
 |[]=> .ok s
 |x::l=>(s.atY x.1 x.2).bind λs=>acH s l
def AS.aHP(s:AS):List Id:=(s.reach 64 (s.cj.flatMap aE.ids++s.bS.flatMap dB.ids) []).filter λid=>match id with | .new _ _=>aS | .cl _=>bq
def apV(s:AS)(ids:List Id)(q:Nat):Id->Nat->Option (Id×Nat)
 | .cl k,ver=>av (.cl k,ver)
 | .new x y,ver=>match idxOf (.new x y) ids,s.obj (.new x y) with
  |some j,av (v,_,_)=>match ver==v with | true=>av (.new q j,0) | false=>aF
  |_,_=>aF
def dB.ayg(ρ:Id->Nat->Option (Id×Nat)):dB->dB
 | .obj v fr c=> .obj v fr (c.gJ ρ)
 | .dead=> .dead
def AS.D6(s:AS)(ids:List Id)(q:Nat):AS:= {cj:=s.cj.map (aE.gJ (apV s ids q)),bS:=s.bS.map (dB.ayg (apV s ids q)),news:=(s.news.map λ_=> []).set q (ids.map λid=>((s.bU id).getD .dead).akD (apV s ids q))}
def AS.ZU(s:AS):Option Nat->Out AS
 |none=> .ok s
 |some q=> .guard (Nat.blt q s.news.length) (.ok (s.D6 s.aHP q))
def norm(P:aK)(an:nP)(s:AS):Out AS:=(acH s an.aJp).bind λs=>(azT (((s.bn an.am0).still an.aLY).canon an.aHG) an.aNA).bind λs=>(Om s an.Vp).bind λs=>(asData s an.data).bind λs=> .guard (Kr an s).acn ((apN (Kr an s) an.aMi).bind λs=>(tE P s an.owns).bind λs=>s.ZU an.aMj)
def OO{R:Type}(nrm:AS->Out AS)(nrmX:Exit->AS->Out AS)(body:AS->(Exit->AS->Option R)->Option R):Nat->AS->(Exit->AS->Option R)->Option R
 | 0,_,_=>aF
 |n+1,s,k=>body s λe s'=>match e with
  | .normal=>(nrm s').run λs1=>OO nrm nrmX body n s1 k
  |e=>(nrmX e s').run (k e)
def aeb:Exit->Bool | .ret=>aS | _=>bq
def azW{R:Type}(le:eb)(s:AS)(k:Exit->AS->Option R):Option R:=
 match le.set with
 |none=>ak (le.run s) λx=>(le.out x).run λr=>k r.1 r.2
 |some S=>aAT (S s) λx=>(le.out x).run λr=>k r.1 r.2
def MS{R:Type}(P:aK)(j:Option aor)(run: {R:Type}->(Exit->AS->Option R)->Option R)(k:Exit->AS->Option R):Option R:=
 match j with
 |none=>run k
 |some j=>ak (run λe s=>(norm P j.an s).run (j.aJG e)) λx=>(j.out x).run λr=>k r.1 r.2
def JD:List aE->aE
 |[]=> .nil
 |a::l=> .cons a (JD l)
def afH(P:aK)(h:gg):Bool:=match P.funcs[h]? with
 |some fn=> !(fn.name== "runtime.NumGoroutine") && fn.body.isSome
 |none=>bq
def Cj{R:Type}(P:aK)(Γ:sa)(an:A4)(s:AS)(f:bF)(ps:Array Tmp)(as b:Code)(k:Exit->AS->Option R):Option R:=
 match an.ky,an.rf (ps.getD 0 0),s.ev f with
 |none,av (y,aX),.fn h caps=>match afH P h && s.dM (ps.getD 0 0) && Nat.blt (ps.getD 0 0) s.cj.length && Nat.blt h yB,Γ h (.yl (.new (ps.getD 0 0) 0) 0::caps.list) with
  |true,av en=>((s.born (ps.getD 0 0) [.obj 0 bq (.xU ⟨y,ps,as,b⟩ (JD (eg aX 0 s.cj)) 0)]).put (av (ps.getD 0 0)) (.yl (.new (ps.getD 0 0) 0) 0)).aDM en aF (.yl (.new (ps.getD 0 0) 0) 0::caps.list) λs3=>
   match s3.bU (.new (ps.getD 0 0) 0),s3.slot (ps.getD 0 0) with
   |some (.obj 0 bq (.xU _ _ p)),.yl (.new q' 0) 0=>match gG q' (ps.getD 0 0),p with
    |true,0=>k .normal ((s3.aY (.new (ps.getD 0 0) 0) .dead).put (av (ps.getD 0 0)) .undef)
    |true,2=>k .ret ((s3.aY (.new (ps.getD 0 0) 0) .dead).put (av (ps.getD 0 0)) .undef)
    |true,i+3=>k (.exit i) ((s3.aY (.new (ps.getD 0 0) 0) .dead).put (av (ps.getD 0 0)) .undef)
    |_,_=>aF
   |_,_=>aF
  |_,_=>aF
 |_,_,_=>aF
def ev(P:aK)(Γ:sa)(an:A4)(N:Nat):Code-> {R:Type}->AS->(Exit->AS->Option R)->Option R
 | .skip,_,s,k=>k .normal s
 | .region id ops draw,_,s,k=>MS P (an.aIP id) (λk=>match draw with
  |true=>(match ZD ops.toList with
   |true=>XC P Γ an.bH ops (acq ops.toList) 0 ops.toList [] s λs'=>k .normal s'
   |false=>aF)
  |false=>aA9 P Γ an.bH ops ops.toList s λs'=>k .normal s') k
 | .seq a b,_,s,k=>MS P (an.aIQ (dz b)) (λk=>ev P Γ an N a s k) λe s'=>match e with | .normal=>ev P Γ an N b s' k | e=>k e s'
 | .cond c x y,_,s,k=>match s.ev c with
  | .d .bool b=>aG b (ev P Γ an N x s k) (ev P Γ an N y s k)
  |_=>aF
 | .block id b,_,s,k=>ev P Γ an N b s λe s'=>match e with | .exit i=>(match decide (i=id) with | true=>k .normal s' | false=>k (.exit i) s') | e=>k e s'
 | .loop b,_,s,k=>(norm P (an.loops (dz b)) s).run λs1=>match an.fo (dz b) with
  |some le=>azW le s1 k
  |none=>OO (norm P (an.loops (dz b))) (λe=>norm P (an.outs (dz b) (aeb e))) (ev P Γ an N b) N s1 k
 | .scope b,_,s,k=>ev P Γ an N b s λe s'=>match e with | .goto _=>aF | e=>k e s'
 | .label _,_,s,k=>k .normal s
 | .exit id,_,s,k=>k (.exit id) s
 | .ret,_,s,k=>k .ret s
 | .rangeFunc f ps as b,_,s,k=>(tE P s ((an.aNt (ps.getD 0 0)).getD [])).run λs=>Cj P Γ an s f ps as b k
 |_,_,_,_=>aF
def TH(P:aK)(s:AS):ResultVar->Out aE
 | .tmp t=> .ok (s.slot t)
 | .cell a T=>Kx P s T (s.slot a)
def TG(P:aK)(s:AS)(r:ResultVar):Option Ty->Out (AS×aE)
 |none=>(TH P s r).bind λv=> .ok (s,v)
 |some t=>(TH P s r).bind λv=>(s.im t v).bind λx=> .ok (s.bn v.shared,.d t x)
def Lc(P:aK)(s:AS):List ResultVar->List (Option Ty)->Out (AS×aE)
 |[],_=> .ok (s,.nil)
 |r::rs,ts=>(TG P s r (ts.headD aF)).bind λx=> .guard x.2.ew ((Lc P x.1 rs ts.tail).bind λy=> .ok (y.1,.cons x.2 y.2))
def abb(P:aK)(fn:Func)(ts:List (Option Ty))(s:AS):Out (AS×aE):=
 match fn.results.toList with
 |[r]=>TG P s r (ts.headD aF)
 |rs=>Lc P s rs ts
def iQ:Code->List Code
 | .seq a b=>iQ a++iQ b
 | .cond _ a b=>iQ a++iQ b
 | .block _ b=>iQ b
 | .scope b=>iQ b
 | .loop b=>b::iQ b
 |_=> []
def nc(fn:Func)(i:Nat):Code:=match fn.body with | some c=>(iQ c).getD i .skip | none=> .skip
def M8(P:aK)(Γ:sa)(an:A4)(N:Nat)(fn:Func)(i:Nat){R:Type}(s:AS)(kn:AS->Option R)(kx:Exit->AS->Option R):Option R:=
 ev P Γ an N (nc fn i) s λe s'=>match e with
  | .normal=>(norm P (an.loops (dz (nc fn i))) s').run kn
  |e=>(norm P (an.outs (dz (nc fn i)) (aeb e)) s').run (kx e)
def aaD(P:aK)(Γ:sa)(an:A4)(N:Nat)(fn:Func)(i:Nat){R:Type}(n:Nat)(s:AS)(k:Exit->AS->Option R):Option R:=OO (norm P (an.loops (dz (nc fn i)))) (λe=>norm P (an.outs (dz (nc fn i)) (aeb e))) (ev P Γ an N (nc fn i)) n s k
def Id.aEc:Id->Bool | .new _ _=>aS | .cl _=>bq
def AS.Mu(s:AS)(v:aE):List Id:=(s.reach 64 (v.ids++s.bS.flatMap dB.ids) []).filter Id.aEc
def H4(ids:List Id):Id->Nat->Option (Id×Nat)
 | .cl k,v=>av (.cl k,v)
 |id,v=>match idxOf id ids with | some j=>av (.new 0 j,v) | none=>aF
def dB.fin(ids:List Id):dB->dB
 | .obj v fr c=> .obj v fr (c.gJ (H4 ids))
 | .dead=> .dead
def AS.aDP(s:AS)(ids:List Id)(v:aE):iJ:= {val:=v.gJ (H4 ids),bS:=s.bS.map (dB.fin ids),news:=ids.map λid=>((s.bU id).getD .dead).fin ids}
def AS.fin(s:AS)(v:aE):iJ:=s.aDP (s.Mu v) v
def start(fn:Func)(args:List aE)(bS:List dB):AS:= {cj:=args++ai (fn.ntmps - args.length) .undef,bS,news:=ai fn.ntmps []}
def ayh(fn:Func):List Nat:=fn.results.toList.map λr=>match r with | .tmp t=>t | .cell a _=>a
def AS.drop(s:AS)(ks:List Nat):AS:= {cj:=eg ks 0 s.cj,bS:=s.bS,news:=s.news}
def finish(P:aK)(an:A4)(fn:Func)(s:AS):Out iJ:=(Om s an.Vp).bind λs=>(tE P (s.drop (ayh fn)) an.owns).bind λs=>(YN s an.trim).bind λs=>(acH s an.aJp).bind λs=>(abb P fn an.res s).bind λr=> .ok (r.1.fin r.2)
def aJh(P:aK)(y:Nat):Func:= {(default:Func) with body:=av (.seq (TI P y).as (TI P y).b)}
def AS.Nq(s:AS)(q p:Nat):Option AS:=match s.bU (.cl 0) with
 |some (.obj 0 bq (.xU c f q'))=>(match gG q q' with | true=>av (s.aY (.cl 0) (.obj 0 bq (.xU c f p))) | false=>aF)
 |_=>aF
def wI:List (Tmp×aE)->List aE->List aE
 |[],l=>l
 |x::xs,l=>wI xs (l.set x.1 x.2)
def Us(ps:List Tmp)(args:List aE)(bS:List dB):AS:= {cj:=wI (ps.zip (args.take ps.length)) (args.drop ps.length),bS,news:=ai (args.drop ps.length).length []}
def aDO:Exit->Option Nat
 | .normal=>av 0
 | .ret=>av 2
 | .exit i=>av (i+3)
 |_=>aF
def amW(P:aK)(an:A4)(s:AS)(v:aE):Out iJ:=(Om s an.Vp).bind λs=>(tE P (s.drop []) an.owns).bind λs=>(YN s an.trim).bind λs=>(acH s an.aJp).bind λs=> .ok (s.fin v)
def dB.first:dB->Bool
 | .obj v _ _=>gG v 0
 | .dead=>aS
def ayq(P:aK)(Γ:sa)(an:A4)(N:Nat)(c:sA)(args:List aE)(bS:List dB){R:Type}(k:iJ->Option R):Option R:=
 match args with
 | .yl (.cl 0) 0::args=>match bS.all dB.first with | false=>aF | true=>ev P Γ an N c.as (Us c.ps.toList args bS) λe s=>match e with
  | .normal=>ak (s.Nq 0 1) λs=>ev P Γ an N c.b s λe s=>ak (aDO e) λp=>ak (s.Nq 1 p) λs=>(amW P an s (.d .bool (gG p 0))).run k
  |_=>aF
 |_=>aF
def acx(P:aK)(Γ:sa)(an:A4)(N:Nat)(fn:Func)(args:List aE)(bS:List dB){R:Type}(k:iJ->Option R):Option R:=
 match an.ky with
 |some y=>ayq P Γ an N (TI P y) args bS k
 |none=>match fn.body with
 |some c=>match bS.all dB.first with | false=>aF | true=>ev P Γ an N c (start fn args bS) λe s=>match e with
  | .normal=>(finish P an fn s).run k
  | .ret=>(finish P an fn s).run k
  |_=>aF
 |none=>aF
end Go.Ab
namespace Go.Ab
inductive Own where
 |dY
 |id (i:Id)
inductive kI where
 |free
 |own (o:Own) (k:Nat)
structure Pl where
 b:Nat
 cap:Nat
structure Env where
 w:World
 g:Nat->kI
 β:Id->Option Pl
 s:Id->Option dB
def ur(g:Nat->kI)(b off:Nat):Prop:=match g b with | .free=>True | .own _ k=>off < k
def Env.has(E:Env)(b off:Nat)(v:Value):Prop:=E.w.cell? ⟨b,off,aF⟩=av v/\ur E.g b off
def bp{α:Type}(R:List Value->α->Prop):List Value->List α->Prop
 |cs,[]=>cs=[]
 |cs,x::xs=>∃c cs',cs=c++cs'/\R c x/\bp R cs' xs
def Ar(E:Env)(a:Option Addr)(vs:List Value):Prop:=∀i v,vs[i]? =av v->∃b off,a=av ⟨b,off,aF⟩/\E.has b (off+i) v
def cV(E:Env):(t:Ty)->List Value->t.den->Prop
 | .int k,cs,x=>cs=[.int k x]
 | .bool,cs,x=>cs=[.bool x]
 | .str,cs,x=>cs=[.string x]
 | .slice t,cs,l=>∃a cap vs,cs=[.slice a (l:List t.den).length cap]/\(l:List t.den).length<=cap/\(0 < (l:List t.den).length->a.isSome=aS)/\Ar E a vs/\bp (cV E t) vs l
 | .unit,cs,_=>cs=[]
 | .pair a b,cs,x=>∃ca cb,cs=ca++cb/\cV E a ca x.1/\cV E b cb x.2
 | .arr n t,cs,l=>(l:List t.den).length=n/\bp (cV E t) cs l
 | .gE t,cs,x=>((x:Option (List t.den))=aF->cs=[.slice aF 0 0])/\∀l:List t.den,(x:Option (List t.den))=av l->
   ∃a cap vs,cs=[.slice a l.length cap]/\l.length<=cap/\(0 < l.length->a.isSome=aS)/\Ar E a vs/\bp (cV E t) vs l
 | .gm t,cs,x=>((x:Option t.den)=aF->cs=[.pointer aF])/\∀y:t.den,(x:Option t.den)=av y->
   ∃b off vs,cs=[.pointer (av ⟨b,off,aF⟩)]/\Ar E (av ⟨b,off,aF⟩) vs/\cV E t vs y
section
variable {α:Type} {R R':List Value->α->Prop} {z:Nat}
theorem bp.mono(h:∀c x,R c x->R' c x):∀ {cs:List Value} {l:List α},bp R cs l->bp R' cs l
 |_,[],hc=>hc
 |_,_::_,⟨c,cs',e,hx,hr⟩=>⟨c,cs',e,h _ _ hx,bp.mono h hr⟩
theorem bp.length(h:∀c x,R c x->c.length=z):∀ {cs:List Value} {l:List α},bp R cs l->cs.length=l.length*z
 |cs,[],hc=>by have:cs=[]:=hc;simp[this]
 |_,x::xs,⟨c,cs',e,hx,hr⟩=>by rw[e,aq,h c x hx,bp.length h hr,aI,ei,gY,Nat.add_comm]
theorem bp.all{p:Value->Prop}(h:∀c x,R c x->∀v∈c,p v):∀ {cs:List Value} {l:List α},bp R cs l->∀v∈cs,p v
 |cs,[],hc,v,hv=>by have:cs=[]:=hc;simp[this]at hv
 |_,_::_,⟨c,cs',e,hx,hr⟩,v,hv=>by
  rw[e]at hv;rcases bt.1 hv with hv | hv
  ·exact h _ _ hx v hv
  ·exact bp.all h hr v hv
theorem bp.append:∀ {cs:List Value} {l:List α} {cs':List Value} {l':List α},bp R cs l->bp R cs' l'->bp R (cs++cs') (l++l')
 |cs,[],_,_,hc,h'=>by have:cs=[]:=hc;simpa[this]using h'
 |_,x::xs,_,_,⟨c,cs1,e,hx,hr⟩,h'=>⟨c,cs1++_,by rw[e,bh],hx,bp.append hr h'⟩
theorem bp.take(h:∀c x,R c x->c.length=z):∀ {cs:List Value} {l:List α} (n:Nat),bp R cs l->bp R (cs.take (n*z)) (l.take n)
 |cs,[],n,hc=>by have:cs=[]:=hc;simp[this,bp]
 |_,x::xs,0,_=>by simp[bp]
 |_,x::xs,n+1,⟨c,cs',e,hx,hr⟩=>by refine⟨c,cs'.take (n*z),?_,hx,bp.take h n hr⟩;rw[e,nO,h c x hx,ei,gY,bu (by rw[h c x hx];omega),Nat.add_sub_cancel]
theorem bp.drop(h:∀c x,R c x->c.length=z):∀ {cs:List Value} {l:List α} (n:Nat),bp R cs l->bp R (cs.drop (n*z)) (l.drop n)
 |cs,[],n,hc=>by have:cs=[]:=hc;simp[this,bp]
 |_,x::xs,0,hc=>by simpa using hc
 |_,x::xs,n+1,⟨c,cs',e,hx,hr⟩=>by rw[e,ji,h c x hx,ei,gY,eh (by rw[h c x hx];omega),Nat.add_sub_cancel];simpa using bp.drop h n hr
theorem bp.get(h:∀c x,R c x->c.length=z){cs:List Value}{l:List α}(hc:bp R cs l)(i:Nat)(hi:i < l.length):R ((cs.drop (i*z)).take z) l[i]:=by have h1:=bp.take h 1 (bp.drop h i hc);rw[aD hi]at h1;simp only[gY,List.take_succ_cons,fJ]at h1;obtain⟨c,cs',e,hx,hr⟩:=h1;have:cs'=[]:=hr;rw[e,this,bW];exact hx
theorem bp.set(h:∀c x,R c x->c.length=z){cs:List Value}{l:List α}(hc:bp R cs l)(i:Nat)(hi:i < l.length){c:List Value}{x:α}(hx:R c x):
  bp R (cs.take (i*z)++c++cs.drop (i*z+c.length)) (l.set i x):=by
 rw[List.set_eq_take_append_cons_drop,if_pos hi,h c x hx];have h1:=bp.take h i hc;have h2:=bp.drop h (i+1) hc;rw[ei,gY]at h2;have h3:bp R (c++cs.drop (i*z+z)) (x::l.drop (i+1)):=⟨c,_,rfl,hx,h2⟩;rw[bh];exact bp.append h1 h3
theorem bp.one{c:List Value}{x:α}(h:R c x):bp R c [x]:=⟨c,[],by simp,h,rfl⟩
end
theorem cV.size{E:Env}:∀ {t:Ty} {cs:List Value} {x:t.den},cV E t cs x->cs.length=t.size
 | .int _,_,_,h=>by simp only[cV]at h;simp[h,Ty.size]
 | .bool,_,_,h=>by simp only[cV]at h;simp[h,Ty.size]
 | .str,_,_,h=>by simp only[cV]at h;simp[h,Ty.size]
 | .slice t,_,_,h=>by simp only[cV]at h;obtain⟨a,cap,vs,rfl,_⟩:=h;simp[Ty.size]
 | .unit,_,_,h=>by simp only[cV]at h;simp[h,Ty.size]
 | .pair a b,_,_,h=>by simp only[cV]at h;obtain⟨ca,cb,rfl,ha,hb⟩:=h;simp[Ty.size,cV.size ha,cV.size hb]
 | .arr n t,_,_,h=>by simp only[cV]at h;rw[bp.length (λc x hx=>cV.size hx) h.2,h.1,Ty.size]
 | .gE t,_,x,h=>by
  simp only[cV]at h;obtain⟨h1,h2⟩:=h;cases hx:(x:Option (List t.den)) with
  |none=>rw[h1 hx];rfl
  |some l=>obtain⟨a,cap,vs,rfl,_⟩:=h2 l hx;rfl
 | .gm t,_,x,h=>by
  simp only[cV]at h;obtain⟨h1,h2⟩:=h;cases hx:(x:Option t.den) with
  |none=>rw[h1 hx];rfl
  |some l=>obtain⟨b,off,vs,rfl,_⟩:=h2 l hx;rfl
theorem cV.one{E:Env}:∀ {t:Ty} {cs:List Value} {x:t.den},cV E t cs x->∀c∈cs,c.oneCell'=aS
 | .int _,_,_,h=>by simp only[cV]at h;simp[h,du]
 | .bool,_,_,h=>by simp only[cV]at h;simp[h,du]
 | .str,_,_,h=>by simp only[cV]at h;simp[h,du]
 | .slice t,_,_,h=>by simp only[cV]at h;obtain⟨a,cap,vs,rfl,_⟩:=h;simp[du]
 | .unit,_,_,h=>by simp only[cV]at h;simp[h]
 | .pair a b,_,_,h=>by
  simp only[cV]at h;obtain⟨ca,cb,rfl,ha,hb⟩:=h;intro c hc;rcases bt.1 hc with hc | hc
  ·exact cV.one ha c hc
  ·exact cV.one hb c hc
 | .arr n t,_,_,h=>by simp only[cV]at h;exact bp.all (λc x hx=>cV.one hx) h.2
 | .gE t,_,x,h=>by
  simp only[cV]at h;obtain⟨h1,h2⟩:=h;cases hx:(x:Option (List t.den)) with
  |none=>rw[h1 hx];simp[du]
  |some l=>obtain⟨a,cap,vs,rfl,_⟩:=h2 l hx;simp[du]
 | .gm t,_,x,h=>by
  simp only[cV]at h;obtain⟨h1,h2⟩:=h;cases hx:(x:Option t.den) with
  |none=>rw[h1 hx];simp[du]
  |some l=>obtain⟨b,off,vs,rfl,_⟩:=h2 l hx;simp[du]
structure qy(E E':Env):Prop where
 has:∀b off v,E.has b off v->E'.has b off v
 fz:∀b ob,E.g b= .free->E.w.heap[b]? =av ob->E'.g b= .free/\E'.w.heap[b]? =av ob
theorem qy.refl(E:Env):qy E E:=⟨λ_ _ _ h=>h,λ_ _ h h'=>⟨h,h'⟩⟩
theorem qy.trans{E E' E'':Env}(h:qy E E')(h':qy E' E''):qy E E'':=⟨λb o v x=>h'.has b o v (h.has b o v x),λb ob h1 h2=>let⟨h3,h4⟩:=h.fz b ob h1 h2;h'.fz b ob h3 h4⟩
theorem Ar.mono{E E':Env}(h:qy E E'){a:Option Addr}{vs:List Value}(hr:Ar E a vs):Ar E' a vs:=
 λi v hv=>let⟨b,off,ha,hh⟩:=hr i v hv;⟨b,off,ha,h.has _ _ _ hh⟩
theorem cV.mono{E E':Env}(hm:qy E E'):∀ {t:Ty} {cs:List Value} {x:t.den},cV E t cs x->cV E' t cs x
 | .int _,_,_,h=>by simpa only[cV]using h
 | .bool,_,_,h=>by simpa only[cV]using h
 | .str,_,_,h=>by simpa only[cV]using h
 | .slice t,_,_,h=>by simp only[cV]at h ⊢;obtain⟨a,cap,vs,e,hl,hs,hr,hc⟩:=h;exact⟨a,cap,vs,e,hl,hs,hr.mono hm,hc.mono λc x hx=>cV.mono hm hx⟩
 | .unit,_,_,h=>by simpa only[cV]using h
 | .pair a b,_,_,h=>by simp only[cV]at h ⊢;obtain⟨ca,cb,e,ha,hb⟩:=h;exact⟨ca,cb,e,cV.mono hm ha,cV.mono hm hb⟩
 | .arr n t,_,_,h=>by simp only[cV]at h ⊢;exact⟨h.1,h.2.mono λc x hx=>cV.mono hm hx⟩
 | .gE t,_,_,h=>by simp only[cV]at h ⊢;refine⟨h.1,λl hx=> ?_⟩;obtain⟨a,cap,vs,e,hl,hs,hr,hc⟩:=h.2 l hx;exact⟨a,cap,vs,e,hl,hs,hr.mono hm,hc.mono λc x hx=>cV.mono hm hx⟩
 | .gm t,_,_,h=>by simp only[cV]at h ⊢;refine⟨h.1,λl hx=> ?_⟩;obtain⟨b,off,vs,e,hr,hc⟩:=h.2 l hx;exact⟨b,off,vs,e,hr.mono hm,cV.mono hm hc⟩
def Env.cur(E:Env)(id:Id)(ver:Nat):Prop:=∃fr c,E.s id=av (.obj ver fr c)
def Env.CU(E:Env)(id:Id)(ver:Nat):Prop:=E.s id≠aF/\∀v fr c,E.s id=av (.obj v fr c)->ver<=v
def fw(agg:Bool)(cs:List Value)(v:Value):Prop:=match agg with | true=>v= .agg cs.toArray | false=>cs=[v]
mutual
def V(E:Env):aE->List Value->Prop
 | .undef,_=>False
 | .gone,cs=>∃v,cs=[v]/\v.oneCell'=aS
 | .cX,cs=>cs=[.slice aF 0 0]
 | .ns,cs=>cs=[.pointer aF]
 | .uq,cs=>cs=[.nilFunc]
 | .zX,cs=>cs=[.map aF]
 | .sb l,cs=>∃(b cap:Nat) (arr:Array Value) (e:TypeId),cs=[.slice (av ⟨b,0,aF⟩) l.length cap]/\l.length<=cap/\E.g b= .free/\E.w.heap[b]? =av (.cells arr e (arr.size,arr.size+1))/\∀(j:Nat) (v:Value),(l.map (Value.int .u8))[j]? =av v->arr[j]? =av v
 | .d t x,cs=>cV E t cs x
 | .pr a b,cs=>∃ca cb,cs=ca++cb/\V E a ca/\V E b cb
 | .ptr id ver _ n,cs=>∃a,cs=[.pointer (av a)]/\E.CU id ver/\(E.cur id ver->∃pl,E.β id=av pl/\a=⟨pl.b,n,aF⟩)
 | .dN t x,cs=>∃b off vs,cs=[.pointer (av ⟨b,off,aF⟩)]/\Ar E (av ⟨b,off,aF⟩) vs/\cV E t vs x
 | .dj id ver p c i len,cs=>∃a cap,cs=[.slice a len cap]/\len<=cap/\(0 < len->a.isSome=aS)/\E.CU id ver/\
   (E.cur id ver->match E.β id with
    |some pl=>(0 < len\/i=0->a=av ⟨pl.b,c,aF⟩)/\(p=[]->i=0->cap=pl.cap)
    |none=>a=aF/\len=0/\cap=0)
 | .fn f c,cs=>∃vs,cs=[.func (.func f) #[] vs.toArray]/\VC E c vs
 | .cons _ _,_=>False
 | .nil,_=>False
 | .vec ..,_=>False
 | .bx ..,_=>False
 | .yl id ver,cs=>∃l,cs=[.func (.yield l) #[] #[]]/\E.CU id ver/\(E.cur id ver->∃pl,E.β id=av pl/\l=pl.b)
 | .xU ..,_=>False
 | .iy id ver,cs=>∃b,cs=[.map (av b)]/\E.CU id ver/\(E.cur id ver->∃pl,E.β id=av pl/\b=pl.b)
 | .mp ..,_ | .qu ..,_=>False
def VC(E:Env):aE->List Value->Prop
 | .nil,vs=>vs=[]
 | .cons a b,vs=>∃v vs' cs,vs=v::vs'/\V E a cs/\fw a.agg cs v/\VC E b vs'
 |_,_=>False
end
structure cE(E E':Env):Prop where
 mem:qy E E'
 CU:∀id ver,E.CU id ver->E'.CU id ver
 cur:∀id ver,E.CU id ver->E'.cur id ver->E.cur id ver/\E'.β id=E.β id
theorem cE.refl(E:Env):cE E E:=⟨qy.refl E,λ_ _ h=>h,λ_ _ _ h=>⟨h,rfl⟩⟩
theorem cE.trans{E E' E'':Env}(h:cE E E')(h':cE E' E''):cE E E'':=
 ⟨h.mem.trans h'.mem,λid v b=>h'.CU id v (h.CU id v b),λid v b c=>
  let⟨c1,e1⟩:=h'.cur id v (h.CU id v b) c
  let⟨c2,e2⟩:=h.cur id v b c1
  ⟨c2,e1.trans e2⟩⟩
mutual
theorem V.mono{E E':Env}(h:cE E E'):∀ {a:aE} {cs:List Value},V E a cs->V E' a cs
 | .undef,_,hv=>by simp only[V]at hv
 | .gone,_,hv=>by simpa only[V]using hv
 | .cX,_,hv=>by simpa only[V]using hv
 | .ns,_,hv=>by simpa only[V]using hv
 | .uq,_,hv=>by simpa only[V]using hv
 | .xU ..,_,hv=>by simp only[V]at hv
 | .zX,_,hv=>by simpa only[V]using hv
 | .sb l,_,hv=>by simp only[V]at hv ⊢;obtain⟨b,cap,arr,e,h1,h2,h3,h4,h5⟩:=hv;obtain⟨h6,h7⟩:=h.mem.fz b _ h3 h4;exact⟨b,cap,arr,e,h1,h2,h6,h7,h5⟩
 | .d t x,_,hv=>by simp only[V]at hv ⊢;exact hv.mono h.mem
 | .pr a b,_,hv=>by simp only[V]at hv ⊢;obtain⟨ca,cb,e,ha,hb⟩:=hv;exact⟨ca,cb,e,V.mono h ha,V.mono h hb⟩
 | .ptr id ver p n,_,hv=>by simp only[V]at hv ⊢;obtain⟨a,e,hb,hc⟩:=hv;refine⟨a,e,h.CU _ _ hb,λc=> ?_⟩;obtain⟨c1,e1⟩:=h.cur _ _ hb c;rw[e1];exact hc c1
 | .dN t x,_,hv=>by simp only[V]at hv ⊢;obtain⟨b,off,vs,e,hr,hx⟩:=hv;exact⟨b,off,vs,e,hr.mono h.mem,hx.mono h.mem⟩
 | .dj id ver p c i len,_,hv=>by simp only[V]at hv ⊢;obtain⟨a,cap,e,hl,hs,hb,hc⟩:=hv;refine⟨a,cap,e,hl,hs,h.CU _ _ hb,λc=> ?_⟩;obtain⟨c1,e1⟩:=h.cur _ _ hb c;rw[e1];exact hc c1
 | .fn f c,_,hv=>by simp only[V]at hv ⊢;obtain⟨vs,e,hc⟩:=hv;exact⟨vs,e,VC.mono h hc⟩
 | .cons _ _,_,hv=>by simp only[V]at hv
 | .nil,_,hv=>by simp only[V]at hv
 | .vec ..,_,hv=>by simp only[V]at hv
 | .bx ..,_,hv=>by simp only[V]at hv
 | .yl id ver,_,hv=>by simp only[V]at hv ⊢;obtain⟨b,e,hb,hc⟩:=hv;refine⟨b,e,h.CU _ _ hb,λc=> ?_⟩;obtain⟨c1,e1⟩:=h.cur _ _ hb c;rw[e1];exact hc c1
 | .iy id ver,_,hv=>by simp only[V]at hv ⊢;obtain⟨b,e,hb,hc⟩:=hv;refine⟨b,e,h.CU _ _ hb,λc=> ?_⟩;obtain⟨c1,e1⟩:=h.cur _ _ hb c;rw[e1];exact hc c1
 | .mp ..,_,hv | .qu ..,_,hv=>by simp only[V]at hv
theorem VC.mono{E E':Env}(h:cE E E'):∀ {a:aE} {vs:List Value},VC E a vs->VC E' a vs
 | .nil,_,hv=>by simpa only[VC]using hv
 | .cons a b,_,hv=>by simp only[VC]at hv ⊢;obtain⟨v,vs',cs,e,ha,ho,hb⟩:=hv;exact⟨v,vs',cs,e,V.mono h ha,ho,VC.mono h hb⟩
 | .undef,_,hv=>by simp only[VC]at hv
 | .gone,_,hv=>by simp only[VC]at hv
 | .cX,_,hv=>by simp only[VC]at hv
 | .ns,_,hv=>by simp only[VC]at hv
 | .uq,_,hv=>by simp only[VC]at hv
 | .yl ..,_,hv | .xU ..,_,hv=>by simp only[VC]at hv
 | .zX,_,hv=>by simp only[VC]at hv
 | .sb _,_,hv=>by simp only[VC]at hv
 | .d t x,_,hv=>by simp only[VC]at hv
 | .pr a b,_,hv=>by simp only[VC]at hv
 | .ptr ..,_,hv=>by simp only[VC]at hv
 | .dN ..,_,hv=>by simp only[VC]at hv
 | .dj ..,_,hv=>by simp only[VC]at hv
 | .fn ..,_,hv=>by simp only[VC]at hv
 | .vec ..,_,hv=>by simp only[VC]at hv
 | .bx ..,_,hv=>by simp only[VC]at hv
 | .iy ..,_,hv=>by simp only[VC]at hv
 | .mp ..,_,hv | .qu ..,_,hv=>by simp only[VC]at hv
end
theorem V.size{E:Env}:∀ {a:aE} {cs:List Value},V E a cs->cs.length=a.size
 | .undef,_,hv=>by simp only[V]at hv
 | .gone,_,hv=>by simp only[V]at hv;obtain⟨v,rfl,_⟩:=hv;rfl
 | .cX,_,hv=>by simp only[V]at hv;rw[hv];rfl
 | .ns,_,hv=>by simp only[V]at hv;rw[hv];rfl
 | .uq,_,hv=>by simp only[V]at hv;rw[hv];rfl
 | .yl ..,_,hv=>by simp only[V]at hv;obtain⟨_,rfl,_⟩:=hv;rfl
 | .xU ..,_,hv=>by simp only[V]at hv
 | .zX,_,hv=>by simp only[V]at hv;rw[hv];rfl
 | .sb _,_,hv=>by simp only[V]at hv;obtain⟨_,_,_,_,rfl,_⟩:=hv;rfl
 | .d t x,_,hv=>by simp only[V]at hv;exact hv.size
 | .pr a b,_,hv=>by simp only[V]at hv;obtain⟨ca,cb,rfl,ha,hb⟩:=hv;simp[aE.size,V.size ha,V.size hb]
 | .ptr ..,_,hv=>by simp only[V]at hv;obtain⟨a,rfl,_⟩:=hv;rfl
 | .dN ..,_,hv=>by simp only[V]at hv;obtain⟨_,_,_,rfl,_⟩:=hv;rfl
 | .dj ..,_,hv=>by simp only[V]at hv;obtain⟨_,_,rfl,_⟩:=hv;rfl
 | .fn ..,_,hv=>by simp only[V]at hv;obtain⟨_,rfl,_⟩:=hv;rfl
 | .cons _ _,_,hv=>by simp only[V]at hv
 | .nil,_,hv=>by simp only[V]at hv
 | .vec ..,_,hv=>by simp only[V]at hv
 | .bx ..,_,hv=>by simp only[V]at hv
 | .iy ..,_,hv=>by simp only[V]at hv;obtain⟨_,rfl,_⟩:=hv;rfl
 | .mp ..,_,hv | .qu ..,_,hv=>by simp only[V]at hv
theorem V.one{E:Env}:∀ {a:aE} {cs:List Value},V E a cs->∀c∈cs,c.oneCell'=aS
 | .undef,_,hv=>by simp only[V]at hv
 | .gone,_,hv=>by simp only[V]at hv;obtain⟨v,rfl,h⟩:=hv;simp[h]
 | .cX,_,hv=>by simp only[V]at hv;rw[hv];simp[du]
 | .ns,_,hv=>by simp only[V]at hv;rw[hv];simp[du]
 | .uq,_,hv=>by simp only[V]at hv;rw[hv];simp[du]
 | .yl ..,_,hv=>by simp only[V]at hv;obtain⟨_,rfl,_⟩:=hv;simp[du]
 | .xU ..,_,hv=>by simp only[V]at hv
 | .zX,_,hv=>by simp only[V]at hv;rw[hv];simp[du]
 | .sb _,_,hv=>by simp only[V]at hv;obtain⟨_,_,_,_,rfl,_⟩:=hv;simp[du]
 | .d t x,_,hv=>by simp only[V]at hv;exact hv.one
 | .pr a b,_,hv=>by
  simp only[V]at hv;obtain⟨ca,cb,rfl,ha,hb⟩:=hv;intro c hc;rcases bt.1 hc with hc | hc
  ·exact V.one ha c hc
  ·exact V.one hb c hc
 | .ptr ..,_,hv=>by simp only[V]at hv;obtain⟨a,rfl,_⟩:=hv;simp[du]
 | .dN ..,_,hv=>by simp only[V]at hv;obtain⟨_,_,_,rfl,_⟩:=hv;simp[du]
 | .dj ..,_,hv=>by simp only[V]at hv;obtain⟨_,_,rfl,_⟩:=hv;simp[du]
 | .fn ..,_,hv=>by simp only[V]at hv;obtain⟨_,rfl,_⟩:=hv;simp[du]
 | .cons _ _,_,hv=>by simp only[V]at hv
 | .nil,_,hv=>by simp only[V]at hv
 | .vec ..,_,hv=>by simp only[V]at hv
 | .bx ..,_,hv=>by simp only[V]at hv
 | .iy ..,_,hv=>by simp only[V]at hv;obtain⟨_,rfl,_⟩:=hv;simp[du]
 | .mp ..,_,hv | .qu ..,_,hv=>by simp only[V]at hv
theorem aE.agn:∀ {v:aE},v.agg=bq->v.size=1
 | .d (.int _) _,_ | .d .bool _,_ | .d .str _,_ | .d (.slice _) _,_ | .d (.gE _) _,_ | .d (.gm _) _,_=>rfl
 | .d .unit _,h | .d (.pair _ _) _,h | .d (.arr _ _) _,h=>by simp[aE.agg,Ty.agg]at h
 | .pr _ _,h=>by simp[aE.agg]at h
 | .undef,_ | .gone,_ | .cX,_ | .ns,_ | .uq,_ | .zX,_ | .ptr ..,_ | .dN ..,_ | .dj ..,_ | .fn ..,_ | .cons ..,_ | .nil,_ | .vec ..,_ | .sb _,_ | .bx ..,_ | .iy ..,_ | .mp ..,_ | .qu ..,_ | .yl ..,_ | .xU ..,_=>rfl
def VS(E:Env):aE->Value->Prop
 | .undef,_=>True
 | .cons a b,v=>∃vs,v= .tuple vs.toArray/\VC E (.cons a b) vs
 | .nil,v=>v= .tuple #[]
 |a,v=>∃cs,V E a cs/\fw a.agg cs v
theorem VS.mono{E E':Env}(h:cE E E'):∀ {a:aE} {v:Value},VS E a v->VS E' a v:=by
 intro a v hv
 cases a <;> first
  |trivial
  |exact hv
  | (obtain⟨cs,h1,h2⟩:=hv;exact⟨cs,V.mono h h1,h2⟩)
  | (obtain⟨vs,e,hc⟩:=hv;exact⟨vs,e,VC.mono h hc⟩)
theorem VS.undef{E:Env}{v:Value}:VS E .undef v:=trivial
theorem VS.of{E:Env}{a:aE}{cs:List Value}{v:Value}(h:V E a cs)(ho:fw a.agg cs v):VS E a v:=by
 cases a <;> first
  | (simp only[V]at h;done)
  |exact⟨cs,h,ho⟩
theorem VS.ew{E:Env}{a:aE}{v:Value}(h:VS E a v)(hc:a.ew=aS):∃cs,V E a cs/\fw a.agg cs v:=by
 cases a <;> first
  | (simp[aE.ew]at hc;done)
  |exact h
theorem VS.single{E:Env}{a:aE}{v:Value}(h:VS E a v)(hc:a.ew=aS)(ha:a.agg=bq):V E a [v]:=by obtain⟨cs,hv,ho⟩:=h.ew hc;rw[ha]at ho;have:cs=[v]:=ho;rw[<-this];exact hv
theorem fw.cells{agg:Bool}{cs:List Value}{v:Value}(h:fw agg cs v)(h1:∀c∈cs,c.oneCell'=aS):v.cells=cs.toArray:=by
 cases agg with
 |true=>have:v= .agg cs.toArray:=h;rw[this];rfl
 |false=>
  have e:cs=[v]:=h;have:=h1 v (by simp[e]);rw[e];cases v <;> first | rfl | (simp[du]at this;done)
end Go.Ab
namespace Go.Ab
section
variable {α β:Type}
theorem aA{a b:α}:(Out.ok a).eval=av b↔a=b:=by simp[Out.eval]
theorem aw{b:α}:(Out.fail:Out α).eval=av b↔False:=by simp[Out.eval]
theorem bQ{c:Bool}{r:Out α}{b:α}:(Out.pZ c r).eval=av b↔c=aS/\r.eval=av b:=by cases c <;> simp[Out.eval]
theorem aH{c:Bool}{r:Out α}{b:α}:(Out.guard c r).eval=av b↔c=aS/\r.eval=av b:=by cases c <;> simp[Out.guard,Out.eval]
theorem uc{x:Option β}{f:β->Out α}{b:α}:(Out.get x f).eval=av b↔∃y,x=av y/\(f y).eval=av b:=by cases x <;> simp[Out.eval]
theorem jo{x:Option α}{b:α}:(Out.opt x).eval=av b↔x=av b:=by cases x <;> simp[Out.opt,Out.eval]
theorem ZG(o:Out α)(f:α->Out β):(o.bind f).eval=o.eval.bind λa=>(f a).eval:=by
 induction o with
 |ok a=>rfl
 |fail=>rfl
 |pZ c r ih=>cases c <;> simp[Out.bind,Out.eval,ih]
 |get x g ih=>cases x <;> simp[Out.bind,Out.eval,ih]
 |br c x y ih1 ih2=>cases c <;> simp[Out.bind,Out.eval,ih1,ih2]
theorem az{o:Out α}{f:α->Out β}{b:β}:(o.bind f).eval=av b↔∃a,o.eval=av a/\(f a).eval=av b:=by rw[ZG];simp[Option.bind_eq_some_iff]
theorem run_eq{R:Type}(o:Out α)(k:α->Option R):o.run k=o.eval.bind k:=by
 induction o with
 |ok a=>rfl
 |fail=>rfl
 |pZ c r ih=>cases c <;> simp[Out.run,Out.eval,aG,ih]
 |get x g ih=>cases x <;> simp[Out.run,Out.eval,ak,ih]
 |br c x y ih1 ih2=>cases c <;> simp[Out.run,Out.eval,aG,ih1,ih2]
theorem gr{R:Type}{o:Out α}{k:α->Option R}{r:R}:o.run k=av r↔∃a,o.eval=av a/\k a=av r:=by rw[run_eq];simp[Option.bind_eq_some_iff]
end
theorem iV{t t':Ty}{x:t.den}{y:t'.den}(h:sE t t' x=av y):∃e:t=t',e▸x=y:=by
 unfold sE at h;split at h
 ·rename_i e;exact⟨e,by simpa using h⟩
 ·cases h
theorem bp.map{α β:Type}{R:List Value->α->Prop}{R':List Value->β->Prop}{f:α->β}(h:∀c x,R c x->R' c (f x)):∀ {cs:List Value} {l:List α},bp R cs l->bp R' cs (l.map f)
 |_,[],hc=>hc
 |_,x::xs,⟨c,cs',e,hx,hr⟩=>⟨c,cs',e,h c x hx,bp.map h hr⟩
theorem cV.aJZ{E:Env}:∀(a b:Ty) (f:a.den->b.den),Vo a b=av f->∀(cs:List Value) (x:a.den),cV E a cs x->cV E b cs (f x):=by
 intro a b
 induction a,b using Vo.induct with
 |case1 t=>
  intro f hf cs x hx;unfold Vo at hf;rw[dif_pos rfl]at hf;obtain rfl:=Option.some.inj hf;simp only[cV]at hx;obtain⟨h1,h2⟩:=hx;show cV E (.slice t) cs ((x:Option (List t.den)).getD []);simp only[cV];cases hx:(x:Option (List t.den)) with
  |none=>exact⟨aF,0,[],h1 hx,aC _,λh=>absurd h (ke 0),λi v hh=>by simp at hh,rfl⟩
  |some l=>exact h2 l hx
 |case2 t t' gW=>
  intro f hf;unfold Vo at hf;rw[dif_neg gW]at hf;cases hf
 |case3 t=>
  intro f hf cs x hx;unfold Vo at hf;rw[dif_pos rfl]at hf;obtain rfl:=Option.some.inj hf;simp only[cV]at hx ⊢;refine⟨λh=>(by cases h),λl hl=> ?_⟩;obtain rfl:x=l:=Option.some.inj hl;exact hx
 |case4 t t' gW=>
  intro f hf;unfold Vo at hf;rw[dif_neg gW]at hf;cases hf
 |case5 a b c d f g h1 h2 ih1 ih2=>
  intro k hk cs x hx;unfold Vo at hk;rw[h2,h1]at hk;obtain rfl:=Option.some.inj hk;simp only[cV]at hx ⊢;obtain⟨ca,cb,e,ha,hb⟩:=hx;exact⟨ca,cb,e,ih1 f h2 ca x.1 ha,ih2 g h1 cb x.2 hb⟩
 |case6 a b c d hn ih1 ih2=>
  intro p hp;unfold Vo at hp;split at hp
  ·rename_i f k h1 h2;exact(hn _ _ h1 h2).elim
  ·cases hp
 |case7 a b f h1 ih=>
  intro k hk cs x hx;unfold Vo at hk;rw[h1]at hk;obtain rfl:=Option.some.inj hk;simp only[cV]at hx ⊢;obtain⟨ad,cap,vs,e,hl,hs,hr,hc⟩:=hx;rw[bC];exact⟨ad,cap,vs,e,hl,hs,hr,hc.map λc x hx=>ih f h1 c x hx⟩
 |case8 a b h1 ih=>
  intro p hp;unfold Vo at hp;rw[h1]at hp;cases hp
 |case9 a h1 h2 h3 h4=>
  intro f hf cs x hx;rw[Vo.eq_5 _ _ h1 h2 h3 h4,dif_pos rfl]at hf;obtain rfl:=Option.some.inj hf;exact hx
 |case10 a b h1 h2 h3 h4 gW=>
  intro f hf;rw[Vo.eq_5 _ _ h1 h2 h3 h4,dif_neg gW]at hf;cases hf
theorem aAS{t t':Ty}{f:t.den->t'.den}(hp:Vo t t'=av f):t.agg=t'.agg:=by
 unfold Vo at hp;split at hp
 ·rfl
 ·rfl
 ·rfl
 ·rfl
 ·split at hp
  ·rename_i e;rw[e]
  ·cases hp
theorem Xb{t t':Ty}{x:t.den}{y:t'.den}(h:DQ t t' x=av y):t.agg=t'.agg:=by
 unfold DQ at h;split at h
 ·rename_i z hz;obtain⟨e,_⟩:=iV hz;rw[e]
 ·split at h
  ·rename_i f hf;exact aAS hf
  ·cases h
theorem Bu{E:Env}{t t':Ty}{x:t.den}{y:t'.den}(h:DQ t t' x=av y){cs:List Value}(hx:cV E t cs x):cV E t' cs y:=by
 unfold DQ at h;split at h
 ·rename_i z hz;obtain⟨e,hz⟩:=iV hz;subst e;obtain rfl:=Option.some.inj h;simp only at hz;rw[<-hz];exact hx
 ·split at h
  ·rename_i f hf;obtain rfl:=Option.some.inj h;exact cV.aJZ _ _ f hf cs x hx
  ·cases h
theorem apb{E:Env}{t t':Ty}{x:List t.den}{y:List t'.den}(h:DQ (.slice t) (.slice t') x=av y):y.length=x.length/\∀vs,bp (cV E t) vs x->bp (cV E t') vs y:=by
 unfold DQ at h;split at h
 ·rename_i z hz;obtain⟨e,hz⟩:=iV hz;have e':t=t':=by simpa using e
  subst e';obtain rfl:=Option.some.inj h;simp only at hz;subst hz;exact⟨rfl,λ_ h=>h⟩
 ·split at h
  ·rename_i p hp;obtain rfl:=Option.some.inj h;unfold Vo at hp;cases hd:Vo t t' with
   |none=>rw[hd]at hp;cases hp
   |some q=>
    rw[hd]at hp;obtain rfl:=Option.some.inj hp;exact⟨bC _,λvs hc=>hc.map λc x hx=>cV.aJZ _ _ q hd c x hx⟩
  ·cases h
def VO(E:Env):aE->List Value->Prop
 | .vec _ t l,cs=>bp (cV E t) cs l
 |a,cs=>V E a cs
theorem VO.of{E:Env}{a:aE}{cs:List Value}(h:V E a cs):VO E a cs:=by cases a <;> first | exact h | (simp only[V]at h)
def aE.gI:aE->Bool | .vec .. =>aS | .mp .. =>aS | .qu .. =>aS | .xU .. =>aS | _=>bq
theorem VO.to{E:Env}{a:aE}{cs:List Value}(h:VO E a cs)(hn:a.gI=bq):V E a cs:=by cases a <;> first | exact h | (simp[aE.gI]at hn)
theorem VO.mono{E E':Env}(h:cE E E'){a:aE}{cs:List Value}(hv:VO E a cs):VO E' a cs:=by cases a <;> first | exact V.mono h hv | exact bp.mono (λ_ _ hx=>hx.mono h.mem) hv
theorem Tf{t:Ty}{l:List t.den}{i:Nat}(h:i < l.length):nth t l i=l[i]:=by unfold nth;simp[h]
theorem Tn{α:Type}(cs:List α)(n m k j:Nat)(h:k+j<=m):(((cs.drop n).take m).drop k).take j=(cs.drop (n+k)).take j:=by rw[qx,kO,fi];congr 1;omega
theorem Li{E:Env}{t:Ty}{cs:List Value}{l:List t.den}(h:bp (cV E t) cs l){i:Nat}(hi:i < l.length):
  cV E t ((cs.drop (i*t.size)).take t.size) l[i]/\i*t.size+t.size<=cs.length:=by
 have hz:∀c x,cV E t c x->c.length=t.size:=λc x hx=>hx.size
 refine⟨h.get hz i hi,?_⟩;rw[h.length hz,<-Nat.succ_mul];exact cW _ hi
theorem qg{E:Env}:∀(p:List Gm) (c:aE) (cs:List Value) (n:Nat) (v:aE),VO E c cs->(loc c p).eval=av (n,v)->
  (n=0/\v=c)\/(V E v ((cs.drop n).take v.size)/\n+v.size<=cs.length)
 |[],c,cs,n,v,hc,h=>by left;simp only[loc,aA,cG]at h;exact⟨h.1.symm,h.2.symm⟩
 |st::p,c,cs,n,v,hc,h=>by
  by_cases pO:st= .arr
  ·subst pO;have h':(loc c p).eval=av (n,v):=by cases c <;> simpa only[loc]using h
   exact qg p c cs n v hc h'
  right;have whole:∀(c':aE) (cs':List Value) (n':Nat) (v':aE),V E c' cs'->(loc c' p).eval=av (n',v')->V E v' ((cs'.drop n').take v'.size)/\n'+v'.size<=cs'.length:=by
   intro c' cs' n' v' hc' hl;rcases qg p c' cs' n' v' (VO.of hc') hl with⟨rfl,rfl⟩ | hh
   ·have:=hc'.size;rw[aL,bu ao];exact⟨hc',ao⟩
   ·exact hh
  have second:∀(a b:aE) (ca cb:List Value),cs=ca++cb->ca.length=a.size->V E b cb->((loc b p).bind λ(n,v)=>Out.ok (a.size+n,v)).eval=av (n,v)->
    V E v ((cs.drop n).take v.size)/\n+v.size<=cs.length:=by
   intro a b ca cb e hl hb hh;obtain⟨⟨n',v'⟩,h1,h2⟩:=az.1 hh;simp only[aA,cG]at h2;obtain⟨rfl,rfl⟩:=h2;obtain⟨h3,h4⟩:=whole b cb n' v' hb h1;subst e;rw[<-hl,ji,eh ao,aR,kP];exact⟨h3,by simp only[aq];omega⟩
  have elem:∀(t:Ty) (l:List t.den) (i:Nat),bp (cV E t) cs l->(Out.pZ (decide (i < l.length)) ((loc (.d t (nth t l i)) p).bind λ(n,v)=>Out.ok (i*t.size+n,v))).eval=av (n,v)->
    V E v ((cs.drop n).take v.size)/\n+v.size<=cs.length:=by
   intro t l i dx hh;obtain⟨hi,hh⟩:=bQ.1 hh;have hi:i < l.length:=by simpa using hi
   obtain⟨⟨n',v'⟩,h1,h2⟩:=az.1 hh;simp only[aA,cG]at h2;obtain⟨rfl,rfl⟩:=h2;obtain⟨hp,hle⟩:=Li dx hi;rw[Tf hi]at h1;have hv:V E (.d t l[i]) ((cs.drop (i*t.size)).take t.size):=by simpa only[V]using hp
   obtain⟨h3,h4⟩:=whole _ _ n' v' hv h1;have hlen:((cs.drop (i*t.size)).take t.size).length=t.size:=hp.size;rw[Tn _ _ _ _ _ ao]at h3;exact⟨h3,ao⟩
  cases c with
  |pr a b=>
   simp only[VO,V]at hc;obtain⟨ca,cb,e,ha,hb⟩:=hc;cases st with
   |arr=>exact absurd rfl pO
   |fst=>
    simp only[loc]at h;obtain⟨h3,h4⟩:=whole a ca n v ha h;subst e;refine⟨?_,by simp only[aq];omega⟩;rw[ji,nO,eK,jA (by omega:v.size<=ca.length - n),fJ,bW];exact h3
   |snd=>simp only[loc]at h;exact second a b ca cb e ha.size hb h
   |idx i=>simp only[loc,aw]at h
  |d t x=>
   simp only[VO,V]at hc;cases t with
   |pair ta tb=>
    simp only[cV]at hc;obtain⟨ca,cb,e,ha,hb⟩:=hc;cases st with
    |arr=>exact absurd rfl pO
    |fst=>
     simp only[loc]at h;obtain⟨h3,h4⟩:=whole (.d ta x.1) ca n v (by simpa only[V]using ha) h;subst e;refine⟨?_,by simp only[aq];omega⟩;rw[ji,nO,eK,jA (by omega:v.size<=ca.length - n),fJ,bW];exact h3
    |snd=>simp only[loc]at h;exact second (.d ta x.1) (.d tb x.2) ca cb e ha.size (by simpa only[V]using hb) h
    |idx i=>simp only[loc,aw]at h
   |arr m t=>
    simp only[cV]at hc;cases st with
    |arr=>exact absurd rfl pO
    |idx i=>simp only[loc]at h;exact elem t x i hc.2 h
    |fst=>simp only[loc,aw]at h
    |snd=>simp only[loc,aw]at h
   |_=>cases st <;> first | exact absurd rfl pO | (simp only[loc,aw]at h)
  |vec e t l=>
   simp only[VO]at hc;cases st with
   |arr=>exact absurd rfl pO
   |idx i=>simp only[loc]at h;exact elem t l i hc h
   |fst=>simp only[loc,aw]at h
   |snd=>simp only[loc,aw]at h
  |_=>cases st <;> first | exact absurd rfl pO | (simp only[loc,aw]at h)
theorem ahy{E:Env}{a b:aE}{ca cb:List Value}(ha:V E a ca)(hb:V E b cb):V E (KH a b) (ca++cb):=by
 have gen:V E (.pr a b) (ca++cb):=by simp only[V];exact⟨ca,cb,rfl,ha,hb⟩
 unfold KH;split
 ·simp only[V]at ha hb ⊢;simp only[cV];exact⟨ca,cb,rfl,ha,hb⟩
 ·exact gen
theorem OX(a b:aE):(KH a b).gI=bq:=by unfold KH;split <;> rfl
def dm(cs:List Value)(n:Nat)(vs:List Value):List Value:=cs.take n++vs++cs.drop (n+vs.length)
theorem alv{cs vs:List Value}(h:cs.length=vs.length):dm cs 0 vs=vs:=by simp[dm,eh (by omega:cs.length<=vs.length)]
theorem zw{ca cb vs:List Value}{n:Nat}(h:n+vs.length<=ca.length):dm (ca++cb) n vs=dm ca n vs++cb:=by unfold dm;rw[nO,ji,jA (by omega:n<=ca.length),fJ,bW,jA h,aL];simp only[bh]
theorem LN{ca cb vs:List Value}{n:Nat}:dm (ca++cb) (ca.length+n) vs=ca++dm cb n vs:=by unfold dm;rw[nO,bu ao,kP,ji,eh ao,aR];simp only[bh];congr 4;omega
theorem alw{cs vs:List Value}{i z n:Nat}(hz:i+z<=cs.length)(h:n+vs.length<=z):
  dm cs (i+n) vs=cs.take i++dm ((cs.drop i).take z) n vs++cs.drop (i+z):=by
 have e:cs=cs.take i++((cs.drop i).take z++cs.drop (i+z)):=by rw[<-fi,dH,dH]
 have hl:(cs.take i).length=i:=by simp;omega
 have hm:((cs.drop i).take z).length=z:=by simp;omega
 conv=>lhs;rw[e,show i+n=(cs.take i).length+n by rw[hl]]
 rw[LN,zw ao];simp only[bh]
theorem je{cs vs:List Value}{n:Nat}(h:n+vs.length<=cs.length):(dm cs n vs).length=cs.length:=by simp[dm];omega
def kR:aE->aE->Prop
 | .vec e t l,.vec e' t' l'=>e'=e/\t'=t/\l'.length=l.length
 | .vec ..,_=>False
 |_,.vec .. =>False
 | .mp ..,_ | .qu ..,_ | .xU ..,_=>False
 |_,.mp .. | _,.qu .. | _,.xU .. =>False
 |_,_=>True
theorem kR.ra{a b:aE}(h:kR a b)(ha:a.gI=bq):b.gI=bq:=by
 cases b <;> first
  |rfl
  | (cases a <;> first | (simp[aE.gI]at ha;done) | exact h.elim)
theorem kR.of{a b:aE}(ha:a.gI=bq)(hb:b.gI=bq):kR a b:=by
 cases a <;> first
  | (simp[aE.gI]at ha;done)
  | (cases b <;> first | trivial | (simp[aE.gI]at hb;done))
theorem V.ra{E:Env}{a:aE}{cs:List Value}(h:V E a cs):a.gI=bq:=by cases a <;> first | rfl | (simp only[V]at h)
theorem oB{E:Env}:∀(p:List Gm) (c:aE) (cs:List Value) (n:Nat) (o v c':aE) (vs:List Value),VO E c cs->(loc c p).eval=av (n,o)->V E v vs->
  (vm c p v).eval=av c'->n+vs.length<=cs.length/\VO E c' (dm cs n vs)/\
   kR c c'
 |[],c,cs,n,o,v,c',vs,hc,hl,hv,h=>by
  simp only[loc,aA,cG]at hl;obtain⟨rfl,rfl⟩:=hl
  have main:∀(aIx:c.gI=bq),(Out.guard (v.ew && (c.size==v.size)) (.ok v)).eval=av c'->0+vs.length<=cs.length/\VO E c' (dm cs 0 vs)/\
   kR c c':=by
   intro aIx hg;obtain⟨h1,h2⟩:=aH.1 hg;obtain rfl:=aA.1 h2;simp only[au,dk]at h1;have e1:=(hc.to aIx).size;have e2:=hv.size;refine⟨ao,?_,?_⟩
   ·rw[alv ao];exact VO.of hv
   ·exact kR.of aIx hv.ra
  cases c with
  |vec e t l=>simp only[vm,aw]at h
  |mp k v l=>simp only[vm,aw]at h
  |qu q ver k v rest cur=>simp only[vm,aw]at h
  |xU k f p=>simp only[vm,aw]at h
  |_=>exact main rfl (by simpa only[vm]using h)
 |st::p,c,cs,n,o,v,c',vs,hc,hl,hv,h=>by
  by_cases pO:st= .arr
  ·subst pO;have hl':(loc c p).eval=av (n,o):=by cases c <;> simpa only[loc]using hl
   have h':(vm c p v).eval=av c':=by cases c <;> simpa only[vm]using h
   exact oB p c cs n o v c' vs hc hl' hv h'
  have left:∀(a b:aE) (ca cb:List Value),cs=ca++cb->V E a ca->V E b cb->(loc a p).eval=av (n,o)->((vm a p v).bind λa'=>Out.ok (KH a' b)).eval=av c'->
    n+vs.length<=cs.length/\VO E c' (dm cs n vs)/\c'.gI=bq:=by
   intro a b ca cb e ha hb hl hh;obtain⟨a',h1,h2⟩:=az.1 hh;obtain rfl:=aA.1 h2;obtain⟨h3,h4,h5⟩:=oB p a ca n o v a' vs (VO.of ha) hl hv h1;subst e;refine⟨by simp only[aq];omega,?_,OX _ _⟩;rw[zw h3];have aJ7:a'.gI=bq:=h5.ra ha.ra;exact VO.of (ahy (h4.to aJ7) hb)
  have right:∀(a b:aE) (ca cb:List Value),cs=ca++cb->ca.length=a.size->V E a ca->V E b cb->((loc b p).bind λ(n,v)=>Out.ok (a.size+n,v)).eval=av (n,o)->
    ((vm b p v).bind λb'=>Out.ok (KH a b')).eval=av c'->n+vs.length<=cs.length/\VO E c' (dm cs n vs)/\c'.gI=bq:=by
   intro a b ca cb e avC ha hb hl hh;obtain⟨⟨n',v'⟩,h1,h2⟩:=az.1 hl;simp only[aA,cG]at h2;obtain⟨rfl,rfl⟩:=h2;obtain⟨b',h3,h4⟩:=az.1 hh;obtain rfl:=aA.1 h4;obtain⟨h5,h6,h7⟩:=oB p b cb n' v' v b' vs (VO.of hb) h1 hv h3;subst e;refine⟨by simp only[aq];omega,?_,OX _ _⟩;rw[<-avC,LN];have aJ7:b'.gI=bq:=h7.ra hb.ra;exact VO.of (ahy ha (h6.to aJ7))
  have elem:∀(t:Ty) (l:List t.den) (i:Nat) (mk:List t.den->aE),bp (cV E t) cs l->(Out.pZ (decide (i < l.length)) ((loc (.d t (nth t l i)) p).bind λ(n,v)=>Out.ok (i*t.size+n,v))).eval=av (n,o)->
    (Out.pZ (decide (i < l.length)) ((vm (.d t (nth t l i)) p v).bind fun
     | .d t' y=>(Out.opt (sE t' t y)).bind λy=> .ok (mk (l.set i y))
     |_=> .fail)).eval=av c'->
    n+vs.length<=cs.length/\∃l',c'=mk l'/\l'.length=l.length/\bp (cV E t) (dm cs n vs) l':=by
   intro t l i mk dx hl hh;obtain⟨hi,hl⟩:=bQ.1 hl;have hi:i < l.length:=by simpa using hi
   obtain⟨⟨n',v'⟩,h1,h2⟩:=az.1 hl;simp only[aA,cG]at h2;obtain⟨rfl,rfl⟩:=h2;obtain⟨_,hh⟩:=bQ.1 hh;obtain⟨w,h3,h4⟩:=az.1 hh;obtain⟨hp,hle⟩:=Li dx hi;rw[Tf hi]at h1 h3;have aFK:V E (.d t l[i]) ((cs.drop (i*t.size)).take t.size):=by simpa only[V]using hp
   have hlen:((cs.drop (i*t.size)).take t.size).length=t.size:=hp.size;obtain⟨h5,h6,h7⟩:=oB p _ _ n' v' v w vs (VO.of aFK) h1 hv h3;cases w with
   |d t' y=>
    simp only at h4;obtain⟨y',h8,h9⟩:=az.1 h4;obtain⟨rfl,h8⟩:=iV (jo.1 h8);simp only at h8;subst h8;obtain rfl:=aA.1 h9;refine⟨ao,_,rfl,by simp,?_⟩;have hy:cV E t' (dm ((cs.drop (i*t'.size)).take t'.size) n' vs) y:=by simpa only[VO,V]using h6
    have:=bp.set (λc x hx=>cV.size hx) dx i hi hy;rw[alw (by omega:i*t'.size+t'.size<=cs.length) ao];rwa[hy.size]at this
   |_=>simp only[aw]at h4
  cases c with
  |pr a b=>
   simp only[VO,V]at hc;obtain⟨ca,cb,e,ha,hb⟩:=hc;cases st with
   |arr=>exact absurd rfl pO
   |fst=>
    simp only[loc]at hl;simp only[vm]at h;obtain⟨r1,r2,r3⟩:=left a b ca cb e ha hb hl h;exact⟨r1,r2,kR.of rfl r3⟩
   |snd=>
    simp only[loc]at hl;simp only[vm]at h;obtain⟨r1,r2,r3⟩:=right a b ca cb e ha.size ha hb hl h;exact⟨r1,r2,kR.of rfl r3⟩
   |idx i=>simp only[loc,aw]at hl
  |d t x=>
   simp only[VO,V]at hc;cases t with
   |pair ta tb=>
    simp only[cV]at hc;obtain⟨ca,cb,e,ha,hb⟩:=hc;have ha':V E (.d ta x.1) ca:=by simpa only[V]using ha
    have hb':V E (.d tb x.2) cb:=by simpa only[V]using hb
    cases st with
    |arr=>exact absurd rfl pO
    |fst=>
     simp only[loc]at hl;simp only[vm]at h;obtain⟨r1,r2,r3⟩:=left _ _ ca cb e ha' hb' hl h;exact⟨r1,r2,kR.of rfl r3⟩
    |snd=>
     simp only[loc]at hl;simp only[vm]at h;obtain⟨r1,r2,r3⟩:=right (.d ta x.1) (.d tb x.2) ca cb e ha.size ha' hb' hl h;exact⟨r1,r2,kR.of rfl r3⟩
    |idx i=>simp only[loc,aw]at hl
   |arr m t=>
    simp only[cV]at hc;cases st with
    |arr=>exact absurd rfl pO
    |idx i=>
     simp only[loc]at hl;simp only[vm]at h;obtain⟨r1,l',e,r2,r3⟩:=elem t x i (λl=> .d (.arr m t) l) hc.2 hl h;subst e;refine⟨r1,?_,trivial⟩;simp only[VO,V,cV];exact⟨by rw[r2];exact hc.1,r3⟩
    |fst=>simp only[loc,aw]at hl
    |snd=>simp only[loc,aw]at hl
   |_=>cases st <;> first | exact absurd rfl pO | (simp only[loc,aw]at hl)
  |vec e t l=>
   simp only[VO]at hc;cases st with
   |arr=>exact absurd rfl pO
   |idx i=>
    simp only[loc]at hl;simp only[vm]at h;obtain⟨r1,l',e',r2,r3⟩:=elem t l i (λl=> .vec e t l) hc hl h;subst e';exact⟨r1,by simpa only[VO]using r3,rfl,rfl,r2⟩
   |fst=>simp only[loc,aw]at hl
   |snd=>simp only[loc,aw]at hl
  |_=>cases st <;> first | exact absurd rfl pO | (simp only[loc,aw]at hl)
end Go.Ab
namespace Go.Ab
def aJX(E:Env)(id:Id)(fr:Bool)(e:TypeId)(t:Ty)(l:List t.den):Prop:=
 0 < t.size/\match E.β id with
  |none=>l=[]
  |some pl=>∃cur k,E.w.heap[pl.b]? =av (.cells cur e (0,0))/\cur.size=pl.cap*t.size/\l.length<=pl.cap/\pl.cap<=maxLen/\E.g pl.b= .own (.id id) k/\
    k<=l.length*t.size/\(fr=bq->k=0)/\bp (cV E t) (cur.toList.take (l.length*t.size)) l
def aE.DK:aE->Pl->Nat->TypeId->Prop
 | .bx e' 0 _,_,_,e=>e=e'
 | .bx e' (z+1) c,pl,n,e=>e=e'/\n=pl.cap*(z+1)/\pl.cap<=maxLen/\c.size<=n
 |_,_,_,_=>True
def aE.uT:aE->Nat->Nat
 | .bx _ (_+1) c,_=>c.size
 |_,n=>n
def aE.Vu:aE->Bool | .bx .. =>aS | _=>bq
theorem V.xM{E:Env}{a:aE}{cs:List Value}(h:V E a cs):a.Vu=bq:=by cases a <;> first | rfl | (simp only[V]at h)
theorem NO{c:aE}(h:c.Vu=bq):c.strip=c:=by cases c <;> first | rfl | (simp[aE.Vu]at h)
theorem Ml{c:aE}(h:c.Vu=bq)(pl:Pl)(n:Nat)(e:TypeId):c.DK pl n e:=by cases c <;> first | trivial | (simp[aE.Vu]at h)
theorem Q2{c:aE}(h:c.Vu=bq)(n:Nat):c.uT n=n:=by cases c <;> first | rfl | (simp[aE.Vu]at h)
theorem IX(c:aE){c':aE}(h:c'.Vu=bq):(c.wrap c').strip=c':=by cases c <;> first | rfl | exact NO h
theorem HH{c c':aE}{pl:Pl}{n:Nat}{e:TypeId}(hc:c.DK pl n e)(h:c'.Vu=bq)(hs:c'.size=c.strip.size):(c.wrap c').DK pl n e:=by
 cases c with
 |bx e' z c=>cases z with
  |zero=>exact hc
  |succ z=>exact⟨hc.1,hc.2.1,hc.2.2.1,by rw[hs];exact hc.2.2.2⟩
 |_=>exact Ml h pl n e
theorem Mk{c c':aE}{n:Nat}(h:c'.Vu=bq)(hs:c'.size=c.strip.size):(c.wrap c').uT n=c.uT n:=by
 cases c with
 |bx e' z c=>cases z with
  |zero=>rfl
  |succ z=>exact hs
 |_=>exact Q2 h n
theorem P8{c:aE}{pl:Pl}{n:Nat}{e:TypeId}(h:c.DK pl n e):c.uT n<=n:=by
 cases c with
 |bx e' z c=>cases z with
  |zero=>exact aC _
  |succ z=>exact h.2.2.2
 |_=>exact aC _
def ahP(id:Id)(fr:Bool):kI:=match fr with | true=> .free | false=> .own (.id id) 0
def Md(E:Env)(id:Id)(fr:Bool)(c:aE):Prop:=∃pl cur e,E.β id=av pl/\E.w.heap[pl.b]? =av (.cells cur e (0,0))/\E.g pl.b=ahP id fr/\c.DK pl cur.size e/\V E c.strip (cur.toList.take (c.uT cur.size))
def Alike{α β:Type}(R:α->β->Prop):List α->List β->Prop
 |[],[]=>True
 |x::xs,y::ys=>R x y/\Alike R xs ys
 |_,_=>False
theorem Alike.mono{α β:Type}{R R':α->β->Prop}(h:∀x y,R x y->R' x y):∀ {xs:List α} {ys:List β},Alike R xs ys->Alike R' xs ys
 |[],[],_=>trivial
 |_::_,_::_,⟨h1,h2⟩=>⟨h _ _ h1,Alike.mono h h2⟩
 |[],_::_,h=>h.elim
 |_::_,[],h=>h.elim
def Aq(E:Env)(t:Ty)(v:Value)(x:t.den):Prop:=∃cs,cV E t cs x/\fw t.agg cs v
def A9(E:Env)(kt vt:Ty)(e:eZ)(x:kt.den×vt.den):Prop:=Aq E kt e.key x.1/\Aq E vt e.val x.2
theorem A9.mono{E E':Env}(h:qy E E'){kt vt:Ty}{e:eZ}{x:kt.den×vt.den}(he:A9 E kt vt e x):A9 E' kt vt e x:=
 let⟨⟨c1,a1,b1⟩,c2,a2,b2⟩:=he
 ⟨⟨c1,a1.mono h,b1⟩,c2,a2.mono h,b2⟩
def YV(E:Env)(kt vt:Ty)(es:List eZ)(l:List (kt.den×vt.den)):Prop:=∃l',Alike (A9 E kt vt) es l'/\l'.Perm l
theorem YV.mono{E E':Env}(h:qy E E'){kt vt:Ty}{es:List eZ}{l:List (kt.den×vt.den)}(hm:YV E kt vt es l):YV E' kt vt es l:=
 let⟨l',h1,h2⟩:=hm
 ⟨l',h1.mono λ_ _ he=>he.mono h,h2⟩
def mP(es:List eZ)(clock:Nat):Prop:=(es.map (·.born)).Nodup/\∀e∈es,e.born < clock
theorem mP.nil(n:Nat):mP [] n:=⟨gh,λ_ h=>(by cases h)⟩
theorem mP.push{es:List eZ}{clock:Nat}(h:mP es clock){e:eZ}(he:e.born=clock):mP (es++ [e]) (clock+1):=by
 refine⟨?_,λx hx=> ?_⟩
 ·rw[pj,List.nodup_append];refine⟨h.1,by simp,λa ha b hb=> ?_⟩;obtain⟨x,hx,rfl⟩:=cT.1 ha;have:=h.2 x hx;simp only[bE,fv,List.mem_singleton]at hb;omega
 ·rcases bt.1 hx with hx | hx
  ·have:=h.2 x hx;omega
  ·rw[List.mem_singleton]at hx;subst hx;omega
theorem mP.erase{es:List eZ}{clock:Nat}(h:mP es clock)(j:Nat):mP (es.eraseIdx j) clock:=⟨h.1.sublist ((List.eraseIdx_sublist es j).map _),λx hx=>h.2 x ((List.eraseIdx_sublist es j).subset hx)⟩
theorem mP.set{es:List eZ}{clock:Nat}(h:mP es clock){j:Nat}{e x:eZ}(hj:es[j]? =av e)(hx:x.born=e.born):mP (es.set j x) clock:=by
 have iI:=(List.getElem?_eq_some_iff.1 hj).1;have aLK:=(List.getElem?_eq_some_iff.1 hj).2;have e1:(es.set j x).map (·.born)=es.map (·.born):=by
  rw[List.map_set,hx,<-aLK];have:es[j].born=(es.map (·.born))[j]'(by simpa using iI):=by simp
  rw[this,dX]
 refine⟨by rw[e1];exact h.1,λy hy=> ?_⟩;rcases List.mem_or_eq_of_mem_set hy with hy | hy
 ·exact h.2 y hy
 ·rw[hy,hx,<-aLK];exact h.2 _ (List.getElem_mem iI)
def aJT(E:Env)(id:Id)(kt vt:Ty)(l:List (kt.den×vt.den)):Prop:=
 ∃pl es clock,E.β id=av pl/\E.w.heap[pl.b]? =av (.map es clock)/\E.g pl.b= .own (.id id) 0/\(YV E kt vt es.toList l/\(l.map (·.1)).Nodup)/\mP es.toList clock
def aEI(E:Env)(i q:Id)(ver:Nat)(kt vt:Ty)(rest:List (kt.den×vt.den))(cur:Option (kt.den×vt.den)):Prop:=
 ∃pl mb since seen c0,E.β i=av pl/\E.w.heap[pl.b]? =av (.mapIter (av mb) since seen c0)/\E.g pl.b= .own (.id i) 0/\∀vr,ver=vr+1->E.CU q vr/\
  (E.cur q vr->(∃k v l,E.s q=av (.obj vr aS (.mp k v l)))/\∃plq es clock,E.β q=av plq/\plq.b=mb/\E.w.heap[plq.b]? =av (.map es clock)/\E.g plq.b= .own (.id q) 0/\
   (∀x∈es.toList,x.born < since)/\(since<=c0/\since<=clock)/\(es.toList.map (·.born)).Nodup/\YV E kt vt (es.toList.filter λe=> !seen.contains e.born) rest/\
   ∀x,cur=av x->∃(e:eZ) (seen':Array Nat),e∈es.toList/\seen=seen'.push e.born/\c0=clock/\A9 E kt vt e x)
def afF:Nat->LoopState->Option Code->Prop
 | 0,st,pe=>st= .ready/\pe=aF
 | 1,st,_=>st= .busy
 | 2,st,pe=>st= .done/\pe=av .ret
 |n+3,st,pe=>st= .done/\pe=av (.exit n)
def Bb(E:Env)(f:aE)(tmps:Array Value):Prop:=f.list.length=tmps.size/\∀i,VS E (f.list.getD i .undef) (tmps.getD i undef)
def aJW(E:Env)(id:Id)(c:sA)(f:aE)(p:Nat):Prop:=∃pl r,E.β id=av pl/\E.w.heap[pl.b]? =av (.loop r)/\E.g pl.b= .own (.id id) 0/\(r.params=c.ps/\r.assign=c.as/\r.body=c.b)/\Bb E f r.tmps/\afF p r.state r.pending
def sk(E:Env)(id:Id)(fr:Bool):aE->Prop
 | .xU c f p=>aJW E id c f p
 | .vec e t l=>aJX E id fr e t l
 | .mp kt vt l=>aJT E id kt vt l
 | .qu q ver kt vt rest cur=>aEI E id q ver kt vt rest cur
 |c=>Md E id fr c
theorem sk.box{E:Env}{id:Id}{fr:Bool}{c:aE}(h:sk E id fr c)(hn:c.gI=bq):Md E id fr c:=by cases c <;> first | exact h | (simp[aE.gI]at hn)
theorem Md.obj{E:Env}{id:Id}{fr:Bool}{c:aE}(h:Md E id fr c):sk E id fr c:=by cases c <;> first | exact h | (obtain⟨_,_,_,_,_,_,_,hv⟩:=h;simp only[aE.strip,V]at hv)
def Gl(E:Env):Prop:=∀t∈GT,t.zs.length=t.n/\Ar E (av ⟨t.g,0,aF⟩) (t.zs.map λz=> .int t.k z)
theorem Gl.mono{E E':Env}(h:Gl E)(m:qy E E'):Gl E':=λt ht=>⟨(h t ht).1,(h t ht).2.mono m⟩
structure gN(E:Env):Prop where
 all:∀id ver fr c,E.s id=av (.obj ver fr c)->sk E id fr c
 gl:Gl E
instance {E:Env}:CoeFun (gN E) λ_=>∀id ver fr c,E.s id=av (.obj ver fr c)->sk E id fr c:=⟨λh=>h.all⟩
structure Trans(w w':World)(g g':Nat->kI):Prop where
 os:w'.os=w.os
 tape:w'.tape=w.tape
 output:w'.output=w.output/\w.drawn<=w'.drawn
 size:w.heap.size<=w'.heap.size
 ahO:∀b,b < w.heap.size->match g b with
  | .free=>g' b= .free/\w'.heap[b]? =w.heap[b]?
  | .own .dY k=>g' b= .own .dY k/\w'.heap[b]? =w.heap[b]?
  | .own (.id _) k=>(g' b= .free\/∃i k',g' b= .own (.id i) k'/\k<=k')/\∀off v,off < k->w.cell? ⟨b,off,aF⟩=av v->w'.cell? ⟨b,off,aF⟩=av v
theorem Trans.refl(w:World)(g:Nat->kI):Trans w w g g:=
 ⟨rfl,rfl,⟨rfl,aC _⟩,aC _,λb _=>by
  cases g b with
  |free=>exact⟨rfl,rfl⟩
  |own o k=>cases o with
   |dY=>exact⟨rfl,rfl⟩
   |id i=>exact⟨.inr ⟨i,k,rfl,aC _⟩,λ_ _ _ h=>h⟩⟩
theorem Trans.trans{w w' w'':World}{g g' g'':Nat->kI}(h:Trans w w' g g')(h':Trans w' w'' g' g''):Trans w w'' g g'':=by
 refine⟨h'.os.trans h.os,h'.tape.trans h.tape,⟨h'.output.1.trans h.output.1,qz h.output.2 h'.output.2⟩,qz h.size h'.size,λb hb=> ?_⟩;have h1:=h.ahO b hb;have h2:=h'.ahO b (Nat.lt_of_lt_of_le hb h.size);cases hg:g b with
 |free=>
  rw[hg]at h1;simp only at h1 ⊢;rw[h1.1]at h2;simp only at h2;exact⟨h2.1,h2.2.trans h1.2⟩
 |own o k=>
  cases o with
  |dY=>
   rw[hg]at h1;simp only at h1 ⊢;rw[h1.1]at h2;simp only at h2;exact⟨h2.1,h2.2.trans h1.2⟩
  |id i=>
   rw[hg]at h1;simp only at h1 ⊢;obtain⟨aHW,aLA⟩:=h1;rcases aHW with aHW | ⟨i',k',aHW,hk⟩
   ·rw[aHW]at h2;simp only at h2;exact⟨.inl h2.1,λoff v ho hv=>by
     have:=aLA off v ho hv;simpa only[eO,h2.2]using this⟩
   ·rw[aHW]at h2;simp only at h2;refine⟨?_,λoff v ho hv=>h2.2 off v ao (aLA off v ho hv)⟩;rcases h2.1 with aJ3 | ⟨i'',k'',aJ3,hk'⟩
    ·exact .inl aJ3
    ·exact .inr ⟨i'',k'',aJ3,ao⟩
theorem Trans.mem{E E':Env}(h:Trans E.w E'.w E.g E'.g):qy E E':=by
 refine⟨?_,λb ob hf ho=>by
  have h1:=h.ahO b (cg.1 ho).1;rw[hf]at h1;exact⟨h1.1,h1.2.trans ho⟩⟩
 intro b off v ⟨hc,ho⟩;have hb:b < E.w.heap.size:=World.block_lt_of_cell? _ _ hc;have h1:=h.ahO b hb;unfold Env.has ur at*;cases hg:E.g b with
 |free=>
  rw[hg]at h1;simp only at h1;refine⟨?_,by rw[h1.1];trivial⟩;simpa only[eO,h1.2]using hc
 |own o k=>
  rw[hg]at ho;simp only at ho;cases o with
  |dY=>
   rw[hg]at h1;simp only at h1;refine⟨?_,by rw[h1.1];exact ho⟩;simpa only[eO,h1.2]using hc
  |id i=>
   rw[hg]at h1;simp only at h1;refine⟨h1.2 off v ho hc,?_⟩;rcases h1.1 with h2 | ⟨i',k',h2,hk⟩
   ·rw[h2];trivial
   ·rw[h2];show off < k';omega
theorem Bb.mono{E E':Env}(h:cE E E'){f:aE}{tmps:Array Value}(hs:Bb E f tmps):Bb E' f tmps:=⟨hs.1,λi=>(hs.2 i).mono h⟩
theorem sk.aEl{E E':Env}(h:cE E E'){id:Id}{fr:Bool}{c:aE}(ho:sk E id fr c)(hβ:E'.β id=E.β id)
    (hb:∀pl,E.β id=av pl->E'.w.heap[pl.b]? =E.w.heap[pl.b]? /\E'.g pl.b=E.g pl.b)
    (hq:∀q ver k v l,(∃kt vt rest cu,c= .qu q (ver+1) kt vt rest cu)->E.s q=av (.obj ver aS (.mp k v l))->E'.cur q ver->(∃k v l,E'.s q=av (.obj ver aS (.mp k v l)))/\∀pl,E.β q=av pl->E'.w.heap[pl.b]? =E.w.heap[pl.b]? /\E'.g pl.b=E.g pl.b):sk E' id fr c:=by
  by_cases hn:c.gI=bq
  · obtain⟨pl,cur,e,h1,h2,h3,h5,h4⟩:=ho.box hn
    obtain⟨b1,b2⟩:=hb pl h1;exact Md.obj ⟨pl,cur,e,by rw[hβ,h1],by rw[b1,h2],by rw[b2,h3],h5,h4.mono h⟩
  · cases c <;> first
      | (exact absurd rfl hn)
      | (obtain⟨pl,r,h1,h2,h3,h4,h5,h6⟩:=ho
         obtain⟨b1,b2⟩:=hb pl h1;exact⟨pl,r,by rw[hβ,h1],by rw[b1,h2],by rw[b2,h3],h4,h5.mono h,h6⟩)
      | (obtain⟨pl,es,clock,h1,h2,h3,h4⟩:=ho
         obtain⟨b1,b2⟩:=hb pl h1;exact⟨pl,es,clock,by rw[hβ,h1],by rw[b1,h2],by rw[b2,h3],⟨h4.1.1.mono h.mem,h4.1.2⟩,h4.2⟩)
      | (obtain⟨pl,mb,since,seen,c0,h1,h2,h3,hv⟩:=ho
         obtain⟨b1,b2⟩:=hb pl h1;refine⟨pl,mb,since,seen,c0,by rw[hβ,h1],by rw[b1,h2],by rw[b2,h3],λvr ahq=> ?_⟩;obtain⟨h4,h5⟩:=hv vr ahq;refine⟨h.CU _ _ h4,λhc=> ?_⟩;obtain⟨c1,e1⟩:=h.cur _ _ h4 hc;obtain⟨⟨k,v,l,hk⟩,plq,es,clock,g1,g2,g3,g4,g5,g6,g7,g8,g9⟩:=h5 c1;obtain⟨q1,q2⟩:=hq _ _ _ _ _ ⟨_,_,_,_,by rw[ahq]⟩ hk hc;obtain⟨q3,q4⟩:=q2 plq g1;exact⟨q1,plq,es,clock,by rw[e1,g1],g2,by rw[q3,g3],by rw[q4,g4],g5,g6,g7,g8.mono h.mem,λx hx=>
           let⟨e,se,a1,a2,a3,a4⟩:=g9 x hx
           ⟨e,se,a1,a2,a3,a4.mono h.mem⟩⟩)
      |skip
    rename_i e t l;obtain⟨hz,ho⟩:=ho;refine⟨hz,?_⟩;rw[hβ];cases hp:E.β id with
    |none=>rw[hp]at ho;exact ho
    |some pl=>
      rw[hp]at ho;simp only at ho ⊢;obtain⟨b1,b2⟩:=hb pl hp;obtain⟨cur,k,h1,h2,h3,h4,h5,h6,h7,h8⟩:=ho;exact⟨cur,k,by rw[b1,h1],h2,h3,h4,by rw[b2,h5],h6,h7,h8.mono λc x hx=>hx.mono h.mem⟩
theorem sk.mono{E E':Env}(h:cE E E'){id:Id}{fr:Bool}{c:aE}(ho:sk E id fr c)(hβ:E'.β id=E.β id)(hb:∀pl,E.β id=av pl->E'.w.heap[pl.b]? =E.w.heap[pl.b]? /\E'.g pl.b=E.g pl.b)(hq:∀q ver k v l,E.s q=av (.obj ver aS (.mp k v l))->E'.cur q ver->(∃k v l,E'.s q=av (.obj ver aS (.mp k v l)))/\∀pl,E.β q=av pl->E'.w.heap[pl.b]? =E.w.heap[pl.b]? /\E'.g pl.b=E.g pl.b):sk E' id fr c:=ho.aEl h hβ hb λq ver k v l _=>hq q ver k v l
def AS.env(s:AS)(w:World)(g:Nat->kI)(β:Id->Option Pl):Env:= {w,g,β,s:=s.bU}
structure Ctx where
 E:Env
def Ctx.ok(C:Ctx):Prop:=(∀i j,C.E.s (.new i j)=aF)/\∀k v fr c,C.E.s (.cl k)=av (.obj v fr c)->v=0
def sO(D:Nat):Deferred:= {target:= .collected D,args:= #[]}
def ame(n:Nat)(ds:List Deferred)(w:World)(g:Nat->kI):Prop:=ds.Nodup/\∀d∈ds,∃D,d=sO D/\n<=D/\w.heap[D]? =av (.deferred (av []))/\g D= .own .dY 0
theorem ame.mono{n:Nat}{ds:List Deferred}{w w':World}{g g':Nat->kI}(h:ame n ds w g)(ht:Trans w w' g g'):ame n ds w' g':=
 ⟨h.1,λd hd=>by
  obtain⟨D,h1,h2,h3,h4⟩:=h.2 d hd;have:=ht.ahO D (cg.1 h3).1;rw[h4]at this;exact⟨D,h1,h2,this.2.trans h3,this.1⟩⟩
structure Inv(C:Ctx)(g:Nat->kI)(β:Id->Option Pl)(s:AS)(a:Act)(w:World):Prop where
 defers:ame C.E.w.heap.size a.defers w g
 size:a.tmps.size=s.cj.length
 cj:∀i,VS (s.env w g β) (s.slot i) (a.tmps.getD i undef)
 bH:gN (s.env w g β)
 trans:Trans C.E.w w C.E.g g
 le:cE C.E (s.env w g β)
def gw(C:Ctx)(s:AS)(a:Act)(w:World):Prop:=∃g β,Inv C g β s a w
theorem Uk(s:AS)(d:Nat)(v:aE)(i:Nat):(s.put (av d) v).slot i=if i=d/\d < s.cj.length then v else s.slot i:=by
 simp only[AS.put,AS.slot,List.getD_eq_getElem?_getD,List.getElem?_set];by_cases h:d=i
 ·subst h;by_cases hl:d < s.cj.length
  ·simp[hl]
  ·simp[hl]
 ·simp[h,Ne.symm h]
@[simp] theorem FM(s:AS)(d:Option Tmp)(v:aE):(s.put d v).bU=s.bU:=by cases d <;> rfl
@[simp] theorem ZF(s:AS)(d:Option Tmp)(v:aE)(w:World)(g:Nat->kI)(β:Id->Option Pl):(s.put d v).env w g β=s.env w g β:=by simp[AS.env]
theorem ag0(a:Act)(d:Nat)(v:Value)(i:Nat):(a.put (av d) v).tmps.getD i undef=if i=d/\d < a.tmps.size then v else a.tmps.getD i undef:=by
 simp only[Act.put,cC,dI];by_cases h:d=i
 ·subst h;by_cases hl:d < a.tmps.size
  ·simp[hl]
  ·simp[hl]
 ·simp[h,Ne.symm h]
theorem Inv.put{C:Ctx}{g:Nat->kI}{β:Id->Option Pl}{s:AS}{a:Act}{w:World}(h:Inv C g β s a w)(d:Option Tmp){v:aE}{x:Value}(hv:VS (s.env w g β) v x):
  Inv C g β (s.put d v) (a.put d x) w:=by
 cases d with
 |none=>exact h
 |some d=>
  refine⟨h.defers,by simpa[Act.put,AS.put]using h.size,λi=> ?_,by simpa using h.bH,h.trans,by simpa using h.le⟩;rw[ZF,Uk,ag0,h.size];split
  ·exact hv
  ·exact h.cj i
theorem Inv.step{C:Ctx}{g g':Nat->kI}{β β':Id->Option Pl}{s s':AS}{a:Act}{w w':World}(h:Inv C g β s a w)(hs:s'.cj=s.cj)
  (ht:Trans w w' g g') (he:cE (s.env w g β) (s'.env w' g' β')) (ho:gN (s'.env w' g' β')):Inv C g' β' s' a w':=
 ⟨h.defers.mono ht,by rw[hs];exact h.size,λi=>by
  have:s'.slot i=s.slot i:=by simp[AS.slot,hs]
  rw[this];exact(h.cj i).mono he,ho,h.trans.trans ht,h.le.trans he⟩
theorem Inv.azl{C:Ctx}{g g':Nat->kI}{β β':Id->Option Pl}{s s':AS}{a:Act}{w w':World}(h:Inv C g β s a w)(hs:s'.cj=s.cj)(ht:Trans w w' g g')(he:cE (s.env w g β) (s'.env w' g' β'))(ho:∀id ver fr c,(s'.env w' g' β').s id=av (.obj ver fr c)->sk (s'.env w' g' β') id fr c):Inv C g' β' s' a w':=h.step hs ht he ⟨ho,h.bH.gl.mono he.mem⟩
theorem atz{E:Env}(v:Value):VS E (ofConst v) v:=by
 cases v with
 |bool b=>exact⟨_,by simp[ofConst,V,cV],rfl⟩
 |int k n=>exact⟨_,by simp[ofConst,V,cV],rfl⟩
 |string s=>exact⟨_,by simp[ofConst,V,cV],rfl⟩
 |slice a l c=>cases a with
  |none=>
   cases l with
   |zero=>cases c with
    |zero=>exact⟨_,by simp[ofConst,V],rfl⟩
    |succ _=>trivial
   |succ _=>trivial
  |some _=>trivial
 |pointer a=>cases a with
  |none=>exact⟨_,by simp[ofConst,V],rfl⟩
  |some _=>trivial
 |map r=>cases r with
  |none=>exact⟨_,by simp[ofConst,V],rfl⟩
  |some _=>trivial
 |nilFunc=>exact⟨_,by simp[ofConst,V],rfl⟩
 |_=>trivial
theorem Inv.ev{C:Ctx}{g:Nat->kI}{β:Id->Option Pl}{s:AS}{a:Act}{w:World}(h:Inv C g β s a w)(x:bF):VS (s.env w g β) (s.ev x) (a.eval x):=by
 cases x with
 |tmp t=>exact h.cj t
 |const v=>exact atz v
 |func f=>exact⟨_,by simp only[AS.ev,V];exact⟨[],rfl,by simp[VC]⟩,rfl⟩
 |global n=>
  have hg:=h.bH.gl;show VS _ (alG n GT) (.pointer (av ⟨n,0,aF⟩))
  revert hg
  unfold Gl;generalize GT=L;intro hg
  induction L with
  |nil=>trivial
  |cons t l ih=>
   cases e:t.g==n with
   |false=>simp only[alG,e];exact ih λt ht=>hg t (aN _ ht)
   |true=>
    simp only[alG,e];have e:t.g=n:=by simpa using e
    subst e;have ht:=hg t (aM ..);refine⟨_,⟨t.g,0,_,rfl,ht.2,?_⟩,rfl⟩;simp only[cV];refine⟨ht.1,?_⟩;have hc:∀zs:List Int,bp (cV (s.env w g β) (.int t.k)) (zs.map λz=>Value.int t.k z) zs:=λzs=>by
     induction zs with
     |nil=>rfl
     |cons z zs ih=>exact⟨[.int t.k z],_,rfl,by simp[cV],ih⟩
    exact hc t.zs
theorem ef(s:AS)(id:Id)(e:dB)(h:s.bU id≠aF):(s.aY id e).bU id=av e:=by
 cases id with
 |cl k=>
  simp only[AS.bU,AS.aY]at*;have hk:k < s.bS.length:=by
   rcases nQ k s.bS.length with h' | h'
   ·exact h'
   ·exact absurd (dW h') h
  simp[hk]
 |new i j=>
  simp only[AS.bU,AS.aY]at*;have hj:j < (s.news.getD i []).length:=by
   rcases nQ j (s.news.getD i []).length with h' | h'
   ·exact h'
   ·exact absurd (dW h') h
  have hi:i < s.news.length:=by
   rcases nQ i s.news.length with h' | h'
   ·exact h'
   ·simp[dW h']at hj
  have:((s.news.set i ((s.news.getD i []).set j e)).getD i [])=(s.news.getD i []).set j e:=by simp[List.getD_eq_getElem?_getD,hi]
  rw[this];simp only[List.getElem?_set,hj,bG]
theorem cM(s:AS)(id id':Id)(e:dB)(h:id'≠id):(s.aY id e).bU id'=s.bU id':=by
 cases id with
 |cl k=>
  cases id' with
  |cl k'=>
   simp only[AS.bU,AS.aY];rw[dO (λe=>h (by rw[e]))]
  |new i j=>rfl
 |new i j=>
  cases id' with
  |cl k'=>rfl
  |new i' j'=>
   simp only[AS.bU,AS.aY];by_cases hi:i'=i
   ·subst hi;have hj:j≠j':=λe=>h (by rw[e])
    by_cases hl:i' < s.news.length
    ·have:((s.news.set i' ((s.news.getD i' []).set j e)).getD i' [])=(s.news.getD i' []).set j e:=by simp[List.getD_eq_getElem?_getD,hl]
     rw[this,dO hj]
    ·rw[List.set_eq_of_length_le ao]
   ·have:(s.news.set i ((s.news.getD i []).set j e)).getD i' []=s.news.getD i' []:=by simp only[List.getD_eq_getElem?_getD];rw[dO (Ne.symm hi)]
    rw[this]
@[simp] theorem cY(s:AS)(id:Id)(e:dB):(s.aY id e).cj=s.cj:=by cases id <;> rfl
@[simp] theorem aGy(s:AS)(i:Nat)(es:List dB):(s.born i es).cj=s.cj:=rfl
theorem dQ{s:AS}{id:Id}{v:Nat}{fr:Bool}{c:aE}(h:s.obj id=av (v,fr,c)):s.bU id=av (.obj v fr c):=by
 unfold AS.obj at h;split at h
 ·rename_i h';simp at h;obtain⟨rfl,rfl,rfl⟩:=h;exact h'
 ·cases h
theorem cE.aY{s:AS}{w w':World}{g g':Nat->kI}{β β':Id->Option Pl}{id:Id}{v v':Nat}{fr fr':Bool}{c c':aE}(hs:s.bU id=av (.obj v fr c))(hv:v<=v')
  (ht:Trans w w' g g') (hβ:∀i,i≠id->β' i=β i) (hβ':v'=v->β' id=β id):cE (s.env w g β) ((s.aY id (.obj v' fr' c')).env w' g' β'):=by
 have ln:=ef s id (.obj v' fr' c') (by rw[hs];simp);refine⟨Trans.mem ht,λi ver hb=> ?_,λi ver hb hc=> ?_⟩
 ·by_cases hi:i=id
  ·subst hi;obtain⟨_,h2⟩:=hb;refine⟨by show(s.aY i (.obj v' fr' c')).bU i≠aF;rw[ln];simp,λv'' fr'' c'' he=> ?_⟩;have he':(s.aY i (.obj v' fr' c')).bU i=av (.obj v'' fr'' c''):=he;rw[ln]at he';simp only[aB,dB.obj.injEq]at he';have:=h2 v fr c hs;omega
  ·have:=cM s id i (.obj v' fr' c') hi;obtain⟨h1,h2⟩:=hb;exact⟨by show(s.aY id (.obj v' fr' c')).bU i≠aF;rw[this];exact h1,λv'' fr'' c'' he=>h2 v'' fr'' c'' (this.symm.trans he)⟩
 ·obtain⟨fr'',c'',hc⟩:=hc;by_cases hi:i=id
  ·subst hi;have hc':(s.aY i (.obj v' fr' c')).bU i=av (.obj ver fr'' c''):=hc;rw[ln]at hc';simp only[aB,dB.obj.injEq]at hc';have h2:=hb.2 v fr c hs;have e:v'=v:=ao;refine⟨⟨fr,c,?_⟩,hβ' e⟩;rw[<-hc'.1,e];exact hs
  ·have hc':(s.aY id (.obj v' fr' c')).bU i=av (.obj ver fr'' c''):=hc;rw[cM s id i _ hi]at hc';exact⟨⟨fr'',c'',hc'⟩,hβ i hi⟩
theorem gN.aY{s:AS}{w w':World}{g g':Nat->kI}{β β':Id->Option Pl}{id:Id}{v':Nat}{fr':Bool}{c':aE}(h:gN (s.env w g β))(gW:s.bU id≠aF)
  (he:cE (s.env w g β) ((s.aY id (.obj v' fr' c')).env w' g' β')) (hβ:∀i,i≠id->β' i=β i)
  (hb:∀i ver fr c pl,i≠id->s.bU i=av (.obj ver fr c)->β i=av pl->w'.heap[pl.b]? =w.heap[pl.b]? /\g' pl.b=g pl.b)
  (ho:sk ((s.aY id (.obj v' fr' c')).env w' g' β') id fr' c')
  (avG:∀ver k v l,s.bU id=av (.obj ver aS (.mp k v l))->v'=ver/\fr'=aS/\(∃k v l,c'= .mp k v l)/\∀pl,β id=av pl->w'.heap[pl.b]? =w.heap[pl.b]? /\g' pl.b=g pl.b):gN ((s.aY id (.obj v' fr' c')).env w' g' β'):=by
 refine⟨?_,h.gl.mono he.mem⟩;intro i ver fr c hi;by_cases cR:i=id
 ·subst cR;have hi':(s.aY i (.obj v' fr' c')).bU i=av (.obj ver fr c):=hi;rw[ef s i _ gW]at hi';simp only[aB,dB.obj.injEq]at hi';obtain⟨rfl,rfl,rfl⟩:=hi';exact ho
 ·have hi':(s.aY id (.obj v' fr' c')).bU i=av (.obj ver fr c):=hi;rw[cM s id i _ cR]at hi';refine(h i ver fr c hi').mono he (hβ i cR) (λpl hp=>hb i ver fr c pl cR hi' hp) λq vq k v l hq hc=> ?_
  have hq:s.bU q=av (.obj vq aS (.mp k v l)):=hq;by_cases aKK:q=id
  ·subst aKK;obtain⟨rfl,rfl,⟨k',v',l',rfl⟩,aDS⟩:=avG _ _ _ _ hq;exact⟨⟨k',v',l',ef s q _ gW⟩,aDS⟩
  ·exact⟨⟨k,v,l,by show(s.aY id _).bU q=_;rw[cM s id q _ aKK];exact hq⟩,λpl hp=>hb q vq aS _ pl aKK hq hp⟩
theorem Qs{s:AS}{w:World}{g:Nat->kI}{β:Id->Option Pl}{id:Id}{v:Nat}{fr:Bool}{c:aE}(hs:s.bU id=av (.obj v fr c)):
  ∀ver k v1 l,s.bU id=av (.obj ver aS (.mp k v1 l))->v=ver/\aS=aS/\(∃k v l,c= .mp k v l)/\∀pl,β id=av pl->w.heap[pl.b]? =w.heap[pl.b]? /\g pl.b=g pl.b:=λver k v1 l hl=>by
 rw[hs]at hl;cases hl;exact⟨rfl,rfl,⟨_,_,_,rfl⟩,λ_ _=>⟨rfl,rfl⟩⟩
theorem nY{s:AS}{id:Id}{v:Nat}{fr:Bool}{c:aE}(hs:s.bU id=av (.obj v fr c))(hc:∀k v1 l,c≠ .mp k v1 l){Q:Nat->Prop}:
  ∀ver k v1 l,s.bU id=av (.obj ver aS (.mp k v1 l))->Q ver:=λver k v1 l hl=>by
 rw[hs]at hl;cases hl;exact absurd rfl (hc _ _ _)
theorem Kw{s:AS}{id:Id}{v:Nat}{c:aE}(hs:s.bU id=av (.obj v bq c)){Q:Nat->Prop}:
  ∀ver k v1 l,s.bU id=av (.obj ver aS (.mp k v1 l))->Q ver:=λver k v1 l hl=>by
 rw[hs]at hl;cases hl
theorem FC{s:AS}{id:Id}{v:Nat}{fr:Bool}{c:aE}(hs:s.bU id=av (.obj v fr c))(h:s.r9 id=aS):fr=bq:=by
 have e:s.obj id=av (v,fr,c):=by simp[AS.obj,hs]
 unfold AS.r9 at h;rw[e]at h;simpa using h
theorem sk.label{E:Env}{id:Id}{fr:Bool}{c:aE}(h:sk E id fr c){pl:Pl}(hp:E.β id=av pl):
    pl.b < E.w.heap.size/\((∃k,E.g pl.b= .own (.id id) k)\/(fr=aS/\E.g pl.b= .free)):=by
  by_cases hn:c.gI=bq
  · obtain⟨pl',cur,e,h1,h2,h3,h4⟩:=h.box hn
    rw[hp]at h1;obtain rfl:pl=pl':=by simpa using h1
    refine⟨(cg.1 h2).1,?_⟩;cases fr with
    |true=>exact .inr ⟨rfl,h3⟩
    |false=>exact .inl ⟨0,h3⟩
  · cases c <;> first
      | (exact absurd rfl hn)
      | (obtain⟨pl',r,h1,h2,h3,_,_,_⟩:=h
         rw[hp]at h1;obtain rfl:pl=pl':=by simpa using h1
         exact⟨(cg.1 h2).1,.inl ⟨0,h3⟩⟩)
      | (obtain⟨pl',es,clock,h1,h2,h3,_⟩:=h
         rw[hp]at h1;obtain rfl:pl=pl':=by simpa using h1
         exact⟨(cg.1 h2).1,.inl ⟨0,h3⟩⟩)
      | (obtain⟨pl',mb,since,seen,c0,h1,h2,h3,_⟩:=h
         rw[hp]at h1;obtain rfl:pl=pl':=by simpa using h1
         exact⟨(cg.1 h2).1,.inl ⟨0,h3⟩⟩)
      |skip
    obtain⟨_,h⟩:=h;rw[hp]at h;obtain⟨cur,k,h1,_,_,_,h5,_⟩:=h;exact⟨(cg.1 h1).1,.inl ⟨k,h5⟩⟩
def l8{α:Type}(f:Nat->α)(b:Nat)(x:α):Nat->α:=λb'=>if b'=b then x else f b'
@[simp] theorem eV{α:Type}(f:Nat->α)(b:Nat)(x:α):l8 f b x b=x:=by simp[l8]
theorem eR{α:Type}(f:Nat->α)(b:Nat)(x:α){b':Nat}(h:b'≠b):l8 f b x b'=f b':=by simp[l8,h]
def Sk:aE->Nat->Prop
 | .vec _ t l,j=>j < l.length*t.size
 |_,_=>True
theorem Sk.of{c:aE}(h:c.gI=bq)(j:Nat):Sk c j:=by cases c <;> first | trivial | (simp[aE.gI]at h)
theorem at1{w:World}{b:Nat}{es:Array eZ}{clock:Nat}(h:w.heap[b]? =av (.map es clock))(j:Nat):w.cell? ⟨b,j,aF⟩=aF:=by simp[eO,h]
theorem ZR{C:Ctx}{g:Nat->kI}{β:Id->Option Pl}{s:AS}{a:Act}{w:World}(h:Inv C g β s a w)(id:Id):
    ∃g',Inv C g' β (s.freeze id) a w/\cE (s.env w g β) ((s.freeze id).env w g' β)/\Trans w w g g'/\
      (∀v fr c,s.bU id=av (.obj v fr c)->∀pl,β id=av pl->∀j x,w.cell? ⟨pl.b,j,aF⟩=av x->
        Sk c j->ur g' pl.b j):=by
  unfold AS.freeze;cases hs:s.bU id with
  |none=>exact⟨g,h,cE.refl _,Trans.refl _ _,λ_ _ _ hh=>by cases hh⟩
  |some e=>
    cases e with
    |dead=>exact⟨g,h,cE.refl _,Trans.refl _ _,λ_ _ _ hh=>by cases hh⟩
    |obj v fr c=>
      simp only;have la:sk (s.env w g β) id fr c:=h.bH id v fr c hs;cases hp:β id with
      |none=>
        have ht:=Trans.refl w g;have he:cE (s.env w g β) ((s.aY id (.obj v aS c)).env w g β):=cE.aY hs (aC _) ht (λ_ _=>rfl) (λ_=>rfl);refine⟨g,h.step (cY _ _ _) ht he ?_,he,ht,λ_ _ _ _ pl FQ=>by cases FQ⟩;refine gN.aY h.bH (by rw[hs];simp) he (λ_ _=>rfl) (λ_ _ _ _ _ _ _ _=>⟨rfl,rfl⟩) ?_ (Qs hs)
        by_cases hn:c.gI=bq
        · obtain⟨pl,_,_,h1,_⟩:=la.box hn
          have h1':β id=av pl:=h1;rw[hp]at h1';cases h1'
        · cases c <;> first
            | (exact absurd rfl hn)
            | (obtain⟨pl,_,h1,_⟩:=la
               have h1':β id=av pl:=h1;rw[hp]at h1';cases h1')
            | (obtain⟨pl,_,_,h1,_⟩:=la
               have h1':β id=av pl:=h1;rw[hp]at h1';cases h1')
            | (obtain⟨pl,_,_,_,_,h1,_⟩:=la
               have h1':β id=av pl:=h1;rw[hp]at h1';cases h1')
            |skip
          obtain⟨hz,ho⟩:=la;have ho':(match β id with
            |none=>_
            |some pl=>_):=ho
          refine⟨hz,?_⟩;show(match β id with
            |none=>_
            |some pl=>_)
          rw[hp]at ho' ⊢;exact ho'
      |some pl=>
        have aIq:=la.label (pl:=pl) hp;by_cases hn:c.gI=bq
        · obtain⟨pl',cur,e,h1,h2,h3,h5,h4⟩:=la.box hn
          have h1':β id=av pl':=h1;rw[hp]at h1';obtain rfl:pl=pl':=by simpa using h1'
          have h3':g pl.b=ahP id fr:=h3;have ht:Trans w w g (l8 g pl.b .free):=by
            refine⟨rfl,rfl,⟨rfl,aC _⟩,aC _,λb hb=> ?_⟩;by_cases ZY:b=pl.b
            · subst ZY
              rw[h3',eV];cases fr with
              |true=>exact⟨rfl,rfl⟩
              |false=>exact⟨.inl rfl,λ_ _ _ hh=>hh⟩
            · rw[eR _ _ _ ZY]
              exact(Trans.refl w g).ahO b hb
          have he:cE (s.env w g β) ((s.aY id (.obj v aS c)).env w (l8 g pl.b .free) β):=cE.aY hs (aC _) ht (λ_ _=>rfl) (λ_=>rfl);refine⟨l8 g pl.b .free,h.step (cY _ _ _) ht he ?_,he,ht,?_⟩
          · refine gN.aY h.bH (by rw[hs];simp) he (λ_ _=>rfl) (λi ver fr' c' pl' hi cI FQ=>⟨rfl,?_⟩) ?_ (nY hs λk v1 l e=>by rw[e]at hn;simp[aE.gI]at hn)
            · by_cases ZY:pl'.b=pl.b
              · rw[ZY,eV]
                have hl:=(h.bH i ver fr' c' cI).label (pl:=pl') FQ;have aBi:(∃k,g pl'.b= .own (.id i) k)\/(fr'=aS/\g pl'.b= .free):=hl.2;rw[ZY,h3']at aBi;cases fr with
                |true=>exact h3'.symm▸rfl
                |false=>
                  exfalso;rcases aBi with⟨k,hk⟩ | ⟨_,hk⟩
                  · simp only[ahP,kI.own.injEq,Own.id.injEq]at hk
                    exact hi hk.1.symm
                  · cases hk
              · rw[eR _ _ _ ZY]
            · exact Md.obj ⟨pl,cur,e,hp,h2,eV _ _ _,h5,V.mono he h4⟩
          · intro v1 fr1 c1 hh pl1 Z2 j x hx hj
            obtain rfl:pl=pl1:=by simpa using Z2
            unfold ur;rw[eV];trivial
        · cases c <;> first | (exact absurd rfl hn) | skip
          rotate_left;rotate_left
          · rename_i q vq kt vt rest cu
            have ht:=Trans.refl w g;have he:cE (s.env w g β) ((s.aY id (.obj v aS (.qu q vq kt vt rest cu))).env w g β):=cE.aY hs (aC _) ht (λ_ _=>rfl) (λ_=>rfl);have hob':=la;obtain⟨pl',mb,since,seen,c0,h1,h2,_⟩:=la;have h1':β id=av pl':=h1;rw[hp]at h1';obtain rfl:pl=pl':=by simpa using h1'
            refine⟨g,h.step (cY _ _ _) ht he ?_,he,ht,λ_ _ _ _ pl1 Z2 j x hx _=> ?_⟩
            · refine gN.aY h.bH (by rw[hs];simp) he (λ_ _=>rfl) (λ_ _ _ _ _ _ _ _=>⟨rfl,rfl⟩) ?_ (Qs hs)
              exact sk.mono he (fr:=aS) hob' rfl (λ_ _=>⟨rfl,rfl⟩) λq2 v2 k2 v3 l2 MB _=>⟨⟨k2,v3,l2,by
                have MB:s.bU q2=av (.obj v2 aS (.mp k2 v3 l2)):=MB;have gW:q2≠id:=λe=>by rw[e,hs]at MB;cases MB
                show(s.aY id _).bU q2=_;rw[cM s id q2 _ gW];exact MB⟩,λ_ _=>⟨rfl,rfl⟩⟩
            · obtain rfl:pl=pl1:=by simpa using Z2
              have h2:w.heap[pl.b]? =av (.mapIter (av mb) since seen c0):=h2
              simp[eO,h2]at hx
          · rename_i k f p
            have ht:=Trans.refl w g;have he:cE (s.env w g β) ((s.aY id (.obj v aS (.xU k f p))).env w g β):=cE.aY hs (aC _) ht (λ_ _=>rfl) (λ_=>rfl);obtain⟨pl',r,h1,h2,h3,h4,h5,h6⟩:=la;have h1':β id=av pl':=h1;rw[hp]at h1';obtain rfl:pl=pl':=by simpa using h1'
            refine⟨g,h.step (cY _ _ _) ht he ?_,he,ht,λ_ _ _ _ pl1 Z2 j x hx _=> ?_⟩
            · exact gN.aY h.bH (by rw[hs];simp) he (λ_ _=>rfl) (λ_ _ _ _ _ _ _ _=>⟨rfl,rfl⟩) ⟨pl,r,hp,h2,h3,h4,h5.mono he,h6⟩ (Qs hs)
            · obtain rfl:pl=pl1:=by simpa using Z2
              have h2:w.heap[pl.b]? =av (.loop r):=h2
              simp[eO,h2]at hx
          rotate_left
          · obtain⟨pl',es,clock,h1,h2,h3,h4⟩:=la
            have h1':β id=av pl':=h1;rw[hp]at h1';obtain rfl:pl=pl':=by simpa using h1'
            have ht:=Trans.refl w g;rename_i kt vt l;have he:cE (s.env w g β) ((s.aY id (.obj v aS (.mp kt vt l))).env w g β):=cE.aY hs (aC _) ht (λ_ _=>rfl) (λ_=>rfl);refine⟨g,h.step (cY _ _ _) ht he ?_,he,ht,λ_ _ _ _ pl1 Z2 j x hx _=> ?_⟩
            · exact gN.aY h.bH (by rw[hs];simp) he (λ_ _=>rfl) (λ_ _ _ _ _ _ _ _=>⟨rfl,rfl⟩) ⟨pl,es,clock,hp,h2,h3,⟨h4.1.1.mono he.mem,h4.1.2⟩,h4.2⟩ (Qs hs)
            · obtain rfl:pl=pl1:=by simpa using Z2
              have h2:w.heap[pl.b]? =av (.map es clock):=h2
              rw[at1 h2]at hx;cases hx
          rename_i e t l;obtain⟨hz,ho⟩:=la;have ho':(match β id with
            |none=>l=[]
            |some pl=>∃cur k,w.heap[pl.b]? =av (.cells cur e (0,0))/\cur.size=pl.cap*t.size/\l.length<=pl.cap/\pl.cap<=maxLen/\g pl.b= .own (.id id) k/\
                k<=l.length*t.size/\(fr=bq->k=0)/\bp (cV (s.env w g β) t) (cur.toList.take (l.length*t.size)) l):=ho
          rw[hp]at ho';obtain⟨cur,k,h1,h2,h3,h4,h5,h6,h7,h8⟩:=ho';have ht:Trans w w g (l8 g pl.b (.own (.id id) (l.length*t.size))):=by
            refine⟨rfl,rfl,⟨rfl,aC _⟩,aC _,λb hb=> ?_⟩;by_cases ZY:b=pl.b
            · subst ZY
              rw[h5,eV];exact⟨.inr ⟨id,_,rfl,h6⟩,λ_ _ _ hh=>hh⟩
            · rw[eR _ _ _ ZY]
              exact(Trans.refl w g).ahO b hb
          have he:cE (s.env w g β) ((s.aY id (.obj v aS (.vec e t l))).env w (l8 g pl.b (.own (.id id) (l.length*t.size))) β):=cE.aY hs (aC _) ht (λ_ _=>rfl) (λ_=>rfl);refine⟨_,h.step (cY _ _ _) ht he ?_,he,ht,?_⟩
          · refine gN.aY h.bH (by rw[hs];simp) he (λ_ _=>rfl) (λi ver fr' c' pl' hi cI FQ=>⟨rfl,?_⟩) ?_ (nY hs λk v1 l e=>by cases e)
            · by_cases ZY:pl'.b=pl.b
              · exfalso
                have hl:=(h.bH i ver fr' c' cI).label (pl:=pl') FQ;have aBi:(∃k,g pl'.b= .own (.id i) k)\/(fr'=aS/\g pl'.b= .free):=hl.2;rw[ZY,h5]at aBi;rcases aBi with⟨k,hk⟩ | ⟨_,hk⟩
                · simp only[kI.own.injEq,Own.id.injEq]at hk
                  exact hi hk.1.symm
                · cases hk
              · rw[eR _ _ _ ZY]
            · refine⟨hz,?_⟩
              show(match β id with
                |none=>l=[]
                |some pl=>_)
              rw[hp];exact⟨cur,_,h1,h2,h3,h4,eV _ _ _,aC _,(by intro hh;cases hh),h8.mono λc x hx=>hx.mono he.mem⟩
          · intro v1 fr1 c1 hh pl1 Z2 j x hx hj
            obtain rfl:pl=pl1:=by simpa using Z2
            simp only[aB,dB.obj.injEq]at hh;obtain⟨_,_,rfl⟩:=hh;unfold ur;rw[eV];exact hj
end Go.Ab
namespace Go.Ab
def aHw(E E':Env)(ids:List Id):Prop:=∀id∈ids,∀v fr c,E.s id=av (.obj v fr c)->∀pl,E.β id=av pl->∀j x,E.w.cell? ⟨pl.b,j,aF⟩=av x->Sk c j->E'.has pl.b j x
theorem RN{s:AS}{id i:Id}{v:Nat}{fr:Bool}{c:aE}(h:s.bU i=av (.obj v fr c)):∃fr',(s.freeze id).bU i=av (.obj v fr' c):=by
 unfold AS.freeze;by_cases hi:i=id
 ·subst hi;rw[h];exact⟨aS,ef s i _ (by rw[h];simp)⟩
 ·split
  ·exact⟨fr,by rw[cM s id i _ hi];exact h⟩
  ·exact⟨fr,h⟩
theorem eS{C:Ctx}{β:Id->Option Pl}{a:Act}{w:World}:∀(ids:List Id) {g:Nat->kI} {s:AS},Inv C g β s a w->
  ∃g',Inv C g' β (s.bn ids) a w/\cE (s.env w g β) ((s.bn ids).env w g' β)/\Trans w w g g'/\aHw (s.env w g β) ((s.bn ids).env w g' β) ids
 |[],g,s,h=>⟨g,h,cE.refl _,Trans.refl _ _,λ_ hi=>by cases hi⟩
 |id::ids,g,s,h=>by
  obtain⟨g1,h1,e1,t1,f1⟩:=ZR h id;obtain⟨g2,h2,e2,t2,f2⟩:=eS ids h1;refine⟨g2,h2,e1.trans e2,t1.trans t2,λi hi v fr c hs pl hp j x hx hj=> ?_⟩;rcases bI.1 hi with rfl | hi
  ·exact e2.mem.has _ _ _ ⟨hx,f1 v fr c hs pl hp j x hx hj⟩
  ·obtain⟨fr',hs'⟩:=RN (id:=id) hs;exact f2 i hi v fr' c hs' pl hp j x hx hj
theorem abu(s:AS)(id:Id):(s.freeze id).cj=s.cj:=by unfold AS.freeze;split <;> simp
theorem ml:∀(ids:List Id) (s:AS),(s.bn ids).cj=s.cj
 |[],_=>rfl
 |id::ids,s=>by rw[AS.bn,ml ids,abu]
theorem ae3(s:AS)(id:Id)(q:Nat):(s.freeze id).dM q=s.dM q:=by
 unfold AS.freeze;split
 ·rename_i v b c h;cases id with
  |cl k=>rfl
  |new i j=>
   simp only[AS.aY,AS.dM];by_cases hq:i=q
   ·subst hq;simp only[AS.bU]at h;by_cases hl:i < s.news.length
    ·rw[List.getElem?_set_self hl,cm hl];rw[List.getD_eq_getElem?_getD,cm hl]at h ⊢;simp only[dE]at h ⊢;cases hh:s.news[i]with
     |nil=>rw[hh]at h;simp at h
     |cons x xs=>cases j <;> simp[df]
    ·rw[List.set_eq_of_length_le ao]
   ·rw[dO hq]
 ·rfl
theorem tf:∀(ids:List Id) (s:AS) (q:Nat),(s.bn ids).dM q=s.dM q
 |[],_,_=>rfl
 |id::ids,s,q=>by rw[AS.bn,tf ids,ae3]
theorem SO{e:TypeId}{t:Ty}:∀ {p:List Gm} {n:Nat} {v:aE},(loc (.vec e t []) p).eval=av (n,v)->n=0/\v= .vec e t []
 |[],n,v,h=>by simp only[loc,aA,cG]at h;exact⟨h.1.symm,h.2.symm⟩
 | .arr::p,n,v,h=>by simp only[loc]at h;exact SO h
 | .idx i::p,n,v,h=>by simp[loc,bQ]at h
 | .fst::p,n,v,h=>by simp only[loc,aw]at h
 | .snd::p,n,v,h=>by simp only[loc,aw]at h
theorem Qv{k:sA}{f:aE}{m:Nat}:∀ {p:List Gm} {n:Nat} {v:aE},(loc (.xU k f m) p).eval=av (n,v)->n=0/\v= .xU k f m
 |[],n,v,h=>by simp only[loc,aA,cG]at h;exact⟨h.1.symm,h.2.symm⟩
 | .arr::p,n,v,h=>by simp only[loc]at h;exact Qv h
 | .idx i::p,n,v,h=>by simp only[loc,aw]at h
 | .fst::p,n,v,h=>by simp only[loc,aw]at h
 | .snd::p,n,v,h=>by simp only[loc,aw]at h
theorem aaz{k t:Ty}{l:List (k.den×t.den)}:∀ {p:List Gm} {n:Nat} {v:aE},(loc (.mp k t l) p).eval=av (n,v)->n=0/\v= .mp k t l
 |[],n,v,h=>by simp only[loc,aA,cG]at h;exact⟨h.1.symm,h.2.symm⟩
 | .arr::p,n,v,h=>by simp only[loc]at h;exact aaz h
 | .idx i::p,n,v,h=>by simp only[loc,aw]at h
 | .fst::p,n,v,h=>by simp only[loc,aw]at h
 | .snd::p,n,v,h=>by simp only[loc,aw]at h
theorem Qu{q:Id}{ver:Nat}{k t:Ty}{l:List (k.den×t.den)}{cu:Option (k.den×t.den)}:∀ {p:List Gm} {n:Nat} {v:aE},(loc (.qu q ver k t l cu) p).eval=av (n,v)->n=0/\v= .qu q ver k t l cu
 |[],n,v,h=>by simp only[loc,aA,cG]at h;exact⟨h.1.symm,h.2.symm⟩
 | .arr::p,n,v,h=>by simp only[loc]at h;exact Qu h
 | .idx i::p,n,v,h=>by simp only[loc,aw]at h
 | .fst::p,n,v,h=>by simp only[loc,aw]at h
 | .snd::p,n,v,h=>by simp only[loc,aw]at h
theorem Nv{E:Env}{s:AS}(hs:E.s=s.bU)(ho:gN E){id:Id}{ver:Nat}{p:List Gm}{n:Nat}{t:Ty}{l:List t.den}(h:(s.row id ver p).eval=av (n,⟨t,l⟩)):
    ∃fr c,E.s id=av (.obj ver fr c)/\((E.β id=aF/\l=[]/\n=0)\/∃pl cur e,E.β id=av pl/\E.w.heap[pl.b]? =av (.cells cur e (0,0))/\n+l.length*t.size<=cur.size/\
      bp (cV E t) ((cur.toList.drop n).take (l.length*t.size)) l/\
      ∀j,j < n+l.length*t.size->Sk c j):=by
  unfold AS.row at h;cases la:s.obj id with
  |none=>rw[la]at h;simp only[aw]at h
  |some r=>
    obtain⟨v,fr,c⟩:=r;rw[la]at h;obtain⟨h1,h2⟩:=aH.1 h;obtain⟨⟨n',v'⟩,h3,h4⟩:=az.1 h2;have hv:v=ver:=by simpa using h1
    subst hv;have cI:E.s id=av (.obj v fr c):=by rw[hs];exact dQ la
    refine⟨fr,c,cI,?_⟩;have hO:=ho id v fr c cI
    have aiw:∀(pl:Pl) (cur:Array Value) (e:TypeId) (m:Nat) (t':Ty) (l':List t'.den) (n':Nat),E.β id=av pl->E.w.heap[pl.b]? =av (.cells cur e (0,0))->c.gI=bq->
        V E (.d (.arr m t') l') ((cur.toList.drop n').take (aE.d (.arr m t') l').size)->n'+(aE.d (.arr m t') l').size<=cur.toList.length->(Out.ok (n',(⟨t',l'⟩:(t:Ty)×List t.den))).eval=av (n,⟨t,l⟩)->
        ∃pl cur e,E.β id=av pl/\E.w.heap[pl.b]? =av (.cells cur e (0,0))/\n+l.length*t.size<=cur.size/\bp (cV E t) ((cur.toList.drop n).take (l.length*t.size)) l/\
          ∀j,j < n+l.length*t.size->Sk c j:=by
      intro pl cur e m t' l' n' hp hh hn hv hl he;simp only[aA,cG]at he;obtain⟨rfl,he⟩:=he;obtain⟨rfl,he⟩:=he;simp only[V,cV]at hv;obtain⟨aFI,Ql⟩:=hv;have sh:∀(t:Ty) (l:List t.den),l.length=m->(aE.d (.arr m t) l).size=l.length*t.size:=λt l hh=>by simp[aE.size,Ty.size,hh]
      rw[sh _ _ aFI]at Ql hl;exact⟨pl,cur,e,hp,hh,by simpa using hl,Ql,λj _=>Sk.of hn j⟩
    by_cases hn:c.gI=bq
    · right
      obtain⟨pl,cur,e,hp,hh,hg,hk,hV⟩:=hO.box hn;have hN:=P8 hk;generalize c.uT cur.size=N at hN hV;have hNl:(cur.toList.take N).length=N:=by rw[dD,cO];omega
      obtain⟨u,hu⟩:∃u,c.strip=u:=⟨_,rfl⟩;rw[hu]at hV h3;have ap2:∀m k:Nat,m+k<=(cur.toList.take N).length->((cur.toList.take N).drop m).take k=(cur.toList.drop m).take k/\m+k<=cur.toList.length:=λm k atg=>by rw[hNl]at atg;refine⟨?_,by rw[cO];omega⟩;rw[qx,kO,fN ao]
      rcases qg p u (cur.toList.take N) n' v' (VO.of hV) h3 with⟨rfl,rfl⟩ | ⟨hV',hle⟩
      · cases v' with
        |d t' x=>cases t' with
          |arr m t'=>
            have hs:=hV.size;have hc:=ap2 0 (aE.d (.arr m t') x).size ao;refine aiw pl cur e m t' x 0 hp hh hn ?_ hc.2 (by simpa only using h4)
            rw[<-hc.1,aL,bu ao];exact hV
          |_=>simp only[aw]at h4
        |vec=>simp only[V]at hV
        |_=>simp only[aw]at h4
      · cases v' with
        |d t' x=>cases t' with
          |arr m t'=>
            have hc:=ap2 _ _ hle;exact aiw pl cur e m t' x n' hp hh hn (by rw[<-hc.1];exact hV') hc.2 (by simpa only using h4)
          |_=>simp only[aw]at h4
        |vec=>simp only[V]at hV'
        |_=>simp only[aw]at h4
    · cases c <;> first
        | (exact absurd rfl hn)
        | (obtain⟨rfl,rfl⟩:=aaz h3
           simp only[aw]at h4)
        | (obtain⟨rfl,rfl⟩:=Qu h3
           simp only[aw]at h4)
        | (obtain⟨rfl,rfl⟩:=Qv h3
           simp only[aw]at h4)
        |skip
      rename_i e t0 l0;obtain⟨hz,hO⟩:=hO;cases hp:E.β id with
      |none=>
        rw[hp]at hO;have aIp:l0=[]:=hO;subst aIp;obtain⟨rfl,rfl⟩:=SO h3;simp only[aA,cG]at h4;obtain⟨rfl,he⟩:=h4;obtain⟨rfl,he⟩:=he;exact .inl ⟨rfl,rfl,rfl⟩
      |some pl=>
        rw[hp]at hO;obtain⟨cur,k,q1,q2,q3,q4,q5,q6,q7,q8⟩:=hO;right;have hlen:(cur.toList.take (l0.length*t0.size)).length=l0.length*t0.size:=bp.length (λc x hx=>cV.size hx) q8;have aLT:l0.length*t0.size<=cur.size:=by rw[q2];exact cW _ q3
        rcases qg (E:=E) p (.vec e t0 l0) (cur.toList.take (l0.length*t0.size)) n' v' q8 h3 with⟨rfl,rfl⟩ | ⟨hV',hle⟩
        · simp only[aA,cG]at h4
          obtain⟨rfl,he⟩:=h4;obtain⟨rfl,he⟩:=he;exact⟨pl,cur,e,rfl,q1,ao,by simpa using q8,λj hj=>by show j < l.length*t.size;omega⟩
        · have hle':=hle
          rw[hlen]at hle';rw[qx,kO,fN ao]at hV';cases v' with
          |d t' x=>cases t' with
            |arr m t'=>
              simp only[aA,cG]at h4;obtain⟨rfl,he⟩:=h4;obtain⟨rfl,he⟩:=he;simp only[V,cV]at hV';obtain⟨aFI,Ql⟩:=hV';have sh:∀(t:Ty) (l:List t.den),l.length=m->(aE.d (.arr m t) l).size=l.length*t.size:=λt l hh=>by simp[aE.size,Ty.size,hh]
              rw[sh _ _ aFI]at Ql hle';refine⟨pl,cur,e,rfl,q1,ao,Ql,λj hj=> ?_⟩;show j < l0.length*t0.size;omega
            |_=>simp only[aw]at h4
          |vec=>simp only[V]at hV'
          |_=>simp only[aw]at h4
theorem HI{E:Env}{t:Ty}{cs:List Value}{l:List t.den}(h:bp (cV E t) cs l)(i len:Nat):bp (cV E t) ((cs.drop (i*t.size)).take (len*t.size)) (cut l i len):=bp.take (λ_ _ hx=>hx.size) len (bp.drop (λ_ _ hx=>hx.size) i h)
theorem BC{α:Type}{l:List α}{i len:Nat}(h:i+len<=l.length):(cut l i len).length=len:=by simp[cut];omega
theorem agv{E E':Env}{s:AS}(hs:E.s=s.bU)(ho:gN E)(he:cE E E'){id:Id}{ver c i len n:Nat}{p:List Gm}{t':Ty}{l:List t'.den}{cs:List Value}
  (h1:(s.row id ver p).eval=av (n,⟨t',l⟩)) (h3:decide (n+i*t'.size=c/\i+len<=l.length)=aS) (hv:V E (.dj id ver p c i len) cs) (hf:aHw E E' (aE.dj id ver p c i len).shared):cV E' (.slice t') cs (cut l i len):=by
 simp only[aP]at h3;obtain⟨hc,hlen⟩:=h3;obtain⟨fr,c0,cI,lb⟩:=Nv hs ho h1;simp only[V]at hv;obtain⟨a,cap,ap1,hle,oY,hb,ff⟩:=hv;have ff:=ff ⟨fr,c0,cI⟩;have aAd:(cut l i len).length=len:=BC hlen;simp only[cV];refine⟨a,cap,?_⟩;rcases lb with⟨hp,hl,_⟩ | ⟨pl,cur,e,hp,hh,sh,dx,hbound⟩
 ·rw[hp]at ff;simp only at ff;obtain⟨rfl,rfl,rfl⟩:=ff;refine⟨[],?_,ao,ao,λ_ _ hh=>by simp at hh,?_⟩
  ·rw[aAd];exact ap1
  ·have:cut l i 0=[]:=by simp[cut]
   rw[this];rfl
 ·rw[hp]at ff;simp only at ff;refine⟨((((cur.toList.drop n).take (l.length*t'.size)).drop (i*t'.size)).take (len*t'.size)),by rw[aAd];exact ap1,ao,by rw[aAd];exact oY,?_,(HI dx i len).mono λ_ _ hx=>hx.mono he.mem⟩;have hmul:(i+len)*t'.size<=l.length*t'.size:=cW _ hlen;rw[ei]at hmul;rw[Tn _ _ _ _ _ hmul];intro j v hj;rw[de]at hj;split at hj
  ·rename_i aFt;rw[fR,hc]at hj;have aKv:0 < len:=by
    rcases lG len with h0 | h0
    ·subst h0;simp at aFt
    ·exact h0
   refine⟨pl.b,c,ff.1 (.inl aKv),?_⟩;refine hf id (by simp[aE.shared]) ver fr c0 cI pl hp (c+j) v ?_ (hbound _ ao)
   rw[cell_of_row E.w pl.b (c+j) cur e (0,0) hh];simpa using hj
  ·cases hj
theorem uK{E E':Env}{s:AS}(hs:E.s=s.bU)(ho:gN E)(he:cE E E'):∀(v:aE) (t:Ty) (x:t.den) (cs:List Value),V E v cs->(s.im t v).eval=av x->aHw E E' v.shared->cV E' t cs x
 | .d t' x',t,x,cs,hv,h,_=>by
  have h':(Out.opt (DQ t' t x')).eval=av x:=by cases t <;> simpa only[AS.im]using h
  simp only[V]at hv;exact Bu (jo.1 h') (hv.mono he.mem)
 | .cX,.slice t,x,cs,hv,h,_=>by simp only[AS.im,aA]at h;subst h;simp only[V]at hv;simp only[cV];exact⟨aF,0,[],by simpa using hv,by simp,by simp,λi v hh=>by simp at hh,rfl⟩
 | .cX,.gE t,x,cs,hv,h,_=>by simp only[AS.im,aA]at h;subst h;simp only[V]at hv;simp only[cV];exact⟨λ_=>hv,λl hl=>(by cases hl)⟩
 | .dj id ver p c i len,.gE t,x,cs,hv,h,hf=>by simp only[AS.im]at h;obtain⟨⟨n,t',l⟩,h1,h2⟩:=az.1 h;obtain⟨h3,h4⟩:=bQ.1 h2;exact Bu (jo.1 h4) (agv hs ho he h1 h3 hv hf)
 | .dj id ver p c i len,.slice t,x,cs,hv,h,hf=>by simp only[AS.im]at h;obtain⟨⟨n,t',l⟩,h1,h2⟩:=az.1 h;obtain⟨h3,h4⟩:=bQ.1 h2;exact Bu (jo.1 h4) (agv hs ho he h1 h3 hv hf)
 | .pr a b,.pair ta tb,x,cs,hv,h,hf=>by simp only[AS.im]at h;obtain⟨x1,h1,h2⟩:=az.1 h;obtain⟨x2,h3,h4⟩:=az.1 h2;obtain rfl:=aA.1 h4;simp only[V]at hv;obtain⟨ca,cb,e,ha,hb⟩:=hv;simp only[cV];exact⟨ca,cb,e,uK hs ho he a ta x1 ca ha h1 (λi hi=>hf i (by simp[aE.shared,hi])),uK hs ho he b tb x2 cb hb h3 (λi hi=>hf i (by simp[aE.shared,hi]))⟩
 | .cX,.int _,_,_,_,h,_ | .cX,.bool,_,_,_,h,_ | .cX,.str,_,_,_,h,_ | .cX,.unit,_,_,_,h,_ | .cX,.pair _ _,_,_,_,h,_ | .cX,.arr _ _,_,_,_,h,_ | .cX,.gm _,_,_,_,h,_=>by simp only[AS.im,aw]at h
 | .dj ..,.int _,_,_,_,h,_ | .dj ..,.bool,_,_,_,h,_ | .dj ..,.str,_,_,_,h,_ | .dj ..,.unit,_,_,_,h,_ | .dj ..,.pair _ _,_,_,_,h,_ | .dj ..,.arr _ _,_,_,_,h,_ | .dj ..,.gm _,_,_,_,h,_=>by simp only[AS.im,aw]at h
 | .pr _ _,.int _,_,_,_,h,_ | .pr _ _,.bool,_,_,_,h,_ | .pr _ _,.str,_,_,_,h,_ | .pr _ _,.unit,_,_,_,h,_ | .pr _ _,.slice _,_,_,_,h,_ | .pr _ _,.arr _ _,_,_,_,h,_ | .pr _ _,.gE _,_,_,_,h,_ | .pr _ _,.gm _,_,_,_,h,_=>by simp only[AS.im,aw]at h
 | .undef,t,_,_,_,h,_=>by cases t <;> simp only[AS.im,aw]at h
 | .gone,t,_,_,_,h,_=>by cases t <;> simp only[AS.im,aw]at h
 | .ns,t,_,_,_,h,_=>by cases t <;> simp only[AS.im,aw]at h
 | .uq,t,_,_,_,h,_=>by cases t <;> simp only[AS.im,aw]at h
 | .yl ..,t,_,_,_,h,_ | .xU ..,t,_,_,_,h,_=>by cases t <;> simp only[AS.im,aw]at h
 | .zX,t,_,_,_,h,_=>by cases t <;> simp only[AS.im,aw]at h
 | .sb _,t,_,_,_,h,_=>by cases t <;> simp only[AS.im,aw]at h
 | .ptr ..,t,_,_,_,h,_=>by cases t <;> simp only[AS.im,aw]at h
 | .dN ..,t,_,_,_,h,_=>by cases t <;> simp only[AS.im,aw]at h
 | .fn ..,t,_,_,_,h,_=>by cases t <;> simp only[AS.im,aw]at h
 | .cons ..,t,_,_,_,h,_=>by cases t <;> simp only[AS.im,aw]at h
 | .nil,t,_,_,_,h,_=>by cases t <;> simp only[AS.im,aw]at h
 | .vec ..,t,_,_,_,h,_=>by cases t <;> simp only[AS.im,aw]at h
 | .bx ..,t,_,_,_,h,_ | .iy ..,t,_,_,_,h,_ | .mp ..,t,_,_,_,h,_ | .qu ..,t,_,_,_,h,_=>by cases t <;> simp only[AS.im,aw]at h
theorem zz{s:AS}{t:Ty}{v:aE}{x:t.den}(h:(s.im t v).eval=av x):v.ew=aS:=by
 cases v <;> first
  |rfl
  | (cases t <;> simp only[AS.im,aw]at h)
theorem UO{s:AS}{t:Ty}{v:aE}{x:t.den}(h:(s.im t v).eval=av x):v.agg=t.agg:=by
 cases v with
 |d t' x'=>
  have h':(Out.opt (DQ t' t x')).eval=av x:=by cases t <;> simpa only[AS.im]using h
  exact Xb (jo.1 h')
 |_=>cases t <;> first | rfl | (simp only[AS.im,aw]at h)
theorem yq{C:Ctx}{g:Nat->kI}{β:Id->Option Pl}{s:AS}{a:Act}{w:World}(h:Inv C g β s a w){v:aE}{y:Value}(hv:VS (s.env w g β) v y){t:Ty}{x:t.den}(ht:(s.im t v).eval=av x):
  ∃g',Inv C g' β (s.bn v.shared) a w/\cE (s.env w g β) ((s.bn v.shared).env w g' β)/\Trans w w g g'/\
   ∃cs,cV ((s.bn v.shared).env w g' β) t cs x/\fw t.agg cs y:=by
 obtain⟨g',h1,h2,h3,h4⟩:=eS v.shared h;obtain⟨cs,hV,hO⟩:=hv.ew (zz ht);exact⟨g',h1,h2,h3,cs,uK rfl h.bH h2 v t x cs hV ht h4,by rw[<-UO ht];exact hO⟩
theorem RK{α:Type}{R:List Value->α->Prop}{f:α->List Value->Option (List Value)}(hf:∀x cs r,f x cs=av r->∃c,cs=c++r/\R c x):
  ∀(l:List α) (cs r:List Value),au5 f l cs=av r->∃c,cs=c++r/\bp R c l
 |[],cs,r,h=>by simp only[au5,aB]at h;exact⟨[],by simp[h],rfl⟩
 |x::xs,cs,r,h=>by
  simp only[au5]at h;cases hx:f x cs with
  |none=>rw[hx]at h;cases h
  |some r1=>
   rw[hx]at h;obtain⟨c1,e1,h1⟩:=hf x cs r1 hx;obtain⟨c2,e2,h2⟩:=RK hf xs r1 r h;exact⟨c1++c2,by rw[e1,e2,bh],c1,c2,rfl,h1,h2⟩
theorem BF(E:Env):∀(t:Ty) (x:t.den) (cs r:List Value),vS t x cs=av r->∃c,cs=c++r/\cV E t c x
 | .int k,x,cs,r,h=>by
  cases cs with
  |nil=>simp[vS]at h
  |cons v r'=>
   cases v <;> simp only[vS]at h <;> try (cases h;done)
   rename_i k' n;split at h
   ·rename_i h1 h2;simp at h1 h2 h;subst h1 h2 h;exact⟨[.int k n],rfl,by simp[cV]⟩
   ·cases h
 | .bool,x,cs,r,h=>by
  cases cs with
  |nil=>simp[vS]at h
  |cons v r'=>
   cases v <;> simp only[vS]at h <;> try (cases h;done)
   rename_i b;split at h
   ·rename_i h1;simp at h1 h;subst h1 h;exact⟨[.bool b],rfl,by simp[cV]⟩
   ·cases h
 | .str,x,cs,r,h=>by
  cases cs with
  |nil=>simp[vS]at h
  |cons v r'=>
   cases v <;> simp only[vS]at h <;> try (cases h;done)
   rename_i b;split at h
   ·rename_i h1;simp at h1 h;subst h1 h;exact⟨[.string b],rfl,by simp[cV]⟩
   ·cases h
 | .slice t,x,cs,r,h=>by
  cases x with
  |cons _ _=>simp[vS]at h
  |nil=>
   cases cs with
   |nil=>simp[vS]at h
   |cons v r'=>
    unfold vS at h;split at h <;> try (cases h;done)
    all_goals simp_all
    exact⟨[.slice aF 0 0],rfl,by simp only[cV];exact⟨aF,0,[],rfl,by simp,by simp,λi v hh=>by simp at hh,rfl⟩⟩
 | .gE t,x,cs,r,h=>by
  cases x with
  |some _=>simp[vS]at h
  |none=>
   cases cs with
   |nil=>simp[vS]at h
   |cons v r'=>
    unfold vS at h;split at h <;> try (cases h;done)
    all_goals simp_all
    exact⟨[.slice aF 0 0],rfl,by simp[cV]⟩
 | .gm t,x,cs,r,h=>by
  cases x with
  |some _=>simp[vS]at h
  |none=>
   cases cs with
   |nil=>simp[vS]at h
   |cons v r'=>
    unfold vS at h;split at h <;> try (cases h;done)
    all_goals simp_all
    exact⟨[.pointer aF],rfl,by simp[cV]⟩
 | .unit,x,cs,r,h=>by simp only[vS,aB]at h;exact⟨[],by simp[h],by simp[cV]⟩
 | .pair a b,x,cs,r,h=>by
  simp only[vS]at h;cases hx:vS a x.1 cs with
  |none=>rw[hx]at h;cases h
  |some r1=>
   rw[hx]at h;obtain⟨c1,e1,h1⟩:=BF E a x.1 cs r1 hx;obtain⟨c2,e2,h2⟩:=BF E b x.2 r1 r h;exact⟨c1++c2,by rw[e1,e2,bh],by simp only[cV];exact⟨c1,c2,rfl,h1,h2⟩⟩
 | .arr n t,x,cs,r,h=>by
  simp only[vS]at h;split at h
  ·rename_i h1;obtain⟨c,e,hc⟩:=RK (λx cs r hh=>BF E t x cs r hh) _ _ _ h;exact⟨c,e,by simp only[cV];exact⟨by simpa using h1,hc⟩⟩
  ·cases h
theorem aij(E:Env):∀(a:aE) (cs r:List Value),PS a cs=av r->∃c,cs=c++r/\V E a c:=by
 intro a
 induction a with
 |d t x=>
  intro cs r h;simp only[PS]at h;obtain⟨c,e,hc⟩:=BF E t x cs r h;exact⟨c,e,by simpa only[V]using hc⟩
 |pr a b iha ihb=>
  intro cs r h;simp only[PS]at h;cases hx:PS a cs with
  |none=>rw[hx]at h;cases h
  |some r1=>
   rw[hx]at h;obtain⟨c1,e1,h1⟩:=iha cs r1 hx;obtain⟨c2,e2,h2⟩:=ihb r1 r h;exact⟨c1++c2,by rw[e1,e2,bh],by simp only[V];exact⟨c1,c2,rfl,h1,h2⟩⟩
 |cX=>intro cs r h;unfold PS at h;split at h <;> simp_all <;> exact⟨[.slice aF 0 0],rfl,by simp[V]⟩
 |ns=>intro cs r h;unfold PS at h;split at h <;> simp_all <;> exact⟨[.pointer aF],rfl,by simp[V]⟩
 |uq=>intro cs r h;unfold PS at h;split at h <;> simp_all <;> exact⟨[.nilFunc],rfl,by simp[V]⟩
 |zX=>intro cs r h;unfold PS at h;split at h <;> simp_all <;> exact⟨[.map aF],rfl,by simp[V]⟩
 |_=>intro cs r h;simp[PS]at h
theorem tg{P:aK}{T:TypeId}{z:aE}(h:ab5 P T z=aS)(E:Env):
  ∃i zv,P.info? T=av i/\i.zero=av zv/\V E z zv.cells.toList/\fw z.agg zv.cells.toList zv:=by
 unfold ab5 at h;split at h <;> try (cases h;done)
 rename_i i hi;split at h <;> try (cases h;done)
 rename_i zv hz;simp only[au,dk]at h;obtain⟨h1,h2⟩:=h;split at h1 <;> try (cases h1;done)
 rename_i he;obtain⟨c,e,hV⟩:=aij E z _ _ he;rw[bW]at e;rw[<-e]at hV;refine⟨i,zv,hi,hz,hV,?_⟩;cases adJ:z.agg with
 |true=>
  rw[adJ]at h2;cases zv <;> simp[pR]at h2;simp[fw,Value.cells]
 |false=>
  rw[adJ]at h2;cases zv <;> first | (simp[pR]at h2;done) | simp[fw,Value.cells]
end Go.Ab
namespace Go.Ab
def Fr(r:Option Nat):Fence:= {Fence.wide with round:=r}
def eX(P:aK)(o:Oper)(a:Act)(w:World)(K:Act->World->Prop):Prop:=(∃x w',(execOp a.eval o).run P w= .ok (.value x) w'/\K (a.put o.dst x) w')\/(∃w',(execOp a.eval o).run P w= .ok .skip w'/\K (a.put o.dst undef) w')\/(∃f args w',(execOp a.eval o).run P w= .ok (.enter f args) w'/\Calls P f args w' λe w''=>∃x,e= .returned x/\K (a.put o.dst x) w'')\/(∃l f tmps as b w',(execOp a.eval o).run P w= .ok (.round l f tmps as b) w'/\∀r n,RoundIn (Fr r) n P l f tmps as b w' λe w''=>∃x,e= .returned x/\K (a.put o.dst x) w'')
theorem eX.plain{P:aK}{o:Oper}{a:Act}{w:World}{K:Act->World->Prop}(h:eX P o a w K)(c:Call):o.op≠ .defer c:=λho=>by
 have hd:∀x w',(execOp a.eval o).run P w= .ok x w'->∃d,x= .defer d:=λx w' hx=>by
  simp only[execOp,ho,bY]at hx;cases hr:(resolve a.eval c o.type).run P w with
  |ok d w1=>
   rw[hr]at hx;simp only[bB,dA,Result.ok.injEq]at hx;exact⟨d,hx.1.symm⟩
  |halt _ _=>rw[hr]at hx;simp[Result.andThen]at hx
 rcases h with⟨x,w',hr,_⟩ | ⟨w',hr,_⟩ | ⟨f,args,w',hr,_⟩ | ⟨l,f,tmps,as,b,w',hr,_⟩
 ·obtain⟨d,e⟩:=hd _ _ hr;cases e
 ·obtain⟨d,e⟩:=hd _ _ hr;cases e
 ·obtain⟨d,e⟩:=hd _ _ hr;cases e
 ·obtain⟨d,e⟩:=hd _ _ hr;cases e
theorem eX.wpIn{r:Option Nat}{n:Nat}{P:aK}{o:Oper}{a:Act}{w:World}{K:Act->World->Prop}{Q:Exit->Act->World->Prop}(h:eX P o a w K):o.wpIn (Fr r) n P a w K Q:=by
 have hp:=h.plain;refine⟨λ_ _=>trivial,?_⟩;rw[Oper.semAt_eq _ _ _ hp];rcases h with⟨x,w',hr,hk⟩ | ⟨w',hr,hk⟩ | ⟨f,args,w',hr,hk⟩ | ⟨l,f,tmps,as,b,w',hr,hk⟩;rotate_left 3
 ·rw[hr,Oper.uponIn_round];refine⟨λh=>(by cases h),(hk r (n - 1)).mono λe w'' ⟨x,he,hx⟩=> ?_⟩;subst he;exact hx
 ·rw[hr,Oper.uponIn_value];exact hk
 ·rw[hr,Oper.uponIn_skip];exact hk
 ·rw[hr,Oper.uponIn_enter];refine⟨λh=>(by cases h),?_⟩;have h1:CallsIn (Fr r) (n - 1) P f args w' _:=callsIn_wide.2 hk;refine h1.mono λe w'' ⟨x,he,hx⟩=> ?_
  subst he;exact hx
theorem eX.mono{P:aK}{o:Oper}{a:Act}{w:World}{K K':Act->World->Prop}(h:eX P o a w K)(hk:∀a w,K a w->K' a w):eX P o a w K':=by
 rcases h with⟨x,w',hr,h⟩ | ⟨w',hr,h⟩ | ⟨f,args,w',hr,h⟩ | ⟨l,f,tmps,as,b,w',hr,h⟩
 ·exact .inl ⟨x,w',hr,hk _ _ h⟩
 ·exact .inr (.inl ⟨w',hr,hk _ _ h⟩)
 ·exact .inr (.inr (.inl ⟨f,args,w',hr,h.mono λe w'' ⟨x,he,hx⟩=>⟨x,he,hk _ _ hx⟩⟩))
 ·exact .inr (.inr (.inr ⟨l,f,tmps,as,b,w',hr,λr n=>(h r n).mono λe w'' ⟨x,he,hx⟩=>⟨x,he,hk _ _ hx⟩⟩))
section
variable {P:aK} {C:Ctx} {g:Nat->kI} {β:Id->Option Pl} {s:AS} {a:Act} {w:World} {o:Oper}
theorem Inv.value(h:Inv C g β s a w){v:aE}{x:Value}(hv:VS (s.env w g β) v x)(hr:(execOp a.eval o).run P w= .ok (.value x) w):eX P o a w (gw C (s.put o.dst v)):= .inl ⟨x,w,hr,g,β,h.put o.dst hv⟩
theorem dK{f:Sem Value}{x:Value}{w':World}(he:execOp a.eval o=(do pure (.value (<-f))))(hf:f.run P w= .ok x w'):(execOp a.eval o).run P w= .ok (.value x) w':=by rw[he,bY,hf];rfl
theorem Xs{f:Sem Unit}{w':World}(he:execOp a.eval o=(do f;pure .skip))(hf:f.run P w= .ok () w'):(execOp a.eval o).run P w= .ok .skip w':=by rw[he,bY,hf];rfl
theorem sK{E:Env}{k:iv}{n:Int}{y:Value}(h:VS E (.d (.int k) n) y):y= .int k n:=by obtain⟨cs,hv,ho⟩:=h;simp only[V,cV]at hv;have ho':cs=[y]:=ho;rw[hv]at ho';simpa using ho'.symm
theorem P7{E:Env}{b:Bool}{y:Value}(h:VS E (.d .bool b) y):y= .bool b:=by obtain⟨cs,hv,ho⟩:=h;simp only[V,cV]at hv;have ho':cs=[y]:=ho;rw[hv]at ho';simpa using ho'.symm
theorem Fh{E:Env}{b:ByteArray}{y:Value}(h:VS E (.d .str b) y):y= .string b:=by obtain⟨cs,hv,ho⟩:=h;simp only[V,cV]at hv;have ho':cs=[y]:=ho;rw[hv]at ho';simpa using ho'.symm
theorem kf{E:Env}(k:iv)(n:Int):VS E (.d (.int k) n) (.int k n):=⟨[.int k n],by simp[V,cV],rfl⟩
theorem tj{E:Env}(b:Bool):VS E (.d .bool b) (.bool b):=⟨[.bool b],by simp[V,cV],rfl⟩
theorem YZ{E:Env}(b:ByteArray):VS E (.d .str b) (.string b):=⟨[.string b],by simp[V,cV],rfl⟩
theorem anh{T:TypeId}{d:TypeDesc}(h:P.underlying T=av d):∃i,P.info? T=av i:=by
 unfold Program.underlying at h;split at h
 ·rename_i h';exact⟨_,h'⟩
 ·rename_i i _ h';exact⟨_,h'⟩
 ·cases h
theorem run_sizeOf{T:TypeId}{i:TypeInfo}(h:P.info? T=av i)(w:World):(sizeOf T).run P w= .ok i.size w:=by simp[sizeOf,typeInfo,h]
theorem lM{T:TypeId}{i:TypeInfo}(h:P.info? T=av i):P.cellsOf T=i.size:=by simp[Program.cellsOf,h]
theorem pN{T:TypeId}{v:aE}(h:fits P T v=aS):v.ew=aS/\∃i,P.info? T=av i/\i.size=v.size/\∀w,(isAgg T).run P w= .ok v.agg w:=by
 unfold fits at h;simp only[au,dk]at h;obtain⟨⟨h1,h2⟩,h3⟩:=h;cases hu:P.underlying T with
 |none=>rw[hu]at h3;cases h3
 |some d=>
  obtain⟨i,hi⟩:=anh hu;refine⟨h1,i,hi,by rw[lM hi]at h2;exact h2,λw=> ?_⟩;rw[hu]at h3;unfold isAgg;rw[bY,run_underlying hu w];cases d <;> simp at h3 <;> simp[h3]
theorem xX{T:TypeId}{v:aE}(hf:fits P T v=aS){b off:Nat}{cs:List Value}(hl:cs.length=v.size)(hc:∀j x,cs[j]? =av x->w.cell? ⟨b,off+j,aF⟩=av x):
  ∃y,(loadVar T ⟨b,off,aF⟩).run P w= .ok y w/\fw v.agg cs y:=by
 obtain⟨_,i,hi,hs,adJ⟩:=pN hf;unfold loadVar;rw[bY,adJ w];simp only[bB];have D7:∀j x,cs[j]? =av x->w.cell? ((⟨b,off,aF⟩:Addr).add j)=av x:=λj x hj=>by rw[eQ];exact hc j x hj
 cases ha:v.agg with
 |true=>
  refine⟨.agg cs.toArray,?_,rfl⟩;simp only[bG,bY,run_sizeOf hi,bB,hs,<-hl,run_loadCells_list w _ cs D7];rfl
 |false=>
  have h1:v.size=1:=aE.agn ha;obtain⟨y,rfl⟩:∃y,cs=[y]:=by
   match cs,hl with
   |[y],_=>exact⟨y,rfl⟩
   |[],hh=>simp[h1]at hh
   |_::_::_,hh=>simp[h1]at hh
  refine⟨y,?_,rfl⟩;have:=hc 0 y rfl;rw[cz]at this;simp[this]
theorem Dg{T:TypeId}{v:aE}{E:Env}(hf:fits P T v=aS){cs:List Value}{y:Value}(hV:V E v cs)(ho:fw v.agg cs y){b off:Nat}{cur:Array Value}{e:TypeId}
  (hh:w.heap[b]? =av (.cells cur e (0,0))) (hle:off+cs.length<=cur.size):
  (storeVar T ⟨b,off,aF⟩ y).run P w= .ok () (w.setRow b (dm cur.toList off cs).toArray):=by
 obtain⟨_,i,hi,hs,_⟩:=pN hf;have ap1:y.cells=cs.toArray:=ho.cells hV.one;have hl:=hV.size;have pO:=run_storeCells_at P b off e cs 0 cur w hh (by simpa using hle) hV.one;simp only[cz]at pO;unfold storeVar;simp only[ap1,bY,run_sizeOf hi,bB,gj,hl,hs,ne_eq,not_true_eq_false,bz];simpa[dm]using pO
theorem oV(w:World)(ob:Obj){b:Nat}(h:b < w.heap.size):(w.alloc ob).heap[b]? =w.heap[b]? :=by
 show(w.heap.push ob)[b]? =w.heap[b]?
 rw[Array.getElem?_push,if_neg (Nat.ne_of_lt h)]
theorem qC(w:World)(ob:Obj):(w.alloc ob).heap[w.heap.size]? =av ob:=by
 show(w.heap.push ob)[w.heap.size]? =av ob
 simp
theorem Trans.alloc(w:World)(g:Nat->kI)(ob:Obj)(l:kI):Trans w (w.alloc ob) g (l8 g w.heap.size l):=by
 refine⟨rfl,rfl,⟨rfl,aC _⟩,by simp,λb hb=> ?_⟩;rw[eR _ _ _ ao,oV w ob hb];cases g b with
 |free=>exact⟨rfl,rfl⟩
 |own o k=>cases o with
  |dY=>exact⟨rfl,rfl⟩
  |id i=>exact⟨.inr ⟨i,k,rfl,aC _⟩,λoff v _ hv=>by rw[World.cell?_alloc_lt w ob _ hb];exact hv⟩
theorem Trans.drew(w:World)(g:Nat->kI):Trans w w.drew g g:=Trans.refl w g |> λh=>⟨h.os,h.tape,⟨h.output.1,Nat.le_succ _⟩,h.size,h.ahO⟩
theorem gN.same{w':World}{g':Nat->kI}(h:gN (s.env w g β))(he:cE (s.env w g β) (s.env w' g' β))(hb:∀i ver fr c pl,s.bU i=av (.obj ver fr c)->β i=av pl->w'.heap[pl.b]? =w.heap[pl.b]? /\g' pl.b=g pl.b):gN (s.env w' g' β):=⟨λi ver fr c hi=>(h i ver fr c hi).mono he rfl (λpl hp=>hb i ver fr c pl hi hp) λq vq k v l hq _=>⟨⟨k,v,l,hq⟩,λpl hp=>hb q vq aS _ pl hq hp⟩,h.gl.mono he.mem⟩
theorem cE.same{w':World}{g':Nat->kI}(ht:Trans w w' g g'):cE (s.env w g β) (s.env w' g' β):=⟨Trans.mem ht,λ_ _ h=>h,λ_ _ _ h=>⟨h,rfl⟩⟩
theorem Inv.FH(h:Inv C g β s a w)(ob:Obj):Inv C (l8 g w.heap.size .free) β s a (w.alloc ob):=by have ht:=Trans.alloc w g ob .free;have he:cE (s.env w g β) (s.env (w.alloc ob) (l8 g w.heap.size .free) β):=cE.same ht;refine h.step rfl ht he (gN.same h.bH he λi ver fr c pl hi hp=> ?_);have hl:=((h.bH i ver fr c hi).label (pl:=pl) hp).1;have hl':pl.b < w.heap.size:=hl;exact⟨oV w ob hl',eR _ _ _ ao⟩
theorem Inv.drew(h:Inv C g β s a w):Inv C g β s a w.drew:=by have ht:=Trans.drew w g;have he:cE (s.env w g β) (s.env w.drew g β):=cE.same ht;exact h.step rfl ht he (gN.same h.bH he λ_ _ _ _ _ _ _=>⟨rfl,rfl⟩)
theorem ju{q:Nat}(h:s.dM q=aS):(∀j,s.bU (.new q j)=aF)/\q < s.news.length:=by
 unfold AS.dM at h;split at h
 ·rename_i hn;refine⟨λj=> ?_,(List.getElem?_eq_some_iff.1 hn).1⟩;simp[AS.bU,List.getD_eq_getElem?_getD,hn]
 ·cases h
theorem vU{q:Nat}(hq:q < s.news.length)(es:List dB)(j:Nat):(s.born q es).bU (.new q j)=es[j]? :=by simp[AS.bU,AS.born,List.getD_eq_getElem?_getD,hq]
theorem hZ{q:Nat}(es:List dB){id:Id}(h:∀j,id≠ .new q j):(s.born q es).bU id=s.bU id:=by
 cases id with
 |cl k=>rfl
 |new i j=>
  have:i≠q:=λe=>h j (by rw[e])
  simp only[AS.bU,AS.born,List.getD_eq_getElem?_getD];rw[dO (Ne.symm this)]
def FD(β:Id->Option Pl)(id:Id)(p:Option Pl):Id->Option Pl:=λi=>if i=id then p else β i
@[simp] theorem jk(β:Id->Option Pl)(id:Id)(p:Option Pl):FD β id p id=p:=by simp[FD]
theorem yt(β:Id->Option Pl)(id:Id)(p:Option Pl){i:Id}(h:i≠id):FD β id p i=β i:=by simp[FD,h]
theorem Inv.Mi(h:Inv C g β s a w){q:Nat}(hq:s.dM q=aS){w':World}{g':Nat->kI}{c:aE}{p:Option Pl}(ht:Trans w w' g g')
  (hb:∀b,b < w.heap.size->w'.heap[b]? =w.heap[b]? /\g' b=g b)
  (ho:cE (s.env w g β) ((s.born q [.obj 0 bq c]).env w' g' (FD β (.new q 0) p))->sk ((s.born q [.obj 0 bq c]).env w' g' (FD β (.new q 0) p)) (.new q 0) bq c):
  Inv C g' (FD β (.new q 0) p) (s.born q [.obj 0 bq c]) a w'/\cE (s.env w g β) ((s.born q [.obj 0 bq c]).env w' g' (FD β (.new q 0) p)):=by
 obtain⟨hv,hl⟩:=ju hq;have gW:∀id,s.bU id≠aF->∀j,id≠ .new q j:=λid cR j e=>cR (by rw[e];exact hv j)
 have he:cE (s.env w g β) ((s.born q [.obj 0 bq c]).env w' g' (FD β (.new q 0) p)):=by
  refine⟨Trans.mem ht,λid ver aix=> ?_,λid ver aix hc=> ?_⟩
  ·have cR:=gW id aix.1;have e:=hZ (s:=s) [.obj 0 bq c] cR;exact⟨by show(s.born q _).bU id≠aF;rw[e];exact aix.1,λv fr c' hh=>aix.2 v fr c' (e.symm.trans hh)⟩
  ·have cR:=gW id aix.1;have e:=hZ (s:=s) [.obj 0 bq c] cR;obtain⟨fr,c',hc⟩:=hc;exact⟨⟨fr,c',e.symm.trans hc⟩,yt _ _ _ (cR 0)⟩
 refine⟨h.azl rfl ht he λid ver fr c' cR=> ?_,he⟩;have hid':(s.born q [.obj 0 bq c]).bU id=av (.obj ver fr c'):=cR;by_cases hi:∃j,id= .new q j
 ·obtain⟨j,rfl⟩:=hi;rw[vU hl]at hid';cases j with
  |zero=>
   simp only[fe,aB,dB.obj.injEq]at hid';obtain⟨rfl,rfl,rfl⟩:=hid';exact ho he
  |succ j=>simp at hid'
 ·have hi':∀j,id≠ .new q j:=λj e=>hi ⟨j,e⟩
  rw[hZ _ hi']at hid';refine(h.bH id ver fr c' hid').mono he (yt _ _ _ (hi' 0)) (λpl hp=> ?_) λq2 vq k v l MB _=> ?_
  ·exact hb pl.b ((h.bH id ver fr c' hid').label (pl:=pl) hp).1
  ·have aKJ:s.bU q2=av (.obj vq aS (.mp k v l)):=MB;refine⟨⟨k,v,l,by show(s.born q _).bU q2=_;rw[hZ _ (gW q2 (by rw[aKJ];simp))];exact aKJ⟩,λpl hp=>hb pl.b ((h.bH q2 vq aS _ aKJ).label (pl:=pl) hp).1⟩
theorem nT{q:Nat}(hq:s.dM q=aS)(c:aE)(w':World)(g':Nat->kI)(β':Id->Option Pl):((s.born q [.obj 0 bq c]).env w' g' β').CU (.new q 0) 0:=by have e:=vU (s:=s) (ju hq).2 [.obj 0 bq c] 0;refine⟨by show(s.born q [.obj 0 bq c]).bU (.new q 0)≠aF;rw[e];simp,λv fr c' _=>aO _⟩
theorem Inv.anH(h:Inv C g β s a w){q:Nat}(hq:s.dM q=aS){v:aE}{cs:List Value}{e:TypeId}(hk:∀pl n,v.DK pl n e)(hN:∀n,v.uT n=n)(hv:V (s.env w g β) v.strip cs):
  ∃g' β',Inv C g' β' (s.born q [.obj 0 bq v]) a (w.alloc (.cells cs.toArray e))/\
   VS ((s.born q [.obj 0 bq v]).env (w.alloc (.cells cs.toArray e)) g' β') (.ptr (.new q 0) 0 [] 0) (.pointer (av ⟨w.heap.size,0,aF⟩)):=by
 have ht:=Trans.alloc w g (.cells cs.toArray e) (.own (.id (.new q 0)) 0);obtain⟨h1,h2⟩:=h.Mi hq (c:=v) (p:=av ⟨w.heap.size,0⟩) ht (λb hb=>⟨oV w _ hb,eR _ _ _ ao⟩) (λhe=>
  Md.obj ⟨⟨w.heap.size,0⟩,cs.toArray,e,jk _ _ _,qC w _,eV _ _ _,hk _ _,by rw[hN,show cs.toArray.toList.take cs.toArray.size=cs by simp];exact hv.mono he⟩)
 refine⟨_,_,h1,?_⟩;refine⟨[.pointer (av ⟨w.heap.size,0,aF⟩)],?_,rfl⟩;simp only[V];exact⟨_,rfl,nT hq _ _ _ _,λ_=>⟨_,jk _ _ _,rfl⟩⟩
theorem Inv.aF8(h:Inv C g β s a w){q:Nat}(hq:s.dM q=aS){v:aE}{cs:List Value}(hv:V (s.env w g β) v cs)(e:TypeId):
  ∃g' β',Inv C g' β' (s.born q [.obj 0 bq v]) a (w.alloc (.cells cs.toArray e))/\
   VS ((s.born q [.obj 0 bq v]).env (w.alloc (.cells cs.toArray e)) g' β') (.ptr (.new q 0) 0 [] 0) (.pointer (av ⟨w.heap.size,0,aF⟩)):=
 h.anH hq (λpl n=>Ml hv.xM pl n e) (λn=>Q2 hv.xM n) (by rw[NO hv.xM];exact hv)
theorem atV(P:aK)(T:TypeId){z:aE}{E:Env}{cs:List Value}(hv:V E z cs):(∀pl n,(boxed P T z).DK pl n T)/\(∀n,(boxed P T z).uT n=n)/\V E (boxed P T z).strip cs:=by
 unfold boxed;split
 ·exact⟨λ_ _=>rfl,λ_=>rfl,hv⟩
 ·exact⟨λpl n=>Ml hv.xM pl n T,λn=>Q2 hv.xM n,by rw[NO hv.xM];exact hv⟩
theorem Inv.aCx(h:Inv C g β s a w){t:Ty}{x:t.den}{cs:List Value}(hv:cV (s.env w g β) t cs x)(e:TypeId):
  ∃g',Inv C g' β s a (w.alloc (.cells cs.toArray e))/\cE (s.env w g β) (s.env (w.alloc (.cells cs.toArray e)) g' β)/\
   VS (s.env (w.alloc (.cells cs.toArray e)) g' β) (.dN t x) (.pointer (av ⟨w.heap.size,0,aF⟩)):=by
 have ht:=Trans.alloc w g (.cells cs.toArray e) .free;have he:cE (s.env w g β) (s.env (w.alloc (.cells cs.toArray e)) (l8 g w.heap.size .free) β):=cE.same ht;refine⟨_,h.FH _,he,[.pointer (av ⟨w.heap.size,0,aF⟩)],?_,rfl⟩;simp only[V];refine⟨w.heap.size,0,cs,rfl,λi v hi=>⟨_,_,rfl,?_,?_⟩,hv.mono he.mem⟩
 ·show(w.alloc (.cells cs.toArray e)).cell? ⟨w.heap.size,0+i,aF⟩=av v;rw[World.cell?_alloc_new,Nat.zero_add];simpa using hi
 ·show ur (l8 g w.heap.size .free) w.heap.size (0+i);unfold ur;rw[eV];trivial
theorem TR(T:TypeId)(y:Value)(w:World):(newVar T y).run P w= .ok ⟨w.heap.size,0,aF⟩ (w.alloc (.cells y.cells T)):=by simp[newVar,newRow]
theorem ahC(h:Inv C g β s a w){T:TypeId}(ho:o.op= .alloc T){z:aE}{q:Nat}(hq:s.dM q=aS)(hz:ab5 P T z=aS):
  eX P o a w (gw C ((s.born q [.obj 0 bq (boxed P T z)]).put o.dst (.ptr (.new q 0) 0 [] 0))):=by
 obtain⟨i,zv,hi,ahs,hV,hO⟩:=tg hz (s.env w g β);obtain⟨hk,hN,hV⟩:=atV P T hV;obtain⟨g',β',h1,h2⟩:=h.anH hq hk hN hV;refine .inl ⟨.pointer (av ⟨w.heap.size,0,aF⟩),w.alloc (.cells zv.cells T),?_,g',β',?_⟩
 ·refine dK (f:=Instr.alloc T aS (.tuple #[])) (by simp only[execOp,ho]) ?_
  simp[Instr.alloc,zeroValue,typeInfo,hi,ahs,TR]
 ·have:=h1.put o.dst h2;simpa using this
theorem VS.aIO{E:Env}{t:Ty}{x:t.den}{y:Value}(h:VS E (.dN t x) y)(dt:Bool):VS E (aEP dt t x) y:=by
 cases dt with
 |false=>exact h
 |true=>
  obtain⟨cs,hv,ho⟩:=h;simp only[V]at hv;refine⟨cs,?_,ho⟩;simp only[aEP,V,cV];simpa using hv
theorem XE{E:Env}{t:Ty}{y:Value}(h:VS E (.d (.gm t) aF) y):y= .pointer aF:=by obtain⟨cs,hv,ho⟩:=h;simp only[V,cV]at hv;have ho':cs=[y]:=ho;have e:=hv.1 trivial;rw[e]at ho';simpa using ho'.symm
theorem J3{E:Env}{t:Ty}{x:t.den}{y:Value}(h:VS E (.d (.gm t) (av x)) y):VS E (.dN t x) y:=by obtain⟨cs,hv,ho⟩:=h;simp only[V,cV]at hv;refine⟨cs,?_,ho⟩;simp only[V];simpa using hv
theorem atU(h:Inv C g β s a w){T:TypeId}{x:bF}{obj dt:Bool}(ho:o.op= .box T x){s':AS}(he:(acD P s obj dt o.dst T (s.ev x)).eval=av s'):eX P o a w (gw C s'):=by
 unfold acD at he;cases hd:o.dst with
 |none=>rw[hd]at he;simp only[aw]at he
 |some q=>
  rw[hd]at he;have adK:=h.ev x;have oX:∀cs:List Value,(a.eval x).cells=cs.toArray->(execOp a.eval o).run P w= .ok (.value (.pointer (av ⟨w.heap.size,0,aF⟩))) (w.alloc (.cells cs.toArray T)):=by
   intro cs ap1;refine dK (f:=Instr.box T (a.eval x)) (by simp only[execOp,ho]) ?_
   simp[Instr.box,TR,ap1]
  cases obj with
  |true=>
   obtain⟨hg,gK⟩:=aH.1 he;obtain rfl:=aA.1 gK;simp only[au]at hg;obtain⟨hq,hf⟩:=hg;obtain⟨hc,_⟩:=pN hf;obtain⟨cs,hV,hO⟩:=adK.ew hc;obtain⟨g',β',h1,h2⟩:=h.aF8 hq hV T;refine .inl ⟨_,_,oX cs (hO.cells hV.one),g',β',?_⟩;rw[hd];exact h1.put (av q) h2
  |false=>
   simp only at he;cases ht:ahc P depth T with
   |none=>rw[ht]at he;simp only[aw]at he
   |some t=>
    rw[ht]at he;obtain⟨_,he⟩:=aH.1 he;obtain⟨y,h1,h2⟩:=az.1 he;obtain rfl:=aA.1 h2;obtain⟨g1,i1,e1,t1,cs,hR,hO⟩:=yq h adK h1;obtain⟨g2,i2,e2,hv⟩:=i1.aCx hR T;refine .inl ⟨_,_,oX cs (hO.cells hR.one),g2,β,?_⟩;rw[hd];exact i2.put (av q) (hv.aIO dt)
theorem tI{E:Env}{t:Ty}{x:t.den}{y:Value}(h:VS E (.dN t x) y):∃b off vs,y= .pointer (av ⟨b,off,aF⟩)/\Ar E (av ⟨b,off,aF⟩) vs/\cV E t vs x:=by obtain⟨cs,hv,ho⟩:=h;simp only[V]at hv;obtain⟨b,off,vs,e,hr,hx⟩:=hv;have ho':cs=[y]:=ho;rw[e]at ho';exact⟨b,off,vs,by simpa using ho'.symm,hr,hx⟩
theorem sR{E:Env}{id:Id}{ver n:Nat}{p:List Gm}{y:Value}(h:VS E (.ptr id ver p n) y):
  ∃a,y= .pointer (av a)/\E.CU id ver/\(E.cur id ver->∃pl,E.β id=av pl/\a=⟨pl.b,n,aF⟩):=by
 obtain⟨cs,hv,ho⟩:=h;simp only[V]at hv;obtain⟨a,e,hb,hc⟩:=hv;have ho':cs=[y]:=ho;rw[e]at ho';exact⟨a,by simpa using ho'.symm,hb,hc⟩
theorem pz{E:Env}{id:Id}{ver c i len:Nat}{p:List Gm}{y:Value}(h:VS E (.dj id ver p c i len) y):
  ∃a cap,y= .slice a len cap/\len<=cap/\(0 < len->a.isSome=aS)/\E.CU id ver/\
   (E.cur id ver->match E.β id with
    |some pl=>(0 < len\/i=0->a=av ⟨pl.b,c,aF⟩)/\(p=[]->i=0->cap=pl.cap)
    |none=>a=aF/\len=0/\cap=0):=by
 obtain⟨cs,hv,ho⟩:=h;simp only[V]at hv;obtain⟨a,cap,e,rest⟩:=hv;have ho':cs=[y]:=ho;rw[e]at ho';exact⟨a,cap,by simpa using ho'.symm,rest⟩
theorem rK{E:Env}{t:Ty}{l:List t.den}{y:Value}(h:VS E (.d (.slice t) l) y):
  ∃a cap vs,y= .slice a l.length cap/\l.length<=cap/\(0 < l.length->a.isSome=aS)/\Ar E a vs/\bp (cV E t) vs l:=by
 obtain⟨cs,hv,ho⟩:=h;simp only[V,cV]at hv;obtain⟨a,cap,vs,e,rest⟩:=hv;have ho':cs=[y]:=ho;rw[e]at ho';exact⟨a,cap,vs,by simpa using ho'.symm,rest⟩
theorem j4{E:Env}{y:Value}(h:VS E .cX y):y= .slice aF 0 0:=by obtain⟨cs,hv,ho⟩:=h;simp only[V]at hv;have ho':cs=[y]:=ho;rw[hv]at ho';simpa using ho'.symm
theorem ara{E:Env}{id:Id}{fr:Bool}{c:aE}(h:sk E id fr c){p:List Gm}{n:Nat}{v:aE}(hl:(loc c.strip p).eval=av (n,v))(hf:v.ew=aS):
  ∃pl cur e,E.β id=av pl/\E.w.heap[pl.b]? =av (.cells cur e (0,0))/\V E v ((cur.toList.drop n).take v.size)/\n+v.size<=cur.size:=by
 by_cases hn:c.gI=bq
 ·obtain⟨pl,cur,e,hp,hh,hg,hk,hV⟩:=h.box hn;have hN:=P8 hk;generalize c.uT cur.size=N at hN hV;have hNl:(cur.toList.take N).length=N:=by rw[dD,cO];omega
  obtain⟨u,hu⟩:∃u,c.strip=u:=⟨_,rfl⟩;rw[hu]at hV hl;rcases qg p u (cur.toList.take N) n v (VO.of hV) hl with⟨rfl,rfl⟩ | ⟨h1,h2⟩
  ·have hs:=hV.size;rw[hNl]at hs;refine⟨pl,cur,e,hp,hh,?_,ao⟩;rw[aL,<-hs];exact hV
  ·rw[hNl]at h2;rw[qx,kO,fN ao]at h1;exact⟨pl,cur,e,hp,hh,h1,ao⟩
 ·cases c <;> first | (exact absurd rfl hn) | skip
  rotate_left
  ·have hl:(loc (.mp _ _ _) p).eval=_:=hl;obtain⟨_,rfl⟩:=aaz hl;simp[aE.ew]at hf
  ·have hl:(loc (.qu _ _ _ _ _ _) p).eval=_:=hl;obtain⟨_,rfl⟩:=Qu hl;simp[aE.ew]at hf
  ·have hl:(loc (.xU _ _ _) p).eval=_:=hl;obtain⟨_,rfl⟩:=Qv hl;simp[aE.ew]at hf
  rename_i e t l;obtain⟨hz,h⟩:=h;cases hp:E.β id with
  |none=>
   rw[hp]at h;have:l=[]:=h;subst this;obtain⟨_,rfl⟩:=SO hl;simp[aE.ew]at hf
  |some pl=>
   rw[hp]at h;obtain⟨cur,k,q1,q2,q3,q4,q5,q6,q7,q8⟩:=h;have hlen:=bp.length (λc x hx=>cV.size hx) q8;have sh:l.length*t.size<=cur.size:=by rw[q2];exact cW _ q3
   rcases qg (E:=E) p (.vec e t l) _ n v q8 hl with⟨rfl,rfl⟩ | ⟨h1,h2⟩
   ·simp[aE.ew]at hf
   ·rw[hlen]at h2;rw[qx,kO,fN ao]at h1;exact⟨pl,cur,e,rfl,q1,h1,ao⟩
theorem aq9{E:Env}{v v':aE}(h:(aF9 v).eval=av v'):(∀cs,V E v cs->V E v' cs)/\v'.agg=v.agg:=by
 unfold aF9 at h;split at h
 ·rename_i t l;obtain⟨h1,h2⟩:=bQ.1 h;obtain rfl:=aA.1 h2;refine⟨λcs hv=> ?_,rfl⟩;simp only[V,cV]at hv ⊢;exact hv.1 (Option.isNone_iff_eq_none.1 h1)
 ·obtain rfl:=aA.1 h;exact⟨λ_ h=>h,rfl⟩
theorem SN(h:Inv C g β s a w){T:TypeId}{x:aE}{y:Value}(hx:VS (s.env w g β) x y){v:aE}(he:(Kx P s T x).eval=av v):
  ∃ad z,y= .pointer (av ad)/\(loadVar T ad).run P w= .ok z w/\VS (s.env w g β) v z:=by
 unfold Kx at he;split at he
 ·rename_i id ver p n;cases la:s.obj id with
  |none=>rw[la]at he;simp only[aw]at he
  |some r=>
   obtain⟨v0,fr,c⟩:=r;rw[la]at he;obtain⟨h1,h2⟩:=aH.1 he;obtain⟨⟨n',v'⟩,h3,h4⟩:=az.1 h2;obtain⟨h5,h6⟩:=aH.1 h4;obtain⟨h7,h8⟩:=bQ.1 h6;obtain⟨n1,n2⟩:=aq9 (E:=s.env w g β) h8;simp only[aP]at h7;have aD6:v0=ver:=by simpa using h1
   subst aD6 h7;have cI:=dQ la;obtain⟨ad,rfl,hb,hc⟩:=sR hx;obtain⟨pl,hp,rfl⟩:=hc ⟨fr,c,cI⟩;obtain⟨aiy,_⟩:=pN h5;obtain⟨pl',cur,e,hp',hh,hV,hle⟩:=ara (h.bH id v0 fr c cI) h3 aiy;rw[hp]at hp';obtain rfl:pl=pl':=by simpa using hp'
   obtain⟨z,Mb,Kg⟩:=xX (P:=P) (w:=w) h5 (b:=pl.b) (off:=n') hV.size (λj x hj=>by
    rw[cell_of_row w pl.b (n'+j) cur e (0,0) hh];rw[de]at hj;split at hj
    ·rw[fR]at hj;simpa using hj
    ·cases hj)
   exact⟨_,z,rfl,Mb,VS.of (n1 _ hV) (by rw[n2];exact Kg)⟩
 ·rename_i t x';obtain⟨h1,h2⟩:=aH.1 he;obtain rfl:=aA.1 h2;obtain⟨b,off,vs,rfl,hr,hR⟩:=tI hx;obtain⟨z,Mb,Kg⟩:=xX (P:=P) (w:=w) h1 (b:=b) (off:=off) hR.size (λj x hj=>by
   obtain⟨b',off',e,hh⟩:=hr j x hj;simp only[aB,Addr.mk.injEq,gZ]at e;obtain⟨rfl,rfl⟩:=e;exact hh.1)
  exact⟨_,z,rfl,Mb,VS.of (by simpa only[V]using hR) Kg⟩
 ·rename_i t x';obtain⟨u,e,he⟩:=uc.1 he;subst e;have hx:=J3 hx;obtain⟨h1,h2⟩:=aH.1 he;obtain rfl:=aA.1 h2;obtain⟨b,off,vs,rfl,hr,hR⟩:=tI hx;obtain⟨z,Mb,Kg⟩:=xX (P:=P) (w:=w) h1 (b:=b) (off:=off) hR.size (λj x hj=>by
   obtain⟨b',off',e,hh⟩:=hr j x hj;simp only[aB,Addr.mk.injEq,gZ]at e;obtain⟨rfl,rfl⟩:=e;exact hh.1)
  exact⟨_,z,rfl,Mb,VS.of (by simpa only[V]using hR) Kg⟩
 ·simp only[aw]at he
theorem aqN(h:Inv C g β s a w){T:TypeId}{x:bF}(ho:o.op= .load T x){v:aE}(he:(Kx P s T (s.ev x)).eval=av v):eX P o a w (gw C (s.put o.dst v)):=by obtain⟨ad,z,hy,hr,hv⟩:=SN h (h.ev x) he;refine h.value hv (dK (f:=Instr.loadAt T (a.eval x)) (by simp only[execOp,ho]) ?_);simp[Instr.loadAt,Instr.sureAddr,hy,hr]
theorem Trans.setRow(w:World){b:Nat}{i:Id}(hg:g b= .own (.id i) 0)(cur:Array Value):Trans w (w.setRow b cur) g g:=by
 refine⟨by simp,by simp,by simp,by simp,λb' hb=> ?_⟩;by_cases he:b'=b
 ·subst he;rw[hg];exact⟨.inr ⟨i,0,rfl,aC _⟩,λ_ _ hh=>ao⟩
 ·rw[setRow_other w b b' cur he];cases Qj:g b' with
  |free=>exact⟨rfl,rfl⟩
  |own o' k=>cases o' with
   |dY=>exact⟨rfl,rfl⟩
   |id i'=>exact⟨.inr ⟨i',k,rfl,aC _⟩,λoff v _ hv=>by rw[cell_setRow_other w b cur _ he];exact hv⟩
theorem Inv.apart(h:Inv C g β s a w){id:Id}{k:Nat}{b:Nat}(hg:g b= .own (.id id) k){i:Id}{ver:Nat}{fr:Bool}{c:aE}{pl:Pl}(hi:i≠id)(hs:s.bU i=av (.obj ver fr c))(hp:β i=av pl):pl.b≠b:=by
 intro hb;have hl:(∃k,g pl.b= .own (.id i) k)\/(fr=aS/\g pl.b= .free):=((h.bH i ver fr c hs).label (pl:=pl) hp).2;rw[hb,hg]at hl;rcases hl with⟨k',hk⟩ | ⟨_,hk⟩
 ·simp only[kI.own.injEq,Own.id.injEq]at hk;exact hi hk.1.symm
 ·cases hk
theorem agA(h:Inv C g β s a w){T:TypeId}{x v:aE}{y z:Value}(hx:VS (s.env w g β) x y)(hz:VS (s.env w g β) v z){s':AS}(he:(Fg P s T x v).eval=av s'):
  ∃ad w',y= .pointer (av ad)/\(storeVar T ad z).run P w= .ok () w'/\∃g' β',Inv C g' β' s' a w':=by
 unfold Fg at he;split at he
 ·rename_i id ver p n;cases la:s.obj id with
  |none=>rw[la]at he;simp only[aw]at he
  |some r=>
   obtain⟨v0,fr,c⟩:=r;rw[la]at he;obtain⟨h1,h2⟩:=aH.1 he;obtain⟨⟨n',o'⟩,h3,h4⟩:=az.1 h2;obtain⟨h5,h6⟩:=aH.1 h4;obtain⟨h7,h8⟩:=bQ.1 h6;obtain⟨c',h9,aFh⟩:=az.1 h8;obtain rfl:=aA.1 aFh;simp only[aP]at h7;simp only[au,dk,cr]at h1;obtain⟨⟨aD6,aFp⟩,R9⟩:=h1;subst aD6 h7 aFp;have cI:=dQ la;obtain⟨ad,rfl,hb,hc⟩:=sR hx;obtain⟨pl,hp,rfl⟩:=hc ⟨bq,c,cI⟩;have hp:β id=av pl:=hp;obtain⟨aiy,_⟩:=pN R9;obtain⟨cs,hV,hO⟩:=hz.ew aiy;have hOb:=h.bH id v0 bq c cI;obtain⟨hcel',_⟩:=pN h5;have aKZ:c.gI=bq\/c.gI=aS:=by cases c.gI <;> simp
   rcases aKZ with hn | hn
   ·obtain⟨pl',cur,e,hp',hh,hg,hk,hVc⟩:=hOb.box hn;have hp':β id=av pl':=hp';rw[hp]at hp';obtain rfl:pl=pl':=by simpa using hp'
    have hg:g pl.b= .own (.id id) 0:=hg;have hh:w.heap[pl.b]? =av (.cells cur e (0,0)):=hh
    have hN:=P8 hk;have hNl:(cur.toList.take (c.uT cur.size)).length=c.uT cur.size:=by rw[dD,cO];omega
    obtain⟨u1,u2,u3⟩:=oB p c.strip (cur.toList.take (c.uT cur.size)) n' o' v c' cs (VO.of hVc) h3 hV h9;have u4:=u2.to (u3.ra hVc.ra);have sh:c'.size=c.strip.size:=by have e1:=u4.size;have e2:=hVc.size;rw[je u1]at e1;omega
    rw[hNl]at u1;have avP:(dm cur.toList n' cs).length=cur.toList.length:=je (by have e1:cur.toList.length=cur.size:=cO;omega);have aKR:(dm cur.toList n' cs).take (c.uT cur.size)=dm (cur.toList.take (c.uT cur.size)) n' cs:=by
     conv=>lhs;rw[<-dH (c.uT cur.size) cur.toList]
     rw[zw (by rw[hNl];exact u1),gX (by rw[je (by rw[hNl];exact u1),hNl];exact aC _)];exact bu (by rw[je (by rw[hNl];exact u1),hNl];exact aC _)
    have oX:=Dg (P:=P) (w:=w) R9 hV hO (b:=pl.b) (off:=n') hh (by have e1:cur.toList.length=cur.size:=cO;have e2:cs.toArray.size=cs.length:=gj;omega);have ht:=Trans.setRow w hg (dm cur.toList n' cs).toArray;have hle:cE (s.env w g β) ((s.aY id (.obj v0 bq (c.wrap c'))).env (w.setRow pl.b (dm cur.toList n' cs).toArray) g β):=cE.aY cI (aC _) ht (λ_ _=>rfl) (λ_=>rfl);refine⟨_,_,rfl,oX,g,β,h.step (cY _ _ _) ht hle (gN.aY h.bH (by rw[cI];simp) hle (λ_ _=>rfl) (λi ver fr c pl2 hi Sa XH=>⟨setRow_other w pl.b pl2.b _ (h.apart hg hi Sa XH),rfl⟩) ?_ (nY cI λk v1 l e=>by rw[e]at hn;simp[aE.gI]at hn))⟩;exact Md.obj ⟨pl,_,e,hp,setRow_heap w pl.b cur _ e (0,0) hh,hg,by rw[gj,avP,cO];exact HH hk u4.xM sh,by
     rw[IX c u4.xM,gj,avP,cO,Mk u4.xM sh,show(dm cur.toList n' cs).toArray.toList=dm cur.toList n' cs from rfl,aKR];exact V.mono hle u4⟩
   ·cases c <;> first | (simp[aE.gI]at hn;done) | skip
    rotate_left
    ·have h3:(loc (.mp _ _ _) p).eval=_:=h3;obtain⟨_,rfl⟩:=aaz h3;simp[aE.ew]at hcel'
    ·have h3:(loc (.qu _ _ _ _ _ _) p).eval=_:=h3;obtain⟨_,rfl⟩:=Qu h3;simp[aE.ew]at hcel'
    ·have h3:(loc (.xU _ _ _) p).eval=_:=h3;obtain⟨_,rfl⟩:=Qv h3;simp[aE.ew]at hcel'
    rename_i e t l;obtain⟨aht,hOb⟩:=hOb;have hOb:(match β id with
     |none=>l=[]
     |some pl=>∃cur k,w.heap[pl.b]? =av (.cells cur e (0,0))/\cur.size=pl.cap*t.size/\l.length<=pl.cap/\pl.cap<=maxLen/\g pl.b= .own (.id id) k/\
       k<=l.length*t.size/\(bq=bq->k=0)/\bp (cV (s.env w g β) t) (cur.toList.take (l.length*t.size)) l):=hOb
    rw[hp]at hOb;obtain⟨cur,k,q1,q2,q3,q4,q5,q6,q7,q8⟩:=hOb;have hk:=q7 rfl;subst hk;have hlen:=bp.length (λc x hx=>cV.size hx) q8;have sh:l.length*t.size<=cur.size:=by rw[q2];exact cW _ q3
    obtain⟨u1,u2,u3⟩:=oB (E:=s.env w g β) p (.vec e t l) _ n' o' v c' cs q8 h3 hV h9;rw[hlen]at u1;have oX:=Dg (P:=P) (w:=w) R9 hV hO (b:=pl.b) (off:=n') q1 ao;cases c' <;> first | (exact u3.elim) | skip
    rename_i e' t' l';obtain⟨rfl,rfl,hl'⟩:=u3;have ht:=Trans.setRow w q5 (dm cur.toList n' cs).toArray;have hle:cE (s.env w g β) ((s.aY id (.obj v0 bq (.vec e' t' l'))).env (w.setRow pl.b (dm cur.toList n' cs).toArray) g β):=cE.aY cI (aC _) ht (λ_ _=>rfl) (λ_=>rfl);refine⟨_,_,rfl,oX,g,β,h.step (cY _ _ _) ht hle (gN.aY h.bH (by rw[cI];simp) hle (λ_ _=>rfl) (λi ver fr c pl2 hi Sa XH=>⟨setRow_other w pl.b pl2.b _ (h.apart q5 hi Sa XH),rfl⟩) ?_ (nY cI λk v1 l e=>by cases e))⟩;refine⟨aht,?_⟩;show(match β id with
     |none=>l'=[]
     |some pl=>_)
    rw[hp];have avP:(dm cur.toList n' cs).length=cur.toList.length:=je (by simp;omega);refine⟨_,0,setRow_heap w pl.b cur _ e' (0,0) q1,by rw[gj,avP];simpa using q2,ao,q4,q5,ao,λ_=>rfl,?_⟩;have e2:(dm cur.toList n' cs).take (l'.length*t'.size)=dm (cur.toList.take (l.length*t'.size)) n' cs:=by
     rw[hl']
     conv=>lhs;rw[<-dH (l.length*t'.size) cur.toList]
     rw[zw (by rw[hlen];exact u1),gX (by rw[je (by rw[hlen];exact u1),hlen];exact aC _)];exact bu (by rw[je (by rw[hlen];exact u1),hlen];exact aC _)
    rw[show(dm cur.toList n' cs).toArray.toList=dm cur.toList n' cs from rfl,e2];exact bp.mono (λ_ _ hx=>hx.mono hle.mem) u2
 ·simp only[aw]at he
theorem alB(h:Inv C g β s a w){T:TypeId}{x v:bF}(ho:o.op= .store T x v){s':AS}(he:(Fg P s T (s.ev x) (s.ev v)).eval=av s'):eX P o a w (gw C (s'.put o.dst .undef)):=by obtain⟨ad,w',hy,hr,g',β',hi⟩:=agA h (h.ev x) (h.ev v) he;refine .inr (.inl ⟨w',Xs (f:=Instr.storeAt T (a.eval x) (a.eval v)) (by simp only[execOp,ho]) ?_,g',β',hi.put o.dst VS.undef⟩);simp[Instr.storeAt,Instr.sureAddr,hy,hr]
end
end Go.Ab
namespace Go.Ab
section
variable {P:aK} {C:Ctx} {g:Nat->kI} {β:Id->Option Pl} {s:AS} {a:Act} {w:World} {o:Oper}
theorem X4(h:Inv C g β s a w){x:bF}(ho:o.op= .move x\/o.op= .assign x):eX P o a w (gw C (s.put o.dst (s.ev x))):=by
 refine h.value (h.ev x) ?_
 rcases ho with ho | ho <;> simp[execOp,ho]
theorem arp(h:Inv C g β s a w){c x y:bF}(ho:o.op= .pick c x y){v:aE}(he:(anO (s.ev c) (s.ev x) (s.ev y)).eval=av v):eX P o a w (gw C (s.put o.dst v)):=by
 have hc:=h.ev c;have hx:=h.ev x;have hy:=h.ev y;unfold anO at he;split at he
 ·rename_i b hb;rw[hb]at hc;have aH9:=P7 hc;have hr:(execOp a.eval o).run P w= .ok (.value (if b then a.eval x else a.eval y)) w:=by simp[execOp,ho,aH9,asBool]
  split at he
  ·rename_i bx by' aMr aMs;obtain rfl:=aA.1 he;rw[aMr]at hx;rw[aMs]at hy;refine h.value ?_ hr
   cases b
   ·simpa using hy
   ·simpa using hx
  ·cases b with
   |true=>
    simp only[Out.eval,aB]at he;subst he;exact h.value (by simpa using hx) hr
   |false=>
    simp only[Out.eval,aB]at he;subst he;exact h.value (by simpa using hy) hr
 ·simp only[aw]at he
theorem VR(h:Inv C g β s a w){x:bF}(ho:o.op= .nilCheck x){s':AS}(he:(match s.ev x with
  | .ptr id v p n=>Out.ok (s.put o.dst (.ptr id v p n))
  | .dN t y=> .ok (s.put o.dst (.dN t y))
  | .d (.gm t) y=> .get (y:Option t.den) λy=> .ok (s.put o.dst (.dN t y))
  | .fn f c=> .ok (s.put o.dst (.fn f c))
  |_=> .fail).eval=av s'):eX P o a w (gw C s'):=by
 have hx:=h.ev x;split at he
 ·rename_i id v p n hv;obtain rfl:=aA.1 he;rw[hv]at hx;obtain⟨ad,hy,_⟩:=sR hx;exact h.value hx (by simp[execOp,ho,hy])
 ·rename_i t y hv;obtain rfl:=aA.1 he;rw[hv]at hx;obtain⟨b,off,vs,hy,_⟩:=tI hx;exact h.value hx (by simp[execOp,ho,hy])
 ·rename_i t y hv;obtain⟨z,e,he⟩:=uc.1 he;subst e;obtain rfl:=aA.1 he;rw[hv]at hx;have hx:=J3 hx;obtain⟨b,off,vs,hy,_⟩:=tI hx;exact h.value hx (by simp[execOp,ho,hy])
 ·rename_i f c hv;obtain rfl:=aA.1 he;rw[hv]at hx;obtain⟨cs,hV,hO⟩:=hx.ew rfl;simp only[V]at hV;obtain⟨vs,e,hc⟩:=hV;have hO':cs=[a.eval x]:=hO;rw[e]at hO';have hy:a.eval x= .func (.func f) #[] vs.toArray:=by simpa using hO'.symm
  refine h.value (v:= .fn f c) ⟨cs,by simp only[V];exact⟨vs,e,hc⟩,hO⟩ (by simp[execOp,ho,hy])
 ·simp only[aw]at he
theorem ad9{op:BinOp}{k k':iv}{x y:Int}{v:aE}(he:(awf op k x k' y).eval=av v)(T:TypeId)(E:Env):
  ∃z,(binOp op T (.int k x) (.int k' y)).run P w= .ok z w/\VS E v z:=by
 unfold awf at he;have same:∀(hk:decide (k=k')=aS),k=k':=λhk=>by simpa using hk
 cases op with
 |shl=>
  obtain⟨h1,h2⟩:=bQ.1 he;obtain rfl:=aA.1 h2;have h1:¬y < 0:=by simpa using h1
  exact⟨_,by simp[binOp,Op.shift,h1],kf _ _⟩
 |shr=>
  obtain⟨h1,h2⟩:=bQ.1 he;obtain rfl:=aA.1 h2;have h1:¬y < 0:=by simpa using h1
  exact⟨_,by simp[binOp,Op.shift,h1],kf _ _⟩
 |quo=>
  obtain⟨h1,h2⟩:=aH.1 he;obtain rfl:=same h1;obtain⟨h3,h4⟩:=bQ.1 h2;obtain rfl:=aA.1 h4;have h3:y≠0:=by simpa using h3
  exact⟨_,by simp[binOp,Op.intDiv,h3],kf _ _⟩
 |rem=>
  obtain⟨h1,h2⟩:=aH.1 he;obtain rfl:=same h1;obtain⟨h3,h4⟩:=bQ.1 h2;obtain rfl:=aA.1 h4;have h3:y≠0:=by simpa using h3
  exact⟨_,by simp[binOp,Op.intDiv,h3],kf _ _⟩
 |add | sub | mul=>
  obtain⟨h1,h2⟩:=aH.1 he;obtain rfl:=same h1;obtain rfl:=aA.1 h2;exact⟨_,by simp[binOp,Op.intArith],kf _ _⟩
 |and | or | xor | andNot=>
  obtain⟨h1,h2⟩:=aH.1 he;obtain rfl:=same h1;obtain rfl:=aA.1 h2;refine⟨_,?_,kf _ _⟩;unfold binOp Op.intBits;simp[cn]
 |eql | neq | lss | leq | gtr | geq=>
  obtain⟨h1,h2⟩:=aH.1 he;obtain rfl:=same h1;obtain rfl:=aA.1 h2;refine⟨_,?_,tj _⟩;simp[binOp,Op.intCmp]
theorem agB{op:BinOp}{x y:ByteArray}{v:aE}(he:(azn op x y).eval=av v)(T:TypeId)(E:Env):
  ∃z,(binOp op T (.string x) (.string y)).run P w= .ok z w/\VS E v z:=by
 unfold azn at he;cases op <;> simp only[aw]at he
 case add=>
  obtain⟨h1,h2⟩:=bQ.1 he;obtain rfl:=aA.1 h2;have h1:¬((x.size+y.size:Nat):Int) > IntKind.i64.max:=by simpa using h1
  refine⟨.string (x++y),?_,YZ _⟩;show(Op.stringOp .add x y).run P w=_;unfold Op.stringOp;simp only[h1,bz];rfl
 all_goals
  obtain rfl:=aA.1 he;exact⟨_,by simp[binOp,Op.stringOp],tj _⟩
theorem mo{op:BinOp}{T:TypeId}{x y:bF}{u v:Value}(h1:u≠ .nilIface)(h2:pR u=bq):(eqGuard op T x y u v).run P w= .ok () w:=by
 unfold eqGuard;cases op <;> simp
 all_goals (cases u <;> simp_all [pR])
theorem wg{T:TypeId}{b:Bool}(h:Il P T b=aS):∃i,P.info? T=av i/\∀w,(isAgg T).run P w= .ok b w:=by
 unfold Il at h;cases hu:P.underlying T with
 |none=>rw[hu]at h;cases h
 |some d=>
  obtain⟨i,hi⟩:=anh hu;refine⟨i,hi,λw=> ?_⟩;rw[hu]at h;unfold isAgg;rw[bY,run_underlying hu w];cases d <;> simp at h <;> simp[h]
theorem uF{T:TypeId}{b:Bool}(h:Il P T b=aS){cs:List Value}{off n:Nat}(hn:P.cellsOf T=n)(hb:b=bq->n=1)(hl:off+n<=cs.length):
  ∃y,(part T cs.toArray off).run P w= .ok y w/\fw b ((cs.drop off).take n) y:=by
 obtain⟨i,hi,adJ⟩:=wg h;rw[lM hi]at hn;unfold part;rw[bY,adJ w];simp only[bB];cases b with
 |true=>
  refine⟨.agg ((cs.drop off).take n).toArray,?_,rfl⟩;simp only[bG,bY,run_sizeOf hi,bB,hn,dA];simp[List.extract_eq_take_drop]
 |false=>
  have h1:=hb rfl;subst h1;have iI:off < cs.length:=ao;refine⟨cs[off],?_,?_⟩
  ·simp[iI]
  ·show(cs.drop off).take 1=[cs[off]];rw[aD iI,List.take_succ_cons,fJ]
theorem uI{t:Ty}(h:t.agg=bq):t.size=1:=by cases t <;> first | rfl | (simp[Ty.agg]at h)
theorem SI{α:Type}(f:α->α->Bool)(x y:α)(xs ys:List α):lS f (x::xs) (y::ys)=(f x y && lS f xs ys):=rfl
theorem tm(E:Env):∀(n:Nat) (T:TypeId) (t:Ty),qc P n T t=aS->∀(d:Nat),n<=d->∀(cx cy:List Value) (x y:t.den) (u v:Value),cV E t cx x->cV E t cy y->fw t.agg cx u->fw t.agg cy v->
  (dJ d T u v).run P w= .ok (t.beq x y) w
 | 0,T,t,h,_,_,_,_,_,_,_,_,_,_,_,_=>by simp[qc]at h
 |n+1,T,t,h,0,hd,_,_,_,_,_,_,_,_,_,_=>ao
 |n+1,T,t,h,d+1,hd,cx,cy,x,y,u,v,hx,hy,hu,hv=>by
  simp only[qc]at h;split at h
  ·rename_i k k' hT;simp only[cV]at hx hy;have e1:cx=[u]:=hu;have e2:cy=[v]:=hv;rw[hx]at e1;rw[hy]at e2;simp only[ee,gZ]at e1 e2;subst e1 e2;rw[run_equalIn_int w d T _ _ _ _ hT];rfl
  ·rename_i hT;simp only[cV]at hx hy;have e1:cx=[u]:=hu;have e2:cy=[v]:=hv;rw[hx]at e1;rw[hy]at e2;simp only[ee,gZ]at e1 e2;subst e1 e2;rw[run_equalIn_bool' w d T _ _ hT];rfl
  ·rename_i hT;simp only[cV]at hx hy;have e1:cx=[u]:=hu;have e2:cy=[v]:=hv;rw[hx]at e1;rw[hy]at e2;simp only[ee,gZ]at e1 e2;subst e1 e2;rw[run_equalIn_string w d T _ _ hT];rfl
  ·rename_i m e m' t' hT;simp only[au,dk]at h;obtain⟨⟨⟨⟨rfl,aBy⟩,sh⟩,I9⟩,dx⟩:=h;simp only[cV]at hx hy;obtain⟨aKw,aKb⟩:=hx;obtain⟨aMM,aMv⟩:=hy;have e1:u= .agg cx.toArray:=hu;have e2:v= .agg cy.toArray:=hv;subst e1 e2;obtain⟨i,hi,adJ⟩:=wg I9;have hsz':=sh;rw[lM hi]at hsz';simp only[dJ,bY,run_underlying hT,bB,run_sizeOf hi,hsz'];simp only[Std.Legacy.Range.forIn_eq_forIn_range'];have hm:([:m]:Std.Legacy.Range).size=m:=by simp[Std.Legacy.Range.size]
   rw[hm];have aht:∀c z,cV E t' c z->c.length=t'.size:=λc z hz=>hz.size
   have bx:t'.agg=bq->t'.size=1:=uI
   have key:∀(k:Nat) (x y:List t'.den) (j:Nat),x.length=k->y.length=k->bp (cV E t') (cx.drop (j*t'.size)) x->bp (cV E t') (cy.drop (j*t'.size)) y->
     (forIn (List.range' j k) ((aF,()):Option Bool×Unit) λi __s=>(do
      let __do_lift <-part e cx.toArray (i*t'.size)
      let __do_lift_1 <-part e cy.toArray (i*t'.size)
      let __do_lift <-dJ d e __do_lift __do_lift_1
      if(!__do_lift)=aS then pure (ForInStep.done (av bq,())) else pure (ForInStep.yield (aF,())):Sem (ForInStep (Option Bool×Unit)))).run P w= .ok (if lS t'.beq x y then aF else av bq,()) w:=by
    intro k
    induction k with
    |zero=>
     intro x y j hx hy _ _;rw[List.length_eq_zero_iff.1 hx,List.length_eq_zero_iff.1 hy];rfl
    |succ k ih=>
     intro x y j hx hy hcx' hcy';cases x with
     |nil=>simp at hx
     |cons x0 xs=>
      cases y with
      |nil=>simp at hy
      |cons y0 ys=>
       have gx:=bp.get aht hcx' 0 (by simp);have gy:=bp.get aht hcy' 0 (by simp);simp only[lH,aL,List.getElem_cons_zero]at gx gy;have lenx:((cx.drop (j*t'.size)).take t'.size).length=t'.size:=gx.size;have leny:((cy.drop (j*t'.size)).take t'.size).length=t'.size:=gy.size;have Mb:t'.size≠0:=by simpa using aBy
       have aKq:j*t'.size+t'.size<=cx.length:=by simp only[dD,eK]at lenx;omega
       have aMH:j*t'.size+t'.size<=cy.length:=by simp only[dD,eK]at leny;omega
       obtain⟨ux,h1,o1⟩:=uF (w:=w) I9 sh bx (cs:=cx) (off:=j*t'.size) aKq;obtain⟨uy,h2,o2⟩:=uF (w:=w) I9 sh bx (cs:=cy) (off:=j*t'.size) aMH;have h3:=tm E n e t' dx d ao _ _ x0 y0 ux uy gx gy o1 o2;have nx:bp (cV E t') (cx.drop ((j+1)*t'.size)) xs:=by have:=bp.drop aht 1 hcx';rw[fi]at this;simpa[ei]using this
       have ny:bp (cV E t') (cy.drop ((j+1)*t'.size)) ys:=by have:=bp.drop aht 1 hcy';rw[fi]at this;simpa[ei]using this
       have:=ih xs ys (j+1) (by simpa using hx) (by simpa using hy) nx ny;rw[List.range'_succ,List.forIn_cons];simp only[bY,h1,h2,h3,bB,SI];rcases gR (t'.beq x0 y0) with hb | hb
       ·simp only[hb,bm,bJ,bz,dA,bB,bD];exact this
       ·simp only[hb,dy,bG,dA,bB,dC,bJ,bz]
   have:=key m x y 0 aKw aMM (by simpa using aKb) (by simpa using aMv);rw[this];show _=Result.ok (lS t'.beq x y) w;cases lS t'.beq x y <;> rfl
  ·rename_i t0 _ _ fs hT;simp only[au,cr]at h;obtain⟨pO,aBe⟩:=h;have hF:P.fieldsOf T=fs:=by simp[Program.fieldsOf,hT]
   have hT':P.underlying T=av (.struct (P.fieldsOf T)):=by rw[hF];exact hT
   have key:∀(fl:List Field) (t:Ty) (off:Nat),H2 P (qc P n) fl t off=aS->∀(x y:t.den),cV E t (cx.drop off) x->cV E t (cy.drop off) y->
     (Op.eqFields d cx.toArray cy.toArray fl).run P w= .ok (t.beq x y) w:=by
    intro fl
    induction fl with
    |nil=>
     intro t off hc x y _ _;cases t <;> first | (simp[H2]at hc;done) | rfl
    |cons f fl ih=>
     intro t off hc x y hx hy;cases t <;> first | (simp[H2]at hc;done) | skip
     rename_i ta tb;simp only[H2,au,cr,dk,fC]at hc;obtain⟨⟨⟨⟨⟨⟨az9,aBo⟩,hz⟩,sh⟩,I9⟩,dx⟩,avN⟩:=hc;simp only[cV]at hx hy;obtain⟨xa,xb,ex,aIK,aK2⟩:=hx;obtain⟨ya,yb,ey,aLW,aNe⟩:=hy;have bx:ta.agg=bq->ta.size=1:=uI;have lx:xa.length=ta.size:=aIK.size;have ly:ya.length=ta.size:=aLW.size;have split:∀(cs xa xb:List Value),cs.drop off=xa++xb->xa.length=ta.size->(cs.drop off).take ta.size=xa/\cs.drop (off+ta.size)=xb/\off+ta.size<=cs.length:=by intro cs xa xb e l;refine⟨by rw[e];exact List.take_left' l,by rw[<-fi,e];exact List.drop_left' l,?_⟩;have:=cf ae e;simp only[eK,aq]at this;omega
     obtain⟨sx1,sx2,sx3⟩:=split cx xa xb ex lx;obtain⟨sy1,sy2,sy3⟩:=split cy ya yb ey ly;obtain⟨ux,h1,o1⟩:=uF (w:=w) I9 sh bx (cs:=cx) (off:=off) sx3;obtain⟨uy,h2,o2⟩:=uF (w:=w) I9 sh bx (cs:=cy) (off:=off) sy3;rw[sx1]at o1;rw[sy1]at o2;have h3:=tm E n f.type ta dx d ao _ _ x.1 y.1 ux uy aIK aLW o1 o2;have h4:=ih tb (off+ta.size) avN x.2 y.2 (by rw[sx2];exact aK2) (by rw[sy2];exact aNe);simp only[Op.eqFields,ne_eq,az9,not_false_eq_true,bG,bY,aBo,h1,h2,h3,bB];show _=Result.ok (ta.beq x.1 y.1 && tb.beq x.2 y.2) w;rcases gR (ta.beq x.1 y.1) with hb | hb
     ·simp only[hb,bm,bJ,bz,bD];exact h4
     ·simp[hb]
   have I9:t0.agg=aS:=by cases hl:fs.toList <;> rw[hl]at aBe <;> cases t0 <;> first | rfl | (simp[H2]at aBe;done)
   rw[I9]at hu hv;have e1:u= .agg cx.toArray:=hu;have e2:v= .agg cy.toArray:=hv;subst e1 e2;rw[run_equalIn_struct w d T _ _ hT' pO,hF];exact key fs.toList t0 0 aBe x y (by simpa using hx) (by simpa using hy)
  ·cases h
end
end Go.Ab
namespace Go.Ab
section
variable {P:aK} {C:Ctx} {g:Nat->kI} {β:Id->Option Pl} {s:AS} {a:Act} {w:World} {o:Oper}
theorem axG{E:Env}{v:aE}{y c:Value}(h:VS E v y)(hc:v.ew=aS)(ha:v.agg=bq)(hV:∀cs,V E v cs->cs=[c]):y=c:=by have:=h.single hc ha;simpa using hV _ this
theorem F7{E:Env}{y:Value}(h:VS E .ns y):y= .pointer aF:=axG h rfl rfl λcs hv=>by simpa only[V]using hv
theorem Qy{E:Env}{y:Value}(h:VS E .uq y):y= .nilFunc:=axG h rfl rfl λcs hv=>by simpa only[V]using hv
theorem Xy{E:Env}{f:gg}{c:aE}{y:Value}(h:VS E (.fn f c) y):∃vs,y= .func (.func f) #[] vs.toArray/\VC E c vs:=by have h1:=h.single rfl rfl;simp only[V]at h1;obtain⟨vs,e,hc⟩:=h1;exact⟨vs,by simpa using e,hc⟩
theorem eP{T:TypeId}{u v:Value}{b:Bool}(h:∀d,(dJ (d+1) T u v).run P w= .ok b w):(Op.equal T u v).run P w= .ok b w:=h 9999
theorem RO{T:TypeId}{x y:aE}{u v:Value}{E:Env}(hx:VS E x u)(hy:VS E y v){b:Bool}(he:(yD P T x y).eval=av b):
  (Op.equal T u v).run P w= .ok b w/\u≠ .nilIface/\(pR u=bq\/(pR v=aS/\P.eqGuardType P.depth T=bq))/\
   (∀op,binOp op T u v=(match op with | .eql=>do pure (.bool (<-Op.equal T u v)) | .neq=>do pure (.bool (!(<-Op.equal T u v))) | _=>binOp op T u v)):=by
 unfold yD at he;split at he
 ·rename_i t x' t' y';obtain⟨y'',h1,h2⟩:=az.1 he;obtain⟨rfl,h1⟩:=iV (jo.1 h1);simp only at h1;subst h1;obtain⟨h3,h4⟩:=aH.1 h2;obtain rfl:=aA.1 h4;simp only[au,gB,cr,aP]at h3;obtain⟨h3,h5⟩:=h3;obtain⟨cx,hVx,hOx⟩:=hx.ew rfl;obtain⟨cy,hVy,hOy⟩:=hy.ew rfl;simp only[V]at hVx hVy;have hr:=tm (w:=w) E depth T t' h5 10000 fg cx cy x' y' u v hVx hVy hOx hOy;refine⟨hr,?_⟩;rcases h3 with⟨I9,aMB⟩ | rfl
  ·have hOx':fw t'.agg cx u:=hOx;have hOy':fw t'.agg cy v:=hOy;rw[I9]at hOx' hOy';have e1:u= .agg cx.toArray:=hOx';have e2:v= .agg cy.toArray:=hOy';subst e1 e2;exact⟨by simp,.inr ⟨rfl,aMB⟩,λop=>by cases op <;> rfl⟩
  ·simp only[cV]at hVx hVy;have e1:cx=[u]:=hOx;have e2:cy=[v]:=hOy;rw[hVx]at e1;rw[hVy]at e2;simp only[ee,gZ]at e1 e2;subst e1 e2;exact⟨by simp,.inl rfl,λop=>by cases op <;> rfl⟩
 ·obtain⟨h1,h2⟩:=aH.1 he;obtain rfl:=aA.1 h2;rw[j4 hx,j4 hy];unfold yD.isSl at h1;split at h1 <;> try (cases h1;done)
  rename_i e hT;exact⟨eP λd=>by simp[dJ,run_underlying hT],by simp,.inl rfl,λop=>by cases op <;> rfl⟩
 ·obtain⟨h1,h2⟩:=aH.1 he;obtain⟨h3,h4⟩:=bQ.1 h2;obtain rfl:=aA.1 h4;obtain⟨ad,cap,vs,rfl,_,hs,_⟩:=rK hx;rw[j4 hy];have hs:=hs (by simpa using h3);obtain⟨ad',rfl⟩:=cd.1 hs;unfold yD.isSl at h1;split at h1 <;> try (cases h1;done)
  rename_i e hT;exact⟨eP λd=>by simp[dJ,run_underlying hT],by simp,.inl rfl,λop=>by cases op <;> rfl⟩
 ·obtain⟨h1,h2⟩:=aH.1 he;obtain⟨h3,h4⟩:=bQ.1 h2;obtain rfl:=aA.1 h4;obtain⟨ad,cap,vs,rfl,_,hs,_⟩:=rK hy;rw[j4 hx];have hs:=hs (by simpa using h3);obtain⟨ad',rfl⟩:=cd.1 hs;unfold yD.isSl at h1;split at h1 <;> try (cases h1;done)
  rename_i e hT;exact⟨eP λd=>by simp[dJ,run_underlying hT],by simp,.inl rfl,λop=>by cases op <;> rfl⟩
 ·obtain⟨h1,h2⟩:=aH.1 he;obtain⟨h3,h4⟩:=bQ.1 h2;obtain rfl:=aA.1 h4;obtain⟨ad,cap,rfl,_,hs,_⟩:=pz hx;rw[j4 hy];have hs:=hs (by simpa using h3);obtain⟨ad',rfl⟩:=cd.1 hs;unfold yD.isSl at h1;split at h1 <;> try (cases h1;done)
  rename_i e hT;exact⟨eP λd=>by simp[dJ,run_underlying hT],by simp,.inl rfl,λop=>by cases op <;> rfl⟩
 ·obtain⟨h1,h2⟩:=aH.1 he;obtain⟨h3,h4⟩:=bQ.1 h2;obtain rfl:=aA.1 h4;obtain⟨ad,cap,rfl,_,hs,_⟩:=pz hy;rw[j4 hx];have hs:=hs (by simpa using h3);obtain⟨ad',rfl⟩:=cd.1 hs;unfold yD.isSl at h1;split at h1 <;> try (cases h1;done)
  rename_i e hT;exact⟨eP λd=>by simp[dJ,run_underlying hT],by simp,.inl rfl,λop=>by cases op <;> rfl⟩
 ·obtain⟨h1,h2⟩:=aH.1 he;obtain rfl:=aA.1 h2;rw[F7 hx,F7 hy];unfold yD.isPt at h1;split at h1 <;> try (cases h1;done)
  rename_i e hT;exact⟨eP λd=>by simp[dJ,run_underlying hT],by simp,.inl rfl,λop=>by cases op <;> rfl⟩
 ·obtain⟨h1,h2⟩:=aH.1 he;obtain rfl:=aA.1 h2;obtain⟨ad,rfl,_⟩:=sR hx;rw[F7 hy];unfold yD.isPt at h1;split at h1 <;> try (cases h1;done)
  rename_i e hT;exact⟨eP λd=>by simp[dJ,run_underlying hT],by simp,.inl rfl,λop=>by cases op <;> rfl⟩
 ·obtain⟨h1,h2⟩:=aH.1 he;obtain rfl:=aA.1 h2;obtain⟨ad,rfl,_⟩:=sR hy;rw[F7 hx];unfold yD.isPt at h1;split at h1 <;> try (cases h1;done)
  rename_i e hT;exact⟨eP λd=>by simp[dJ,run_underlying hT],by simp,.inl rfl,λop=>by cases op <;> rfl⟩
 ·rename_i t q;obtain⟨h1,h2⟩:=aH.1 he;obtain rfl:=aA.1 h2;unfold yD.isPt at h1;split at h1 <;> try (cases h1;done)
  rename_i e hT;rw[F7 hy];cases q with
  |none=>
   rw[XE hx];exact⟨eP λd=>by simp[dJ,run_underlying hT],by simp,.inl rfl,λop=>by cases op <;> rfl⟩
  |some z=>
   obtain⟨b,off,vs,rfl,_⟩:=tI (J3 hx);exact⟨eP λd=>by simp[dJ,run_underlying hT],by simp,.inl rfl,λop=>by cases op <;> rfl⟩
 ·rename_i t q;obtain⟨h1,h2⟩:=aH.1 he;obtain rfl:=aA.1 h2;unfold yD.isPt at h1;split at h1 <;> try (cases h1;done)
  rename_i e hT;rw[F7 hx];cases q with
  |none=>
   rw[XE hy];exact⟨eP λd=>by simp[dJ,run_underlying hT],by simp,.inl rfl,λop=>by cases op <;> rfl⟩
  |some z=>
   obtain⟨b,off,vs,rfl,_⟩:=tI (J3 hy);exact⟨eP λd=>by simp[dJ,run_underlying hT],by simp,.inl rfl,λop=>by cases op <;> rfl⟩
 ·obtain⟨h1,h2⟩:=aH.1 he;obtain rfl:=aA.1 h2;rw[Qy hx,Qy hy];unfold yD.isFn at h1;split at h1 <;> try (cases h1;done)
  rename_i hT;exact⟨eP λd=>by simp[dJ,run_underlying hT],by simp,.inl rfl,λop=>by cases op <;> rfl⟩
 ·obtain⟨h1,h2⟩:=aH.1 he;obtain rfl:=aA.1 h2;obtain⟨vs,rfl,_⟩:=Xy hx;rw[Qy hy];unfold yD.isFn at h1;split at h1 <;> try (cases h1;done)
  rename_i hT;exact⟨eP λd=>by simp[dJ,run_underlying hT],by simp,.inl rfl,λop=>by cases op <;> rfl⟩
 ·obtain⟨h1,h2⟩:=aH.1 he;obtain rfl:=aA.1 h2;obtain⟨vs,rfl,_⟩:=Xy hy;rw[Qy hx];unfold yD.isFn at h1;split at h1 <;> try (cases h1;done)
  rename_i hT;exact⟨eP λd=>by simp[dJ,run_underlying hT],by simp,.inl rfl,λop=>by cases op <;> rfl⟩
 ·simp only[aw]at he
theorem adu{op:BinOp}{T:TypeId}{x y:bF}{u v:Value}(hu:pR u=aS)(hv:pR v=aS)(hm:P.eqGuardType P.depth T=bq):(eqGuard op T x y u v).run P w= .ok () w:=by
 cases u <;> first | (simp[pR]at hu;done) | skip
 cases v <;> first | (simp[pR]at hv;done) | skip
 exact run_eqGuard_agg w op T x y _ _ hm
theorem ahM(h:Inv C g β s a w){op:BinOp}{T U:TypeId}{x y:bF}(ho:o.op= .binOp op T x y U){v:aE}(he:(aEO P T op (s.ev x) (s.ev y)).eval=av v):eX P o a w (gw C (s.put o.dst v)):=by
 have hx:=h.ev x;have hy:=h.ev y;have fin:∀z,(binOp op T (a.eval x) (a.eval y)).run P w= .ok z w->(eqGuard op T x y (a.eval x) (a.eval y)).run P w= .ok () w->VS (s.env w g β) v z->eX P o a w (gw C (s.put o.dst v)):=by
  intro z h1 h2 h3;refine h.value h3 ?_
  simp[execOp,ho,h1,h2]
 unfold aEO at he;split at he
 ·rename_i k n k' m hn hm;rw[hn]at hx;rw[hm]at hy;have e1:=sK hx;have e2:=sK hy;obtain⟨z,h1,h2⟩:=ad9 (P:=P) (w:=w) he T (s.env w g β);exact fin z (by rw[e1,e2];exact h1) (by rw[e1,e2];exact mo (by simp) rfl) h2
 ·rename_i n m hn hm;rw[hn]at hx;rw[hm]at hy;have e1:=Fh hx;have e2:=Fh hy;obtain⟨z,h1,h2⟩:=agB (P:=P) (w:=w) he T (s.env w g β);exact fin z (by rw[e1,e2];exact h1) (by rw[e1,e2];exact mo (by simp) rfl) h2
 ·have grd:(pR (a.eval x)=bq\/(pR (a.eval y)=aS/\P.eqGuardType P.depth T=bq))->a.eval x≠ .nilIface->(eqGuard op T x y (a.eval x) (a.eval y)).run P w= .ok () w:=by
   intro hh gW;rcases hh with hh | ⟨hh,hm⟩
   ·exact mo gW hh
   ·rcases gR (pR (a.eval x)) with hx | hx
    ·exact adu hx hh hm
    ·exact mo gW hx
  split at he
  ·obtain⟨b,h1,h2⟩:=az.1 he;obtain rfl:=aA.1 h2;obtain⟨q1,q2,q3,q4⟩:=RO (w:=w) hx hy h1;refine fin (.bool b) ?_ (grd q3 q2) (tj b)
   rw[q4 .eql];simp[q1]
  ·obtain⟨b,h1,h2⟩:=az.1 he;obtain rfl:=aA.1 h2;obtain⟨q1,q2,q3,q4⟩:=RO (w:=w) hx hy h1;refine fin (.bool (!b)) ?_ (grd q3 q2) (tj (!b))
   rw[q4 .neq];simp[q1]
  ·simp only[aw]at he
theorem as5(h:Inv C g β s a w){op:UnOp}{T:TypeId}{x:bF}(ho:o.op= .unOp op T x){v:aE}(he:(aJO op (s.ev x)).eval=av v):eX P o a w (gw C (s.put o.dst v)):=by
 have hx:=h.ev x;unfold aJO at he;split at he
 ·rename_i b hb;rw[hb]at hx;obtain rfl:=aA.1 he;exact h.value (tj _) (by simp[execOp,ho,P7 hx,Op.unary])
 ·rename_i k n hb;rw[hb]at hx;obtain rfl:=aA.1 he;exact h.value (kf _ _) (by simp[execOp,ho,sK hx,Op.unary,Op.intArith])
 ·rename_i k n hb;rw[hb]at hx;obtain rfl:=aA.1 he;refine h.value (kf _ _) ?_
  simp only[execOp,ho,sK hx,Op.unary,Op.intBits];simp[cn]
 ·simp only[aw]at he
end
end Go.Ab
namespace Go.Ab
section
variable {P:aK} {C:Ctx} {g:Nat->kI} {β:Id->Option Pl} {s:AS} {a:Act} {w:World} {o:Oper}
theorem xe{E:Env}{v:aE}{y:Value}(h:VS E v y){n:Int}(he:(asInt v).eval=av n):∃k,y= .int k n:=by
 unfold asInt at he;split at he
 ·rename_i k m;obtain rfl:=aA.1 he;exact⟨k,sK h⟩
 ·simp only[aw]at he
theorem wZ{k:iv}{i:Int}{y:Nat}(code:BoundsCode)(h:0<=i/\i<=(y:Int)):(Instr.sliceBound (.int k i) y code).run P w= .ok i.toNat w:=run_sliceBound w k i y code h.1 h.2
theorem vz(h:Inv C g β s a w){n cap:Nat}(hn:n<=cap){lo hi:Option bF}{r:Nat×Nat}(he:(bounds s n lo hi).eval=av r)(isS:Bool){mx:Option Value}{cap':Nat}
  (hm:(mx=aF/\cap'=cap)\/∃k mv,hi.isSome=aS/\mx=av (.int k mv)/\(r.2:Int)<=mv/\mv<=n/\cap'=mv.toNat):
  (Instr.sliceBounds isS n cap (lo.map a.eval) (hi.map a.eval) mx).run P w= .ok (r.1,r.2,cap') w/\r.1<=r.2/\r.2<=n:=by
 unfold bounds at he;obtain⟨hh,h1,h2⟩:=az.1 he;obtain⟨ll,h3,h4⟩:=az.1 h2;obtain rfl:=aA.1 h4;have aDZ:hh<=n/\∀y,hi.map a.eval=av y->∃k i,y= .int k i/\0<=i/\i<=(n:Int)/\hh=i.toNat:=by
  cases hi with
  |none=>
   simp only at h1;obtain rfl:=aA.1 h1;exact⟨aC _,λy hy=>by cases hy⟩
  |some x=>
   simp only at h1;obtain⟨i,q1,q2⟩:=az.1 h1;obtain⟨q3,q4⟩:=bQ.1 q2;obtain rfl:=aA.1 q4;simp only[aP]at q3;obtain⟨k,hk⟩:=xe (h.ev x) q1;refine⟨ao,λy hy=> ?_⟩;simp only[da,aB]at hy;exact⟨k,i,by rw[<-hy];exact hk,q3.1,q3.2,rfl⟩
 have aBf:hi.map a.eval=aF->hh=n:=by
  intro hy;cases hi with
  |none=>simp only at h1;exact(aA.1 h1).symm
  |some x=>cases hy
 have lo1:ll<=hh/\∀y,lo.map a.eval=av y->∃k i,y= .int k i/\0<=i/\i<=(hh:Int)/\ll=i.toNat:=by
  cases lo with
  |none=>
   simp only at h3;obtain rfl:=aA.1 h3;exact⟨aO _,λy hy=>by cases hy⟩
  |some x=>
   simp only at h3;obtain⟨i,q1,q2⟩:=az.1 h3;obtain⟨q3,q4⟩:=bQ.1 q2;obtain rfl:=aA.1 q4;simp only[aP]at q3;obtain⟨k,hk⟩:=xe (h.ev x) q1;refine⟨ao,λy hy=> ?_⟩;simp only[da,aB]at hy;exact⟨k,i,by rw[<-hy];exact hk,q3.1,q3.2,rfl⟩
 have lo0:lo.map a.eval=aF->ll=0:=by
  intro hy;cases lo with
  |none=>simp only at h3;exact(aA.1 h3).symm
  |some x=>cases hy
 refine⟨?_,lo1.1,aDZ.1⟩;unfold Instr.sliceBounds;rcases hm with⟨rfl,rfl⟩ | ⟨k2,mv,hs,rfl,aIu,aLO,rfl⟩
 ·cases aJx:hi.map a.eval with
  |none=>
   obtain rfl:=aBf aJx;cases Qk:lo.map a.eval with
   |none=>
    obtain rfl:=lo0 Qk;rfl
   |some y=>
    obtain⟨k,i,rfl,q1,q2,rfl⟩:=lo1.2 y Qk;simp only[bY,dA,bB,wZ _ ⟨q1,q2⟩]
  |some z=>
   obtain⟨k',i',rfl,p1,p2,rfl⟩:=aDZ.2 z aJx;have hb:∀code,(Instr.sliceBound (.int k' i') cap' code).run P w= .ok i'.toNat w:=λcode=>wZ code ⟨p1,ao⟩
   cases Qk:lo.map a.eval with
   |none=>
    obtain rfl:=lo0 Qk;simp only[bY,dA,bB,hb]
   |some y=>
    obtain⟨k,i,rfl,q1,q2,rfl⟩:=lo1.2 y Qk;simp only[bY,dA,bB,hb,wZ _ ⟨q1,q2⟩]
 ·cases aJx:hi.map a.eval with
  |none=>cases hi <;> simp_all
  |some z=>
   obtain⟨k',i',rfl,p1,p2,rfl⟩:=aDZ.2 z aJx;have aIu:((i'.toNat:Nat):Int)<=mv:=aIu;have h0:∀code,(Instr.sliceBound (.int k2 mv) cap code).run P w= .ok mv.toNat w:=λcode=>wZ code ⟨ao,ao⟩
   have hb:∀code,(Instr.sliceBound (.int k' i') mv.toNat code).run P w= .ok i'.toNat w:=λcode=>wZ code ⟨p1,ao⟩
   cases Qk:lo.map a.eval with
   |none=>
    obtain rfl:=lo0 Qk;simp only[bY,dA,bB,hb,h0]
   |some y=>
    obtain⟨k,i,rfl,q1,q2,rfl⟩:=lo1.2 y Qk;simp only[bY,dA,bB,hb,h0,wZ _ ⟨q1,q2⟩]
theorem nb{T:TypeId}{z:Nat}(h1:jU P T=av z)(h2:vi P T=aF):∃e,P.underlying T=av (.slice e)/\P.cellsOf e=z/\0 < z:=by
 unfold jU at h1;unfold vi at h2;split at h1
 ·rename_i n e hT;rw[hT]at h2;cases h2
 ·rename_i e hT;cases hc:P.cellsOf e with
  |zero=>rw[hc]at h1;cases h1
  |succ k=>
   rw[hc]at h1;simp only[aB]at h1;exact⟨e,hT,ao,ao⟩
 ·cases h1
theorem vT{T:TypeId}{z n:Nat}(h1:jU P T=av z)(h2:vi P T=av n):∃e,P.underlying T=av (.array n e)/\P.cellsOf e=z/\0 < z:=by
 unfold jU at h1;unfold vi at h2;split at h1
 ·rename_i n e hT;rw[hT]at h2;simp only[aB]at h2;subst h2;cases hc:P.cellsOf e with
  |zero=>rw[hc]at h1;cases h1
  |succ k=>
   rw[hc]at h1;simp only[aB]at h1;exact⟨e,hT,ao,ao⟩
 ·rename_i e hT;rw[hT]at h2;cases h2
 ·cases h1
theorem nC{e:TypeId}{z:Nat}(h:P.cellsOf e=z)(hz:0 < z)(w:World):(sizeOf e).run P w= .ok z w:=by
 unfold Program.cellsOf at h;cases hi:P.info? e with
 |none=>rw[hi]at h;simp at h;omega
 |some i=>rw[hi]at h;rw[run_sizeOf hi];simpa using h
set_option maxHeartbeats 1000000 in
theorem Ui(h:Inv C g β s a w){T:TypeId}{x:bF}{lo hi mx:Option bF}(ho:o.op= .slice T x lo hi mx)
  (hm:mx=aF\/∃m y hv mv,mx=av m/\hi=av y/\(asInt (s.ev y)).eval=av hv/\(asInt (s.ev m)).eval=av mv/\0<=hv/\hv<=mv/\mv<=aCh (s.ev x))
  {v:aE} (he:(Fe P s T (s.ev x) lo hi).eval=av v):eX P o a w (gw C (s.put o.dst (ado mx v))):=by
 have hx:=h.ev x;have fin:∀z,(Instr.sliceAt T (a.eval x) (lo.map a.eval) (hi.map a.eval) (mx.map a.eval)).run P w= .ok z w->VS (s.env w g β) (ado mx v) z->eX P o a w (gw C (s.put o.dst (ado mx v))):=by intro z h1 h2;exact h.value h2 (dK (f:=Instr.sliceAt T (a.eval x) (lo.map a.eval) (hi.map a.eval) (mx.map a.eval)) (by simp only[execOp,ho]) h1)
 have no:∀ {q:Prop},aCh (s.ev x)= -1->(mx=aF->q)->q:=by
  intro q h1 h2;rcases hm with h3 | ⟨_,_,hv,mv,_,_,_,_,h3,h4,h5⟩
  ·exact h2 h3
  ·omega
 have sl:∀(e:TypeId) (z:Nat) (ad:Option Addr) (len cap:Nat) (b:Nat×Nat),aCh (s.ev x)=(len:Int)->P.underlying T=av (.slice e)->P.cellsOf e=z->0 < z->a.eval x= .slice ad len cap->len<=cap->(bounds s len lo hi).eval=av b->
   ∃cap',(Instr.sliceAt T (a.eval x) (lo.map a.eval) (hi.map a.eval) (mx.map a.eval)).run P w= .ok (.slice (if cap'=b.1 then ad else ad.map (·.add (b.1*z))) (b.2 - b.1) (cap' - b.1)) w/\b.1<=b.2/\b.2<=len/\b.2<=cap'/\cap'<=cap/\(mx=aF->cap'=cap):=by
  intro e z ad len cap b hL hT hz ud hy ate hb;rcases hm with rfl | ⟨m,y,hv,mv,rfl,rfl,q1,q2,q3,q4,q5⟩
  ·obtain⟨h1,h2,h3⟩:=vz (P:=P) h ate hb aS (.inl ⟨rfl,rfl⟩);refine⟨cap,?_,h2,h3,ao,aC _,λ_=>rfl⟩;rw[hy];simp[Instr.sliceAt,Instr.slice,run_underlying hT,h1,nC hz ud]
  ·obtain⟨k,hk⟩:=xe (h.ev m) q2;have Qh:(b.2:Int)<=mv:=by obtain⟨hh,h1,h2⟩:=az.1 hb;obtain⟨i,r1,r2⟩:=az.1 h1;obtain⟨r3,r4⟩:=bQ.1 r2;obtain rfl:=aA.1 r4;obtain⟨ll,_,h4⟩:=az.1 h2;obtain rfl:=aA.1 h4;rw[q1]at r1;obtain rfl:=Option.some.inj r1;show((hv.toNat:Nat):Int)<=mv;omega
   obtain⟨h1,h2,h3⟩:=vz (P:=P) h ate hb aS (mx:=av (.int k mv)) (cap':=mv.toNat) (.inr ⟨k,mv,rfl,rfl,Qh,ao,rfl⟩);refine⟨mv.toNat,?_,h2,h3,ao,ao,λh=>by cases h⟩;rw[hy,da (a:=m),hk];simp[Instr.sliceAt,Instr.slice,run_underlying hT,nC hz ud];simp only[da]at h1;simp[h1]
 have ar:∀(e:TypeId) (z n:Nat) (ad:Addr) (b:Nat×Nat),mx=aF->P.underlying T=av (.array n e)->P.cellsOf e=z->0 < z->a.eval x= .pointer (av ad)->(bounds s n lo hi).eval=av b->
   (Instr.sliceAt T (a.eval x) (lo.map a.eval) (hi.map a.eval) (mx.map a.eval)).run P w= .ok (.slice (av (if n=b.1 then ad else ad.add (b.1*z))) (b.2 - b.1) (n - b.1)) w/\b.1<=b.2/\b.2<=n:=by
  intro e z n ad b hN hT hz ud hy hb;obtain⟨h1,h2,h3⟩:=vz (P:=P) h (aC n) hb bq (.inl ⟨rfl,rfl⟩);refine⟨?_,h2,h3⟩;rw[hy,hN];simp[Instr.sliceAt,Instr.sureAddr,run_underlying hT,h1,nC hz ud]
 have cutR:∀(t:Ty) (z:Nat) (ad ad':Option Addr) (len' cap':Nat) (vs:List Value) (l:List t.den) (b:Nat×Nat),z=t.size->Ar (s.env w g β) ad vs->bp (cV (s.env w g β) t) vs l->b.1<=b.2->b.2<=l.length->
   (∀bb off,ad=av ⟨bb,off,aF⟩->b.1 < b.2->ad'=av ⟨bb,off+b.1*z,aF⟩)->(b.1 < b.2->ad'.isSome=aS)->len'=b.2 - b.1->len'<=cap'->VS (s.env w g β) (.d (.slice t) (cut l b.1 (b.2 - b.1))) (.slice ad' len' cap'):=by
  intro t z ad ad' len' cap' vs l b hz hr hc h1 h2 aJ6 oY hlen hle;subst hz hlen;have atc:(cut l b.1 (b.2 - b.1)).length=b.2 - b.1:=BC ao;refine⟨_,?_,rfl⟩;simp only[V,cV];refine⟨ad',cap',(vs.drop (b.1*t.size)).take ((b.2 - b.1)*t.size),by rw[atc],ao,by rw[atc];intro hp;exact oY ao,?_,HI hc b.1 _⟩;intro i v hi;rw[de]at hi;split at hi
  ·rename_i aMD;rw[fR]at hi;obtain⟨bb,off,e,hh⟩:=hr _ v hi;have iI:b.1 < b.2:=by
    rcases nQ b.1 b.2 with h' | h'
    ·exact h'
    ·rw[jA h',lH]at aMD;omega
   exact⟨bb,_,aJ6 bb off e iI,by rw[dP];exact hh⟩
  ·cases hi
 unfold Fe at he;split at he
 ·rename_i st pO;rw[pO]at hx;have e1:=Fh hx;obtain⟨h1,h2⟩:=aH.1 he;obtain⟨b,h3,h4⟩:=az.1 h2;obtain rfl:=aA.1 h4;split at h1 <;> try (cases h1;done)
  rename_i hT;obtain⟨q1,q2,q3⟩:=vz (P:=P) h (aC _) h3 bq (.inl ⟨rfl,rfl⟩);refine no (by rw[pO];rfl) λhN=> ?_
  subst hN;refine fin (.string (st.extract b.1 b.2)) ?_ (YZ _)
  rw[e1];simp[Instr.sliceAt,Instr.slice,run_underlying hT,q1]
 ·rename_i t l hl;rw[hl]at hx;obtain⟨ad,cap,vs,hy,ate,oY,lb,dx⟩:=rK hx;obtain⟨h1,h2⟩:=aH.1 he;obtain⟨b,h3,h4⟩:=az.1 h2;obtain rfl:=aA.1 h4;split at h1 <;> try (cases h1;done)
  rename_i z Mb Kg;obtain⟨e,hT,hz,ud⟩:=nb Mb Kg;have aqa:z=t.size:=by simpa using h1
  obtain⟨cap',q1,q2,q3,q4,_,_⟩:=sl e z ad _ cap b (by rw[hl];rfl) hT hz ud hy ate h3;refine fin _ q1 ?_
  rw[show ado mx (.d (.slice t) (cut l b.1 (b.2 - b.1)))= .d (.slice t) (cut l b.1 (b.2 - b.1)) by cases mx <;> rfl];refine cutR t z ad _ _ _ vs l b aqa lb dx q2 q3 ?_ ?_ rfl ao
  ·intro bb off e1 iI;rw[if_neg ao,e1];simp[eQ]
  ·intro iI;rw[if_neg ao];have:=oY ao;cases ad <;> simp_all
 ·rename_i hl;rw[hl]at hx;have hy:=j4 hx;obtain⟨h1,h2⟩:=aH.1 he;obtain⟨b,h3,h4⟩:=az.1 h2;obtain rfl:=aA.1 h4;split at h1 <;> try (cases h1;done)
  rename_i z Mb Kg;obtain⟨e,hT,hz,ud⟩:=nb Mb Kg;obtain⟨cap',q1,q2,q3,q4,q6,q5⟩:=sl e z aF 0 0 b (by rw[hl];rfl) hT hz ud hy (aC _) h3;have Ja:b.1=0:=ao;have Qh:b.2=0:=ao;have Qi:cap'=0:=ao;refine fin _ q1 ?_
  rw[show ado mx .cX= .cX by cases mx <;> rfl,Ja,Qh,Qi];exact⟨_,by simp[V],rfl⟩
 ·rename_i id ver p c i len hl;rw[hl]at hx;obtain⟨ad,cap,hy,ate,oY,R7,ff⟩:=pz hx;obtain⟨r,aFC,he⟩:=az.1 he;obtain⟨h1,h2⟩:=aH.1 he;obtain⟨b,h3,h4⟩:=az.1 h2;obtain rfl:=aA.1 h4;split at h1 <;> try (cases h1;done)
  rename_i z Mb Kg;obtain⟨e,hT,hz,ud⟩:=nb Mb Kg;have aqa:z=r.2.1.size:=by simpa using h1
  obtain⟨cap',q1,q2,q3,q4,q6,q5⟩:=sl e z ad _ cap b (by rw[hl];rfl) hT hz ud hy ate h3;obtain⟨p',aHe,XH⟩:∃p',ado mx (.dj id ver p (c+b.1*r.2.1.size) (i+b.1) (b.2 - b.1))= .dj id ver p' (c+b.1*r.2.1.size) (i+b.1) (b.2 - b.1)/\(p'=[]->p=[]/\mx=aF):=by
   cases mx with
   |none=>exact⟨p,rfl,λh=>⟨h,rfl⟩⟩
   |some m=>exact⟨p++ [.arr],rfl,λh=>by simp at h⟩
  refine fin _ q1 ?_
  rw[aHe];refine⟨_,?_,rfl⟩;simp only[V];refine⟨_,_,rfl,ao,?_,R7,λhc=> ?_⟩
  ·intro iI;rw[if_neg ao];have:=oY ao;cases ad <;> simp_all
  ·have ff:=ff hc;cases hp:β id with
   |none=>
    have hp':(s.env w g β).β id=aF:=hp;rw[hp']at ff ⊢;simp only at ff ⊢;obtain⟨rfl,rfl,rfl⟩:=ff;have Qi:cap'=0:=ao;refine⟨by simp,ao,ao⟩
   |some pl=>
    have hp':(s.env w g β).β id=av pl:=hp;rw[hp']at ff ⊢;simp only at ff ⊢;refine⟨λhh=> ?_,λaKI aBf=> ?_⟩
    ·by_cases aFl:cap'=b.1
     ·rw[if_pos aFl];have aG7:b.1=0:=ao;rw[aG7,lH,cz];exact ff.1 (.inr ao)
     ·rw[if_neg aFl,ff.1 ao,<-aqa];simp[eQ]
    ·obtain⟨e1,e2⟩:=XH aKI;have:=ff.2 e1 ao;have:=q5 e2;omega
 ·rename_i id ver p n hl;rw[hl]at hx;obtain⟨ad,hy,R7,ff⟩:=sR hx;obtain⟨r,aFC,he⟩:=az.1 he;obtain⟨h1,h2⟩:=aH.1 he;obtain⟨h5,h6⟩:=bQ.1 h2;obtain⟨b,h3,h4⟩:=az.1 h6;obtain rfl:=aA.1 h4;split at h1 <;> try (cases h1;done)
  rename_i z m Mb Kg;obtain⟨e,hT,hz,ud⟩:=vT Mb Kg;have aqa:z=r.2.1.size:=by simpa using h1
  rw[Kg,dE]at h3;refine no (by rw[hl];rfl) λhN=> ?_
  obtain⟨q1,q2,q3⟩:=ar e z m ad b hN hT hz ud hy h3;subst hN;obtain⟨fr,c0,cI,_⟩:=Nv rfl h.bH aFC;obtain⟨pl,hp,apY⟩:=ff ⟨fr,c0,cI⟩;refine fin _ q1 ⟨_,?_,rfl⟩;simp only[ado,V];refine⟨_,_,rfl,ao,λ_=>rfl,R7,λ_=> ?_⟩;rw[hp];simp only;refine⟨λhh=> ?_,λaKI=>by simp at aKI⟩;rw[apY];by_cases aFl:m=b.1
  ·have aG7:b.1=0:=ao;rw[if_pos aFl,aG7,lH,cz]
  ·rw[if_neg aFl,<-aqa,eQ]
 ·rename_i n t l hl;rw[hl]at hx;obtain⟨bb,off,vs,hy,lb,hR⟩:=tI hx;obtain⟨h1,h2⟩:=aH.1 he;obtain⟨b,h3,h4⟩:=az.1 h2;obtain rfl:=aA.1 h4;split at h1 <;> try (cases h1;done)
  rename_i z m Mb Kg;obtain⟨e,hT,hz,ud⟩:=vT Mb Kg;simp only[au,dk]at h1;obtain⟨aqa,rfl⟩:=h1;refine no (by rw[hl];rfl) λhN=> ?_
  obtain⟨q1,q2,q3⟩:=ar e z m _ b hN hT hz ud hy h3;subst hN;simp only[cV]at hR;obtain⟨hlen,dx⟩:=hR;refine fin _ q1 (cutR t z (av ⟨bb,off,aF⟩) _ _ _ vs l b aqa lb dx q2 ao ?_ (λ_=>rfl) rfl ao);intro bb' off' e1 iI;simp only[aB,Addr.mk.injEq,gZ]at e1;obtain⟨rfl,rfl⟩:=e1;rw[if_neg ao,eQ]
 ·simp only[aw]at he
end
end Go.Ab
namespace Go.Ab
section
variable {P:aK} {C:Ctx} {g:Nat->kI} {β:Id->Option Pl} {s:AS} {a:Act} {w:World} {o:Oper}
theorem Sl(h:Inv C g β s a w){T:TypeId}{x y:bF}(ho:o.op= .indexAddr T x y){i:Int}(hi:(asInt (s.ev y)).eval=av i){v:aE}(he:(pQ P s T (s.ev x) i).eval=av v):eX P o a w (gw C (s.put o.dst v)):=by
 have hx:=h.ev x;obtain⟨k,hy⟩:=xe (h.ev y) hi;have fin:∀z,(Instr.indexAt T (a.eval x) (a.eval y)).run P w= .ok z w->VS (s.env w g β) v z->eX P o a w (gw C (s.put o.dst v)):=by intro z h1 h2;exact h.value h2 (dK (f:=Instr.indexAt T (a.eval x) (a.eval y)) (by simp only[execOp,ho]) h1)
 have sl:∀(e:TypeId) (z:Nat) (ad:Addr) (len cap:Nat),P.underlying T=av (.slice e)->P.cellsOf e=z->0 < z->a.eval x= .slice (av ad) len cap->0<=i/\i < (len:Int)->
   (Instr.indexAt T (a.eval x) (a.eval y)).run P w= .ok (.pointer (av (ad.add (i.toNat*z)))) w:=by
  intro e z ad len cap hT hz ud hv hb;rw[hv,hy];simp[Instr.indexAt,asIntOf,run_underlying hT,hb,nC hz ud]
 have ar:∀(e:TypeId) (z n:Nat) (ad:Addr),P.underlying T=av (.array n e)->P.cellsOf e=z->0 < z->a.eval x= .pointer (av ad)->0<=i/\i < (n:Int)->
   (Instr.indexAt T (a.eval x) (a.eval y)).run P w= .ok (.pointer (av (ad.add (i.toNat*z)))) w:=by
  intro e z n ad hT hz ud hv hb;rw[hv,hy];simp[Instr.indexAt,Instr.sureAddr,asIntOf,run_underlying hT,hb,nC hz ud]
 have elt:∀(t:Ty) (z:Nat) (bb off:Nat) (vs:List Value) (l:List t.den),z=t.size->Ar (s.env w g β) (av ⟨bb,off,aF⟩) vs->bp (cV (s.env w g β) t) vs l->0<=i/\i < (l.length:Int)->
   VS (s.env w g β) (.dN t (nth t l i.toNat)) (.pointer (av ⟨bb,off+i.toNat*z,aF⟩)):=by
  intro t z bb off vs l hz hr hc hb;subst hz;have iI:i.toNat < l.length:=ao;rw[Tf iI];obtain⟨hp,_⟩:=Li hc iI;refine⟨_,?_,rfl⟩;simp only[V];refine⟨_,_,_,rfl,λj v hj=> ?_,hp⟩;rw[de]at hj;split at hj
  ·rw[fR]at hj;obtain⟨b',o',e,hh⟩:=hr _ v hj;simp only[aB,Addr.mk.injEq,gZ]at e;obtain⟨rfl,rfl⟩:=e;exact⟨_,_,rfl,by rw[dP];exact hh⟩
  ·cases hj
 unfold pQ at he;split at he
 ·rename_i t l hl;rw[hl]at hx;obtain⟨ad,cap,vs,hv,ate,oY,lb,dx⟩:=rK hx;obtain⟨h1,h2⟩:=aH.1 he;obtain⟨h3,h4⟩:=bQ.1 h2;obtain rfl:=aA.1 h4;simp only[aP]at h3;split at h1 <;> try (cases h1;done)
  rename_i z Mb Kg;obtain⟨e,hT,hz,ud⟩:=nb Mb Kg;have aqa:z=t.size:=by simpa using h1
  have hlen:=bp.length (λc x hx=>cV.size hx) dx;have iI:i.toNat < l.length:=ao;have h0:0 < vs.length:=by rw[hlen];exact Nat.mul_pos ao ao
  obtain⟨bb,off,e1,_⟩:=lb 0 vs[0] (by simp[h0]);subst e1;have:=sl e z _ _ cap hT hz ud hv h3;rw[eQ]at this;exact fin _ this (elt t z bb off vs l aqa lb dx h3)
 ·rename_i n t l hl;rw[hl]at hx;obtain⟨bb,off,vs,hv,lb,hR⟩:=tI hx;obtain⟨h1,h2⟩:=aH.1 he;obtain⟨h3,h4⟩:=bQ.1 h2;obtain rfl:=aA.1 h4;simp only[aP]at h3;split at h1 <;> try (cases h1;done)
  rename_i z m Mb Kg;obtain⟨e,hT,hz,ud⟩:=vT Mb Kg;simp only[au,dk]at h1;obtain⟨aqa,rfl⟩:=h1;simp only[cV]at hR;have:=ar e z m _ hT hz ud hv h3;rw[eQ]at this;exact fin _ this (elt t z bb off vs l aqa lb hR.2 (by rw[hR.1];exact h3))
 ·rename_i id ver p c j len hl;rw[hl]at hx;obtain⟨ad,cap,hv,ate,oY,R7,ff⟩:=pz hx;obtain⟨r,aFC,he⟩:=az.1 he;obtain⟨h1,h2⟩:=aH.1 he;obtain⟨h3,h4⟩:=bQ.1 h2;obtain rfl:=aA.1 h4;simp only[aP]at h3;split at h1 <;> try (cases h1;done)
  rename_i z Mb Kg;obtain⟨e,hT,hz,ud⟩:=nb Mb Kg;have aqa:z=r.2.1.size:=by simpa using h1
  have hs:=oY ao;obtain⟨ad',rfl⟩:=cd.1 hs;refine fin _ (sl e z ad' len cap hT hz ud hv h3) ⟨_,?_,rfl⟩;simp only[V];refine⟨_,rfl,R7,λhc=> ?_⟩;have ff:=ff hc;cases hp:β id with
  |none=>
   have hp':(s.env w g β).β id=aF:=hp;rw[hp']at ff;exact absurd ff.1 (by simp)
  |some pl=>
   have hp':(s.env w g β).β id=av pl:=hp;rw[hp']at ff;have e1:=ff.1 (.inl ao);simp only[aB]at e1;exact⟨pl,hp,by rw[e1,eQ,aqa]⟩
 ·rename_i id ver p n hl;rw[hl]at hx;obtain⟨ad,hv,R7,ff⟩:=sR hx;obtain⟨h1,h2⟩:=aH.1 he;obtain⟨h3,h4⟩:=bQ.1 h2;obtain rfl:=aA.1 h4;simp only[aP]at h3;split at h1 <;> try (cases h1;done)
  rename_i z m Mb Kg;obtain⟨e,hT,hz,ud⟩:=vT Mb Kg;rw[Kg,dE]at h3;refine fin _ (ar e z m ad hT hz ud hv h3) ⟨_,?_,rfl⟩;simp only[V];refine⟨_,rfl,R7,λhc=> ?_⟩;obtain⟨pl,hp,apY⟩:=ff hc;exact⟨pl,hp,by rw[apY,eQ,Mb,dE]⟩
 ·simp only[aw]at he
theorem C0{T:TypeId}{f off:Nat}{ft:TypeId}(h:fieldInfo P T f=av (off,ft)):∃fs fd,P.underlying T=av (.struct fs)/\fs[f]? =av fd/\fd.offset=off/\fd.type=ft:=by
 unfold fieldInfo at h;split at h
 ·rename_i fs hT;split at h
  ·rename_i fd hf;simp only[aB,cG]at h;exact⟨fs,fd,hT,hf,h.1,h.2⟩
  ·cases h
 ·cases h
theorem Cb{E:Env}:∀(x:aE) (f off:Nat) (v:aE) (cs:List Value),V E x cs->partOf x f=av (off,v)->V E v ((cs.drop off).take v.size)/\off+v.size<=cs.length:=by
 intro x f
 induction f generalizing x with
 |zero=>
  intro off v cs hx h;cases x with
  |d t y=>
   cases t <;> simp only[partOf,reduceCtorEq]at h;rename_i ta tb;simp only[aB,cG]at h;obtain⟨rfl,rfl⟩:=h;simp only[V,cV]at hx ⊢;obtain⟨ca,cb,rfl,ha,hb⟩:=hx;have:=ha.size;simp only[aE.size,aL,aq,Nat.zero_add];rw[List.take_left' this];exact⟨ha,ao⟩
  |pr b c=>
   simp only[partOf,aB,cG]at h;obtain⟨rfl,rfl⟩:=h;simp only[V]at hx;obtain⟨ca,cb,rfl,ha,hb⟩:=hx;have:=ha.size;simp only[aL,aq,Nat.zero_add];rw[List.take_left' this];exact⟨ha,ao⟩
  |_=>simp only[partOf,reduceCtorEq]at h
 |succ f ih=>
  intro off v cs hx h;have second:∀(ca cb:List Value) (n:Nat) (b:aE),cs=ca++cb->ca.length=n->V E b cb->(match partOf b f with | some (o,v)=>av (n+o,v) | none=>aF)=av (off,v)->V E v ((cs.drop off).take v.size)/\off+v.size<=cs.length:=by
   intro ca cb n b e hl hb hh;cases hp:partOf b f with
   |none=>rw[hp]at hh;cases hh
   |some r=>
    obtain⟨o',v'⟩:=r;rw[hp]at hh;simp only[aB,cG]at hh;obtain⟨rfl,rfl⟩:=hh;obtain⟨h1,h2⟩:=ih b o' v' cb hb hp;subst e;rw[<-hl,ji,eh ao,aR,kP];exact⟨h1,by simp only[aq];omega⟩
  cases x with
  |d t y=>
   cases t with
   |pair ta tb=>
    simp only[partOf]at h;simp only[V,cV]at hx;obtain⟨ca,cb,e,ha,hb⟩:=hx;exact second ca cb ta.size (.d tb y.2) e ha.size (by simpa only[V]using hb) h
   |_=>simp only[partOf,reduceCtorEq]at h
  |pr b c=>
   simp only[partOf]at h;simp only[V]at hx;obtain⟨ca,cb,e,ha,hb⟩:=hx;exact second ca cb b.size c e ha.size hb h
  |_=>simp only[partOf,reduceCtorEq]at h
theorem RQ(h:Inv C g β s a w){T:TypeId}{x:bF}{f:Nat}(ho:o.op= .fieldAddr T x f){v:aE}(he:(BJ P T (s.ev x) f).eval=av v):eX P o a w (gw C (s.put o.dst v)):=by
 have hx:=h.ev x;unfold BJ at he;split at he
 ·rename_i off ft hf;obtain⟨fs,fd,hT,aJs,rfl,rfl⟩:=C0 hf;obtain⟨h1,h2⟩:=aH.1 he;have hz:P.cellsOf fd.type≠0:=by simpa using h1
  have run:∀bb n,a.eval x= .pointer (av ⟨bb,n,aF⟩)->(Instr.fieldAt T (a.eval x) f).run P w= .ok (.pointer (av ⟨bb,n+fd.offset,aF⟩)) w:=by intro bb n hy;rw[hy];simp[Instr.fieldAt,run_underlying hT,aJs,Instr.sureAddr,fieldPlace,nC (P:=P) (e:=fd.type) rfl ao,hz,eQ]
  have runS:∀ad,a.eval x= .pointer (av ad)->(Instr.fieldAt T (a.eval x) f).run P w= .ok (.pointer (av (ad.add fd.offset))) w:=by intro ad hy;rw[hy];simp[Instr.fieldAt,run_underlying hT,aJs,Instr.sureAddr,fieldPlace,nC (P:=P) (e:=fd.type) rfl ao,hz]
  have fin:∀z,(Instr.fieldAt T (a.eval x) f).run P w= .ok z w->VS (s.env w g β) v z->eX P o a w (gw C (s.put o.dst v)):=by intro z h1 h2;exact h.value h2 (dK (f:=Instr.fieldAt T (a.eval x) f) (by simp only[execOp,ho]) h1)
  split at h2
  ·rename_i id ver p n hl;rw[hl]at hx;obtain rfl:=aA.1 h2;obtain⟨ad,hy,R7,ff⟩:=sR hx;refine fin _ (runS ad hy) ⟨_,?_,rfl⟩;simp only[V];refine⟨_,rfl,R7,λhc=> ?_⟩;obtain⟨pl,hp,apY⟩:=ff hc;exact⟨pl,hp,by rw[apY,eQ]⟩
  ·rename_i t y hl;rw[hl]at hx;obtain⟨bb,off,vs,hy,lb,hR⟩:=tI hx;split at h2
   ·rename_i o' t' y' hp;obtain⟨h3,h4⟩:=aH.1 h2;obtain rfl:=aA.1 h4;have h3:fd.offset=o':=by simpa using h3
    obtain⟨hV,hle⟩:=Cb (.d t y) f o' (.d t' y') vs (by simpa only[V]using hR) hp;refine fin _ (run bb off hy) ⟨_,?_,rfl⟩;simp only[V]at hV ⊢;refine⟨_,_,_,rfl,λj u hj=> ?_,hV⟩;rw[de]at hj;split at hj
    ·rw[fR]at hj;obtain⟨b',o'',e,hh⟩:=lb _ u hj;simp only[aB,Addr.mk.injEq,gZ]at e;obtain⟨rfl,rfl⟩:=e;exact⟨_,_,rfl,by rw[h3,dP];exact hh⟩
    ·cases hj
   ·simp only[aw]at h2
  ·rename_i t q hl;obtain⟨y,e,h5⟩:=uc.1 h2;subst e;rw[hl]at hx;have hx:=J3 hx;obtain⟨bb,off,vs,hy,lb,hR⟩:=tI hx;split at h5
   ·rename_i o' t' y' hp;obtain⟨h3,h4⟩:=aH.1 h5;obtain rfl:=aA.1 h4;have h3:fd.offset=o':=by simpa using h3
    obtain⟨hV,hle⟩:=Cb (.d t y) f o' (.d t' y') vs (by simpa only[V]using hR) hp;refine fin _ (run bb off hy) ⟨_,?_,rfl⟩;simp only[V]at hV ⊢;refine⟨_,_,_,rfl,λj u hj=> ?_,hV⟩;rw[de]at hj;split at hj
    ·rw[fR]at hj;obtain⟨b',o'',e,hh⟩:=lb _ u hj;simp only[aB,Addr.mk.injEq,gZ]at e;obtain⟨rfl,rfl⟩:=e;exact⟨_,_,rfl,by rw[h3,dP];exact hh⟩
    ·cases hj
   ·simp only[aw]at h5
  ·simp only[aw]at h2
 ·simp only[aw]at he
theorem Va{x:aE}{f:Nat}{r:Nat×aE}(h:partOf x f=av r):x.agg=aS/\x.ew=aS:=by
 cases x with
 |d t y=>cases t <;> cases f <;> simp[partOf]at h <;> exact⟨rfl,rfl⟩
 |pr b c=>exact⟨rfl,rfl⟩
 |_=>cases f <;> simp[partOf]at h
theorem D0{T:TypeId}{v:aE}(h:fits P T v=aS):Il P T v.agg=aS/\P.cellsOf T=v.size/\v.ew=aS:=by unfold fits at h;simp only[au,dk]at h;exact⟨h.2,h.1.2,h.1.1⟩
theorem aip(h:Inv C g β s a w){T:TypeId}{x:bF}{f:Nat}(ho:o.op= .field T x f){v:aE}(he:(ZM P T (s.ev x) f).eval=av v):eX P o a w (gw C (s.put o.dst v)):=by
 have hx:=h.ev x;unfold ZM at he;split at he
 ·rename_i off ft o' v' hf hp;obtain⟨fs,fd,hT,aJs,rfl,rfl⟩:=C0 hf;obtain⟨h1,h2⟩:=aH.1 he;obtain rfl:=aA.1 h2;simp only[au,dk]at h1;obtain⟨rfl,R9⟩:=h1;obtain⟨I9,aiy⟩:=Va hp;obtain⟨cs,hV,hO⟩:=hx.ew aiy;rw[I9]at hO;have hy:a.eval x= .agg cs.toArray:=hO;obtain⟨hVp,hle⟩:=Cb _ _ _ _ cs hV hp;obtain⟨q1,q2,q3⟩:=D0 R9;obtain⟨y,hr,hOy⟩:=uF (w:=w) q1 q2 (λhh=>aE.agn hh) hle;refine h.value (VS.of hVp hOy) (dK (f:=Instr.field T (a.eval x) f) (by simp only[execOp,ho]) ?_);rw[hy];simp[Instr.field,run_underlying hT,aJs,asAgg,hr]
 ·simp only[aw]at he
theorem aiS(h:Inv C g β s a w){T:TypeId}{x y:bF}(ho:o.op= .index T x y){i:Int}(hi:(asInt (s.ev y)).eval=av i){v:aE}(he:(aac P T (s.ev x) i).eval=av v):eX P o a w (gw C (s.put o.dst v)):=by
 have hx:=h.ev x;obtain⟨k,hy⟩:=xe (h.ev y) hi;have fin:∀z,(Instr.index T (a.eval x) (a.eval y)).run P w= .ok z w->VS (s.env w g β) v z->eX P o a w (gw C (s.put o.dst v)):=by intro z h1 h2;exact h.value h2 (dK (f:=Instr.index T (a.eval x) (a.eval y)) (by simp only[execOp,ho]) h1)
 unfold aac at he;split at he
 ·rename_i n t l m e hl hT;rw[hl]at hx;obtain⟨h1,h2⟩:=aH.1 he;obtain⟨h3,h4⟩:=bQ.1 h2;obtain rfl:=aA.1 h4;simp only[au,dk,aP]at h1 h3;obtain⟨rfl,R9⟩:=h1;obtain⟨q1,q2,q3⟩:=D0 R9;obtain⟨cs,hV,hO⟩:=hx.ew rfl;have aNf:a.eval x= .agg cs.toArray:=hO;simp only[V,cV]at hV;obtain⟨hlen,dx⟩:=hV;have iI:i.toNat < l.length:=ao;obtain⟨hp,hle⟩:=Li dx iI;have q2':P.cellsOf e=t.size:=q2;have q1':Il P e t.agg=aS:=q1;obtain⟨y',hr,hOy⟩:=uF (w:=w) q1' q2' uI hle;obtain⟨j,hj,_⟩:=wg q1';rw[<-Tf iI]at hp;refine fin y' ?_ (VS.of (by simpa only[V]using hp) hOy)
  rw[aNf,hy];have sh:=run_sizeOf hj w;rw[<-lM hj,q2']at sh;simp[Instr.index,asIntOf,run_underlying hT,h3,sh,hr]
 ·rename_i st hl hT;rw[hl]at hx;obtain⟨h3,h4⟩:=bQ.1 he;obtain rfl:=aA.1 h4;simp only[aP]at h3;have e1:=Fh hx;have iI:i.toNat < st.data.toList.length:=by
   have:st.size=st.data.toList.length:=by rw[cO];rfl
   omega
  have aKh:st[i.toNat]? =av (st.data.toList[i.toNat]):=by have hlt':i.toNat < st.size:=ao;rw[getElem?_pos st i.toNat hlt'];rfl
  refine fin (.int .u8 ((st.data.toList.getD i.toNat 0).toNat:Int)) ?_ (kf _ _)
  rw[e1,hy];simp[Instr.index,asIntOf,run_underlying hT,h3.1,aKh,List.getD_eq_getElem?_getD,cm iI]
 ·simp only[aw]at he
theorem aEJ{E:Env}:∀(c:aE) (vs:List Value) (i:Nat) (v:aE),VC E c vs->c.list[i]? =av v->∃y,vs[i]? =av y/\VS E v y:=by
 intro c
 induction c with
 |cons x y _ ih=>
  intro vs i v hc hi;simp only[VC]at hc;obtain⟨u,vs',cs,rfl,hV,hO,hc⟩:=hc;cases i with
  |zero=>
   simp only[aE.list,fe,aB]at hi;subst hi;exact⟨u,rfl,VS.of hV hO⟩
  |succ i=>
   simp only[aE.list,kN]at hi ⊢;exact ih vs' i v hc hi
 |_=>intro vs i v hc hi;simp[aE.list]at hi
theorem ZH(h:Inv C g β s a w){x:bF}{i:Nat}(ho:o.op= .extract x i){v:aE}(he:(Out.opt ((s.ev x).list[i]?)).eval=av v):eX P o a w (gw C (s.put o.dst v)):=by
 have hx:=h.ev x;have he:=jo.1 he;cases hc:s.ev x with
 |cons p q=>
  rw[hc]at hx he;obtain⟨vs,hy,hVC⟩:=hx;obtain⟨y,hv,hVS⟩:=aEJ _ vs i v hVC he;refine h.value hVS (dK (f:=Instr.extract (a.eval x) i) (by simp only[execOp,ho]) ?_);rw[hy];simp[Instr.extract,hv]
 |_=>rw[hc]at he;simp[aE.list]at he
theorem ami(h:Inv C g β s a w):∀(l:List bF),xg (pI s l)=aS->VC (s.env w g β) (pI s l) (l.map a.eval)
 |[],_=>by simp[pI,VC]
 |x::xs,hc=>by simp only[pI,xg,au]at hc;obtain⟨cs,hV,hO⟩:=(h.ev x).ew hc.1;simp only[pI,VC,bE];exact⟨_,_,cs,rfl,hV,hO,ami h xs hc.2⟩
theorem VJ(h:Inv C g β s a w){f:gg}{first caps:Array bF}(ho:o.op= .makeFunc (.func f) first caps)(h1:first.isEmpty=aS)(h2:xg (pI s caps.toList)=aS):
  eX P o a w (gw C (s.put o.dst (.fn f (pI s caps.toList)))):=by
 have hf:first= #[]:=by simpa using h1
 refine h.value (x:= .func (.func f) #[] (caps.toList.map a.eval).toArray) ⟨_,?_,rfl⟩ (dK (f:=Instr.makeFunc (.func f) (first.map a.eval) (caps.map a.eval)) (by simp only[execOp,ho]) ?_)
 ·simp only[V];exact⟨_,rfl,ami h _ h2⟩
 ·subst hf;have:caps.map a.eval=(caps.toList.map a.eval).toArray:=by apply fB;simp
  simp[Instr.makeFunc,this]
theorem alR(h:Inv C g β s a w){T:TypeId}{x:bF}(ho:o.op= .sliceToArrayPointer T x){s':AS}(he:(I0 P s o.dst T (s.ev x)).eval=av s'):eX P o a w (gw C s'):=by
 have hx:=h.ev x;unfold I0 at he;split at he
 ·rename_i n e hT;split at he
  ·rename_i t ht;obtain⟨h1,h2⟩:=aH.1 he;obtain⟨l,h3,h4⟩:=az.1 h2;obtain⟨h5,h6⟩:=bQ.1 h4;obtain rfl:=aA.1 h6;simp only[au,cr,dk,fC,aP]at h1 h5;obtain⟨⟨hz,hn⟩,aBy⟩:=h1;obtain⟨g1,i1,e1,t1,cs,hR,hO⟩:=yq h hx h3;simp only[cV]at hR;obtain⟨ad,cap,vs,rfl,ate,oY,lb,dx⟩:=hR;have hO': [Value.slice ad (ae l) cap]=[a.eval x]:=hO;have hy:a.eval x= .slice ad (ae l) cap:=by simpa using hO'.symm
   have hlen:=bp.length (λc x hx=>cV.size hx) dx;have h0:0 < vs.length:=by rw[hlen];exact Nat.mul_pos ao ao
   obtain⟨bb,off,e2,_⟩:=lb 0 vs[0] (by simp[h0]);subst e2;refine .inl ⟨.pointer (av ⟨bb,off,aF⟩),w,?_,g1,β,i1.put o.dst ⟨_,?_,rfl⟩⟩
   ·refine dK (f:=Instr.arrayAt T (a.eval x)) (by simp only[execOp,ho]) ?_
    rw[hy];have:¬ae l < n:=ao;simp[Instr.arrayAt,run_underlying hT,this]
   ·simp only[V];refine⟨bb,off,vs.take (n*t.size),rfl,λj u hj=> ?_,?_⟩
    ·rw[de]at hj;split at hj
     ·exact lb j u hj
     ·cases hj
    ·simp only[cV];exact⟨by simp;omega,bp.take (λ_ _ hx=>hx.size) n dx⟩
  ·simp only[aw]at he
 ·simp only[aw]at he
end
end Go.Ab
namespace Go.Ab
theorem SJ{α:Type}{f:α->α->Bool}(hf:∀x y,f x y=aS->x=y):∀ {xs ys:List α},lS f xs ys=aS->xs=ys
 |[],[],_=>rfl
 |x::xs,y::ys,h=>by simp only[lS,au]at h;rw[hf _ _ h.1,SJ hf h.2]
 |[],_::_,h=>by simp[lS]at h
 |_::_,[],h=>by simp[lS]at h
theorem beq_eq:∀(t:Ty) (x y:t.den),t.comp=aS->t.beq x y=aS->x=y
 | .int _,x,y,_,h=>by simpa[Ty.beq]using h
 | .bool,x,y,_,h=>by simpa[Ty.beq]using h
 | .str,x,y,_,h=>by
  have h:(x:ByteArray).toList=(y:ByteArray).toList:=by simpa[Ty.beq]using h
  rw[Go.ByteArray.toList_eq,Go.ByteArray.toList_eq]at h;exact ByteArray.ext (Array.toList_inj.1 h)
 | .slice _,_,_,h,_=>by simp[Ty.comp]at h
 | .unit,_,_,_,_=>rfl
 | .pair a b,x,y,hc,h=>by simp only[Ty.comp,au]at hc;simp only[Ty.beq,au]at h;exact Prod.ext (beq_eq a _ _ hc.1 h.1) (beq_eq b _ _ hc.2 h.2)
 | .arr _ t,x,y,hc,h=>SJ (λx y=>beq_eq t x y hc) h
def Plain(c:Value):Prop:=∀n,Instr.sameBits n c c=aS
theorem cV.plain{E:Env}:∀ {t:Ty} {cs:List Value} {x:t.den},t.comp=aS->cV E t cs x->∀c∈cs,Plain c
 | .int _,_,_,_,h,c,hc,n=>by simp only[cV]at h;rw[h,List.mem_singleton]at hc;subst hc;cases n <;> simp[Instr.sameBits]
 | .bool,_,_,_,h,c,hc,n=>by simp only[cV]at h;rw[h,List.mem_singleton]at hc;subst hc;cases n <;> simp[Instr.sameBits]
 | .str,_,_,_,h,c,hc,n=>by simp only[cV]at h;rw[h,List.mem_singleton]at hc;subst hc;cases n <;> exact(Go.MapKept.bytes_beq _ _).2 rfl
 | .slice _,_,_,hc,_,_,_,_=>by simp[Ty.comp]at hc
 | .unit,_,_,_,h,c,hc,_=>by simp only[cV]at h;rw[h]at hc;cases hc
 | .pair a b,_,_,hp,h,c,hc,n=>by
  simp only[Ty.comp,au]at hp;simp only[cV]at h;obtain⟨ca,cb,rfl,ha,hb⟩:=h;rcases bt.1 hc with hc | hc
  ·exact cV.plain hp.1 ha c hc n
  ·exact cV.plain hp.2 hb c hc n
 | .arr _ t,_,_,hp,h,c,hc,n=>by simp only[cV]at h;exact bp.all (p:=Plain) (λc x hx v hv=>cV.plain (t:=t) hp hx v hv) h.2 c hc n
theorem cV.aEW{E:Env}:∀ {t:Ty} {cs cs':List Value} {x:t.den},t.comp=aS->cV E t cs x->cV E t cs' x->cs=cs'
 | .int _,_,_,_,_,h,h'=>by simp only[cV]at h h';rw[h,h']
 | .bool,_,_,_,_,h,h'=>by simp only[cV]at h h';rw[h,h']
 | .str,_,_,_,_,h,h'=>by simp only[cV]at h h';rw[h,h']
 | .slice _,_,_,_,hc,_,_=>by simp[Ty.comp]at hc
 | .unit,_,_,_,_,h,h'=>by simp only[cV]at h h';rw[h,h']
 | .pair a b,_,_,_,hp,h,h'=>by simp only[Ty.comp,au]at hp;simp only[cV]at h h';obtain⟨ca,cb,rfl,ha,hb⟩:=h;obtain⟨ca',cb',rfl,ha',hb'⟩:=h';rw[cV.aEW hp.1 ha ha',cV.aEW hp.2 hb hb']
 | .arr _ t,cs,cs',x,hp,h,h'=>by
  simp only[cV]at h h';have key:∀(l:List t.den) (cs cs':List Value),bp (cV E t) cs l->bp (cV E t) cs' l->cs=cs':=by
   intro l
   induction l with
   |nil=>intro cs cs' h h';have h:cs=[]:=h;have h':cs'=[]:=h';rw[h,h']
   |cons x l ih=>
    intro cs cs' h h';obtain⟨c,r,rfl,hx,hr⟩:=h;obtain⟨c',r',rfl,hx',hr'⟩:=h';rw[cV.aEW (t:=t) hp hx hx',ih _ _ hr hr']
  exact key _ _ _ h.2 h'.2
theorem Aq.aEW{E:Env}{t:Ty}{v v':Value}{x:t.den}(hc:t.comp=aS)(h:Aq E t v x)(h':Aq E t v' x):v=v':=by
 obtain⟨cs,h1,h2⟩:=h;obtain⟨cs',h1',h2'⟩:=h';have e:=cV.aEW hc h1 h1';subst e;unfold fw at h2 h2';cases ha:t.agg with
 |true=>rw[ha]at h2 h2';rw[h2,h2']
 |false=>
  rw[ha]at h2 h2';have h2:cs=[v]:=h2;have h2':cs=[v']:=h2';rw[h2]at h2';simpa using h2'
theorem Aq.same{E:Env}{t:Ty}{v:Value}{x:t.den}(hc:t.comp=aS)(h:Aq E t v x):Instr.sameBits 10000 v v=aS:=by
 obtain⟨cs,h1,h2⟩:=h;have hp:=cV.plain hc h1;unfold fw at h2;cases ha:t.agg with
 |true=>
  rw[ha]at h2;have h2:v= .agg cs.toArray:=h2;subst h2;simp only[Instr.sameBits,beq_self_eq_true,bD,cS];intro p hp';obtain⟨a,b⟩:=p;have:∀(l:List Value),(a,b)∈l.zip l->a∈l/\a=b:=by
   intro l
   induction l with
   |nil=>intro h;simp at h
   |cons y l ih=>
    intro h;simp only[List.zip_cons_cons,bI,cG]at h;rcases h with⟨rfl,rfl⟩ | h
    ·exact⟨aM,rfl⟩
    ·exact⟨aN _ (ih h).1,(ih h).2⟩
  obtain⟨hm,rfl⟩:=this _ hp';exact hp a (by simpa using hm) _
 |false=>
  rw[ha]at h2;have h2:cs=[v]:=h2;subst h2;exact hp v (by simp) _
theorem ar8{P:aK}{w:World}{E:Env}{t:Ty}{v:Value}{x:t.den}(hc:t.comp=aS)(h:Aq E t v x):(Instr.keyThatStays v v).run P w= .ok v w:=by unfold Instr.keyThatStays;rw[if_pos (h.same hc)];rfl
section
variable {P:aK} {w:World} {E:Env}
theorem xr:∀(n:Nat) (T:TypeId) (t:Ty),qc P n T t=aS->t.comp=aS
 | 0,T,t,h=>by simp[qc]at h
 |n+1,T,t,h=>by
  simp only[qc]at h;split at h
  ·rfl
  ·rfl
  ·rfl
  ·rename_i m e m' t' hT;simp only[au]at h;exact xr n e t' h.2
  ·rename_i t0 _ _ fs hT;simp only[au]at h;have key:∀(fl:List Field) (t:Ty) (off:Nat),H2 P (qc P n) fl t off=aS->t.comp=aS:=by
    intro fl
    induction fl with
    |nil=>intro t off hc;cases t <;> first | rfl | (simp[H2]at hc;done)
    |cons f fl ih=>
     intro t off hc;cases t <;> first | (simp[H2]at hc;done) | skip
     rename_i ta tb;simp only[H2,au]at hc;simp only[Ty.comp,au];exact⟨xr n _ _ hc.1.2,ih tb _ hc.2⟩
   exact key _ _ _ h.2
  ·cases h
theorem mV(em:Bool):∀(n:Nat) (T:TypeId) (t:Ty),qc P n T t=aS->∀(d:Nat),n<=d->∀(v:Value) (x:t.den),Aq E t v x->(Instr.checkKey em d T v).run P w= .ok () w
 | 0,T,t,h,_,_,_,_,_=>by simp[qc]at h
 |n+1,T,t,h,0,hd,_,_,_=>ao
 |n+1,T,t,h,d+1,hd,v,x,⟨cs,hx,hv⟩=>by
  simp only[qc]at h;split at h
  ·rename_i hT;simp only[cV]at hx;have e1:cs=[v]:=hv;rw[hx]at e1;simp only[ee,gZ]at e1;subst e1;simp[Instr.checkKey,run_underlying hT]
  ·rename_i hT;simp only[cV]at hx;have e1:cs=[v]:=hv;rw[hx]at e1;simp only[ee,gZ]at e1;subst e1;simp[Instr.checkKey,run_underlying hT]
  ·rename_i hT;simp only[cV]at hx;have e1:cs=[v]:=hv;rw[hx]at e1;simp only[ee,gZ]at e1;subst e1;simp[Instr.checkKey,run_underlying hT]
  ·rename_i m e m' t' hT;simp only[au,dk]at h;obtain⟨⟨⟨⟨rfl,aBy⟩,sh⟩,I9⟩,dx⟩:=h;simp only[cV]at hx;obtain⟨aKw,aKb⟩:=hx;have e1:v= .agg cs.toArray:=hv;subst e1;obtain⟨i,hi,adJ⟩:=wg I9;have hsz':=sh;rw[lM hi]at hsz';simp only[Instr.checkKey,bY,run_underlying hT,bB];simp only[Std.Legacy.Range.forIn_eq_forIn_range'];have hm:([:m]:Std.Legacy.Range).size=m:=by simp[Std.Legacy.Range.size]
   rw[hm];have aht:∀c z,cV E t' c z->c.length=t'.size:=λc z hz=>hz.size
   have bx:t'.agg=bq->t'.size=1:=uI
   have key:∀(k:Nat) (x:List t'.den) (j:Nat),x.length=k->bp (cV E t') (cs.drop (j*t'.size)) x->
     (forIn (List.range' j k) () λi __s=>(do
      let __do_lift <-sizeOf e
      let __do_lift <-part e cs.toArray (i*__do_lift)
      Instr.checkKey em d e __do_lift
      pure (ForInStep.yield ()):Sem (ForInStep Unit))).run P w= .ok () w:=by
    intro k
    induction k with
    |zero=>intro x j _ _;rfl
    |succ k ih=>
     intro x j hx hcx';cases x with
     |nil=>simp at hx
     |cons x0 xs=>
      have gx:=bp.get aht hcx' 0 (by simp);simp only[lH,aL,List.getElem_cons_zero]at gx;have lenx:((cs.drop (j*t'.size)).take t'.size).length=t'.size:=gx.size;have Mb:t'.size≠0:=by simpa using aBy
      have aKq:j*t'.size+t'.size<=cs.length:=by simp only[dD,eK]at lenx;omega
      obtain⟨ux,h1,o1⟩:=uF (w:=w) I9 sh bx (cs:=cs) (off:=j*t'.size) aKq;have h3:=mV em n e t' dx d ao ux x0 ⟨_,gx,o1⟩;have nx:bp (cV E t') (cs.drop ((j+1)*t'.size)) xs:=by have:=bp.drop aht 1 hcx';rw[fi]at this;simpa[ei]using this
      have:=ih xs (j+1) (by simpa using hx) nx;rw[List.range'_succ,List.forIn_cons];simp only[bY,run_sizeOf hi,hsz',h1,h3,bB,dA];exact this
   exact(cf (λr:Result Unit=>r.andThen λ_ w'=>Sem.run P (pure ()) w') (key m x 0 aKw (by simpa using aKb))).trans rfl
  ·rename_i t0 _ _ fs hT;simp only[au,cr]at h;obtain⟨pO,aBe⟩:=h;have I9:t0.agg=aS:=by cases hl:fs.toList <;> rw[hl]at aBe <;> cases t0 <;> first | rfl | (simp[H2]at aBe;done)
   rw[I9]at hv;have e1:v= .agg cs.toArray:=hv;subst e1
   have key:∀(fl:List Field) (t:Ty) (off:Nat),H2 P (qc P n) fl t off=aS->∀(x:t.den),cV E t (cs.drop off) x->
     (forIn fl () λf __s=>(do
      if f.name≠ "_" then
       let __do_lift <-part f.type cs.toArray f.offset
       Instr.checkKey em d f.type __do_lift
       pure (ForInStep.yield ())
      else pure (ForInStep.yield ()):Sem (ForInStep Unit))).run P w= .ok () w:=by
    intro fl
    induction fl with
    |nil=>intro t off _ x _;rfl
    |cons f fl ih=>
     intro t off hc x hx;cases t <;> first | (simp[H2]at hc;done) | skip
     rename_i ta tb;simp only[H2,au,cr,dk,fC]at hc;obtain⟨⟨⟨⟨⟨⟨az9,aBo⟩,hz⟩,sh⟩,I9⟩,dx⟩,avN⟩:=hc;simp only[cV]at hx;obtain⟨xa,xb,ex,aIK,aK2⟩:=hx;have bx:ta.agg=bq->ta.size=1:=uI;have lx:xa.length=ta.size:=aIK.size;have sx1:(cs.drop off).take ta.size=xa:=by rw[ex];exact List.take_left' lx
     have sx2:cs.drop (off+ta.size)=xb:=by rw[<-fi,ex];exact List.drop_left' lx
     have sx3:off+ta.size<=cs.length:=by have:=cf ae ex;simp only[eK,aq]at this;omega
     obtain⟨ux,h1,o1⟩:=uF (w:=w) I9 sh bx (cs:=cs) (off:=off) sx3;rw[sx1]at o1;have h3:=mV em n f.type ta dx d ao ux x.1 ⟨_,aIK,o1⟩;have h4:=ih tb (off+ta.size) avN x.2 (by rw[sx2];exact aK2);rw[List.forIn_cons];simp only[ne_eq,az9,not_false_eq_true,bG,bY,aBo,h1,h3,bB,dA];exact h4
   have:=key fs.toList t0 0 aBe x (by simpa using hx);simp only[Instr.checkKey,bY,run_underlying hT,bB,Array.forIn_toList]at this ⊢;exact(cf (λr:Result Unit=>r.andThen λ_ w'=>Sem.run P (pure ()) w') this).trans rfl
  ·cases h
theorem Js{K:TypeId}{kt vt:Ty}(hK:qc P depth K kt=aS){v:Value}{x:kt.den}(hx:Aq E kt v x):∀(es:List eZ) (l:List (kt.den×vt.den)) (i:Nat),Alike (A9 E kt vt) es l->
  ∃r,(Instr.findAsking K v es i).run P w= .ok r w/\match r with | none=>gQ kt x l=aF | some (j,u)=>∃n e,gQ kt x l=av n/\j=i+n/\es[n]? =av e/\u=e.val
 |[],[],i,_=>⟨aF,by simp[Instr.findAsking],rfl⟩
 |e::es,p::l,i,⟨he,hr⟩=>by
  have hx':=hx;obtain⟨c1,r1,o1⟩:=hx';obtain⟨c2,r2,o2⟩:=he.1;have heq:(Op.equal K v e.key).run P w= .ok (kt.beq x p.1) w:=tm E depth K kt hK 10000 fg c1 c2 x p.1 v e.key r1 r2 o1 o2;cases hb:kt.beq x p.1 with
  |true=>
   rw[hb]at heq;refine⟨av (i,e.val),by simp[Instr.findAsking,heq],0,e,by simp[gQ,hb],rfl,rfl,rfl⟩
  |false=>
   rw[hb]at heq;obtain⟨r,h1,h2⟩:=Js hK hx es l (i+1) hr;refine⟨r,by simp[Instr.findAsking,heq,h1],?_⟩;cases r with
   |none=>simp only at h2 ⊢;simp[gQ,hb,h2]
   |some u=>
    obtain⟨j,u⟩:=u;obtain⟨n,e',g1,g2,g3,g4⟩:=h2;exact⟨n+1,e',by simp[gQ,hb,g1],ao,by simpa using g3,g4⟩
 |[],_::_,_,h=>h.elim
 |_::_,[],_,h=>h.elim
theorem Ya{d:TypeDesc}{kt vt:Ty}{v:Value}{x:kt.den}(hd:∀u y,Aq E kt u y->Instr.sameNow d v u=av (kt.beq x y)):∀(es:List eZ) (l:List (kt.den×vt.den)) (i:Nat),Alike (A9 E kt vt) es l->
  ∃r,Instr.findNow d v es i=av r/\match r with | none=>gQ kt x l=aF | some (j,u)=>∃n e,gQ kt x l=av n/\j=i+n/\es[n]? =av e/\u=e.val
 |[],[],i,_=>⟨aF,rfl,rfl⟩
 |e::es,p::l,i,⟨he,hr⟩=>by
  have h0:=hd e.key p.1 he.1;cases hb:kt.beq x p.1 with
  |true=>
   rw[hb]at h0;exact⟨av (i,e.val),by simp[Instr.findNow,h0],0,e,by simp[gQ,hb],rfl,rfl,rfl⟩
  |false=>
   rw[hb]at h0;obtain⟨r,h1,h2⟩:=Ya hd es l (i+1) hr;refine⟨r,by simp[Instr.findNow,h0,h1],?_⟩;cases r with
   |none=>simp only at h2 ⊢;simp[gQ,hb,h2]
   |some u=>
    obtain⟨j,u⟩:=u;obtain⟨n,e',g1,g2,g3,g4⟩:=h2;exact⟨n+1,e',by simp[gQ,hb,g1],ao,by simpa using g3,g4⟩
 |[],_::_,_,h=>h.elim
 |_::_,[],_,h=>h.elim
theorem H5{K:TypeId}{kt vt:Ty}(hK:qc P depth K kt=aS){v:Value}{x:kt.den}(hx:Aq E kt v x){es:List eZ}{l:List (kt.den×vt.den)}(h:Alike (A9 E kt vt) es l):
  ∃r,(Instr.findKey K v es).run P w= .ok r w/\match r with | none=>gQ kt x l=aF | some (j,u)=>∃e,gQ kt x l=av j/\es[j]? =av e/\u=e.val:=by
 have fin:∀r:Option (Nat×Value),(match r with | none=>gQ kt x l=aF | some (j,u)=>∃n e,gQ kt x l=av n/\j=0+n/\es[n]? =av e/\u=e.val)->match r with | none=>gQ kt x l=aF | some (j,u)=>∃e,gQ kt x l=av j/\es[j]? =av e/\u=e.val:=by
  intro r hr;cases r with
  |none=>exact hr
  |some u=>
   obtain⟨j,u⟩:=u;obtain⟨n,e,g1,g2,g3,g4⟩:=hr;obtain rfl:j=n:=ao;exact⟨e,g1,g3,g4⟩
 have scalar:∀d,P.underlying K=av d->(∀u y,Aq E kt u y->Instr.sameNow d v u=av (kt.beq x y))->∃r,(Instr.findKey K v es).run P w= .ok r w/\match r with | none=>gQ kt x l=aF | some (j,u)=>∃e,gQ kt x l=av j/\es[j]? =av e/\u=e.val:=by intro d hd hs;obtain⟨r,h1,h2⟩:=Ya hs es l 0 h;exact⟨r,by simp[Instr.findKey,run_underlying hd,h1],fin r h2⟩
 have agg:∀d,P.underlying K=av d->(∀u y,Aq E kt u y->Instr.sameNow d v u=aF)->∃r,(Instr.findKey K v es).run P w= .ok r w/\match r with | none=>gQ kt x l=aF | some (j,u)=>∃e,gQ kt x l=av j/\es[j]? =av e/\u=e.val:=by
  intro d hd hs;cases es with
  |nil=>
   cases l with
   |nil=>exact⟨aF,by simp[Instr.findKey,run_underlying hd,Instr.findNow],rfl⟩
   |cons _ _=>exact h.elim
  |cons e es=>
   cases l with
   |nil=>exact h.elim
   |cons p l=>
    have hn:Instr.findNow d v (e::es) 0=aF:=by simp[Instr.findNow,hs e.key p.1 h.1.1]
    obtain⟨r,h1,h2⟩:=Js (w:=w) (vt:=vt) hK hx (e::es) (p::l) 0 h;exact⟨r,by simp[Instr.findKey,run_underlying hd,hn,h1],fin r h2⟩
 have hK0:=hK;unfold depth at hK0;simp only[qc]at hK0;obtain⟨cx,rx,ox⟩:=hx;split at hK0
 ·rename_i k k' hT;refine scalar _ hT λu y ⟨cy,ry,oy⟩=> ?_
  simp only[cV]at rx ry;have e1:cx=[v]:=ox;have e2:cy=[u]:=oy;rw[rx]at e1;rw[ry]at e2;simp only[ee,gZ]at e1 e2;subst e1 e2;simp[Instr.sameNow,Ty.beq]
 ·rename_i hT;refine scalar _ hT λu y ⟨cy,ry,oy⟩=> ?_
  simp only[cV]at rx ry;have e1:cx=[v]:=ox;have e2:cy=[u]:=oy;rw[rx]at e1;rw[ry]at e2;simp only[ee,gZ]at e1 e2;subst e1 e2;simp[Instr.sameNow,Ty.beq]
 ·rename_i hT;refine scalar _ hT λu y ⟨cy,ry,oy⟩=> ?_
  simp only[cV]at rx ry;have e1:cx=[v]:=ox;have e2:cy=[u]:=oy;rw[rx]at e1;rw[ry]at e2;simp only[ee,gZ]at e1 e2;subst e1 e2;have hs:∀a b:ByteArray,(a==b)=(a.toList==b.toList):=λa b=>by
   by_cases aJ4:a=b
   ·subst aJ4;rw[(Go.MapKept.bytes_beq a a).2 rfl];simp
   ·have h1:(a==b)=bq:=by
     cases h:(a==b) with
     |false=>rfl
     |true=>exact absurd ((Go.MapKept.bytes_beq a b).1 h) aJ4
    have h2:(a.toList==b.toList)=bq:=by
     cases h:(a.toList==b.toList) with
     |false=>rfl
     |true=>exact absurd (beq_eq .str a b rfl h) aJ4
    rw[h1,h2]
  simp[Instr.sameNow,Ty.beq,hs]
 ·rename_i m e m' t' hT;exact agg _ hT λu y _=>by simp[Instr.sameNow]
 ·rename_i t0 _ _ fs hT;exact agg _ hT λu y _=>by simp[Instr.sameNow]
 ·cases hK0
end
section
variable {α β:Type} {R:α->β->Prop}
theorem Alike.get:∀ {xs:List α} {ys:List β} {i:Nat} {x:α},Alike R xs ys->xs[i]? =av x->∃y,ys[i]? =av y/\R x y
 |[],_,_,_,_,h=>by simp at h
 |_::_,[],_,_,h,_=>h.elim
 |x::xs,y::ys,0,z,⟨h1,_⟩,h=>by simp at h;subst h;exact⟨y,rfl,h1⟩
 |x::xs,y::ys,i+1,z,⟨_,h2⟩,h=>by simp at h;simpa using Alike.get h2 h
theorem Alike.set{x:α}{y:β}(hx:R x y):∀ {xs:List α} {ys:List β} (i:Nat),Alike R xs ys->Alike R (xs.set i x) (ys.set i y)
 |[],[],_,_=>trivial
 |[],_::_,_,h=>h.elim
 |_::_,[],_,h=>h.elim
 |_::_,_::_,0,⟨_,h2⟩=>⟨hx,h2⟩
 |_::_,_::_,i+1,⟨h1,h2⟩=>⟨h1,Alike.set hx i h2⟩
theorem Alike.push{x:α}{y:β}(hx:R x y):∀ {xs:List α} {ys:List β},Alike R xs ys->Alike R (xs++ [x]) (ys++ [y])
 |[],[],_=>⟨hx,trivial⟩
 |[],_::_,h=>h.elim
 |_::_,[],h=>h.elim
 |_::_,_::_,⟨h1,h2⟩=>⟨h1,Alike.push hx h2⟩
theorem Alike.erase:∀ {xs:List α} {ys:List β} (i:Nat),Alike R xs ys->Alike R (xs.eraseIdx i) (ys.eraseIdx i)
 |[],[],_,_=>by simp[Alike]
 |[],_::_,_,h=>h.elim
 |_::_,[],_,h=>h.elim
 |_::_,_::_,0,⟨_,h2⟩=>h2
 |_::_,_::_,i+1,⟨h1,h2⟩=>⟨h1,Alike.erase i h2⟩
end
theorem Kv{α:Type}{f:α->α->Bool}(hf:∀x,f x x=aS):∀xs:List α,lS f xs xs=aS
 |[]=>rfl
 |x::xs=>by simp[lS,hf x,Kv hf xs]
theorem beq_refl:∀(t:Ty) (x:t.den),t.comp=aS->t.beq x x=aS
 | .int _,x,_=>by simp[Ty.beq]
 | .bool,x,_=>by simp[Ty.beq]
 | .str,x,_=>by simp[Ty.beq]
 | .slice _,_,h=>by simp[Ty.comp]at h
 | .gE _,_,h | .gm _,_,h=>by simp[Ty.comp]at h
 | .unit,_,_=>rfl
 | .pair a b,x,h=>by simp only[Ty.comp,au]at h;simp only[Ty.beq,beq_refl a _ h.1,beq_refl b _ h.2,kc]
 | .arr _ t,x,h=>by simp only[Ty.comp]at h;exact Kv (λy=>beq_refl t y h) x
section
variable {β:Type} {kt:Ty}
theorem AP{x:kt.den}:dq kt x ([]:List (kt.den×β))=aF:=rfl
theorem fD{x:kt.den}{p:kt.den×β}{l:List (kt.den×β)}:dq kt x (p::l)=if kt.beq x p.1=aS then av p.2 else dq kt x l:=by
 unfold dq;cases h:kt.beq x p.1 with
 |true=>simp[gQ,h]
 |false=>
  simp only[gQ,h];cases gQ kt x l <;> simp
theorem X5{x:kt.den}{v:β}:jq kt x v []=[(x,v)]:=rfl
theorem B6{x:kt.den}{v:β}{p:kt.den×β}{l:List (kt.den×β)}:jq kt x v (p::l)=if kt.beq x p.1=aS then(x,v)::l else p::jq kt x v l:=by
 unfold jq;cases h:kt.beq x p.1 with
 |true=>simp[gQ,h]
 |false=>
  simp only[gQ,h];cases gQ kt x l <;> simp
theorem aq2{x:kt.den}:kV kt x ([]:List (kt.den×β))=[]:=rfl
theorem Ix{x:kt.den}{p:kt.den×β}{l:List (kt.den×β)}:kV kt x (p::l)=if kt.beq x p.1=aS then l else p::kV kt x l:=by
 unfold kV;cases h:kt.beq x p.1 with
 |true=>simp[gQ,h]
 |false=>
  simp only[gQ,h];cases gQ kt x l <;> simp
theorem F4{x:kt.den}{v:β}:∀l:List (kt.den×β),(jq kt x v l).Perm ((x,v)::kV kt x l)
 |[]=>fI _
 |p::l=>by
  rw[B6,Ix];split
  ·exact fI _
  ·exact((F4 l).cons p).trans (List.Perm.swap _ _ _)
theorem qZ(hc:kt.comp=aS){x:kt.den}:∀ {l:List (kt.den×β)},(l.map (·.1)).Nodup->kV kt x l=l.filter λp=> !kt.beq x p.1
 |[],_=>rfl
 |p::l,hn=>by
  rw[bE,dn]at hn;rw[Ix,eJ];by_cases h:kt.beq x p.1=aS
  ·rw[if_pos h];simp only[h,bm,bJ,bz];have hx:=beq_eq kt _ _ hc h;exact(iC.2 λq hq=>by
    simp only[cr];rw[Bool.eq_false_iff];intro hb;have:=beq_eq kt _ _ hc hb;exact hn.1 (by rw[<-hx,this];exact cT.2 ⟨q,hq,rfl⟩)).symm
  ·have h':kt.beq x p.1=bq:=by simpa using h
   rw[if_neg h];simp only[h',dy,bG];rw[qZ hc hn.2]
theorem kW(hc:kt.comp=aS){x:kt.den}{v:β}:∀ {l:List (kt.den×β)},(l.map (·.1)).Nodup->(dq kt x l=av v↔(x,v)∈l)
 |[],_=>by simp[AP]
 |p::l,hn=>by
  rw[bE,dn]at hn;rw[fD,bI];by_cases h:kt.beq x p.1=aS
  ·rw[if_pos h];have hx:=beq_eq kt _ _ hc h;constructor
   ·intro e;left;rw[hx,<-Option.some.inj e]
   ·rintro(e | e)
    ·rw[<-e]
    ·exact absurd (cT.2 ⟨_,e,rfl⟩) (by rw[<-hx]at hn;exact hn.1)
  ·rw[if_neg h,kW hc hn.2];constructor
   ·exact .inr
   ·rintro(e | e)
    ·exact absurd (by rw[<-e];exact beq_refl kt x hc) h
    ·exact e
theorem ajH(hc:kt.comp=aS){x:kt.den}{l l':List (kt.den×β)}(hn:(l.map (·.1)).Nodup)(hp:l'.Perm l):dq kt x l'=dq kt x l:=by apply Option.ext;intro v;rw[kW hc ((hp.map _).nodup_iff.2 hn),kW hc hn,hp.mem_iff]
theorem S6(hc:kt.comp=aS){x:kt.den}{l l':List (kt.den×β)}(hn:(l.map (·.1)).Nodup)(hp:l'.Perm l):(kV kt x l').Perm (kV kt x l):=by rw[qZ hc ((hp.map _).nodup_iff.2 hn),qZ hc hn];exact hp.filter _
theorem ajI(hc:kt.comp=aS){x:kt.den}{v:β}{l l':List (kt.den×β)}(hn:(l.map (·.1)).Nodup)(hp:l'.Perm l):(jq kt x v l').Perm (jq kt x v l):=
 (F4 l').trans (((S6 hc hn hp).cons _).trans (F4 l).symm)
theorem Ew(hc:kt.comp=aS){x:kt.den}{l:List (kt.den×β)}(hn:(l.map (·.1)).Nodup):((kV kt x l).map (·.1)).Nodup:=by rw[qZ hc hn];exact hn.sublist (List.filter_sublist.map _)
theorem O0(hc:kt.comp=aS){x:kt.den}{v:β}{l:List (kt.den×β)}(hn:(l.map (·.1)).Nodup):((jq kt x v l).map (·.1)).Nodup:=by rw[((F4 l).map _).nodup_iff,bE,dn];refine⟨λh=> ?_,Ew hc hn⟩;obtain⟨p,hp,he⟩:=cT.1 h;rw[qZ hc hn,fp]at hp;have:=hp.2;have he:p.1=x:=he;rw[he,beq_refl kt x hc]at this;cases this
end
theorem IH{E:Env}:∀(v:aE) (t:Ty) (x:t.den) (cs:List Value),V E v cs->(oK t v).eval=av x->cV E t cs x/\v.agg=t.agg/\v.ew=aS
 | .d t' x',t,x,cs,hv,h=>by
  have h':(Out.opt (sE t' t x')).eval=av x:=by cases t <;> simpa only[oK]using h
  obtain⟨rfl,h'⟩:=iV (jo.1 h');simp only at h';subst h';simp only[V]at hv;exact⟨hv,rfl,rfl⟩
 | .cX,.slice t,x,cs,hv,h=>by simp only[oK,aA]at h;subst h;simp only[V]at hv;simp only[cV];exact⟨⟨aF,0,[],by simpa using hv,by simp,by simp,λi v hh=>by simp at hh,rfl⟩,rfl,rfl⟩
 | .pr a b,.pair ta tb,x,cs,hv,h=>by simp only[oK]at h;obtain⟨x1,h1,h2⟩:=az.1 h;obtain⟨x2,h3,h4⟩:=az.1 h2;obtain rfl:=aA.1 h4;simp only[V]at hv;obtain⟨ca,cb,rfl,ha,hb⟩:=hv;simp only[cV];exact⟨⟨ca,cb,rfl,(IH a ta x1 ca ha h1).1,(IH b tb x2 cb hb h3).1⟩,rfl,rfl⟩
 | .cX,.int _,_,_,_,h | .cX,.bool,_,_,_,h | .cX,.str,_,_,_,h | .cX,.unit,_,_,_,h | .cX,.pair _ _,_,_,_,h | .cX,.arr _ _,_,_,_,h=>by simp only[oK,aw]at h
 | .pr _ _,.int _,_,_,_,h | .pr _ _,.bool,_,_,_,h | .pr _ _,.str,_,_,_,h | .pr _ _,.unit,_,_,_,h | .pr _ _,.slice _,_,_,_,h | .pr _ _,.arr _ _,_,_,_,h=>by simp only[oK,aw]at h
 | .undef,t,_,_,_,h | .gone,t,_,_,_,h | .ns,t,_,_,_,h | .uq,t,_,_,_,h | .yl ..,t,_,_,_,h | .zX,t,_,_,_,h | .ptr ..,t,_,_,_,h | .dN ..,t,_,_,_,h | .dj ..,t,_,_,_,h | .fn ..,t,_,_,_,h
 | .cons ..,t,_,_,_,h | .nil,t,_,_,_,h | .vec ..,t,_,_,_,h | .sb _,t,_,_,_,h | .bx ..,t,_,_,_,h | .iy ..,t,_,_,_,h | .mp ..,t,_,_,_,h | .qu ..,t,_,_,_,h | .xU ..,t,_,_,_,h=>by cases t <;> simp only[oK,aw]at h
theorem V4{v:aE}{t:Ty}{x:t.den}(h:(oK t v).eval=av x):v.ew=aS:=by cases v <;> first | rfl | (cases t <;> simp only[oK,aw]at h)
theorem Cg{E:Env}{v:aE}{y:Value}(hv:VS E v y){t:Ty}{x:t.den}(h:(oK t v).eval=av x):Aq E t y x:=by obtain⟨cs,h1,h2⟩:=hv.ew (V4 h);obtain⟨h3,h4,_⟩:=IH v t x cs h1 h;exact⟨cs,h3,by rw[<-h4];exact h2⟩
theorem y9{P:aK}{T K V':TypeId}{kt vt:Ty}(h:mapOf P T=av (K,V',kt,vt)):P.underlying T=av (.map K V')/\qc P depth K kt=aS/\ab5 P V' (.d vt vt.zero)=aS:=by
 unfold mapOf at h;split at h
 ·rename_i K0 V0 hT;split at h
  ·split at h
   ·rename_i hc;simp only[aB,cG]at h;obtain⟨rfl,rfl,rfl,rfl⟩:=h;rw[au]at hc;exact⟨hT,hc.1,hc.2⟩
   ·cases h
  ·cases h
 ·cases h
theorem acJ{k v k' v':Ty}{l:List (k.den×v.den)}{l':List (k'.den×v'.den)}(h:ahV k v k' v' l=av l'):∃(e1:k=k') (e2:v=v'),(e1▸e2▸l)=l':=by
 unfold ahV at h;split at h
 ·rename_i e;exact⟨e.1,e.2,by simpa using h⟩
 ·cases h
section
variable {P:aK} {C:Ctx} {g:Nat->kI} {β:Id->Option Pl} {s:AS} {a:Act} {w:World} {o:Oper}
theorem wx(h:Inv C g β s a w){id:Id}{ver:Nat}{kt vt:Ty}{l:List (kt.den×vt.den)}(ho:(s.qY id ver kt vt).eval=av l){y:Value}(hv:VS (s.env w g β) (.iy id ver) y):
  ∃fr pl es clock,s.bU id=av (.obj ver fr (.mp kt vt l))/\β id=av pl/\y= .map (av pl.b)/\w.heap[pl.b]? =av (.map es clock)/\g pl.b= .own (.id id) 0/\YV (s.env w g β) kt vt es.toList l/\mP es.toList clock/\(l.map (·.1)).Nodup:=by
 unfold AS.qY at ho;split at ho
 ·rename_i v fr k' v' l' la;obtain⟨aFJ,aJC⟩:=aH.1 ho;have aFJ:v=ver:=by simpa using aFJ
  obtain⟨rfl,rfl,rfl⟩:=acJ (jo.1 aJC);subst aFJ;have cI:=dQ la;obtain⟨pl,es,clock,h1,h2,h3,h4⟩:=h.bH id v fr _ cI;have hs:=hv.single rfl rfl;simp only[V]at hs;obtain⟨b,hb,_,hc⟩:=hs;obtain⟨pl',h5,h6⟩:=hc ⟨fr,_,cI⟩;have h1:β id=av pl:=h1;have h5:β id=av pl':=h5;rw[h1]at h5;obtain rfl:pl=pl':=by simpa using h5
  refine⟨fr,pl,es,clock,cI,h1,?_,h2,h3,h4.1.1,h4.2,h4.1.2⟩;have hb:y= .map (av b):=by simpa using hb
  rw[hb,h6]
 ·simp only[aw]at ho
theorem aaG(h:Inv C g β s a w){T:TypeId}(cZ:o.op= .makeMap T aF){s':AS}(he:(Et P s o.dst T).eval=av s'):eX P o a w (gw C s'):=by
 unfold Et at he;split at he
 ·rename_i K V' kt vt q hm hd;obtain⟨hq,he⟩:=aH.1 he;obtain rfl:=aA.1 he;have ht:=Trans.alloc w g (.map #[] 0) (.own (.id (.new q 0)) 0);obtain⟨h1,h2⟩:=h.Mi hq (c:= .mp kt vt []) (p:=av ⟨w.heap.size,0⟩) ht (λb hb=>⟨oV w _ hb,eR _ _ _ ao⟩) (λ_=>
   ⟨⟨w.heap.size,0⟩,#[],0,jk _ _ _,qC w _,eV _ _ _,⟨⟨[],trivial,fI _⟩,gh⟩,mP.nil _⟩)
  refine .inl ⟨.map (av w.heap.size),w.alloc (.map #[] 0),?_,_,_,h1.put o.dst (v:= .iy (.new q 0) 0) ⟨[.map (av w.heap.size)],?_,rfl⟩⟩
  ·refine dK (f:=Instr.makeMap T aF) (by simp only[execOp,cZ];rfl) ?_
   simp[Instr.makeMap,run_newObj_alloc]
  ·simp only[V];exact⟨_,rfl,nT hq _ _ _ _,λ_=>⟨_,jk _ _ _,rfl⟩⟩
 ·simp only[aw]at he
theorem Aq.vs{E:Env}{t:Ty}{v:Value}{x:t.den}(h:Aq E t v x):VS E (.d t x) v:=by obtain⟨cs,h1,h2⟩:=h;exact⟨cs,by simpa only[V]using h1,h2⟩
theorem aeN(h:Inv C g β s a w){T:TypeId}{x i:bF}{ok:Bool}(cZ:o.op= .lookup T x i ok){v:aE}(he:(BZ P s T (s.ev x) (s.ev i) ok).eval=av v):eX P o a w (gw C (s.put o.dst v)):=by
 unfold BZ at he;split at he
 ·rename_i K V' kt vt id ver hm hx;obtain⟨l,h1,he⟩:=az.1 he;obtain⟨k,h2,he⟩:=az.1 he;obtain rfl:=aA.1 he;obtain⟨hT,hK,hz⟩:=y9 hm;have Se:=h.ev x;rw[hx]at Se;obtain⟨fr,pl,es,clock,g1,g2,g3,g4,g5,g6,g7,gn⟩:=wx h h1 Se;have G2:=xr depth K kt hK;obtain⟨l0,g6,gp⟩:=g6;rw[<-ajH G2 gn gp];clear gn h1;generalize l0=l at g6;have hk:=Cg (h.ev i) h2;have az8:=mV (P:=P) (w:=w) es.isEmpty depth K kt hK 10000 fg _ _ hk;obtain⟨r,hf,hr⟩:=H5 (P:=P) (w:=w) hK hk g6;obtain⟨iz,zv,z1,z2,z3,z4⟩:=tg hz (s.env w g β);have ap9:Aq (s.env w g β) vt zv vt.zero:=⟨_,by simpa only[V]using z3,z4⟩;have hzero:(zeroValue V').run P w= .ok zv w:=by simp[zeroValue,typeInfo,z1,z2]
  obtain⟨val,oX,xA⟩:∃val:Value×Bool,(Instr.lookup T (a.eval x) (a.eval i) ok).run P w= .ok (if ok then .tuple #[val.1,.bool val.2] else val.1) w/\Aq (s.env w g β) vt val.1 ((dq kt k l).getD vt.zero)/\val.2=(dq kt k l).isSome:=by
   cases r with
   |none=>
    simp only at hr;have hg:dq kt k l=aF:=by simp[dq,hr]
    refine⟨(zv,bq),?_,by rw[hg];exact ap9,by rw[hg];rfl⟩;simp[Instr.lookup,run_underlying hT,g3,Go.MapKept.run_getObj_map g4,az8,hf,hzero]
   |some u=>
    obtain⟨j,u⟩:=u;obtain⟨e,m1,m2,rfl⟩:=hr;obtain⟨p,m3,m4⟩:=g6.get m2;have hg:dq kt k l=av p.2:=by simp[dq,m1,m3]
    refine⟨(e.val,aS),?_,by rw[hg];exact m4.2,by rw[hg];rfl⟩;simp[Instr.lookup,run_underlying hT,g3,Go.MapKept.run_getObj_map g4,az8,hf]
  refine h.value (x:=if ok then .tuple #[val.1,.bool val.2] else val.1) ?_ (dK (f:=Instr.lookup T (a.eval x) (a.eval i) ok) (by simp only[execOp,cZ]) oX)
  unfold aEj;cases ok with
  |true=>
   obtain⟨cs,c1,c2⟩:=xA.1;refine⟨[val.1,.bool val.2],rfl,?_⟩;simp only[VC];refine⟨_,_,cs,rfl,by simpa only[V]using c1,c2,_,_,[.bool val.2],rfl,?_,rfl,rfl⟩;simp only[V,cV,xA.2]
  |false=>exact xA.1.vs
 ·simp only[aw]at he
theorem Inv.ayM(h:Inv C g β s a w){id:Id}{ver:Nat}{fr:Bool}{kt vt:Ty}{l l':List (kt.den×vt.den)}{pl:Pl}{es es':Array eZ}{clock clock':Nat}(cI:s.bU id=av (.obj ver fr (.mp kt vt l)))(hp:β id=av pl)
  (hb:w.heap[pl.b]? =av (.map es clock)) (hg:g pl.b= .own (.id id) 0) (hr:YV (s.env w g β) kt vt es'.toList l') (aJA:(l'.map (·.1)).Nodup) (aH3:mP es'.toList clock') (aFH:s.r9 id=aS):
  Inv C g β (s.aY id (.obj ver bq (.mp kt vt l'))) a {w with heap:=w.heap.setIfInBounds pl.b (.map es' clock')}:=by
 have iI:pl.b < w.heap.size:=(cg.1 hb).1;have hother:∀b',b'≠pl.b->({w with heap:=w.heap.setIfInBounds pl.b (.map es' clock')}:World).heap[b']? =w.heap[b']? :=λb' gW=>by
  show(w.heap.setIfInBounds pl.b _)[b']? =_
  rw[dI,if_neg (λe=>gW e.symm)]
 have ht:Trans w {w with heap:=w.heap.setIfInBounds pl.b (.map es' clock')} g g:=by
  refine⟨rfl,rfl,⟨rfl,aC _⟩,by simp,λb' _=> ?_⟩;by_cases he:b'=pl.b
  ·subst he;rw[hg];exact⟨.inr ⟨id,0,rfl,aC _⟩,λ_ _ hh=>ao⟩
  ·rw[hother b' he];cases Qj:g b' with
   |free=>exact⟨rfl,rfl⟩
   |own o' k=>cases o' with
    |dY=>exact⟨rfl,rfl⟩
    |id i'=>exact⟨.inr ⟨i',k,rfl,aC _⟩,λoff v _ hv=>by simpa only[eO,hother b' he]using hv⟩
 have hle:cE (s.env w g β) ((s.aY id (.obj ver bq (.mp kt vt l'))).env {w with heap:=w.heap.setIfInBounds pl.b (.map es' clock')} g β):=cE.aY cI (aC _) ht (λ_ _=>rfl) (λ_=>rfl);refine h.step (cY _ _ _) ht hle (gN.aY h.bH (by rw[cI];simp) hle (λ_ _=>rfl) (λi ver fr c pl2 hi Sa XH=>⟨hother _ (h.apart hg hi Sa XH),rfl⟩) ?_ (by obtain rfl:=FC cI aFH;exact Kw cI));refine⟨pl,es',clock',hp,?_,hg,⟨hr.mono hle.mem,aJA⟩,aH3⟩;show(w.heap.setIfInBounds pl.b _)[pl.b]? =_
 rw[dI,if_pos rfl,if_pos iI]
theorem aeV(h:Inv C g β s a w){T:TypeId}{m k x:bF}(cZ:o.op= .mapUpdate T m k x){s':AS}(he:(B3 P s T (s.ev m) (s.ev k) (s.ev x)).eval=av s'):eX P o a w (gw C (s'.put o.dst .undef)):=by
 unfold B3 at he;split at he
 ·rename_i K V' kt vt id ver hm hx;obtain⟨l,h1,he⟩:=az.1 he;obtain⟨kx,h2,he⟩:=az.1 he;obtain⟨vx,h3,he⟩:=az.1 he;obtain⟨aFH,he⟩:=aH.1 he;obtain rfl:=aA.1 he;obtain⟨hT,hK,_⟩:=y9 hm;have Se:=h.ev m;rw[hx]at Se;obtain⟨fr,pl,es,clock,g1,g2,g3,g4,g5,g6,g7,gn⟩:=wx h h1 Se;obtain⟨l0,g6,gp⟩:=g6;have hk:=Cg (h.ev k) h2;have hv:=Cg (h.ev x) h3;have az8:=mV (P:=P) (w:=w) bq depth K kt hK 10000 fg _ _ hk;obtain⟨r,hf,hr⟩:=H5 (P:=P) (w:=w) hK hk g6;have G2:=xr depth K kt hK
  have fin:∀(es':Array eZ) (clock':Nat),(Instr.mapUpdate T (a.eval m) (a.eval k) (a.eval x)).run P w= .ok () {w with heap:=w.heap.setIfInBounds pl.b (.map es' clock')}->Alike (A9 (s.env w g β) kt vt) es'.toList (jq kt kx vx l0)->mP es'.toList clock'->
    eX P o a w (gw C ((s.aY id (.obj ver bq (.mp kt vt (jq kt kx vx l)))).put o.dst .undef)):=λes' clock' oX avC aH3=>
   .inr (.inl ⟨_,Xs (f:=Instr.mapUpdate T (a.eval m) (a.eval k) (a.eval x)) (by simp only[execOp,cZ]) oX,g,β,(h.ayM g1 g2 g4 g5 ⟨_,avC,ajI G2 gn gp⟩ (O0 G2 gn) aH3 aFH).put o.dst VS.undef⟩)
  cases r with
  |none=>
   simp only at hr;refine fin (es.push {key:=a.eval k,val:=a.eval x,born:=clock}) (clock+1) ?_ ?_ (by rw[Array.toList_push];exact g7.push rfl)
   ·simp[Instr.mapUpdate,run_underlying hT,g3,Go.MapKept.run_getObj_map g4,az8,hf,Go.MapKept.run_setObj_map _ g4]
   ·simp only[jq,hr,Array.toList_push];exact g6.push ⟨hk,hv⟩
  |some u=>
   obtain⟨j,u⟩:=u;obtain⟨e,m1,m2,rfl⟩:=hr;obtain⟨p,m3,m4⟩:=g6.get m2;have aJ8:kt.beq kx p.1=aS:=by
    have:∀(l:List (kt.den×vt.den)) (j:Nat),gQ kt kx l=av j->∀p,l[j]? =av p->kt.beq kx p.1=aS:=by
     intro l
     induction l with
     |nil=>intro j hj;simp[gQ]at hj
     |cons q l ih=>
      intro j hj p hp;simp only[gQ]at hj;cases hb:kt.beq kx q.1 with
      |true=>
       rw[hb]at hj;simp only[aB]at hj;subst hj;simp at hp;subst hp;exact hb
      |false=>
       rw[hb]at hj;simp only[Option.map_eq_some_iff]at hj;obtain⟨j',hj',rfl⟩:=hj;exact ih j' hj' p (by simpa using hp)
    exact this l0 j m1 p m3
   have aK3:=beq_eq kt kx p.1 G2 aJ8;have aKs:e.key=a.eval k:=Aq.aEW G2 (aK3▸m4.1) hk;have m2':es[j]? =av e:=by simpa using m2
   refine fin (es.modify j λe=> {e with key:=a.eval k,val:=a.eval x}) clock ?_ ?_ (by rw[Array.toList_modify,Go.ChangeMaps.modify_eq_set _ _ _ _ m2];exact g7.set m2 rfl)
   ·simp[Instr.mapUpdate,run_underlying hT,g3,Go.MapKept.run_getObj_map g4,az8,hf,m2',aKs,ar8 G2 hk,Go.MapKept.run_setObj_map _ g4]
   ·simp only[jq,m1,Array.toList_modify];rw[Go.ChangeMaps.modify_eq_set _ _ _ _ m2];exact Alike.set (R:=A9 (s.env w g β) kt vt) ⟨hk,hv⟩ j g6
 ·simp only[aw]at he
end
end Go.Ab
end
