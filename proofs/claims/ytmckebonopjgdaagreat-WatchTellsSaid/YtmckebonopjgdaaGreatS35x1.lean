/-
  Made short by a program of mine (wip/tools/mini.py).
-/
import Derived.WalkKit
import Derived.KernelRfl
import Derived.OrdersIn
import Derived.LoopNIn
import Derived.TacticsIn
import Derived.RangeFuncCalls
import Derived.RangeFuncLeaves
import Derived.RangeFuncRecord
import Derived.MapKept
import Derived.ChangeMaps3
set_option linter.defProp false
set_option linter.unusedVariables false
set_option linter.unusedSimpArgs false
set_option maxRecDepth 100000
set_option synthInstance.maxSize 5000
open Go renaming IntKind->mA,FuncId->fX,TypeId->bk,Value->bh,Operand->cD,Program->bg,World->cG,MapEntry->gR
open List renaming replicate->ag,length->aa,set->gq
open BitVec renaming ofInt->bF
open Nat renaming beq->jR
open Go.Value renaming oneCell'->eM
open Go.World renaming cell?->gh
open Go.Sem renaming run_bind->fe
open Go.Result renaming andThen_ok->dL
open Go.Op renaming equalIn->fL
open Option renaming some->aw,none->aC
open Bool renaming true->bn,false->aZ
noncomputable section
namespace Go.Ab
def FH:type_of% @Array.ext':= @Array.ext'
def dV:type_of% @Array.getElem?_eq_some_iff:= @Array.getElem?_eq_some_iff
def jA:type_of% @Array.getElem?_toList:= @Array.getElem?_toList
def jl:type_of% @Array.length_toList:= @Array.length_toList
def eV:type_of% @Array.toList_append:= @Array.toList_append
def j5:type_of% @BitVec.ofInt_natCast:= @BitVec.ofInt_natCast
def wy:type_of% @BitVec.toNat_ofInt:= @BitVec.toNat_ofInt
def lT:type_of% @BitVec.toNat_ofNat:= @BitVec.toNat_ofNat
def aQ:type_of% @Bool.and_eq_true:= @Bool.and_eq_true
def jQ:type_of% @Bool.eq_false_or_eq_true:= @Bool.eq_false_or_eq_true
def cU:type_of% @Bool.false_and:= @Bool.false_and
def bu:type_of% @Bool.false_eq_true:= @Bool.false_eq_true
def ja:type_of% @Bool.false_or:= @Bool.false_or
def fu:type_of% @Bool.not_eq_true':= @Bool.not_eq_true'
def eJ:type_of% @Bool.not_false:= @Bool.not_false
def bW:type_of% @Bool.not_true:= @Bool.not_true
def vI:type_of% @Bool.or_eq_true:= @Bool.or_eq_true
def bH:type_of% @Bool.true_and:= @Bool.true_and
def pM:type_of% @Bool.true_or:= @Bool.true_or
def jw:type_of% @Classical.byContradiction:= @Classical.byContradiction
def pN:type_of% @Int.add_emod:= @Int.add_emod
def tE:type_of% @Int.add_zero:= @Int.add_zero
def pO:type_of% @Int.dvd_refl:= @Int.dvd_refl
def gN:type_of% @Int.emod_emod_of_dvd:= @Int.emod_emod_of_dvd
def fv:type_of% @Int.emod_eq_of_lt:= @Int.emod_eq_of_lt
def lU:type_of% @Int.emod_lt_of_pos:= @Int.emod_lt_of_pos
def qO:type_of% @Int.emod_nonneg:= @Int.emod_nonneg
def dT:type_of% @Int.le_refl:= @Int.le_refl
def va:type_of% @Int.mul_assoc:= @Int.mul_assoc
def yx:type_of% @Int.mul_comm:= @Int.mul_comm
def jc:type_of% @Int.mul_emod:= @Int.mul_emod
def Ci:type_of% @Int.mul_one:= @Int.mul_one
def tF:type_of% @Int.natCast_emod:= @Int.natCast_emod
def qP:type_of% @Int.natCast_mul:= @Int.natCast_mul
def lV:type_of% @Int.natCast_nonneg:= @Int.natCast_nonneg
def mI:type_of% @Int.natCast_pow:= @Int.natCast_pow
def gl:type_of% @Int.pow_succ:= @Int.pow_succ
def mR:type_of% @Int.pow_zero:= @Int.pow_zero
def tG:type_of% @Int.sub_zero:= @Int.sub_zero
def jd:type_of% @Int.tmod_eq_emod_of_nonneg:= @Int.tmod_eq_emod_of_nonneg
theorem ab:type_of% @Int.toNat_natCast:= @Int.toNat_natCast
def aW:type_of% @Int.toNat_zero:= @Int.toNat_zero
def je:type_of% @Int.zero_add:= @Int.zero_add
def jf:type_of% @List.Perm.refl:= @List.Perm.refl
def gX:type_of% @List.all_cons:= @List.all_cons
def eA:type_of% @List.all_eq_true:= @List.all_eq_true
def iG:type_of% @List.any_cons:= @List.any_cons
def aR:type_of% @List.append_assoc:= @List.append_assoc
def bm:type_of% @List.append_nil:= @List.append_nil
def da:type_of% @List.cons.injEq:= @List.cons.injEq
def iP:type_of% @List.cons_append:= @List.cons_append
def pQ:type_of% @List.dropWhile_sublist:= @List.dropWhile_sublist
theorem oJ:type_of% @List.drop_append:= @List.drop_append
theorem iH:type_of% @List.drop_drop:= @List.drop_drop
theorem ak:type_of% @List.drop_eq_getElem_cons:= @List.drop_eq_getElem_cons
def mJ:type_of% @List.drop_left':= @List.drop_left'
theorem ay:type_of% @List.drop_length:= @List.drop_length
theorem dJ:type_of% @List.drop_of_length_le:= @List.drop_of_length_le
theorem yy:type_of% @List.drop_take:= @List.drop_take
def aH:type_of% @List.drop_zero:= @List.drop_zero
def bV:type_of% @List.eq_nil_of_length_eq_zero:= @List.eq_nil_of_length_eq_zero
def mU:type_of% @List.ext_getElem?:= @List.ext_getElem?
def c9:type_of% @List.flatMap_cons:= @List.flatMap_cons
def oK:type_of% @List.flatMap_nil:= @List.flatMap_nil
def kr:type_of% @List.flatten_cons:= @List.flatten_cons
def tJ:type_of% @List.flatten_nil:= @List.flatten_nil
def bN:type_of% @List.foldl_cons:= @List.foldl_cons
def dr:type_of% @List.foldl_nil:= @List.foldl_nil
def dH:type_of% @List.getD_eq_getElem?_getD:= @List.getD_eq_getElem?_getD
def jx:type_of% @List.getElem?_append_left:= @List.getElem?_append_left
def pR:type_of% @List.getElem?_drop:= @List.getElem?_drop
def cS:type_of% @List.getElem?_eq_getElem:= @List.getElem?_eq_getElem
def mH:type_of% @List.getElem?_eq_some_iff:= @List.getElem?_eq_some_iff
def rT:type_of% @List.getElem?_set_ne:= @List.getElem?_set_ne
def fS:type_of% @List.getElem?_take:= @List.getElem?_take
def aD:type_of% @List.getElem_mem:= @List.getElem_mem
def ku:type_of% @List.getElem_take:= @List.getElem_take
def aj:type_of% @List.length_append:= @List.length_append
def aB:type_of% @List.length_cons:= @List.length_cons
theorem dy:type_of% @List.length_drop:= @List.length_drop
def cz:type_of% @List.length_map:= @List.length_map
def bl:type_of% @List.length_nil:= @List.length_nil
def cT:type_of% @List.length_replicate:= @List.length_replicate
def qQ:type_of% @List.length_set:= @List.length_set
def bw:type_of% @List.length_take:= @List.length_take
def qR:type_of% @List.map_append:= @List.map_append
def eE:type_of% @List.map_congr_left:= @List.map_congr_left
def cq:type_of% @List.map_cons:= @List.map_cons
def yz:type_of% @List.map_map:= @List.map_map
def gm:type_of% @List.map_nil:= @List.map_nil
def bZ:type_of% @List.mem_append:= @List.mem_append
def cr:type_of% @List.mem_cons:= @List.mem_cons
def aT:type_of% @List.mem_cons_of_mem:= @List.mem_cons_of_mem
theorem aY:type_of% @List.mem_cons_self:= @List.mem_cons_self
def tK:type_of% @List.mem_flatMap:= @List.mem_flatMap
def mB:type_of% @List.mem_iff_getElem?:= @List.mem_iff_getElem?
def dE:type_of% @List.mem_map:= @List.mem_map
theorem eK:type_of% @List.mem_of_getElem?:= @List.mem_of_getElem?
def fw:type_of% @List.mem_of_mem_take:= @List.mem_of_mem_take
def pS:type_of% @List.mem_replicate:= @List.mem_replicate
def bM:type_of% @List.mem_singleton:= @List.mem_singleton
def bf:type_of% @List.nil_append:= @List.nil_append
def db:type_of% @List.nodup_cons:= @List.nodup_cons
def gO:type_of% @List.nodup_nil:= @List.nodup_nil
def rU:type_of% @List.pairwise_append:= @List.pairwise_append
theorem gQ:type_of% @List.pairwise_cons:= @List.pairwise_cons
def uX:type_of% @List.replicate_succ:= @List.replicate_succ
def iE:type_of% @List.set_getElem_self:= @List.set_getElem_self
def cv:type_of% @List.singleton_append:= @List.singleton_append
theorem uY:type_of% @List.takeWhile_cons:= @List.takeWhile_cons
def pT:type_of% @List.takeWhile_sublist:= @List.takeWhile_sublist
theorem ee:type_of% @List.take_append_drop:= @List.take_append_drop
theorem iA:type_of% @List.take_append_of_le_length:= @List.take_append_of_le_length
def vJ:type_of% @List.take_left':= @List.take_left'
def bI:type_of% @List.take_length:= @List.take_length
theorem bp:type_of% @List.take_of_length_le:= @List.take_of_length_le
def jg:type_of% @List.take_succ_eq_append_getElem:= @List.take_succ_eq_append_getElem
def rV:type_of% @List.take_take:= @List.take_take
def du:type_of% @List.take_zero:= @List.take_zero
def fP:type_of% @Nat.add_assoc:= @Nat.add_assoc
theorem gT:type_of% @Nat.add_mul:= @Nat.add_mul
def lW:type_of% @Nat.add_sub_cancel:= @Nat.add_sub_cancel
def bY:type_of% @Nat.add_zero:= @Nat.add_zero
theorem jB:type_of% @Nat.eq_of_beq_eq_true:= @Nat.eq_of_beq_eq_true
def wA:type_of% @Nat.eq_zero_or_pos:= @Nat.eq_zero_or_pos
def fG:type_of% @Nat.le_of_ble_eq_true:= @Nat.le_of_ble_eq_true
def pU:type_of% @Nat.le_of_eq:= @Nat.le_of_eq
def ax:type_of% @Nat.le_refl:= @Nat.le_refl
def kW:type_of% @Nat.le_succ:= @Nat.le_succ
def fa:type_of% @Nat.le_trans:= @Nat.le_trans
def jb:type_of% @Nat.lt_irrefl:= @Nat.lt_irrefl
def qS:type_of% @Nat.min_eq_left:= @Nat.min_eq_left
def lI:type_of% @Nat.mod_eq_of_lt:= @Nat.mod_eq_of_lt
def eL:type_of% @Nat.mul_le_mul_right:= @Nat.mul_le_mul_right
def mV:type_of% @Nat.mul_mod:= @Nat.mul_mod
def j6:type_of% @Nat.mul_one:= @Nat.mul_one
def rW:type_of% @Nat.one_mul:= @Nat.one_mul
def rX:type_of% @Nat.pow_add:= @Nat.pow_add
def mW:type_of% @Nat.sub_zero:= @Nat.sub_zero
def aO:type_of% @Nat.zero_add:= @Nat.zero_add
def az:type_of% @Nat.zero_le:= @Nat.zero_le
def tM:type_of% @Nat.zero_mul:= @Nat.zero_mul
def lJ:type_of% @Option.getD_some:= @Option.getD_some
theorem dA:type_of% @Option.isSome_iff_exists:= @Option.isSome_iff_exists
def wB:type_of% @Option.isSome_none:= @Option.isSome_none
def fb:type_of% @Option.map_eq_some_iff:= @Option.map_eq_some_iff
def kB:type_of% @Option.map_some:= @Option.map_some
def cj:type_of% @Option.some.inj:= @Option.some.inj
def cn:type_of% @Option.some.injEq:= @Option.some.injEq
def kX:type_of% @Prod.mk.injEq:= @Prod.mk.injEq
def iQ:type_of% @Sum.getLeft?_inl:= @Sum.getLeft?_inl
def cJ:type_of% @Sum.getRight?_inr:= @Sum.getRight?_inr
def j7:type_of% @Sum.isLeft_inl:= @Sum.isLeft_inl
def dh:type_of% @Sum.isLeft_inr:= @Sum.isLeft_inr
def fY:type_of% @and_self:= @and_self
def lY:type_of% @and_true:= @and_true
def lZ:type_of% @beq_iff_eq:= @beq_iff_eq
def bA:type_of% @congrArg:= @congrArg
def kC:type_of% @decide_eq_false:= @decide_eq_false
def iR:type_of% @decide_eq_false_iff_not:= @decide_eq_false_iff_not
def fM:type_of% @decide_eq_true:= @decide_eq_true
def bJ:type_of% @decide_eq_true_eq:= @decide_eq_true_eq
def bE:type_of% @decide_true:= @decide_true
def Ed:type_of% @dif_pos:= @dif_pos
def oM:type_of% @false_and:= @false_and
def qh:type_of% @getElem!_pos:= @getElem!_pos
def bq:type_of% @if_false:= @if_false
def au:type_of% @if_neg:= @if_neg
def av:type_of% @if_pos:= @if_pos
def bQ:type_of% @if_true:= @if_true
def nw:type_of% @of_decide_eq_true:= @of_decide_eq_true
def gC:type_of% @true_and:= @true_and
end Go.Ab
namespace Go.Ab
def fm{p:Prop}(h:p:=by decide):p:=h
def aq{p:Prop}(h:p:=by omega):p:=h
def bS{p:Prop}(h:p:=by kernel_rfl):p:=h
inductive Ty where
 |int (k:mA) | bool | str | slice (t:Ty) | unit | pair (a b:Ty) | arr (n:Nat) (t:Ty)
 |jj (t:Ty)
 deriving DecidableEq,Inhabited
@[reducible] def Ty.den:Ty->Type
 | .int _=>Int
 | .bool=>Bool
 | .str=>ByteArray
 | .slice t=>List t.den
 | .unit=>Unit
 | .pair a b=>a.den×b.den
 | .arr _ t=>List t.den
 | .jj t=>Option (List t.den)
def Ty.size:Ty->Nat
 | .unit=>0
 | .pair a b=>a.size+b.size
 | .arr n t=>n*t.size
 | .int _ | .bool | .str | .slice _ | .jj _=>1
def Ty.agg:Ty->Bool
 | .unit | .pair _ _ | .arr _ _=>bn
 | .int _ | .bool | .str | .slice _ | .jj _=>aZ
def Ty.zero:(t:Ty)->t.den
 | .int _=>(0:Int)
 | .bool=>aZ
 | .str=>ByteArray.empty
 | .slice _=> []
 | .unit=>()
 | .pair a b=>(a.zero,b.zero)
 | .arr n t=>ag n t.zero
 | .jj _=>aC
def Ty.comp:Ty->Bool
 | .slice _ | .jj _=>aZ
 | .pair a b=>a.comp && b.comp
 | .arr _ t=>t.comp
 | .int _ | .bool | .str | .unit=>bn
def qj{α:Type}(f:α->α->Bool):List α->List α->Bool
 |[],[]=>bn
 |x::xs,y::ys=>f x y && qj f xs ys
 |_,_=>aZ
def Ty.beq:(t:Ty)->t.den->t.den->Bool
 | .int _,x,y=>(x:Int)==y
 | .bool,x,y=>(x:Bool)==y
 | .str,x,y=>(x:ByteArray).toList==(y:ByteArray).toList
 | .slice t,x,y=>qj t.beq x y
 | .unit,_,_=>bn
 | .pair a b,x,y=>a.beq x.1 y.1 && b.beq x.2 y.2
 | .arr _ t,x,y=>qj t.beq x y
 | .jj t,x,y=>qj t.beq (x.getD []) (y.getD [])
def AD(t j:Ty)(x:t.den):Option j.den:=if h:t=j then aw (h▸x) else aC
def arv:(a b:Ty)->Option (a.den->b.den)
 | .jj t,.slice j=>if h:t=j then aw λo=>cast (bA (λt:Ty=>List t.den) h) (o.getD []) else aC
 | .slice t,.jj j=>if h:t=j then aw λl=>aw (cast (bA (λt:Ty=>List t.den) h) l) else aC
 | .pair a b,.pair c d=>match arv a c,arv b d with
  |some f,aw k=>aw λx=>(f x.1,k x.2)
  |_,_=>aC
 | .slice a,.slice b=>match arv a b with
  |some f=>aw (List.map f)
  |none=>aC
 |a,b=>if h:a=b then aw (cast (bA Ty.den h)) else aC
def bkG(a b:Ty)(x:a.den):b.den:=match arv a b with | some f=>f x | none=>b.zero
def PX(t j:Ty)(x:t.den):Option j.den:=
 match AD t j x with
 |some y=>aw y
 |none=>match arv t j with
  |some f=>aw (f x)
  |none=>aC
def nth(t:Ty)(l:List t.den)(i:Nat):t.den:=l.getD i t.zero
inductive Id where
 |dx (k:Nat)
 |new (site j:Nat)
 deriving DecidableEq,Inhabited
inductive Uv where
 |fst | snd
 |idx (i:Nat)
 |arr
structure Ax where
 y:Nat
 ps:Array Tmp
 as:Code
 b:Code
inductive aF where
 |undef
 |gone
 |fR | qW | Cw | JA
 |d (t:Ty) (x:t.den)
 |pr (a b:aF)
 |ptr (id:Id) (ver:Nat) (p:List Uv) (n:Nat)
 |iU (t:Ty) (x:t.den)
 |dq (id:Id) (ver:Nat) (p:List Uv) (c i len:Nat)
 |fn (f:fX) (caps:aF)
 |cons (a b:aF)
 |nil
 |vec (e:bk) (t:Ty) (l:List t.den)
 |sb (l:List Int)
 |bx (e:bk) (z:Nat) (c:aF)
 |iI (id:Id) (ver:Nat)
 |mp (k v:Ty) (l:List (k.den×v.den))
 |xB (q:Id) (ver:Nat) (k v:Ty) (rest:List (k.den×v.den)) (cur:Option (k.den×v.den))
 |yl (id:Id) (ver:Nat)
 |BO (c:Ax) (frame:aF) (p:Nat)
inductive dR where
 |dead
 |obj (ver:Nat) (fr:Bool) (c:aF)
def fp(c:aF):dR:= .obj 0 aZ c
def dp(c:aF):List dR:=[.obj 0 aZ c]
def eI(q:Nat):aF:= .ptr (.new q 0) 0 [] 0
def uJ(q n:Nat):aF:= .dq (.new q 0) 0 [] 0 0 n
def Pv:aF:= .d .unit ()
def bB:aF:= .undef
structure AS where
 cR:List aF
 cO:List dR
 news:List (List dR)
def aP(n:Nat)(l:List aF):List aF:=ag n .undef++l
def bz(n:Nat)(l:List (List dR)):List (List dR):=ag n []++l
inductive Out(α:Type):Type 1 where
 |ok (a:α)
 |fail
 |CU (c:Bool) (r:Out α)
 |get {β:Type} (x:Option β) (f:β->Out α)
 |br (c:Bool) (a b:Out α)
def Out.eval{α:Type}:Out α->Option α
 | .ok a=>aw a
 | .fail=>aC
 | .CU c r=>match c with | true=>r.eval | false=>aC
 | .get x f=>match x with | some y=>(f y).eval | none=>aC
 | .br c a b=>match c with | true=>a.eval | false=>b.eval
def aA{α:Type}(c:Bool)(x y:Option α):Option α:=match c with | true=>x | false=>y
def ao{α β:Type}(x:Option α)(f:α->Option β):Option β:=match x with | some a=>f a | none=>aC
def Out.run{α R:Type}:Out α->(α->Option R)->Option R
 | .ok a,k=>k a
 | .fail,_=>aC
 | .CU c r,k=>aA c (r.run k) aC
 | .get x f,k=>ao x λy=>(f y).run k
 | .br c a b,k=>aA c (a.run k) (b.run k)
def Out.bind{α β:Type}:Out α->(α->Out β)->Out β
 | .ok a,f=>f a
 | .fail,_=> .fail
 | .CU c r,f=> .CU c (r.bind f)
 | .get x g,f=> .get x λy=>(g y).bind f
 | .br c a b,f=> .br c (a.bind f) (b.bind f)
def Out.opt{α:Type}:Option α->Out α
 |some a=> .ok a
 |none=> .fail
def Out.guard{α:Type}(c:Bool)(r:Out α):Out α:=match c with | true=>r | false=> .fail
def aF.size:aF->Nat
 | .d t _=>t.size
 | .pr a b=>a.size+b.size
 |_=>1
def aF.agg:aF->Bool
 | .d t _=>t.agg
 | .pr _ _=>bn
 |_=>aZ
def aF.fF:aF->Bool
 | .undef | .cons _ _ | .nil | .vec .. | .bx .. | .mp .. | .xB .. | .BO .. =>aZ
 |_=>bn
def aF.strip:aF->aF
 | .bx _ _ c=>c
 |c=>c
def aF.wrap:aF->aF->aF
 | .bx e z _,c=> .bx e z c
 |_,c=>c
def aaO:aF->aF->aF
 | .d a x,.d b y=> .d (.pair a b) (x,y)
 |a,b=> .pr a b
def ofConst:bh->aF
 | .bool b=> .d .bool b
 | .int k n=> .d (.int k) n
 | .string s=> .d .str s
 | .slice aC 0 0=> .fR
 | .pointer aC=> .qW
 | .nilFunc=> .Cw
 | .map aC=> .JA
 |_=> .undef
def AS.slot(s:AS)(i:Nat):aF:=s.cR.getD i .undef
def AS.ev(s:AS):cD->aF
 | .tmp t=>s.slot t
 | .const v=>ofConst v
 | .func f=> .fn f .nil
 | .global _=> .undef
def AS.put(s:AS)(dst:Option Tmp)(v:aF):AS:=
 match dst with
 |some t=> {s with cR:=s.cR.set t v}
 |none=>s
def AS.cH(s:AS):Id->Option dR
 | .dx k=>s.cO[k]?
 | .new i j=>(s.news.getD i [])[j]?
def AS.bD(s:AS)(id:Id)(e:dR):AS:=
 match id with
 | .dx k=> {s with cO:=s.cO.set k e}
 | .new i j=> {s with news:=s.news.set i ((s.news.getD i []).set j e)}
def AS.ff(s:AS)(i:Nat):Bool:=match s.news[i]? with | some []=>bn | _=>aZ
def AS.born(s:AS)(i:Nat)(j:List dR):AS:= {s with news:=s.news.set i j}
def AS.obj(s:AS)(id:Id):Option (Nat×Bool×aF):=
 match s.cH id with
 |some (.obj v f c)=>aw (v,f,c)
 |_=>aC
def awg(P:bg)(j:Bool):Nat->bk->Option Ty
 | 0,_=>aC
 |n+1,T=>
  match P.underlying T with
  |some (.int k)=>aw (.int k)
  |some .bool=>aw .bool
  |some .string=>aw .str
  |some (.slice e)=>match awg P aZ n e with | some t=>aw (match j with | true=> .jj t | false=> .slice t) | none=>aC
  |some (.array k e)=>match awg P j n e with | some t=>aw (.arr k t) | none=>aC
  |some (.struct fs)=>fs.toList.foldr (λf acc=>match awg P j n f.type,acc with | some a,aw b=>aw (.pair a b) | _,_=>aC) (aw .unit)
  |_=>aC
def aL5(P:bg):Nat->bk->Option Ty:=awg P aZ
def zeroOf(P:bg):Nat->bk->Option aF
 | 0,_=>aC
 |n+1,T=>
  match P.underlying T with
  |some (.int k)=>aw (.d (.int k) (0:Int))
  |some .bool=>aw (.d .bool aZ)
  |some .string=>aw (.d .str ByteArray.empty)
  |some (.slice _)=>aw .fR
  |some (.pointer _)=>aw .qW
  |some (.map _ _)=>aw .JA
  |some (.func _ _ _)=>aw .Cw
  |some (.array k e)=>match aL5 P n e with | some t=>aw (.d (.arr k t) (ag k t.zero)) | none=>aC
  |some (.struct fs)=>fs.toList.foldr (λf acc=>match zeroOf P n f.type,acc with | some a,aw b=>aw (aaO a b) | _,_=>aC) (aw (.d .unit ()))
  |_=>aC
def depth:Nat:=12
def fits(P:bg)(T:bk)(v:aF):Bool:=
 v.fF && (P.cellsOf T==v.size) &&
 (match P.underlying T with | some (.struct _)=>v.agg | some (.array _ _)=>v.agg | some _=> !v.agg | none=>aZ)
def tV:Nat->List Uv
 | 0=> [.fst]
 |n+1=> .snd::tV n
def loc:aF->List Uv->Out (Nat×aF)
 |c,[]=> .ok (0,c)
 |c,.arr::p=>loc c p
 | .pr a _,.fst::p=>loc a p
 | .pr a b,.snd::p=>(loc b p).bind λ(n,v)=> .ok (a.size+n,v)
 | .d (.pair a _) x,.fst::p=>loc (.d a x.1) p
 | .d (.pair a b) x,.snd::p=>(loc (.d b x.2) p).bind λ(n,v)=> .ok (a.size+n,v)
 | .d (.arr _ t) l,.idx i::p=> .CU (decide (i < aa (l:List t.den))) ((loc (.d t (nth t l i)) p).bind λ(n,v)=> .ok (i*t.size+n,v))
 | .vec _ t l,.idx i::p=> .CU (decide (i < aa l)) ((loc (.d t (nth t l i)) p).bind λ(n,v)=> .ok (i*t.size+n,v))
 |_,_::_=> .fail
def Dj:aF->List Uv->aF->Out aF
 |c,.arr::p,v=>Dj c p v
 | .vec ..,[],_=> .fail
 | .mp ..,[],_=> .fail
 | .xB ..,[],_=> .fail
 | .BO ..,[],_=> .fail
 |c,[],v=> .guard (v.fF && (c.size==v.size)) (.ok v)
 | .pr a b,.fst::p,v=>(Dj a p v).bind λj=> .ok (aaO j b)
 | .pr a b,.snd::p,v=>(Dj b p v).bind λu=> .ok (aaO a u)
 | .d (.pair a b) x,.fst::p,v=>(Dj (.d a x.1) p v).bind λj=> .ok (aaO j (.d b x.2))
 | .d (.pair a b) x,.snd::p,v=>(Dj (.d b x.2) p v).bind λu=> .ok (aaO (.d a x.1) u)
 | .d (.arr n t) l,.idx i::p,v=> .CU (decide (i < aa (l:List t.den))) ((Dj (.d t (nth t l i)) p v).bind fun
   | .d A y=>(Out.opt (AD A t y)).bind λy=> .ok (.d (.arr n t) ((l:List t.den).set i y))
   |_=> .fail)
 | .vec e t l,.idx i::p,v=> .CU (decide (i < aa l)) ((Dj (.d t (nth t l i)) p v).bind fun
   | .d A y=>(Out.opt (AD A t y)).bind λy=> .ok (.vec e t (l.set i y))
   |_=> .fail)
 |_,_::_,_=> .fail
def AS.row(s:AS)(id:Id)(j:Nat)(p:List Uv):Out (Nat×(t:Ty)×List t.den):=
 match s.obj id with
 |some (v,_,c)=> .guard (v==j) ((loc c.strip p).bind fun
  | (n,.d (.arr _ t) l)=> .ok (n,⟨t,l⟩)
  | (n,.vec _ t l)=> .ok (n,⟨t,l⟩)
  |_=> .fail)
 |none=> .fail
def cut{α:Type}(l:List α)(i j:Nat):List α:=(l.drop i).take j
def AS.kU(s:AS):(t:Ty)->aF->Out t.den
 |t,.d A x=>Out.opt (PX A t x)
 | .slice _,.fR=> .ok []
 | .jj _,.fR=> .ok aC
 | .slice t,.dq id u p c i j=>(s.row id u p).bind λr=> .CU (decide (r.1+i*r.2.1.size=c/\i+j<=aa r.2.2)) (Out.opt (PX (.slice r.2.1) (.slice t) (cut r.2.2 i j)))
 | .jj t,.dq id u p c i j=>(s.row id u p).bind λr=> .CU (decide (r.1+i*r.2.1.size=c/\i+j<=aa r.2.2)) (Out.opt (PX (.slice r.2.1) (.jj t) (cut r.2.2 i j)))
 | .pair a b,.pr x y=>(s.kU a x).bind λx=>(s.kU b y).bind λy=> .ok (x,y)
 |_,_=> .fail
def aF.shared:aF->List Id
 | .dq id _ _ _ _ _=> [id]
 | .pr a b=>a.shared++b.shared
 |_=> []
def AS.freeze(s:AS)(id:Id):AS:=
 match s.cH id with
 |some (.obj v _ c)=>s.bD id (.obj v bn c)
 |_=>s
def AS.bP(s:AS):List Id->AS
 |[]=>s
 |id::ids=>(s.freeze id).bP ids
end Go.Ab
namespace Go.Ab
def aXo{α:Type}(f:α->List bh->Option (List bh)):List α->List bh->Option (List bh)
 |[],cs=>aw cs
 |x::xs,cs=>match f x cs with | some r=>aXo f xs r | none=>aC
def Js:(t:Ty)->t.den->List bh->Option (List bh)
 | .int k,x,.int j n::r=>match decide (k=j),decide (n=(x:Int)) with | true,bn=>aw r | _,_=>aC
 | .bool,x,.bool b::r=>match decide (b=(x:Bool)) with | true=>aw r | false=>aC
 | .str,x,.string s::r=>match decide (s=(x:ByteArray)) with | true=>aw r | false=>aC
 | .slice _,[],.slice aC 0 0::r=>aw r
 | .jj _,aC,.slice aC 0 0::r=>aw r
 | .unit,_,r=>aw r
 | .pair a b,x,r=>match Js a x.1 r with | some u=>Js b x.2 u | none=>aC
 | .arr n t,l,r=>match decide (aa (l:List t.den)=n) with | true=>aXo (Js t) l r | false=>aC
 |_,_,_=>aC
def alH:aF->List bh->Option (List bh)
 | .d t x,r=>Js t x r
 | .fR,.slice aC 0 0::r=>aw r
 | .qW,.pointer aC::r=>aw r
 | .Cw,.nilFunc::r=>aw r
 | .JA,.map aC::r=>aw r
 | .pr a b,r=>match alH a r with | some j=>alH b j | none=>aC
 |_,_=>aC
def wP:bh->Bool | .agg _=>bn | _=>aZ
def aAL(P:bg)(T:bk)(z:aF):Bool:=
 match P.info? T with
 |some i=>match i.zero with
  |some j=>(match alH z j.cells.toList with | some []=>bn | _=>aZ) && (wP j==z.agg)
  |none=>aZ
 |none=>aZ
structure hZ where
 val:aF
 cO:List dR
 news:List dR
structure Entry where
 params:List (Option Ty)
 X:Type
 run:List aF->List dR->Option X
 out:List aF->List dR->X->hZ
 sp:X->Out X:= .ok
 aOB:∀x y,(sp x).eval=aw y->y=x:=by exact λx y h=>(cj h).symm
 rel:Bool:=aZ
 set:List aF->List dR->X->Prop:=λ_ _ _=>False
abbrev qN:=fX->List aF->Option Entry
def aF.ids:aF->List Id
 | .ptr id _ _ _=> [id]
 | .dq id _ _ _ _ _=> [id]
 | .pr a b=>a.ids++b.ids
 | .cons a b=>a.ids++b.ids
 | .fn _ c=>c.ids
 | .bx _ _ c=>c.ids
 | .iI id _=> [id]
 | .yl id _=> [id]
 | .BO _ f _=>f.ids
 | .xB id _ _ _ _ _=> [id]
 |_=> []
def dR.ids:dR->List Id
 | .obj _ _ c=>c.ids
 | .dead=> []
def AS.reach(s:AS):Nat->List Id->List Id->List Id
 | 0,_,acc=>acc
 |_+1,[],acc=>acc
 |n+1,id::todo,acc=>if acc.contains id then s.reach n todo acc else s.reach n (((s.cH id).getD .dead).ids++todo) (acc++ [id])
def idxOf(id:Id):List Id->Option Nat
 |[]=>aC
 |x::xs=>if x=id then aw 0 else(idxOf id xs).map (· +1)
def aF.jz(ρ:Id->Nat->Option (Id×Nat)):aF->aF
 | .ptr id j p n=>match ρ id j with | some r=> .ptr r.1 r.2 p n | none=> .gone
 | .dq id j p c i A=>match ρ id j with | some r=> .dq r.1 r.2 p c i A | none=> .gone
 | .pr a b=> .pr (a.jz ρ) (b.jz ρ)
 | .cons a b=> .cons (a.jz ρ) (b.jz ρ)
 | .fn f c=> .fn f (c.jz ρ)
 | .bx e z c=> .bx e z (c.jz ρ)
 | .iI id j=>match ρ id j with | some r=> .iI r.1 r.2 | none=> .gone
 | .yl id j=>match ρ id j with | some r=> .yl r.1 r.2 | none=> .gone
 | .BO k f p=> .BO k (f.jz ρ) p
 | .xB id _ k v u cur=> .xB id 0 k v u cur
 |v=>v
def AS.CJ(s:AS)(ids:List Id)(id:Id)(j:Nat):Option (Id×Nat):=
 match idxOf id ids,s.obj id with
 |some k,aw (v,_,_)=>if v=j then aw (.dx k,0) else aC
 |_,_=>aC
def AS.pk(s:AS)(ids:List Id)(id:Id):dR:=
 match s.cH id with
 |some (.obj _ fr c)=> .obj 0 fr (c.jz (s.CJ ids))
 |_=> .dead
def AS.Hk(s:AS)(id:Id):Nat:=match s.obj id with | some (v,_,_)=>v | none=>0
def bhJ(ids:List Id)(dst:Nat):Id->Id
 | .dx k=>ids.getD k (.dx 0)
 | .new _ j=> .new dst j
def AS.A2(s:AS)(ids:List Id)(dst:Nat):Id->Nat->Option (Id×Nat)
 | .dx k,v=>match ids[k]? with | some id=>aw (id,s.Hk id+v) | none=>aC
 | .new _ j,v=>aw (.new dst j,v)
def AS.wH(s:AS)(ids:List Id)(dst:Nat)(j:Nat):dR->dR
 | .obj v fr c=> .obj (j+v) fr (c.jz (s.A2 ids dst))
 | .dead=> .dead
def AS.conv(s:AS):List (Option Ty)->List aF->Out (List aF×List Id)
 |[],[]=> .ok ([],[])
 |some t::ps,v::vs=>(s.kU t v).bind λx=>(s.conv ps vs).bind λr=> .ok (.d t x::r.1,v.shared++r.2)
 |none::ps,v::vs=>(s.conv ps vs).bind λr=> .ok (v::r.1,r.2)
 |_,_=> .fail
def AS.kS(u:AS)(j:List Id)(dst:Nat)(s:AS):List Id->List dR->AS
 |id::ids,e::es=>AS.kS u j dst (s.bD id (u.wH j dst (u.Hk id) e)) ids es
 |_,_=>s
def aF.list:aF->List aF
 | .cons a b=>a::b.list
 |_=> []
def AS.made(s:AS)(ids:List Id)(t:Nat):List dR->AS
 |[]=>s
 |e::es=>s.born t ((e::es).map (s.wH ids t 0))
def AS.back(s:AS)(ids:List Id)(dst:Option Tmp)(g:hZ):Out AS:=
 match dst with
 |some t=> .guard ((aa g.cO==aa ids) && (g.news.isEmpty || s.ff t))
   (.ok ((AS.kS s ids t (s.made ids t g.news) ids g.cO).put dst (g.val.jz (s.A2 ids t))))
 |none=> .guard ((aa g.cO==aa ids) && g.news.isEmpty) (.ok (AS.kS s ids 0 s ids g.cO))
def AS.aum(s:AS)(vs:List aF):List Id:=s.reach 64 (vs.flatMap aF.ids) []
def AS.aes(s:AS)(id:Id):Bool:=match s.obj id with | some (_,bn,.mp ..)=>aZ | _=>bn
def AS.enter(s:AS)(j:Entry)(dst:Option Tmp)(ids:List Id)(vs:List aF):Out AS:= .guard (ids.all λid=>(s.obj id).isSome && s.aes id) (.get (j.run (vs.map (aF.jz (s.CJ ids))) (ids.map (s.pk ids))) λx=>(j.sp x).bind λx=>s.back ids dst (j.out (vs.map (aF.jz (s.CJ ids))) (ids.map (s.pk ids)) x))
def AS.call(s:AS)(j:Entry)(dst:Option Tmp)(vs:List aF):Out AS:=(s.conv j.params vs).bind λr=>(s.bP r.2).enter j dst ((s.bP r.2).aum r.1) r.1
def cE(j:BinOp)(k:mA)(x y:Int):Int:=
 match j with
 | .and=>k.wrap ((bF k.bits x &&& bF k.bits y).toNat)
 | .or=>k.wrap ((bF k.bits x ||| bF k.bits y).toNat)
 | .xor=>k.wrap ((bF k.bits x^^^bF k.bits y).toNat)
 |_=>k.wrap ((bF k.bits x &&& ~~~bF k.bits y).toNat)
def aYk(j:BinOp)(k:mA)(x:Int)(u:mA)(y:Int):Out aF:=
 match j with
 | .shl=> .CU (decide (0<=y)) (.ok (.d (.int k) (k.wrap (x*2^(min y.toNat k.bits)))))
 | .shr=> .CU (decide (0<=y)) (.ok (.d (.int k) (x.fdiv (2^(min y.toNat k.bits)))))
 |_=> .guard (decide (k=u)) (match j with
  | .add=> .ok (.d (.int k) (k.wrap (x+y)))
  | .sub=> .ok (.d (.int k) (k.wrap (x - y)))
  | .mul=> .ok (.d (.int k) (k.wrap (x*y)))
  | .quo=> .CU (!(decide (y=0))) (.ok (.d (.int k) (k.wrap (x.tdiv y))))
  | .rem=> .CU (!(decide (y=0))) (.ok (.d (.int k) (x.tmod y)))
  | .eql=> .ok (.d .bool (x==y))
  | .neq=> .ok (.d .bool (x !=y))
  | .lss=> .ok (.d .bool (decide (x < y)))
  | .leq=> .ok (.d .bool (decide (x<=y)))
  | .gtr=> .ok (.d .bool (decide (x > y)))
  | .geq=> .ok (.d .bool (decide (x>=y)))
  |j=> .ok (.d (.int k) (cE j k x y)))
def bbO(j:BinOp)(x y:ByteArray):Out aF:=
 match j with
 | .add=> .CU (decide (((x.size+y.size:Nat):Int)<=IntKind.i64.max)) (.ok (.d .str (x++y)))
 | .eql=> .ok (.d .bool (x.toList==y.toList))
 | .neq=> .ok (.d .bool (!(x.toList==y.toList)))
 | .lss=> .ok (.d .bool (Op.bytesLess x.toList y.toList))
 | .geq=> .ok (.d .bool (!(Op.bytesLess x.toList y.toList)))
 |_=> .fail
def XJ(P:bg)(T:bk)(b:Bool):Bool:=
 match P.underlying T with | some (.struct _)=>b | some (.array _ _)=>b | some _=> !b | none=>aZ
def Xs(P:bg)(j:bk->Ty->Bool):List Field->Ty->Nat->Bool
 |[],.unit,_=>bn
 |f::fs,.pair a b,off=> !(f.name== "_") && (f.offset==off) && !(a.size==0) && (P.cellsOf f.type==a.size) && XJ P f.type a.agg && j f.type a && Xs P j fs b (off+a.size)
 |_,_,_=>aZ
def xx(P:bg):Nat->bk->Ty->Bool
 | 0,_,_=>aZ
 |n+1,T,t=>match P.underlying T,t with
  |some (.int _),.int _=>bn
  |some .bool,.bool=>bn
  |some .string,.str=>bn
  |some (.array m e),.arr m' j=>(m==m') && !(j.size==0) && (P.cellsOf e==j.size) && XJ P e j.agg && xx P n e j
  |some (.struct fs),t=> !P.stoodInHeld T && Xs P (xx P n) fs.toList t 0
  |_,_=>aZ
def KK(P:bg)(T:bk):aF->aF->Out Bool
 | .d t x,.d u y=>(Out.opt (AD u t y)).bind λy=> .guard ((t.agg && !P.eqGuardType P.depth T || decide (t= .bool)) && xx P depth T t) (.ok (t.beq x y))
 | .fR,.fR=> .guard (isSl P T) (.ok bn)
 | .d (.slice t) l,.fR=> .guard (isSl P T) (.CU (decide (0 < aa (l:List t.den))) (.ok aZ))
 | .fR,.d (.slice t) l=> .guard (isSl P T) (.CU (decide (0 < aa (l:List t.den))) (.ok aZ))
 | .dq _ _ _ _ _ j,.fR=> .guard (isSl P T) (.CU (decide (0 < j)) (.ok aZ))
 | .fR,.dq _ _ _ _ _ j=> .guard (isSl P T) (.CU (decide (0 < j)) (.ok aZ))
 | .qW,.qW=> .guard (isPt P T) (.ok bn)
 | .ptr ..,.qW=> .guard (isPt P T) (.ok aZ)
 | .qW,.ptr .. => .guard (isPt P T) (.ok aZ)
 | .Cw,.Cw=> .guard (isFn P T) (.ok bn)
 | .fn ..,.Cw=> .guard (isFn P T) (.ok aZ)
 | .Cw,.fn .. => .guard (isFn P T) (.ok aZ)
 |_,_=> .fail
where
 isSl (P:bg) (T:bk):Bool:=match P.underlying T with | some (.slice _)=>bn | _=>aZ
 isPt (P:bg) (T:bk):Bool:=match P.underlying T with | some (.pointer _)=>bn | _=>aZ
 isFn (P:bg) (T:bk):Bool:=match P.underlying T with | some (.func _ _ _)=>bn | _=>aZ
def bis(P:bg)(T:bk)(j:BinOp)(x y:aF):Out aF:=
 match x,y with
 | .d (.int k) a,.d (.int u) b=>aYk j k a u b
 | .d .str a,.d .str b=>bbO j a b
 |x,y=>match j with
  | .eql=>(KK P T x y).bind λb=> .ok (.d .bool b)
  | .neq=>(KK P T x y).bind λb=> .ok (.d .bool (!b))
  |_=> .fail
def bnL(j:UnOp)(x:aF):Out aF:=
 match j,x with
 | .not,.d .bool b=> .ok (.d .bool (!b))
 | .neg,.d (.int k) n=> .ok (.d (.int k) (k.wrap (0 - n)))
 | .xor,.d (.int k) n=> .ok (.d (.int k) (cE .xor k (if k.signed then -1 else k.max) n))
 |_,_=> .fail
def bX(s:ByteArray):List Int:=s.data.toList.map λb=>(b.toNat:Int)
def kE(l:List Int):ByteArray:=⟨(l.map λn=>UInt8.ofNat n.toNat).toArray⟩
def AS.bfW(s:AS)(t:Ty)(v:aF):Out t.den:=s.kU t v
def bht(P:bg)(s:AS)(u:Bool)(j dst:bk)(x:aF):Out aF:=
 match x,P.underlying dst,P.underlying j with
 | .d (.int _) n,aw (.int k),aw _=> .ok (.d (.int k) (k.wrap n))
 | .d .str a,aw .string,aw _=> .ok (.d .str a)
 | .d .str a,aw (.slice e),aw _=>match P.underlying e with
  |some (.int .u8)=> .ok (.d (.slice (.int .u8)) (bX a))
  |_=> .fail
 |_,_,_=> .fail
def aBV(P:bg)(s:AS)(j:Bool)(u dst:bk)(x:aF):Out aF:=bht P s j u dst x
def asInt:aF->Out Int
 | .d (.int _) n=> .ok n
 |_=> .fail
def bounds(s:AS)(n:Nat)(u j:Option cD):Out (Nat×Nat):=
 (match j with
  |some h=>(asInt (s.ev h)).bind λh=> .CU (decide (0<=h/\h<=(n:Int))) (.ok h.toNat)
  |none=> .ok n).bind λh=>
 (match u with
  |some l=>(asInt (s.ev l)).bind λl=> .CU (decide (0<=l/\l<=(h:Int))) (.ok l.toNat)
  |none=> .ok 0).bind λl=> .ok (l,h)
def nh(P:bg)(T:bk):Option Nat:=
 match P.underlying T with
 |some (.array _ e)=>match P.cellsOf e with | 0=>aC | z+1=>aw (z+1)
 |some (.slice e)=>match P.cellsOf e with | 0=>aC | z+1=>aw (z+1)
 |_=>aC
def DB(P:bg)(T:bk):Option Nat:=
 match P.underlying T with
 |some (.array n _)=>aw n
 |_=>aC
def YC(P:bg)(s:AS)(T:bk)(x:aF)(A u:Option cD):Out aF:=
 match x with
 | .d .str a=> .guard (match P.underlying T with | some .string=>bn | _=>aZ) ((bounds s a.size A u).bind λb=> .ok (.d .str (a.extract b.1 b.2)))
 | .d (.slice t) l=> .guard (match nh P T,DB P T with | some z,aC=>z==t.size | _,_=>aZ)
   ((bounds s (aa (l:List t.den)) A u).bind λb=> .ok (.d (.slice t) (cut l b.1 (b.2 - b.1))))
 | .fR=> .guard (match nh P T,DB P T with | some _,aC=>bn | _,_=>aZ) ((bounds s 0 A u).bind λ_=> .ok .fR)
 | .dq id j p c i B=>(s.row id j p).bind λr=> .guard (match nh P T,DB P T with | some z,aC=>z==r.2.1.size | _,_=>aZ)
   ((bounds s B A u).bind λb=> .ok (.dq id j p (c+b.1*r.2.1.size) (i+b.1) (b.2 - b.1)))
 | .ptr id j p n=>(s.row id j p).bind λr=> .guard (match nh P T,DB P T with | some z,aw _=>z==r.2.1.size | _,_=>aZ)
   (.CU (decide (DB P T=aw (aa r.2.2)/\r.1=n)) ((bounds s ((DB P T).getD 0) A u).bind λb=> .ok (.dq id j (p++ [.arr]) (n+b.1*r.2.1.size) b.1 (b.2 - b.1))))
 | .iU (.arr n t) l=> .guard (match nh P T,DB P T with | some z,aw m=>(z==t.size) && (m==n) | _,_=>aZ)
   ((bounds s n A u).bind λb=> .ok (.d (.slice t) (cut l b.1 (b.2 - b.1))))
 |_=> .fail
def wN(P:bg)(s:AS)(T:bk)(x:aF)(i:Int):Out aF:=
 match x with
 | .d (.slice t) l=> .guard (match nh P T,DB P T with | some z,aC=>z==t.size | _,_=>aZ)
   (.CU (decide (0<=i/\i < (aa (l:List t.den):Int))) (.ok (.iU t (nth t l i.toNat))))
 | .iU (.arr n t) l=> .guard (match nh P T,DB P T with | some z,aw m=>(z==t.size) && (m==n) | _,_=>aZ)
   (.CU (decide (0<=i/\i < (n:Int))) (.ok (.iU t (nth t l i.toNat))))
 | .dq id u p c j A=>(s.row id u p).bind λr=> .guard (match nh P T,DB P T with | some z,aC=>z==r.2.1.size | _,_=>aZ)
   (.CU (decide (0<=i/\i < (A:Int))) (.ok (.ptr id u (p++ [.idx (j+i.toNat)]) (c+i.toNat*r.2.1.size))))
 | .ptr id u p n=> .guard (match nh P T,DB P T with | some _,aw _=>bn | _,_=>aZ)
   (.CU (decide (0<=i/\i < (((DB P T).getD 0:Nat):Int))) (.ok (.ptr id u (p++ [.idx i.toNat]) (n+i.toNat*(nh P T).getD 0))))
 |_=> .fail
def fieldInfo(P:bg)(T:bk)(f:Nat):Option (Nat×bk):=
 match P.underlying T with
 |some (.struct fs)=>match fs[f]? with | some x=>aw (x.offset,x.type) | none=>aC
 |_=>aC
def partOf:aF->Nat->Option (Nat×aF)
 | .d (.pair a _) x,0=>aw (0,.d a x.1)
 | .d (.pair a b) x,n+1=>match partOf (.d b x.2) n with | some (o,v)=>aw (a.size+o,v) | none=>aC
 | .pr a _,0=>aw (0,a)
 | .pr a b,n+1=>match partOf b n with | some (o,v)=>aw (a.size+o,v) | none=>aC
 |_,_=>aC
def ME(P:bg)(T:bk)(x:aF)(f:Nat):Out aF:=
 match fieldInfo P T f with
 |some (o,u)=> .guard (!(P.cellsOf u==0)) (match x with
  | .ptr id j p n=> .ok (.ptr id j (p++tV f) (n+o))
  | .iU t x=>match partOf (.d t x) f with
   |some (A,.d B y)=> .guard (o==A) (.ok (.iU B y))
   |_=> .fail
  |_=> .fail)
 |none=> .fail
def axJ(P:bg)(T:bk)(x:aF)(f:Nat):Out aF:=
 match fieldInfo P T f,partOf x f with
 |some (o,j),aw (u,v)=> .guard ((o==u) && fits P j v) (.ok v)
 |_,_=> .fail
def ax8(P:bg)(T:bk)(x:aF)(i:Int):Out aF:=
 match x,P.underlying T with
 | .d (.arr n t) l,aw (.array m e)=> .guard ((n==m) && fits P e (.d t t.zero)) (.CU (decide (0<=i/\i < (n:Int))) (.ok (.d t (nth t l i.toNat))))
 | .d .str a,aw .string=> .CU (decide (0<=i/\i < (a.size:Int))) (.ok (.d (.int .u8) ((a.data.toList.getD i.toNat 0).toNat:Int)))
 |_,_=> .fail
def bjM:aF->Out aF
 | .d (.jj t) l=> .CU (l:Option (List t.den)).isNone (.ok .fR)
 |v=> .ok v
def aaI(P:bg)(s:AS)(T:bk)(x:aF):Out aF:=
 match x with
 | .ptr id j p n=>match s.obj id with
  |some (v,_,c)=> .guard (v==j) ((loc c.strip p).bind λr=> .guard (fits P T r.2) (.CU (decide (r.1=n)) (bjM r.2)))
  |none=> .fail
 | .iU t y=> .guard (fits P T (.d t y)) (.ok (.d t y))
 |_=> .fail
def Sl(P:bg)(s:AS)(T:bk)(x v:aF):Out AS:=
 match x with
 | .ptr id j p n=>match s.obj id with
  |some (u,fr,c)=> .guard ((u==j) && !fr && fits P T v) ((loc c.strip p).bind λr=> .guard (fits P T r.2) (.CU (decide (r.1=n)) ((Dj c.strip p v).bind λc'=> .ok (s.bD id (.obj u fr (c.wrap c'))))))
  |none=> .fail
 |_=> .fail
def bfp(P:bg)(T:bk)(x:aF):Out aF:=
 match P.underlying T,x with
 |some .string,.d .str a=> .ok (.d (.int .i64) (a.size:Int))
 |some (.slice _),.d (.slice t) l=> .ok (.d (.int .i64) (aa (l:List t.den):Int))
 |some (.slice _),.fR=> .ok (.d (.int .i64) (0:Int))
 |some (.slice _),.dq _ _ _ _ _ j=> .ok (.d (.int .i64) (j:Int))
 |some (.array n _),_=> .ok (.d (.int .i64) (n:Int))
 |_,_=> .fail
def Qx(P:bg)(s:AS)(t:Ty)(X:bk)(x:aF):Out (List t.den):=
 match x with
 | .d .str a=>match P.underlying X with
  |some .string=>Out.opt (AD (.slice (.int .u8)) (.slice t) (bX a))
  |_=> .fail
 |x=>match P.underlying X with
  |some (.slice _)=>s.bfW (.slice t) x
  |_=> .fail
def cM(n b:Nat):Bool:=decide (n*b<=140737488355328/\n<=9223372036854775807)
def MA(P:bg)(j:Bool)(T:bk):Option (bk×Ty×Nat):=
 match P.underlying T with
 |some (.slice e)=>match awg P j depth e with
  |some t=>match(P.cellsOf e==t.size) && !(t.size==0) && aAL P e (.d t t.zero) with | true=>aw (e,t,P.bytesOf e) | false=>aC
  |none=>aC
 |_=>aC
def ajI(P:bg)(T:bk):Option (bk×Ty×Nat):=MA P aZ T
def axz(P:bg)(T:bk):Option (bk×Ty×Nat):=
 match Nat.ble 100000 T with
 |true=>MA P bn (T - 100000)
 |false=>MA P aZ T
def aCK(P:bg)(s:AS)(dst:Option Tmp)(T X:bk)(n:Int):Out AS:=
 match ajI P T,dst,P.underlying X with
 |some (e,t,b),aw q,aw (.int _)=> .guard (s.ff q) (.CU (decide (0 < n) && cM n.toNat b)
   (.ok ((s.born q [.obj 0 aZ (.vec e t (ag n.toNat t.zero))]).put dst (.dq (.new q 0) 0 [] 0 0 n.toNat))))
 |_,_,_=> .fail
def aRm(u:Bool):List aF->Out aF
 |[.d (.int k) x,.d (.int j) y]=> .guard (decide (k=j)) (.ok (.d (.int k) (match u with | true=>(if x < y then y else x) | false=>(if y < x then y else x))))
 |_=> .fail
def DG(P:bg)(s:AS)(I A:Bool)(dst:Option Tmp)(T X:bk)(x y:aF):Out AS:=
 match MA P I T,dst with
 |some (e,t,b),aw q=>(Qx P s t X y).bind λm=>
  match x with
  | .fR=>match A with
   |true=> .CU (cM (aa m) b && decide (0 < aa m)) (.ok (s.put dst (.d (.jj t) (aw m))))
   |false=> .guard (s.ff q) (.CU (cM (aa m) b) (.ok ((s.born q [.obj 0 aZ (.vec e t m)]).put dst (.dq (.new q 0) 0 [] 0 0 (aa m)))))
  | .dq id u [] 0 0 j=>match s.obj id with
   |some (v,fr,.vec B J l)=> .guard ((v==u) && (e==B)) ((Out.opt (AD (.slice J) (.slice t) l)).bind λl=>
     .CU (decide (j<=aa l)) <| .CU ((!fr) || decide (j=aa l)) (.CU (cM (j+aa m) b)
      (.ok ((s.bD id (.obj (v+1) fr (.vec e t (l.take j++m)))).put dst (.dq id (v+1) [] 0 0 (j+aa m))))))
   |_=> .fail
  |_=> .fail
 |_,_=> .fail
def atO(P:bg)(s:AS)(dst:Option Tmp)(T X:bk)(x y:aF):Out AS:=
 match ajI P T,x with
 |some (_,t,_),.dq id u [.arr] 0 0 j=>(Qx P s t X y).bind λm=>match s.obj id with
  |some (A,aZ,.d (.arr n B) l)=> .guard ((A==u) && (j==n)) ((Out.opt (AD (.slice B) (.slice t) l)).bind λl=> .CU (decide (aa m<=n))
    (.ok ((s.bD id (.obj A aZ (.d (.arr n t) (m++(l:List t.den).drop (aa m))))).put dst (.d (.int .i64) (aa m:Int)))))
  |_=> .fail
 |_,_=> .fail
def jF(t:Ty)(s:AS):List (Nat×cD)->List t.den->Out (List t.den×List Id)
 |[],l=> .ok (l,[])
 | (i,x)::ps,l=> .guard (decide (i < aa l)) ((s.kU t (s.ev x)).bind λy=>(jF t s ps (l.set i y)).bind λr=> .ok (r.1,(s.ev x).shared++r.2))
def rv(P:bg)(fs:Array Field)(s:AS):List (Nat×cD)->aF->Out aF
 |[],v=> .ok v
 | (i,x)::ps,v=>match fs[i]?,partOf v i with
  |some f,aw (o,j)=> .guard ((f.offset==o) && fits P f.type j && fits P f.type (s.ev x)) ((Dj v (tV i) (s.ev x)).bind λv'=>rv P fs s ps v')
  |_,_=> .fail
def PR(P:bg)(s:AS)(dst:Option Tmp)(T:bk)(j:List (Nat×cD)):Out AS:=
 match P.underlying T with
 |some (.struct fs)=>match zeroOf P depth T with
  |some z=> .guard (aAL P T z && z.agg && fs.toList.all λf=>(P.info? f.type).isSome)
    ((rv P fs s j z).bind λv=> .ok (s.put dst v))
  |none=> .fail
 |some (.array n e)=>match aL5 P depth e with
  |some t=> .guard ((P.cellsOf e==t.size) && aAL P T (.d (.arr n t) (ag n t.zero))) ((jF t s j (ag n t.zero)).bind λr=> .ok ((s.bP r.2).put dst (.d (.arr n t) r.1)))
  |none=> .fail
 |_=> .fail
def pg(P:bg)(s:AS)(A u:Bool)(dst:Option Tmp)(T:bk)(n:Nat)(j:List (Nat×cD)):Out AS:=
 match MA P A T,dst with
 |some (e,t,_),aw q=> .guard (decide (n*t.size<=16777216)) ((jF t s j (ag n t.zero)).bind λr=>
   match u with
   |true=> .guard (s.ff q) (.ok (((s.bP r.2).born q [.obj 0 aZ (.vec e t r.1)]).put dst (.dq (.new q 0) 0 [] 0 0 (aa r.1))))
   |false=> .ok ((s.bP r.2).put dst (.d (.slice t) r.1)))
 |_,_=> .fail
def wR(P:bg)(s:AS)(dst:Option Tmp)(T:bk)(j cap:Int):Out AS:=
 match ajI P T,dst with
 |some (e,t,b),aw q=> .guard (s.ff q) (.CU (decide (0<=j/\j<=cap) && cM cap.toNat b)
   (.ok ((s.born q [.obj 0 aZ (.vec e t (ag j.toNat t.zero))]).put dst (.dq (.new q 0) 0 [] 0 0 j.toNat))))
 |_,_=> .fail
def bgH(P:bg)(T:bk):Bool:=
 match P.underlying T with
 |some (.struct fs)=>fs.toList.any λf=>match P.underlying f.type with | some (.pointer u)=>decide (u=T) | _=>aZ
 |_=>aZ
def boxed(P:bg)(T:bk)(z:aF):aF:=match bgH P T with | true=> .bx T 0 z | false=>z
def blf(j:Bool)(t:Ty)(x:t.den):aF:= .iU t x
def aHC(P:bg)(s:AS)(j u:Bool)(dst:Option Tmp)(T:bk)(v:aF):Out AS:=
 match dst with
 |some q=>match j with
  |true=> .guard (s.ff q && fits P T v) (.ok ((s.born q [.obj 0 aZ v]).put dst (.ptr (.new q 0) 0 [] 0)))
  |false=>match aL5 P depth T with
   |some t=> .guard (fits P T (.d t t.zero)) ((s.kU t v).bind λx=> .ok ((s.bP v.shared).put dst (blf u t x)))
   |none=> .fail
 |none=> .fail
def yH(s:AS):List cD->aF
 |[]=> .nil
 |x::xs=> .cons (s.ev x) (yH s xs)
def FV:aF->Bool
 | .cons a b=>a.fF && FV b
 | .nil=>bn
 |_=>aZ
def aNT(c a b:aF):Out aF:=
 match c with
 | .d .bool c=>match a,b with
  | .d .bool x,.d .bool y=> .ok (.d .bool (bif c then x else y))
  |a,b=> .br c (.ok a) (.ok b)
 |_=> .fail
def isObj(cd:List Nat):Option Tmp->Bool
 |some q=>cd.any λx=>decide (x=q)
 |none=>aZ
def aQ0(cd:List Nat)(dst:Option Tmp):Bool:=isObj cd (dst.map (· +100000))
def aIN(cd:List Nat)(dst:Option Tmp):Bool:=isObj cd (dst.map (· +200000))
def w7:(t:Ty)->aF->Out t.den
 |t,.d j x=>Out.opt (AD j t x)
 | .slice _,.fR=> .ok []
 | .pair a b,.pr x y=>(w7 a x).bind λx=>(w7 b y).bind λy=> .ok (x,y)
 |_,_=> .fail
def mapOf(P:bg)(T:bk):Option (bk×bk×Ty×Ty):=
 match P.underlying T with
 |some (.map K V)=>match aL5 P depth K,aL5 P depth V with
  |some j,aw vt=>match xx P depth K j && aAL P V (.d vt vt.zero) with | true=>aw (K,V,j,vt) | false=>aC
  |_,_=>aC
 |_=>aC
def lj{β:Type}(j:Ty)(x:j.den):List (j.den×β)->Option Nat
 |[]=>aC
 |p::l=>match j.beq x p.1 with | true=>aw 0 | false=>(lj j x l).map (· +1)
def bT{β:Type}(j:Ty)(x:j.den)(l:List (j.den×β)):Option β:=(lj j x l).bind λi=>(l[i]?).map (·.2)
def fi{β:Type}(j:Ty)(x:j.den)(v:β)(l:List (j.den×β)):List (j.den×β):=
 match lj j x l with | some i=>l.set i (x,v) | none=>l++ [(x,v)]
def fV{β:Type}(j:Ty)(x:j.den)(l:List (j.den×β)):List (j.den×β):=
 match lj j x l with | some i=>l.eraseIdx i | none=>l
def aHI(k v j v':Ty)(l:List (k.den×v.den)):Option (List (j.den×v'.den)):=if h:k=j/\v=v' then aw (h.1▸h.2▸l) else aC
def AS.y9(s:AS)(id:Id)(j:Nat)(u vt:Ty):Out (List (u.den×vt.den)):=
 match s.obj id with
 |some (v,_,.mp A v' l)=> .guard (v==j) (Out.opt (aHI A v' u vt l))
 |_=> .fail
def AS.Aa(s:AS)(id:Id):Bool:=match s.obj id with | some (_,fr,_)=> !fr | none=>aZ
def bhP(vt:Ty)(ok:Bool)(r:Option vt.den):aF:=
 match ok with
 |true=> .cons (.d vt (r.getD vt.zero)) (.cons (.d .bool r.isSome) .nil)
 |false=> .d vt (r.getD vt.zero)
def Qw(P:bg)(s:AS)(dst:Option Tmp)(T:bk):Out AS:=
 match mapOf P T,dst with
 |some (_,_,j,vt),aw q=> .guard (s.ff q) (.ok ((s.born q [.obj 0 aZ (.mp j vt [])]).put dst (.iI (.new q 0) 0)))
 |_,_=> .fail
def MJ(P:bg)(s:AS)(T:bk)(m k:aF)(ok:Bool):Out aF:=
 match mapOf P T,m with
 |some (_,_,j,vt),.iI id u=>(s.y9 id u j vt).bind λl=>(w7 j k).bind λk=> .ok (bhP vt ok (bT j k l))
 |_,_=> .fail
def MO(P:bg)(s:AS)(T:bk)(m k v:aF):Out AS:=
 match mapOf P T,m with
 |some (_,_,u,vt),.iI id j=>(s.y9 id j u vt).bind λl=>(w7 u k).bind λk=>(w7 vt v).bind λv=> .guard (s.Aa id) (.ok (s.bD id (.obj j aZ (.mp u vt (fi u k v l)))))
 |_,_=> .fail
def MN(P:bg)(s:AS)(T:bk)(m k:aF):Out AS:=
 match mapOf P T,m with
 |some (_,_,u,vt),.iI id j=>(s.y9 id j u vt).bind λl=>(w7 u k).bind λk=> .guard (s.Aa id) (.ok (s.bD id (.obj j aZ (.mp u vt (fV u k l)))))
 |_,_=> .fail
def AS.aDl(s:AS)(id:Id)(j:Nat):Bool:=match s.obj id with | some (v,bn,.mp ..)=>v==j | _=>aZ
def dR.aYn(q:Id):dR->Bool
 | .obj _ _ (.xB u j _ _ _ _)=>decide (u=q) && !(j==0)
 |_=>aZ
def AS.aoL(s:AS)(q:Id):Bool:=s.cO.any (dR.aYn q) || s.news.any λj=>j.any (dR.aYn q)
def ED(u vt:Ty)(l:List (u.den×vt.den))(j:Nat):u.den×vt.den:=l.getD j (u.zero,vt.zero)
def aKw(P:bg)(s:AS)(dst:Option Tmp)(T:bk)(m:aF):Out AS:=
 match mapOf P T,m,dst with
 |some (_,_,u,vt),.iI id j,aw q=>(s.y9 id j u vt).bind λl=> .guard (s.Aa id && s.ff q)
   (.ok (((s.bD id (.obj j bn (.mp u vt l))).born q [.obj 0 aZ (.xB id (j+1) u vt l aC)]).put dst (.ptr (.new q 0) 0 [] 0)))
 |_,_,_=> .fail
structure aO2 where
 i:Id
 v:Nat
 fr:Bool
 q:Id
 vr:Nat
 kt:Ty
 vt:Ty
 rest:List (kt.den×vt.den)
 cur:Option (kt.den×vt.den)
def AS.aYm(s:AS)(x:aF):Option aO2:=
 match x with
 | .ptr i u [] 0=>match s.obj i with
  |some (v,fr,.xB q (A+1) B vt j cur)=>match v==u,s.aDl q A with
   |true,bn=>aw ⟨i,v,fr,q,A,B,vt,j,cur⟩
   |_,_=>aC
  |_=>aC
 |_=>aC
def aId(s:AS)(x:aF):Out aF:=
 match s.aYm x with
 |some ⟨_,_,_,_,_,j,vt,_,aw c⟩=> .ok (.cons (.d j c.1) (.cons (.d vt c.2) .nil))
 |_=> .fail
def AS.drawn(s:AS)(t:aO2)(dst:Option Tmp)(j:Nat):AS:=(s.bD t.i (.obj t.v t.fr (.xB t.q (t.vr+1) t.kt t.vt (t.rest.eraseIdx j) (aw (ED t.kt t.vt t.rest j))))).put dst (.cons (.d .bool bn) (.cons (.d t.kt (ED t.kt t.vt t.rest j).1) (.cons (.d t.vt (ED t.kt t.vt t.rest j).2) .nil)))
def AS.unlock(s:AS)(id:Id):AS:=match s.obj id with | some (v,_,c)=>s.bD id (.obj v aZ c) | none=>s
def AS.bfQ(s:AS)(t:aO2)(dst:Option Tmp):Option AS:=
 match(s.bD t.i (.obj t.v t.fr (.xB t.q 0 t.kt t.vt [] aC))).aoL t.q with
 |false=>aw (((s.bD t.i (.obj t.v t.fr (.xB t.q 0 t.kt t.vt [] aC))).unlock t.q).put dst (.cons (.d .bool aZ) .nil))
 |true=>aC
open Classical in
def aXg{R:Type}(n:Nat)(k:Nat->Option R):Option R:=if h:∃r,0 < n/\∀j,j < n->k j=aw r then aw h.choose else aC
open Classical in
def alF{X R:Type}(S:X->Prop)(k:X->Option R):Option R:=if h:∃r,(∃x,S x)/\∀x,S x->k x=aw r then aw h.choose else aC
def bhU{R:Type}(s:AS)(dst:Option Tmp)(t:aO2)(k:AS->Option R):Option R:=
 aA (decide (0 < aa t.rest)) (aXg (aa t.rest) λj=>k (s.drawn t dst j)) (match s.bfQ t dst with | some u=>k u | none=>aC)
def AS.aNu(s:AS)(ids:List Id):Bool:=ids.all λid=>(s.obj id).isSome && s.aes id
def AS.biL{R:Type}(s:AS)(j:Entry)(dst:Option Tmp)(ids:List Id)(vs:List aF)(k:AS->Option R):Option R:=alF (j.set (vs.map (aF.jz (s.CJ ids))) (ids.map (s.pk ids))) λx=>((j.sp x).bind λx=>s.back ids dst (j.out (vs.map (aF.jz (s.CJ ids))) (ids.map (s.pk ids)) x)).run k
def AS.aMP{R:Type}(s:AS)(j:Entry)(dst:Option Tmp)(vs:List aF)(k:AS->Option R):Option R:=((s.conv j.params vs).bind λr=> .guard ((s.bP r.2).aNu ((s.bP r.2).aum r.1)) (.ok r)).run λr=>(s.bP r.2).biL j dst ((s.bP r.2).aum r.1) r.1 k
def AS.bhs{R:Type}(s:AS)(j:Entry)(dst:Option Tmp)(vs:List aF)(k:AS->Option R):Option R:=
 match j.rel with | true=>s.aMP j dst vs k | false=>(s.call j dst vs).run k
def yB:Nat:=4294967296
def Ak(P:bg)(Γ:qN)(cd:List Nat)(o:Oper)(s:AS):Out AS:=
 match o.op with
 | .move x=> .ok (s.put o.dst (s.ev x))
 | .assign x=> .ok (s.put o.dst (s.ev x))
 | .pick c a b=>(aNT (s.ev c) (s.ev a) (s.ev b)).bind λv=> .ok (s.put o.dst v)
 | .alloc T=>match zeroOf P depth T,o.dst with
  |some z,aw q=> .guard (s.ff q && aAL P T z) (.ok ((s.born q [.obj 0 aZ (boxed P T z)]).put o.dst (.ptr (.new q 0) 0 [] 0)))
  |_,_=> .fail
 | .box T x=>aHC P s (isObj cd o.dst) (aIN cd o.dst) o.dst T (s.ev x)
 | .build T u=>PR P s o.dst T u.toList
 | .buildSlice T n u=>pg P s (aQ0 cd o.dst) (isObj cd o.dst) o.dst T n u.toList
 | .load T x=>(aaI P s T (s.ev x)).bind λv=> .ok (s.put o.dst v)
 | .store T x v=>(Sl P s T (s.ev x) (s.ev v)).bind λA=> .ok (A.put o.dst .undef)
 | .nilCheck x=>match s.ev x with
  | .ptr id v p n=> .ok (s.put o.dst (.ptr id v p n))
  | .iU t y=> .ok (s.put o.dst (.iU t y))
  | .fn f c=> .ok (s.put o.dst (.fn f c))
  |_=> .fail
 | .binOp B T x y _=>(bis P T B (s.ev x) (s.ev y)).bind λv=> .ok (s.put o.dst v)
 | .unOp B _ x=>(bnL B (s.ev x)).bind λv=> .ok (s.put o.dst v)
 | .convert I dst x=>(aBV P s (isObj cd o.dst) I dst (s.ev x)).bind λv=> .ok (s.put o.dst v)
 | .makeFunc (.func f) first j=> .guard (first.isEmpty && FV (yH s j.toList)) (.ok (s.put o.dst (.fn f (yH s j.toList))))
 | .makeSlice T l c=>(asInt (s.ev l)).bind λl=>(asInt (s.ev c)).bind λc=>wR P s o.dst T l c
 | .slice T x L K aC=>(YC P s T (s.ev x) L K).bind λv=> .ok (s.put o.dst v)
 | .fieldAddr T x f=>(ME P T (s.ev x) f).bind λv=> .ok (s.put o.dst v)
 | .field T x f=>(axJ P T (s.ev x) f).bind λv=> .ok (s.put o.dst v)
 | .indexAddr T x i=>(asInt (s.ev i)).bind λi=>(wN P s T (s.ev x) i).bind λv=> .ok (s.put o.dst v)
 | .index T x i=>(asInt (s.ev i)).bind λi=>(ax8 P T (s.ev x) i).bind λv=> .ok (s.put o.dst v)
 | .extract x i=>(Out.opt ((s.ev x).list[i]?)).bind λv=> .ok (s.put o.dst v)
 | .makeMap T aC=>Qw P s o.dst T
 | .lookup T x i ok=>(MJ P s T (s.ev x) (s.ev i) ok).bind λv=> .ok (s.put o.dst v)
 | .mapUpdate T m k x=>(MO P s T (s.ev m) (s.ev k) (s.ev x)).bind λA=> .ok (A.put o.dst .undef)
 | .call c=>match c.callee with
  | .builtin .delete=>match c.args.toList,c.argTypes.toList with
   |[m,k],[T,_]=>(MN P s T (s.ev m) (s.ev k)).bind λA=> .ok (A.put o.dst .nil)
   |_,_=> .fail
  | .builtin .copy=>match c.args.toList,c.argTypes.toList with
   |[x,y],[T,X]=>atO P s o.dst T X (s.ev x) (s.ev y)
   |_,_=> .fail
  | .builtin .len=>match c.args.toList,c.argTypes.toList with
   |[x],[T]=>(bfp P T (s.ev x)).bind λv=> .ok (s.put o.dst v)
   |_,_=> .fail
  | .builtin .append=>match c.args.toList,c.argTypes.toList with
   |[x,y],[T,X]=>match s.ev x,s.ev y with
    | .fR,.d (.int _) n=>aCK P s o.dst T X n
    |_,_=>DG P s (aQ0 cd o.dst) (aIN cd o.dst) o.dst T X (s.ev x) (s.ev y)
   |_,_=> .fail
  | .builtin .cap=>match c.args.toList,c.argTypes.toList with
   |[x],[T]=>match s.ev x,P.underlying T with
    | .fR,aw (.slice _)=> .ok (s.put o.dst (.d (.int .i64) (0:Int)))
    |_,_=> .fail
   |_,_=> .fail
  | .builtin .max=>(aRm bn (c.args.toList.map s.ev)).bind λv=> .ok (s.put o.dst v)
  | .builtin .min=>(aRm aZ (c.args.toList.map s.ev)).bind λv=> .ok (s.put o.dst v)
  | .value f=>match s.ev f with
   | .fn f j=>match Γ f (c.args.toList.map s.ev++j.list) with
    |some J=> .guard (Nat.blt f yB) (s.call J o.dst (c.args.toList.map s.ev++j.list))
    |none=> .fail
   |_=> .fail
  |_=> .fail
 |_=> .fail
def aj6(j:Array cD):List Nat:=j.toList.filterMap λ | .tmp t=>aw t | _=>aC
def ad9(ops:Array Oper)(o:Oper):List Nat:=
 match o.guard with
 |some (j,_)=>match(ops[j]?).bind (·.dst) with | some t=> [t] | none=> []
 |none=> []
def beA{R:Type}(P:bg)(Γ:qN)(cd:List Nat)(ops:Array Oper)(o:Oper)(s:AS)(k:AS->Option R):Option R:=
 match o.guard with
 |none=>(Ak P Γ cd o s).run k
 |some (j,u)=>match(ops[j]?).bind (·.dst) with
  |some q=>match s.slot q with
   | .d .bool b=>match u with
    |true=>aA b ((Ak P Γ cd o (s.put (aw q) (.d .bool bn))).run k) (k ((s.put (aw q) (.d .bool aZ)).put o.dst .nil))
    |false=>aA b (k ((s.put (aw q) (.d .bool bn)).put o.dst .nil)) ((Ak P Γ cd o (s.put (aw q) (.d .bool aZ))).run k)
   | .nil=>k (s.put o.dst .nil)
   |_=>aC
  |none=>aC
def ans(s:AS)(x y:cD):Option Nat:=
 match s.ev x,s.ev y with
 | .d (.slice t) l,.fR=>aw (aa (l:List t.den))
 | .fR,.d (.slice t) l=>aw (aa (l:List t.den))
 | .dq _ _ _ _ _ j,.fR=>aw j
 | .fR,.dq _ _ _ _ _ j=>aw j
 |_,_=>aC
open Classical in
def nd{R:Type}(x y:Option R):Option R:=if x=y then x else aC
def aic:Code->List (Array Tmp×Code×Code)
 | .seq a b=>aic a++aic b
 | .cond _ a b=>aic a++aic b
 | .block _ b=>aic b
 | .scope b=>aic b
 | .loop b=>aic b
 | .rangeFunc _ j as b=> [(j,as,b)]
 |_=> []
def bpp(fn:Func)(i y:Nat):Ax:=match fn.body with
 |some c=>match(aic c)[i]? with
  |some x=>⟨y,x.1,x.2.1,x.2.2⟩
  |none=>⟨y,#[],.skip,.skip⟩
 |none=>⟨y,#[],.skip,.skip⟩
def Hw(P:bg)(y:Nat):Ax:=match P.funcs[y%yB / 16]? with
 |some fn=>bpp fn (y%16) y
 |none=>⟨y,#[],.skip,.skip⟩
open Classical in
def same{R:Type}(c c':Ax)(x:Option R):Option R:=if c=c' then x else aC
def AS.yielded(s:AS)(F:aF)(n:Nat):Option (Id×Nat×Ax×aF):=
 match F with
 | .yl id j=>match s.obj id with
  |some (v,aZ,.BO c f 0)=>match v==j && n==c.ps.size && Nat.ble yB c.y with
   |true=>aw (id,j,c,f)
   |false=>aC
  |_=>aC
 |_=>aC
def bh5(Γ:qN)(F:aF)(vs:List aF):Option (Entry×List aF):=
 match F with
 | .fn f j=>match Γ f (vs++j.list) with
  |some u=>match u.rel && Nat.blt f yB with | true=>aw (u,vs++j.list) | false=>aC
  |none=>aC
 |_=>aC
def beB{R:Type}(P:bg)(Γ:qN)(cd:List Nat)(ops:Array Oper)(o:Oper)(s:AS)(k:AS->Option R):Option R:=
 match o.guard,o.op with
 |none,.binOp .eql T x y _=>match ans s x y,KK.isSl P T with
  |some n,bn=>aA (decide (0 < n)) (k (s.put o.dst (.d .bool aZ))) (nd (k (s.put o.dst (.d .bool bn))) (k (s.put o.dst (.d .bool aZ))))
  |_,_=>beA P Γ cd ops o s k
 |none,.binOp .neq T x y _=>match ans s x y,KK.isSl P T with
  |some n,bn=>aA (decide (0 < n)) (k (s.put o.dst (.d .bool bn))) (nd (k (s.put o.dst (.d .bool bn))) (k (s.put o.dst (.d .bool aZ))))
  |_,_=>beA P Γ cd ops o s k
 |none,.range T m=>(aKw P s o.dst T (s.ev m)).run k
 |none,.entry x=>((aId s (s.ev x)).bind λv=> .ok (s.put o.dst v)).run k
 |none,.next x aZ=>match s.aYm (s.ev x) with
  |some t=>bhU s o.dst t k
  |none=>aC
 |none,.call c=>match c.callee with
  | .value F=>match s.yielded (s.ev F) c.args.size with
   |some (id,j,A,f)=>match Γ A.y (.yl id j::(c.args.toList.map s.ev++f.list)) with
    |some u=>same A (Hw P A.y) ((s.call u o.dst (.yl id j::(c.args.toList.map s.ev++f.list))).run k)
    |none=>aC
   |none=>match bh5 Γ (s.ev F) (c.args.toList.map s.ev) with
    |some (u,vs)=>s.aMP u o.dst vs k
    |none=>beA P Γ cd ops o s k
  |_=>beA P Γ cd ops o s k
 |_,_=>beA P Γ cd ops o s k
def seen{α R:Type}(l:List α):(List α->R)->R:=List.rec (motive:=λ_=>(List α->R)->R) (λk=>k []) (λx _ j k=>j λu=>k (x::u)) l
def acA{α R:Type}:∀(l:List α) (k:List α->R),seen l k=k l
 |[],_=>rfl
 |_::l,k=>acA l _
def AS.seen{R:Type}(s:AS)(k:AS->R):R:=Go.Ab.seen s.cR λl=>k ⟨l,s.cO,s.news⟩
def AS.acA{R:Type}(s:AS)(k:AS->R):s.seen k=k s:=Go.Ab.acA _ _
def beC{R:Type}(P:bg)(Γ:qN)(cd:List Nat)(ops:Array Oper):List Oper->AS->(AS->Option R)->Option R
 |[],s,k=>k s
 |o::l,s,k=>beB P Γ cd ops o s λj=>j.seen λj=>beC P Γ cd ops l j k
def aA3(acc:List Nat)(o:Oper):Nat:=(o.after.toList.filter (Region.binds .any)).foldr (λe m=>Nat.lor (Nat.lor (Nat.pow 2 e.on) (acc.getD e.on 0)) m) 0
def aA5(ops:List Oper):List Nat:=ops.foldl (λacc o=>acc++ [aA3 acc o]) []
structure Py where
 dst:Option Tmp
 cR:List Nat
 rs:List Id
 ws:List Id
def auv:Op->Bool
 | .move _=>bn
 |_=>aZ
def aDQ(s:AS)(o:Oper):List Id:=match auv o.op with | true=> [] | false=>(aj6 o.op.operands).flatMap λi=>(s.slot i).ids
def y5:List (Option Ty)->List aF->List Id
 |none::ps,v::vs=>v.ids++y5 ps vs
 |some _::ps,_::vs=>y5 ps vs
 |_,_=> []
def writes(Γ:qN)(s:AS)(o:Oper):List Id:=
 match o.op with
 | .store _ x _=>(s.ev x).ids
 | .mapUpdate _ m _ _=>(s.ev m).ids
 | .call c=>match c.callee with
  | .builtin .append=>match c.args.toList with | x::_=>(s.ev x).ids | []=> []
  | .builtin .delete=>match c.args.toList with | x::_=>(s.ev x).ids | []=> []
  | .builtin .copy=>match c.args.toList with | x::_=>(s.ev x).ids | []=> []
  | .value F=>match s.ev F with
   | .fn f j=>match Γ f (c.args.toList.map s.ev++j.list) with
    |some u=>s.reach 64 (y5 u.params (c.args.toList.map s.ev++j.list)) []
    |none=> []
   |_=> []
  |_=> []
 |_=> []
def iw(Γ:qN)(ops:Array Oper)(s:AS)(o:Oper):Py:= {dst:=o.dst,cR:=aj6 o.op.operands++ad9 ops o,rs:=aDQ s o++writes Γ s o,ws:=writes Γ s o}
def meets(j u:List Id):Bool:=j.any λx=>u.any λy=>decide (x=y)
def Py.blS(f g:Py):Bool:=
 match f.dst with
 |some t=>(g.cR.any λx=>decide (x=t)) || decide (g.dst=aw t)
 |none=>aZ
def afM(d:Option Tmp)(ids:List Id):Bool:=
 match d with
 |some q=>ids.any λx=>match x with | .new i _=>decide (i=q) | .dx _=>aZ
 |none=>aZ
def Py.indep(f g:Py):Bool:= !f.blS g && !g.blS f && !meets f.ws g.rs && !meets g.ws f.rs && !afM f.dst g.rs && !afM g.dst f.rs
def at8{R:Type}(P:bg)(Γ:qN)(cd:List Nat)(ops:Array Oper)(j:List Nat):Nat->List Oper->List (Nat×Py)->AS->(AS->Option R)->Option R
 |_,[],_,s,k=>k s
 |i,o::l,fs,s,k=>
  match fs.all λx=>(j.getD i 0).testBit x.1 || x.2.indep (iw Γ ops s o) with
  |true=>beA P Γ cd ops o s λu=>u.seen λu=>at8 P Γ cd ops j (i+1) l ((i,iw Γ ops s o)::fs) u k
  |false=>aC
def axy(ops:List Oper):Bool:=ops.zipIdx.all λx=>x.1.after.toList.all λe=> !Region.binds .any e || decide (e.on < x.2)
structure aU7 where
 j:Nat
 p:List Uv
 q:Nat
 T:bk
structure bm3 where
 j:Nat
 p:List Uv
 t:Ty
structure rM where
 aX:List Nat:=[]
 sites:List Nat:=[]
 aNb:List Id:=[]
 data:List (Nat×Ty):=[]
 owns:List aU7:=[]
 Ec:List bm3:=[]
 bnA:List Nat:=[]
 biC:List Id:=[]
 bp0:List Nat:=[]
 bqS:List Nat:=[]
 atv:List (Nat×Nat):=[]
 at4:Option Nat:=aC
structure cQ where
 X:Type
 run:AS->Option X
 out:X->Out (Exit×AS)
 set:Option (AS->X->Prop):=aC
structure iO where
 an:rM
 X:Type
 amf:Exit->AS->Option X
 out:X->Out (Exit×AS)
 ok:∀e s x,amf e s=aw x->(out x).eval=aw (e,s)
structure yu where
 cd:List Nat:=[]
 loops:Nat->rM:=λ_=> {}
 outs:Nat->Bool->rM:=λ_ _=> {}
 eT:Nat->Option cQ:=λ_=>aC
 owns:List aU7:=[]
 trim:List Nat:=[]
 res:List (Option Ty):=[]
 Ec:List bm3:=[]
 aYo:Nat->Option iO:=λ_=>aC
 aui:Nat->Option iO:=λ_=>aC
 rf:Nat->Option (Nat×List Nat):=λ_=>aC
 bqH:Nat->Option (List aU7):=λ_=>aC
 lS:Option Nat:=aC
 atv:List (Nat×Nat):=[]
def ez:Code->Nat
 | .region id _ _=>id
 | .seq a _=>ez a
 | .block _ b=>ez b
 | .loop b=>ez b
 | .scope b=>ez b
 | .cond _ a b=>match ez a with | 0=>ez b | n=>n
 |_=>0
def fD(aX:List Nat):Nat->List aF->List aF
 |_,[]=> []
 |i,v::vs=>(match aX.any (λx=>decide (x=i)) with | true=>v | false=> .undef)::fD aX (i+1) vs
def xC(aX:List Nat):Nat->List (List dR)->List (List dR)
 |_,[]=> []
 |i,v::vs=>(match aX.any (λx=>decide (x=i)) with | true=>v | false=> [])::xC aX (i+1) vs
def aF.head:aF->Option (Id×Nat)
 | .dq id j [] 0 0 _=>aw (id,j)
 | .ptr id j [] 0=>aw (id,j)
 |_=>aC
def V1(A:List dR)(b q:Nat)(i:Id)(u:Nat):Option (Id×Nat):=
 match i with
 | .dx k=>aw (.dx k,u)
 | .new x j=>match decide (x=b) with
  |true=>(match A[j]? with | some (.obj v _ _)=>(match u==v with | true=>aw (.new q j,0) | false=>aC) | _=>aC)
  |false=>(match decide (x=q) with | true=>aC | false=>aw (.new x j,u))
def dR.aFg(ρ:Id->Nat->Option (Id×Nat)):dR->dR
 | .obj _ fr c=> .obj 0 fr (c.jz ρ)
 | .dead=> .dead
def aF.aSW(ρ:Id->Nat->Option (Id×Nat))(A:Id->Bool):aF->aF
 | .xB q u k v j cur=>match A q with | true=> .xB q u k v j cur | false=> .xB q 0 k v j cur
 |c=>c.jz ρ
def dR.asy(ρ:Id->Nat->Option (Id×Nat))(j:Id->Bool):dR->dR
 | .obj v fr c=> .obj v fr (c.aSW ρ j)
 | .dead=> .dead
def TL(b q:Nat):Id->Bool | .dx _=>bn | .new x _=> !decide (x=b) && !decide (x=q)
def AS.RQ(s:AS)(b q:Nat)(j:List dR):AS:= {cR:=s.cR.map (aF.jz (V1 j b q)),cO:=s.cO.map (dR.asy (V1 j b q) (TL b q)),news:=((s.news.map λu=>u.map (dR.asy (V1 j b q) (TL b q))).set b []).set q (j.map (dR.aFg (V1 j b q)))}
def AS.at(s:AS)(j:Nat):List Uv->Out aF
 |[]=> .ok (s.slot j)
 |p=>match s.slot j with
  | .ptr id u A _=>match s.obj id with
   |some (v,_,c)=> .guard (v==u) ((loc c.strip (A++p)).bind λr=> .ok r.2)
   |none=> .fail
  |_=> .fail
def AS.putAt(s:AS)(j:Nat)(v:aF):List Uv->Out AS
 |[]=> .ok (s.put (aw j) v)
 |p=>match s.slot j with
  | .ptr id _ A _=>match s.obj id with
   |some (u,fr,c)=>match c.strip with
    | .vec .. => .fail
    |c1=>(Dj c1 (A++p) v).bind λc'=> .ok (s.bD id (.obj u fr (c.wrap c')))
   |none=> .fail
  |_=> .fail
def AS.still(s:AS):List Nat->AS
 |[]=>s
 |q::l=>(match s.obj (.new q 0) with | some (v,fr,.xB i j k t r _)=>s.bD (.new q 0) (.obj v fr (.xB i j k t r aC)) | _=>s).still l
def aD4(α:Type):Setoid (List α):=⟨List.Perm,jf,List.Perm.symm,List.Perm.trans⟩
def jJ{α:Type}(l:List α):List α:=(Quotient.exists_rep (Quotient.mk (aD4 α) l)).choose
def AS.canon(s:AS):List Id->AS
 |[]=>s
 |id::l=>(match s.obj id with | some (v,fr,.mp k t r)=>s.bD id (.obj v fr (.mp k t (jJ r))) | _=>s).canon l
def agL(s:AS):List bm3->Out AS
 |[]=> .ok s
 |o::l=>match o.p,s.slot o.j with
  |_::_,.qW=>agL s l
  |_,_=>(s.at o.j o.p).bind λu=>(s.kU o.t u).bind λx=>((s.bP u.shared).putAt o.j (.d o.t x) o.p).bind λj=>agL j l
def ai1:(t:Ty)->t.den->Out aF
 | .jj t,x=> .CU (x:Option (List t.den)).isNone (.ok .fR)
 | .pair a b,x=>(ai1 a x.1).bind λu=>(ai1 b x.2).bind λv=> .ok (aaO u v)
 |t,x=> .ok (.d t x)
def aQB(s:AS):List Nat->Out AS
 |[]=> .ok s
 |j::l=>match s.slot j with
  | .ptr id A (.idx k::p) n=>match s.obj id with
   |some (v,aZ,.vec e t r)=> .guard (v==A) (.CU (decide (k < aa r)) ((ai1 t (nth t r k)).bind λu=>
     aQB ((s.bD id (.obj v aZ (.bx e t.size (.pr (.d (.arr k t) (r.take k)) (.pr u (.d (.arr (aa (r.drop (k+1))) t) (r.drop (k+1)))))))).put (aw j) (.ptr id A (.snd:: .fst::p) n)) l))
   |_=> .fail
  | .ptr _ _ (.snd::_) _=>aQB s l
  |_=> .fail
def bci(s:AS):List Nat->Out AS
 |[]=> .ok s
 |j::l=>match s.slot j with
  | .ptr id A (.snd:: .fst::p) n=>match s.obj id with
   |some (v,aZ,.bx e z (.pr (.d (.arr k t) I) (.pr u (.d (.arr _ J) B))))=> .guard ((v==A) && (z==t.size) && !(z==0) && !(u.shared.any λi=>decide (i=id)))
     ((Out.opt (AD (.slice J) (.slice t) B)).bind λB=>(s.kU t u).bind λx=>
      bci (((s.bP u.shared).bD id (.obj v aZ (.vec e t (I++x::B)))).put (aw j) (.ptr id A (.idx k::p) n)) l)
   |_=> .fail
  |_=> .fail
def Bx(P:bg)(s:AS):List aU7->Out AS
 |[]=> .ok s
 |o::l=>match o.p,s.slot o.j with
  |_::_,.qW=>Bx P s l
  |_,_=>(s.at o.j o.p).bind λu=>match u with
  | .fR=>match axz P o.T,s.ff o.q with
   |some (e,t,_),bn=>((s.born o.q [.obj 0 aZ (.vec e t [])]).putAt o.j (.dq (.new o.q 0) 0 [] 0 0 0) o.p).bind λB=>Bx P B l
   |_,_=> .fail
  |u=>match u.head with
   |some (.new b j,A)=>match s.obj (.new b j),decide (o.q < aa s.news) with
    |some (v,_,_),bn=>match v==A with
     |true=>Bx P (s.RQ b o.q (s.news.getD b [])) l
     |false=> .fail
    |_,_=> .fail
   |_=> .fail
def awf(s:AS):List Nat->Out AS
 |[]=> .ok s
 |j::l=>match s.slot j with
  | .dq id A [] 0 0 u=>match s.obj id with
   |some (v,aZ,.vec e t r)=>match v==A with
    |true=> .CU (decide (u<=aa r)) (awf (s.bD id (.obj v aZ (.vec e t (r.take u)))) l)
    |false=> .fail
   |_=> .fail
  |_=> .fail
def asData(s:AS):List (Nat×Ty)->Out AS
 |[]=> .ok s
 | (j,t)::l=>(s.kU t (s.slot j)).bind λx=>asData ((s.bP (s.slot j).shared).put (aw j) (.d t x)) l
def aF.there(s:AS):aF->Bool
 | .ptr id _ _ _=>(s.obj id).isSome
 | .dq id _ _ _ _ _=>(s.obj id).isSome
 | .pr a b=>a.there s && b.there s
 | .cons a b=>a.there s && b.there s
 | .fn _ c=>c.there s
 | .bx _ _ c=>c.there s
 | .iI id _=>(s.obj id).isSome
 | .yl id _=>(s.obj id).isSome
 | .BO _ f _=>f.there s
 | .xB .. =>aZ
 |_=>bn
def dR.there(s:AS):dR->Bool
 | .obj _ _ (.xB id _ _ _ _ _)=>(s.obj id).isSome
 | .obj _ _ c=>c.there s
 | .dead=>bn
def aaB(an:rM)(s:AS):AS:= {cR:=fD an.aX 0 s.cR,cO:=s.cO,news:=xC an.sites 0 s.news}
def AS.aA1(s:AS):Bool:=(s.cR.all (aF.there s)) && (s.cO.all (dR.there s)) && (s.news.all λj=>j.all (dR.there s))
def yG(k v n:Nat)(i:Id)(u:Nat):Option (Id×Nat):=match i with
 | .dx j=>match jR j k with
  |true=>match jR u v with | true=>aw (.dx j,n) | false=>aC
  |false=>aw (.dx j,u)
 |i=>aw (i,u)
def Qk(k:Nat):Id->Bool | .dx j=> !jR j k | _=>bn
def dR.aKR(ρ:Id->Nat->Option (Id×Nat))(j:Id->Bool):dR->dR
 | .obj v fr c=> .obj v fr (c.aSW ρ j)
 | .dead=> .dead
def AS.aV7(s:AS)(k n:Nat):Out AS:=match s.cH (.dx k) with
 |some (.obj v fr c)=> .guard (Nat.ble v n || Nat.ble 1 n) (.ok {cR:=s.cR.map (aF.jz (yG k v n)),cO:=(s.cO.map (dR.aKR (yG k v n) (Qk k))).set k (.obj n fr (c.jz (yG k v n))),news:=s.news.map λj=>j.map (dR.aKR (yG k v n) (Qk k))})
 |_=> .fail
def atx(s:AS):List (Nat×Nat)->Out AS
 |[]=> .ok s
 |x::l=>(s.aV7 x.1 x.2).bind λs=>atx s l
def AS.bls(s:AS):List Id:=(s.reach 64 (s.cR.flatMap aF.ids++s.cO.flatMap dR.ids) []).filter λid=>match id with | .new _ _=>bn | .dx _=>aZ
def aIo(s:AS)(ids:List Id)(q:Nat):Id->Nat->Option (Id×Nat)
 | .dx k,u=>aw (.dx k,u)
 | .new x y,u=>match idxOf (.new x y) ids,s.obj (.new x y) with
  |some j,aw (v,_,_)=>match u==v with | true=>aw (.new q j,0) | false=>aC
  |_,_=>aC
def dR.bgk(ρ:Id->Nat->Option (Id×Nat)):dR->dR
 | .obj v fr c=> .obj v fr (c.jz ρ)
 | .dead=> .dead
def AS.KM(s:AS)(ids:List Id)(q:Nat):AS:= {cR:=s.cR.map (aF.jz (aIo s ids q)),cO:=s.cO.map (dR.bgk (aIo s ids q)),news:=(s.news.map λ_=> []).set q (ids.map λid=>((s.cH id).getD .dead).aFg (aIo s ids q))}
def AS.axO(s:AS):Option Nat->Out AS
 |none=> .ok s
 |some q=> .guard (Nat.blt q (aa s.news)) (.ok (s.KM s.bls q))
def norm(P:bg)(an:rM)(s:AS):Out AS:=(atx s an.atv).bind λs=>(bci (((s.bP an.aNb).still an.bnA).canon an.biC) an.bqS).bind λs=>(agL s an.Ec).bind λs=>(asData s an.data).bind λs=> .guard (aaB an s).aA1 ((aQB (aaB an s) an.bp0).bind λs=>(Bx P s an.owns).bind λs=>s.axO an.at4)
def amx{R:Type}(u:AS->Out AS)(j:Exit->AS->Out AS)(body:AS->(Exit->AS->Option R)->Option R):Nat->AS->(Exit->AS->Option R)->Option R
 | 0,_,_=>aC
 |n+1,s,k=>body s λe A=>match e with
  | .normal=>(u A).run λB=>amx u j body n B k
  |e=>(j e A).run (k e)
def aDa:Exit->Bool | .ret=>bn | _=>aZ
def bck{R:Type}(le:cQ)(s:AS)(k:Exit->AS->Option R):Option R:=
 match le.set with
 |none=>ao (le.run s) λx=>(le.out x).run λr=>k r.1 r.2
 |some S=>alF (S s) λx=>(le.out x).run λr=>k r.1 r.2
def XK{R:Type}(P:bg)(j:Option iO)(run: {R:Type}->(Exit->AS->Option R)->Option R)(k:Exit->AS->Option R):Option R:=
 match j with
 |none=>run k
 |some j=>ao (run λe s=>(norm P j.an s).run (j.amf e)) λx=>(j.out x).run λr=>k r.1 r.2
def Dv:List aF->aF
 |[]=> .nil
 |a::l=> .cons a (Dv l)
def aFi(P:bg)(h:fX):Bool:=match P.funcs[h]? with
 |some fn=> !(fn.name== "runtime.NumGoroutine") && fn.body.isSome
 |none=>aZ
def Np{R:Type}(P:bg)(Γ:qN)(an:yu)(s:AS)(f:cD)(j:Array Tmp)(as b:Code)(k:Exit->AS->Option R):Option R:=
 match an.lS,an.rf (j.getD 0 0),s.ev f with
 |none,aw (y,aX),.fn h u=>match aFi P h && s.ff (j.getD 0 0) && Nat.blt (j.getD 0 0) (aa s.cR) && Nat.blt h yB,Γ h (.yl (.new (j.getD 0 0) 0) 0::u.list) with
  |true,aw A=>((s.born (j.getD 0 0) [.obj 0 aZ (.BO ⟨y,j,as,b⟩ (Dv (fD aX 0 s.cR)) 0)]).put (aw (j.getD 0 0)) (.yl (.new (j.getD 0 0) 0) 0)).bhs A aC (.yl (.new (j.getD 0 0) 0) 0::u.list) λs3=>
   match s3.cH (.new (j.getD 0 0) 0),s3.slot (j.getD 0 0) with
   |some (.obj 0 aZ (.BO _ _ p)),.yl (.new B 0) 0=>match jR B (j.getD 0 0),p with
    |true,0=>k .normal ((s3.bD (.new (j.getD 0 0) 0) .dead).put (aw (j.getD 0 0)) .undef)
    |true,2=>k .ret ((s3.bD (.new (j.getD 0 0) 0) .dead).put (aw (j.getD 0 0)) .undef)
    |true,i+3=>k (.exit i) ((s3.bD (.new (j.getD 0 0) 0) .dead).put (aw (j.getD 0 0)) .undef)
    |_,_=>aC
   |_,_=>aC
  |_,_=>aC
 |_,_,_=>aC
def ev(P:bg)(Γ:qN)(an:yu)(N:Nat):Code-> {R:Type}->AS->(Exit->AS->Option R)->Option R
 | .skip,_,s,k=>k .normal s
 | .region id ops u,_,s,k=>XK P (an.aYo id) (λk=>match u with
  |true=>(match axy ops.toList with
   |true=>at8 P Γ an.cd ops (aA5 ops.toList) 0 ops.toList [] s λj=>k .normal j
   |false=>aC)
  |false=>beC P Γ an.cd ops ops.toList s λj=>k .normal j) k
 | .seq a b,_,s,k=>XK P (an.aui (ez b)) (λk=>ev P Γ an N a s k) λe j=>match e with | .normal=>ev P Γ an N b j k | e=>k e j
 | .cond c x y,_,s,k=>match s.ev c with
  | .d .bool b=>aA b (ev P Γ an N x s k) (ev P Γ an N y s k)
  |_=>aC
 | .block id b,_,s,k=>ev P Γ an N b s λe j=>match e with | .exit i=>(match decide (i=id) with | true=>k .normal j | false=>k (.exit i) j) | e=>k e j
 | .loop b,_,s,k=>(norm P (an.loops (ez b)) s).run λB=>match an.eT (ez b) with
  |some le=>bck le B k
  |none=>amx (norm P (an.loops (ez b))) (λe=>norm P (an.outs (ez b) (aDa e))) (ev P Γ an N b) N B k
 | .scope b,_,s,k=>ev P Γ an N b s λe j=>match e with | .goto _=>aC | e=>k e j
 | .label _,_,s,k=>k .normal s
 | .exit id,_,s,k=>k (.exit id) s
 | .ret,_,s,k=>k .ret s
 | .rangeFunc f A as b,_,s,k=>(Bx P s ((an.bqH (A.getD 0 0)).getD [])).run λs=>Np P Γ an s f A as b k
 |_,_,_,_=>aC
def aKS(P:bg)(s:AS):ResultVar->Out aF
 | .tmp t=> .ok (s.slot t)
 | .cell a T=>aaI P s T (s.slot a)
def azA(P:bg)(s:AS)(r:ResultVar):Option Ty->Out (AS×aF)
 |none=>(aKS P s r).bind λv=> .ok (s,v)
 |some t=>(aKS P s r).bind λv=>(s.kU t v).bind λx=> .ok (s.bP v.shared,.d t x)
def azB(P:bg)(s:AS):List ResultVar->List (Option Ty)->Out (AS×aF)
 |[],_=> .ok (s,.nil)
 |r::rs,ts=>(azA P s r (ts.headD aC)).bind λx=> .guard x.2.fF ((azB P x.1 rs ts.tail).bind λy=> .ok (y.1,.cons x.2 y.2))
def azC(P:bg)(fn:Func)(j:List (Option Ty))(s:AS):Out (AS×aF):=
 match fn.results.toList with
 |[r]=>azA P s r (j.headD aC)
 |rs=>azB P s rs j
def kQ:Code->List Code
 | .seq a b=>kQ a++kQ b
 | .cond _ a b=>kQ a++kQ b
 | .block _ b=>kQ b
 | .scope b=>kQ b
 | .loop b=>b::kQ b
 |_=> []
def sF(fn:Func)(i:Nat):Code:=match fn.body with | some c=>(kQ c).getD i .skip | none=> .skip
def Jx(P:bg)(Γ:qN)(an:yu)(N:Nat)(fn:Func)(i:Nat){R:Type}(s:AS)(u:AS->Option R)(A:Exit->AS->Option R):Option R:=
 ev P Γ an N (sF fn i) s λe j=>match e with
  | .normal=>(norm P (an.loops (ez (sF fn i))) j).run u
  |e=>(norm P (an.outs (ez (sF fn i)) (aDa e)) j).run (A e)
def aaM(P:bg)(Γ:qN)(an:yu)(N:Nat)(fn:Func)(i:Nat){R:Type}(n:Nat)(s:AS)(k:Exit->AS->Option R):Option R:=amx (norm P (an.loops (ez (sF fn i)))) (λe=>norm P (an.outs (ez (sF fn i)) (aDa e))) (ev P Γ an N (sF fn i)) n s k
def Id.bhN:Id->Bool | .new _ _=>bn | .dx _=>aZ
def AS.ad5(s:AS)(v:aF):List Id:=(s.reach 64 (v.ids++s.cO.flatMap dR.ids) []).filter Id.bhN
def Xy(ids:List Id):Id->Nat->Option (Id×Nat)
 | .dx k,v=>aw (.dx k,v)
 |id,v=>match idxOf id ids with | some j=>aw (.new 0 j,v) | none=>aC
def dR.fin(ids:List Id):dR->dR
 | .obj v fr c=> .obj v fr (c.jz (Xy ids))
 | .dead=> .dead
def AS.bhw(s:AS)(ids:List Id)(v:aF):hZ:= {val:=v.jz (Xy ids),cO:=s.cO.map (dR.fin ids),news:=ids.map λid=>((s.cH id).getD .dead).fin ids}
def AS.fin(s:AS)(v:aF):hZ:=s.bhw (s.ad5 v) v
def start(fn:Func)(args:List aF)(cO:List dR):AS:= {cR:=args++ag (fn.ntmps - aa args) .undef,cO,news:=ag fn.ntmps []}
def baL(fn:Func):List Nat:=fn.results.toList.map λr=>match r with | .tmp t=>t | .cell a _=>a
def AS.drop(s:AS)(j:List Nat):AS:= {cR:=fD j 0 s.cR,cO:=s.cO,news:=s.news}
def finish(P:bg)(an:yu)(fn:Func)(s:AS):Out hZ:=(agL s an.Ec).bind λs=>(Bx P (s.drop (baL fn)) an.owns).bind λs=>(awf s an.trim).bind λs=>(atx s an.atv).bind λs=>(azC P fn an.res s).bind λr=> .ok (r.1.fin r.2)
def bhp(P:bg)(y:Nat):Func:= {(default:Func) with body:=aw (.seq (Hw P y).as (Hw P y).b)}
def AS.afe(s:AS)(q p:Nat):Option AS:=match s.cH (.dx 0) with
 |some (.obj 0 aZ (.BO c f j))=>(match jR q j with | true=>aw (s.bD (.dx 0) (.obj 0 aZ (.BO c f p))) | false=>aC)
 |_=>aC
def I4:List (Tmp×aF)->List aF->List aF
 |[],l=>l
 |x::xs,l=>I4 xs (l.set x.1 x.2)
def ap6(j:List Tmp)(args:List aF)(cO:List dR):AS:= {cR:=I4 (j.zip (args.take (aa j))) (args.drop (aa j)),cO,news:=ag (aa (args.drop (aa j))) []}
def bhv:Exit->Option Nat
 | .normal=>aw 0
 | .ret=>aw 2
 | .exit i=>aw (i+3)
 |_=>aC
def bes(P:bg)(an:yu)(s:AS)(v:aF):Out hZ:=(agL s an.Ec).bind λs=>(Bx P (s.drop []) an.owns).bind λs=>(awf s an.trim).bind λs=>(atx s an.atv).bind λs=> .ok (s.fin v)
def dR.first:dR->Bool
 | .obj v _ _=>jR v 0
 | .dead=>bn
def ba7(P:bg)(Γ:qN)(an:yu)(N:Nat)(c:Ax)(args:List aF)(cO:List dR){R:Type}(k:hZ->Option R):Option R:=
 match args with
 | .yl (.dx 0) 0::args=>match cO.all dR.first with | false=>aC | true=>ev P Γ an N c.as (ap6 c.ps.toList args cO) λe s=>match e with
  | .normal=>ao (s.afe 0 1) λs=>ev P Γ an N c.b s λe s=>ao (bhv e) λp=>ao (s.afe 1 p) λs=>(bes P an s (.d .bool (jR p 0))).run k
  |_=>aC
 |_=>aC
def aBa(P:bg)(Γ:qN)(an:yu)(N:Nat)(fn:Func)(args:List aF)(cO:List dR){R:Type}(k:hZ->Option R):Option R:=
 match an.lS with
 |some y=>ba7 P Γ an N (Hw P y) args cO k
 |none=>match fn.body with
 |some c=>match cO.all dR.first with | false=>aC | true=>ev P Γ an N c (start fn args cO) λe s=>match e with
  | .normal=>(finish P an fn s).run k
  | .ret=>(finish P an fn s).run k
  |_=>aC
 |none=>aC
end Go.Ab
namespace Go.Ab
inductive Own where
 |gK
 |id (i:Id)
inductive pP where
 |free
 |own (o:Own) (k:Nat)
structure Pl where
 b:Nat
 cap:Nat
structure Env where
 w:cG
 g:Nat->pP
 β:Id->Option Pl
 s:Id->Option dR
def EF(g:Nat->pP)(b off:Nat):Prop:=match g b with | .free=>True | .own _ k=>off < k
def Env.has(E:Env)(b off:Nat)(v:bh):Prop:=E.w.cell? ⟨b,off,aC⟩=aw v/\EF E.g b off
def bR{α:Type}(R:List bh->α->Prop):List bh->List α->Prop
 |cs,[]=>cs=[]
 |cs,x::xs=>∃c j,cs=c++j/\R c x/\bR R j xs
def Oc(E:Env)(a:Option Addr)(vs:List bh):Prop:=∀i v,vs[i]? =aw v->∃b off,a=aw ⟨b,off,aC⟩/\E.has b (off+i) v
def dU(E:Env):(t:Ty)->List bh->t.den->Prop
 | .int k,cs,x=>cs=[.int k x]
 | .bool,cs,x=>cs=[.bool x]
 | .str,cs,x=>cs=[.string x]
 | .slice t,cs,l=>∃a cap vs,cs=[.slice a (aa (l:List t.den)) cap]/\aa (l:List t.den)<=cap/\(0 < aa (l:List t.den)->a.isSome=bn)/\Oc E a vs/\bR (dU E t) vs l
 | .unit,cs,_=>cs=[]
 | .pair a b,cs,x=>∃j u,cs=j++u/\dU E a j x.1/\dU E b u x.2
 | .arr n t,cs,l=>aa (l:List t.den)=n/\bR (dU E t) cs l
 | .jj t,cs,x=>((x:Option (List t.den))=aC->cs=[.slice aC 0 0])/\∀l:List t.den,(x:Option (List t.den))=aw l->
   ∃a cap vs,cs=[.slice a (aa l) cap]/\aa l<=cap/\(0 < aa l->a.isSome=bn)/\Oc E a vs/\bR (dU E t) vs l
section
variable {α:Type} {R R':List bh->α->Prop} {z:Nat}
def bR.mono(h:∀c x,R c x->R' c x):∀ {cs:List bh} {l:List α},bR R cs l->bR R' cs l
 |_,[],j=>j
 |_,_::_,⟨c,cs',e,hx,hr⟩=>⟨c,cs',e,h _ _ hx,bR.mono h hr⟩
def bR.length(h:∀c x,R c x->aa c=z):∀ {cs:List bh} {l:List α},bR R cs l->aa cs=aa l*z
 |cs,[],j=>by grind [bR]
 |_,x::xs,⟨c,cs',e,hx,hr⟩=>by rw[e,aj,h c x hx,bR.length h hr,aB,gT,rW,Nat.add_comm]
def bR.all{p:bh->Prop}(h:∀c x,R c x->∀v∈c,p v):∀ {cs:List bh} {l:List α},bR R cs l->∀v∈cs,p v
 |cs,[],j,v,hv=>by have:cs=[]:=j;simp[this]at hv
 |_,_::_,⟨c,cs',e,hx,hr⟩,v,hv=>by
  rw[e]at hv;rcases bZ.1 hv with hv | hv
  .exact h _ _ hx v hv
  .exact bR.all h hr v hv
theorem bR.append:∀ {cs:List bh} {l:List α} {j:List bh} {A:List α},bR R cs l->bR R j A->bR R (cs++j) (l++A)
 |cs,[],_,_,B,u=>by grind [bR]
 |_,x::xs,_,_,⟨c,cs1,e,hx,hr⟩,u=>⟨c,cs1++_,by grind,hx,bR.append hr u⟩
def bR.take(h:∀c x,R c x->aa c=z):∀ {cs:List bh} {l:List α} (n:Nat),bR R cs l->bR R (cs.take (n*z)) (l.take n)
 |cs,[],n,j=>by grind [bR]
 |_,x::xs,0,_=>by simp[bR]
 |_,x::xs,n+1,⟨c,cs',e,hx,hr⟩=>by refine⟨c,cs'.take (n*z),?_,hx,bR.take h n hr⟩;grind [gT]
theorem bR.drop(h:∀c x,R c x->aa c=z):∀ {cs:List bh} {l:List α} (n:Nat),bR R cs l->bR R (cs.drop (n*z)) (l.drop n)
 |cs,[],n,j=>by grind [bR]
 |_,x::xs,0,j=>by grind
 |_,x::xs,n+1,⟨c,cs',e,hx,hr⟩=>by rw[e,oJ,h c x hx,gT,dJ (by grind)];simpa using bR.drop h n hr
def bR.get(h:∀c x,R c x->aa c=z){cs:List bh}{l:List α}(A:bR R cs l)(i:Nat)(B:i < aa l):R ((cs.drop (i*z)).take z) l[i]:=by have u:=bR.take h 1 (bR.drop h i A);rw[ak B]at u;simp only[rW,List.take_succ_cons,du]at u;obtain⟨c,j,e,J,I⟩:=u;have:j=[]:=I;rw[e,this,bm];exact J
def bR.set(h:∀c x,R c x->aa c=z){cs:List bh}{l:List α}(j:bR R cs l)(i:Nat)(B:i < aa l){c:List bh}{x:α}(I:R c x):
  bR R (cs.take (i*z)++c++cs.drop (i*z+aa c)) (l.set i x):=by
 rw[List.set_eq_take_append_cons_drop];have u:=bR.take h i j;have A:=bR.drop h (i+1) j;grind [bR,bR.append]
theorem bR.one{c:List bh}{x:α}(h:R c x):bR R c [x]:=⟨c,[],by simp,h,rfl⟩
end
theorem dU.size{E:Env}:∀ {t:Ty} {cs:List bh} {x:t.den},dU E t cs x->aa cs=t.size
 | .int _,_,_,h=>by simp only[dU]at h;simp[h,Ty.size]
 | .bool,_,_,h=>by simp only[dU]at h;simp[h,Ty.size]
 | .str,_,_,h=>by simp only[dU]at h;simp[h,Ty.size]
 | .slice t,_,_,h=>by simp only[dU]at h;obtain⟨a,cap,vs,rfl,_⟩:=h;simp[Ty.size]
 | .unit,_,_,h=>by simp only[dU]at h;simp[h,Ty.size]
 | .pair a b,_,_,h=>by simp only[dU]at h;obtain⟨J,K,rfl,B,I⟩:=h;simp[Ty.size,dU.size B,dU.size I]
 | .arr n t,_,_,h=>by simp only[dU]at h;rw[bR.length (λc x j=>dU.size j) h.2,h.1,Ty.size]
 | .jj t,_,x,h=>by
  simp only[dU]at h;obtain⟨u,A⟩:=h;cases j:(x:Option (List t.den)) with
  |none=>rw[u j];rfl
  |some l=>obtain⟨a,cap,vs,rfl,_⟩:=A l j;rfl
def dU.one{E:Env}:∀ {t:Ty} {cs:List bh} {x:t.den},dU E t cs x->∀c∈cs,c.oneCell'=bn
 | .int _,_,_,h=>by simp only[dU]at h;simp[h,eM]
 | .bool,_,_,h=>by simp only[dU]at h;simp[h,eM]
 | .str,_,_,h=>by simp only[dU]at h;simp[h,eM]
 | .slice t,_,_,h=>by simp only[dU]at h;obtain⟨a,cap,vs,rfl,_⟩:=h;simp[eM]
 | .unit,_,_,h=>by simp only[dU]at h;simp[h]
 | .pair a b,_,_,h=>by
  simp only[dU]at h;obtain⟨J,K,rfl,B,I⟩:=h;intro c hc;rcases bZ.1 hc with hc | hc
  .exact dU.one B c hc
  .exact dU.one I c hc
 | .arr n t,_,_,h=>by simp only[dU]at h;exact bR.all (λc x j=>dU.one j) h.2
 | .jj t,_,x,h=>by
  simp only[dU]at h;obtain⟨u,A⟩:=h;cases j:(x:Option (List t.den)) with
  |none=>rw[u j];simp[eM]
  |some l=>obtain⟨a,cap,vs,rfl,_⟩:=A l j;simp[eM]
structure yA(E E':Env):Prop where
 has:∀b off v,E.has b off v->E'.has b off v
 fz:∀b ob,E.g b= .free->E.w.heap[b]? =aw ob->E'.g b= .free/\E'.w.heap[b]? =aw ob
def yA.refl(E:Env):yA E E:=⟨λ_ _ _ h=>h,λ_ _ h j=>⟨h,j⟩⟩
def yA.trans{E E' j:Env}(h:yA E E')(u:yA E' j):yA E j:=⟨λb o v x=>u.has b o v (h.has b o v x),λb A B I=>let⟨J,K⟩:=h.fz b A B I;u.fz b A J K⟩
def Oc.mono{E E':Env}(h:yA E E'){a:Option Addr}{vs:List bh}(A:Oc E a vs):Oc E' a vs:=
 λi v B=>let⟨b,off,j,u⟩:=A i v B;⟨b,off,j,h.has _ _ _ u⟩
def dU.mono{E E':Env}(j:yA E E'):∀ {t:Ty} {cs:List bh} {x:t.den},dU E t cs x->dU E' t cs x
 | .int _,_,_,h=>by simpa only[dU]using h
 | .bool,_,_,h=>by simpa only[dU]using h
 | .str,_,_,h=>by simpa only[dU]using h
 | .slice t,_,_,h=>by simp only[dU]at h ⊢;obtain⟨a,cap,vs,e,B,J,I,A⟩:=h;exact⟨a,cap,vs,e,B,J,I.mono j,A.mono λc x u=>dU.mono j u⟩
 | .unit,_,_,h=>by simpa only[dU]using h
 | .pair a b,_,_,h=>by simp only[dU]at h ⊢;obtain⟨K,L,e,M,O⟩:=h;exact⟨K,L,e,dU.mono j M,dU.mono j O⟩
 | .arr n t,_,_,h=>by simp only[dU]at h ⊢;exact⟨h.1,h.2.mono λc x u=>dU.mono j u⟩
 | .jj t,_,_,h=>by simp only[dU]at h ⊢;refine⟨h.1,λl u=> ?_⟩;obtain⟨a,cap,vs,e,B,J,I,A⟩:=h.2 l u;exact⟨a,cap,vs,e,B,J,I.mono j,A.mono λc x u=>dU.mono j u⟩
def Env.cur(E:Env)(id:Id)(j:Nat):Prop:=∃fr c,E.s id=aw (.obj j fr c)
def Env.Oi(E:Env)(id:Id)(j:Nat):Prop:=E.s id≠aC/\∀v fr c,E.s id=aw (.obj v fr c)->j<=v
def gv(j:Bool)(cs:List bh)(v:bh):Prop:=match j with | true=>v= .agg cs.toArray | false=>cs=[v]
mutual
def V(E:Env):aF->List bh->Prop
 | .undef,_=>False
 | .gone,cs=>∃v,cs=[v]/\v.oneCell'=bn
 | .fR,cs=>cs=[.slice aC 0 0]
 | .qW,cs=>cs=[.pointer aC]
 | .Cw,cs=>cs=[.nilFunc]
 | .JA,cs=>cs=[.map aC]
 | .sb l,cs=>∃(b cap:Nat) (B:Array bh) (e:bk),cs=[.slice (aw ⟨b,0,aC⟩) (aa l) cap]/\aa l<=cap/\E.g b= .free/\E.w.heap[b]? =aw (.cells B e (B.size,B.size+1))/\∀(j:Nat) (v:bh),(l.map (Value.int .u8))[j]? =aw v->B[j]? =aw v
 | .d t x,cs=>dU E t cs x
 | .pr a b,cs=>∃I J,cs=I++J/\V E a I/\V E b J
 | .ptr id u _ n,cs=>∃a,cs=[.pointer (aw a)]/\E.Oi id u/\(E.cur id u->∃pl,E.β id=aw pl/\a=⟨pl.b,n,aC⟩)
 | .iU t x,cs=>∃b off vs,cs=[.pointer (aw ⟨b,off,aC⟩)]/\Oc E (aw ⟨b,off,aC⟩) vs/\dU E t vs x
 | .dq id u p c i A,cs=>∃a cap,cs=[.slice a A cap]/\A<=cap/\(0 < A->a.isSome=bn)/\E.Oi id u/\
   (E.cur id u->match E.β id with
    |some pl=>(0 < A\/i=0->a=aw ⟨pl.b,c,aC⟩)/\(p=[]->i=0->cap=pl.cap)
    |none=>a=aC/\A=0/\cap=0)
 | .fn f c,cs=>∃vs,cs=[.func (.func f) #[] vs.toArray]/\VC E c vs
 | .cons _ _,_=>False
 | .nil,_=>False
 | .vec ..,_=>False
 | .bx ..,_=>False
 | .yl id u,cs=>∃l,cs=[.func (.yield l) #[] #[]]/\E.Oi id u/\(E.cur id u->∃pl,E.β id=aw pl/\l=pl.b)
 | .BO ..,_=>False
 | .iI id u,cs=>∃b,cs=[.map (aw b)]/\E.Oi id u/\(E.cur id u->∃pl,E.β id=aw pl/\b=pl.b)
 | .mp ..,_ | .xB ..,_=>False
def VC(E:Env):aF->List bh->Prop
 | .nil,vs=>vs=[]
 | .cons a b,vs=>∃v j cs,vs=v::j/\V E a cs/\gv a.agg cs v/\VC E b j
 |_,_=>False
end
structure df(E E':Env):Prop where
 mem:yA E E'
 Oi:∀id ver,E.Oi id ver->E'.Oi id ver
 cur:∀id ver,E.Oi id ver->E'.cur id ver->E.cur id ver/\E'.β id=E.β id
theorem df.refl(E:Env):df E E:=⟨yA.refl E,λ_ _ h=>h,λ_ _ _ h=>⟨h,rfl⟩⟩
def df.trans{E E' j:Env}(h:df E E')(u:df E' j):df E j:=
 ⟨h.mem.trans u.mem,λid v b=>u.Oi id v (h.Oi id v b),λid v b c=>
  let⟨A,I⟩:=u.cur id v (h.Oi id v b) c
  let⟨B,J⟩:=h.cur id v b A
  ⟨B,I.trans J⟩⟩
mutual
theorem V.mono{E E':Env}(h:df E E'):∀ {a:aF} {cs:List bh},V E a cs->V E' a cs
 | .undef,_,j=>by simp only[V]at j
 | .gone,_,j=>by simpa only[V]using j
 | .fR,_,j=>by simpa only[V]using j
 | .qW,_,j=>by simpa only[V]using j
 | .Cw,_,j=>by simpa only[V]using j
 | .BO ..,_,j=>by simp only[V]at j
 | .JA,_,j=>by simpa only[V]using j
 | .sb l,_,j=>by simp only[V]at j ⊢;obtain⟨b,cap,K,e,O,T,h3,h4,h5⟩:=j;obtain⟨h6,h7⟩:=h.mem.fz b _ h3 h4;exact⟨b,cap,K,e,O,T,h6,h7,h5⟩
 | .d t x,_,j=>by simp only[V]at j ⊢;exact j.mono h.mem
 | .pr a b,_,j=>by simp only[V]at j ⊢;obtain⟨L,M,e,ha,u⟩:=j;exact⟨L,M,e,V.mono h ha,V.mono h u⟩
 | .ptr id J p n,_,j=>by simp only[V]at j ⊢;obtain⟨a,e,u,A⟩:=j;refine⟨a,e,h.Oi _ _ u,λc=> ?_⟩;obtain⟨B,I⟩:=h.cur _ _ u c;rw[I];exact A B
 | .iU t x,_,j=>by simp only[V]at j ⊢;obtain⟨b,off,vs,e,hr,hx⟩:=j;exact⟨b,off,vs,e,hr.mono h.mem,hx.mono h.mem⟩
 | .dq id J p c i len,_,j=>by simp only[V]at j ⊢;obtain⟨a,cap,e,hl,hs,u,A⟩:=j;refine⟨a,cap,e,hl,hs,h.Oi _ _ u,λc=> ?_⟩;obtain⟨B,I⟩:=h.cur _ _ u c;rw[I];exact A B
 | .fn f c,_,j=>by simp only[V]at j ⊢;obtain⟨vs,e,A⟩:=j;exact⟨vs,e,VC.mono h A⟩
 | .cons _ _,_,j=>by simp only[V]at j
 | .nil,_,j=>by simp only[V]at j
 | .vec ..,_,j=>by simp only[V]at j
 | .bx ..,_,j=>by simp only[V]at j
 | .yl id J,_,j=>by simp only[V]at j ⊢;obtain⟨b,e,u,A⟩:=j;refine⟨b,e,h.Oi _ _ u,λc=> ?_⟩;obtain⟨B,I⟩:=h.cur _ _ u c;rw[I];exact A B
 | .iI id J,_,j=>by simp only[V]at j ⊢;obtain⟨b,e,u,A⟩:=j;refine⟨b,e,h.Oi _ _ u,λc=> ?_⟩;obtain⟨B,I⟩:=h.cur _ _ u c;rw[I];exact A B
 | .mp ..,_,j | .xB ..,_,j=>by simp only[V]at j
theorem VC.mono{E E':Env}(h:df E E'):∀ {a:aF} {vs:List bh},VC E a vs->VC E' a vs
 | .nil,_,j=>by simpa only[VC]using j
 | .cons a b,_,j=>by simp only[VC]at j ⊢;obtain⟨v,u,cs,e,A,I,B⟩:=j;exact⟨v,u,cs,e,V.mono h A,I,VC.mono h B⟩
 | .undef,_,j=>by simp only[VC]at j
 | .gone,_,j=>by simp only[VC]at j
 | .fR,_,j=>by simp only[VC]at j
 | .qW,_,j=>by simp only[VC]at j
 | .Cw,_,j=>by simp only[VC]at j
 | .yl ..,_,j | .BO ..,_,j=>by simp only[VC]at j
 | .JA,_,j=>by simp only[VC]at j
 | .sb _,_,j=>by simp only[VC]at j
 | .d t x,_,j=>by simp only[VC]at j
 | .pr a b,_,j=>by simp only[VC]at j
 | .ptr ..,_,j=>by simp only[VC]at j
 | .iU ..,_,j=>by simp only[VC]at j
 | .dq ..,_,j=>by simp only[VC]at j
 | .fn ..,_,j=>by simp only[VC]at j
 | .vec ..,_,j=>by simp only[VC]at j
 | .bx ..,_,j=>by simp only[VC]at j
 | .iI ..,_,j=>by simp only[VC]at j
 | .mp ..,_,j | .xB ..,_,j=>by simp only[VC]at j
end
def V.size{E:Env}:∀ {a:aF} {cs:List bh},V E a cs->aa cs=a.size
 | .undef,_,j=>by simp only[V]at j
 | .gone,_,j=>by simp only[V]at j;obtain⟨v,rfl,_⟩:=j;rfl
 | .fR,_,j=>by simp only[V]at j;rw[j];rfl
 | .qW,_,j=>by simp only[V]at j;rw[j];rfl
 | .Cw,_,j=>by simp only[V]at j;rw[j];rfl
 | .yl ..,_,j=>by simp only[V]at j;obtain⟨_,rfl,_⟩:=j;rfl
 | .BO ..,_,j=>by simp only[V]at j
 | .JA,_,j=>by simp only[V]at j;rw[j];rfl
 | .sb _,_,j=>by simp only[V]at j;obtain⟨_,_,_,_,rfl,_⟩:=j;rfl
 | .d t x,_,j=>by simp only[V]at j;exact j.size
 | .pr a b,_,j=>by simp only[V]at j;obtain⟨B,I,rfl,u,A⟩:=j;simp[aF.size,V.size u,V.size A]
 | .ptr ..,_,j=>by simp only[V]at j;obtain⟨a,rfl,_⟩:=j;rfl
 | .iU ..,_,j=>by simp only[V]at j;obtain⟨_,_,_,rfl,_⟩:=j;rfl
 | .dq ..,_,j=>by simp only[V]at j;obtain⟨_,_,rfl,_⟩:=j;rfl
 | .fn ..,_,j=>by simp only[V]at j;obtain⟨_,rfl,_⟩:=j;rfl
 | .cons _ _,_,j=>by simp only[V]at j
 | .nil,_,j=>by simp only[V]at j
 | .vec ..,_,j=>by simp only[V]at j
 | .bx ..,_,j=>by simp only[V]at j
 | .iI ..,_,j=>by simp only[V]at j;obtain⟨_,rfl,_⟩:=j;rfl
 | .mp ..,_,j | .xB ..,_,j=>by simp only[V]at j
def V.one{E:Env}:∀ {a:aF} {cs:List bh},V E a cs->∀c∈cs,c.oneCell'=bn
 | .undef,_,j=>by grind [V]
 | .gone,_,j=>by grind [V]
 | .fR,_,j=>by grind [V,eM]
 | .qW,_,j=>by grind [V,eM]
 | .Cw,_,j=>by grind [V,eM]
 | .yl ..,_,j=>by grind [V,eM]
 | .BO ..,_,j=>by grind [V]
 | .JA,_,j=>by grind [V,eM]
 | .sb _,_,j=>by grind [V,eM]
 | .d t x,_,j=>by simp[V]at j;exact j.one
 | .pr a b,_,j=>by
  obtain⟨B,I,rfl,u,A⟩:=j;intro c hc;rcases bZ.1 hc with hc | hc
  .exact V.one u c hc
  .exact V.one A c hc
 | .ptr ..,_,j=>by grind [V,eM]
 | .iU ..,_,j=>by grind [V,eM]
 | .dq ..,_,j=>by grind [V,eM]
 | .fn ..,_,j=>by grind [V,eM]
 | .cons _ _,_,j=>by grind [V]
 | .nil,_,j=>by grind [V]
 | .vec ..,_,j=>by grind [V]
 | .bx ..,_,j=>by grind [V]
 | .iI ..,_,j=>by grind [V,eM]
 | .mp ..,_,j | .xB ..,_,j=>by grind [V]
def aF.aFW:∀ {v:aF},v.agg=aZ->v.size=1
 | .d (.int _) _,_ | .d .bool _,_ | .d .str _,_ | .d (.slice _) _,_ | .d (.jj _) _,_=>rfl
 | .d .unit _,h | .d (.pair _ _) _,h | .d (.arr _ _) _,h=>by simp[aF.agg,Ty.agg]at h
 | .pr _ _,h=>by simp[aF.agg]at h
 | .undef,_ | .gone,_ | .fR,_ | .qW,_ | .Cw,_ | .JA,_ | .ptr ..,_ | .iU ..,_ | .dq ..,_ | .fn ..,_ | .cons ..,_ | .nil,_ | .vec ..,_ | .sb _,_ | .bx ..,_ | .iI ..,_ | .mp ..,_ | .xB ..,_ | .yl ..,_ | .BO ..,_=>rfl
def VS(E:Env):aF->bh->Prop
 | .undef,_=>True
 | .cons a b,v=>∃vs,v= .tuple vs.toArray/\VC E (.cons a b) vs
 | .nil,v=>v= .tuple #[]
 |a,v=>∃cs,V E a cs/\gv a.agg cs v
theorem VS.mono{E E':Env}(h:df E E'):∀ {a:aF} {v:bh},VS E a v->VS E' a v:=by
 intro a v j
 cases a <;> first
  |trivial
  |exact j
  | (obtain⟨cs,u,A⟩:=j;exact⟨cs,V.mono h u,A⟩)
  | (obtain⟨vs,e,B⟩:=j;exact⟨vs,e,VC.mono h B⟩)
theorem VS.undef{E:Env}{v:bh}:VS E .undef v:=trivial
theorem VS.of{E:Env}{a:aF}{cs:List bh}{v:bh}(h:V E a cs)(j:gv a.agg cs v):VS E a v:=by
 cases a <;> first
  | (simp[V]at h;done)
  |exact⟨cs,h,j⟩
def VS.fF{E:Env}{a:aF}{v:bh}(h:VS E a v)(j:a.fF=bn):∃cs,V E a cs/\gv a.agg cs v:=by
 cases a <;> first
  | (simp[aF.fF]at j;done)
  |exact h
def VS.single{E:Env}{a:aF}{v:bh}(h:VS E a v)(A:a.fF=bn)(u:a.agg=aZ):V E a [v]:=by obtain⟨cs,B,j⟩:=h.fF A;rw[u]at j;have:cs=[v]:=j;rw[<-this];exact B
def gv.cells{j:Bool}{cs:List bh}{v:bh}(h:gv j cs v)(u:∀c∈cs,c.oneCell'=bn):v.cells=cs.toArray:=by
 cases j with
 |true=>have:=h;rw[this];rfl
 |false=>
  have e:cs=[v]:=h;have:=u v (by simp[e]);rw[e];cases v <;> first | rfl | grind [eM]
end Go.Ab
namespace Go.Ab
section
variable {α β:Type}
theorem aM{a b:α}:(Out.ok a).eval=aw b↔a=b:=by simp[Out.eval]
theorem aG{b:α}:(Out.fail:Out α).eval=aw b↔False:=by simp[Out.eval]
theorem cV{c:Bool}{r:Out α}{b:α}:(Out.CU c r).eval=aw b↔c=bn/\r.eval=aw b:=by cases c <;> simp[Out.eval]
theorem ba{c:Bool}{r:Out α}{b:α}:(Out.guard c r).eval=aw b↔c=bn/\r.eval=aw b:=by cases c <;> simp[Out.guard,Out.eval]
def alN{x:Option β}{f:β->Out α}{b:α}:(Out.get x f).eval=aw b↔∃y,x=aw y/\(f y).eval=aw b:=by cases x <;> simp[Out.eval]
def l7{x:Option α}{b:α}:(Out.opt x).eval=aw b↔x=aw b:=by cases x <;> simp[Out.opt,Out.eval]
def axA(o:Out α)(f:α->Out β):(o.bind f).eval=o.eval.bind λa=>(f a).eval:=by
 induction o with
 |ok a=>rfl
 |fail=>rfl
 |CU c r j=>cases c <;> simp[Out.bind,Out.eval,j]
 |get x g j=>cases x <;> simp[Out.bind,Out.eval,j]
 |br c x y u A=>cases c <;> simp[Out.bind,Out.eval,u,A]
theorem aI{o:Out α}{f:α->Out β}{b:β}:(o.bind f).eval=aw b↔∃a,o.eval=aw a/\(f a).eval=aw b:=by simp[axA,Option.bind_eq_some_iff]
def run_eq{R:Type}(o:Out α)(k:α->Option R):o.run k=o.eval.bind k:=by
 induction o with
 |ok a=>rfl
 |fail=>rfl
 |CU c r j=>cases c <;> simp[Out.run,Out.eval,aA,j]
 |get x g j=>cases x <;> simp[Out.run,Out.eval,ao,j]
 |br c x y u A=>cases c <;> simp[Out.run,Out.eval,aA,u,A]
theorem jE{R:Type}{o:Out α}{k:α->Option R}{r:R}:o.run k=aw r↔∃a,o.eval=aw a/\k a=aw r:=by simp[run_eq,Option.bind_eq_some_iff]
end
theorem lf{t j:Ty}{x:t.den}{y:j.den}(h:AD t j x=aw y):∃e:t=j,e▸x=y:=by grind [AD]
def bR.map{α β:Type}{R:List bh->α->Prop}{j:List bh->β->Prop}{f:α->β}(h:∀c x,R c x->j c (f x)):∀ {cs:List bh} {l:List α},bR R cs l->bR j cs (l.map f)
 |_,[],u=>u
 |_,x::xs,⟨c,cs',e,hx,hr⟩=>⟨c,cs',e,h c x hx,bR.map h hr⟩
def dU.bkG{E:Env}:∀(a b:Ty) (f:a.den->b.den),arv a b=aw f->∀(cs:List bh) (x:a.den),dU E a cs x->dU E b cs (f x):=by
 intro a b
 induction a,b using arv.induct with
 |case1 t=>
  intro f j cs x u;unfold arv at j;rw[Ed rfl]at j;obtain rfl:=cj j;simp only[dU]at u;obtain⟨A,B⟩:=u;show dU E (.slice t) cs ((x:Option (List t.den)).getD []);simp only[dU];cases u:(x:Option (List t.den)) with
  |none=>exact⟨aC,0,[],A u,ax _,λh=>absurd h (jb 0),λi v hh=>by simp at hh,rfl⟩
  |some l=>exact B l u
 |case2 t t' M=>
  intro f j;unfold arv at j;rw[dif_neg M]at j;cases j
 |case3 t=>
  intro f j cs x u;unfold arv at j;rw[Ed rfl]at j;obtain rfl:=cj j;simp only[dU]at u ⊢;refine⟨λh=>(by cases h),λl hl=> ?_⟩;obtain rfl:x=l:=cj hl;exact u
 |case4 t t' M=>
  intro f j;unfold arv at j;rw[dif_neg M]at j;cases j
 |case5 a b c d f g A B K L=>
  intro k I cs x u;unfold arv at I;rw[B,A]at I;obtain rfl:=cj I;simp only[dU]at u ⊢;obtain⟨ca,cb,e,ha,hb⟩:=u;exact⟨ca,cb,e,K f B ca x.1 ha,L g A cb x.2 hb⟩
 |case6 a b c d hn K L=>
  intro p J;unfold arv at J;split at J
  .rename_i f k A B;exact(hn _ _ A B).elim
  .cases J
 |case7 a b f A ih=>
  intro k I cs x u;unfold arv at I;rw[A]at I;obtain rfl:=cj I;simp only[dU]at u ⊢;obtain⟨ad,cap,vs,e,hl,hs,hr,hc⟩:=u;rw[cz];exact⟨ad,cap,vs,e,hl,hs,hr,hc.map λc x u=>ih f A c x u⟩
 |case8 a b A ih=>
  intro p J;unfold arv at J;rw[A]at J;cases J
 |case9 a A B O T=>
  intro f j cs x u;rw[arv.eq_5 _ _ A B O T,Ed rfl]at j;obtain rfl:=cj j;exact u
 |case10 a b A B O T M=>
  intro f j;rw[arv.eq_5 _ _ A B O T,dif_neg M]at j;cases j
theorem bei{t j:Ty}{f:t.den->j.den}(u:arv t j=aw f):t.agg=j.agg:=by
 unfold arv at u;split at u
 .rfl
 .rfl
 .rfl
 .rfl
 grind
def atN{t j:Ty}{x:t.den}{y:j.den}(h:PX t j x=aw y):t.agg=j.agg:=by grind [PX,lf,bei]
theorem Mk{E:Env}{t u:Ty}{x:t.den}{y:u.den}(h:PX t u x=aw y){cs:List bh}(A:dU E t cs x):dU E u cs y:=by
 unfold PX at h;split at h
 .rename_i z j;obtain⟨e,j⟩:=lf j;subst e;obtain rfl:=cj h;simp only at j;rw[<-j];exact A
 .split at h
  .rename_i f B;obtain rfl:=cj h;exact dU.bkG _ _ f B cs x A
  .cases h
def aP6{E:Env}{t j:Ty}{x:List t.den}{y:List j.den}(h:PX (.slice t) (.slice j) x=aw y):aa y=aa x/\∀vs,bR (dU E t) vs x->bR (dU E j) vs y:=by
 unfold PX at h;split at h
 .grind [lf]
 .split at h
  .rename_i p u;obtain rfl:=cj h;unfold arv at u;cases A:arv t j with
   |none=>grind
   |some q=>
    rw[A]at u;obtain rfl:=cj u;exact⟨cz _,λvs B=>B.map λc x I=>dU.bkG _ _ q A c x I⟩
  grind
def VO(E:Env):aF->List bh->Prop
 | .vec _ t l,cs=>bR (dU E t) cs l
 |a,cs=>V E a cs
theorem VO.of{E:Env}{a:aF}{cs:List bh}(h:V E a cs):VO E a cs:=by cases a <;> first | exact h | grind [V]
def aF.lg:aF->Bool | .vec .. =>bn | .mp .. =>bn | .xB .. =>bn | .BO .. =>bn | _=>aZ
def VO.to{E:Env}{a:aF}{cs:List bh}(h:VO E a cs)(j:a.lg=aZ):V E a cs:=by cases a <;> first | exact h | grind [aF.lg]
def ayB{t:Ty}{l:List t.den}{i:Nat}(h:i < aa l):nth t l i=l[i]:=by grind [nth]
theorem anH{α:Type}(cs:List α)(n m k j:Nat)(h:k+j<=m):(((cs.drop n).take m).drop k).take j=(cs.drop (n+k)).take j:=by grind [yy,iH]
def aci{E:Env}{t:Ty}{cs:List bh}{l:List t.den}(h:bR (dU E t) cs l){i:Nat}(j:i < aa l):
  dU E t ((cs.drop (i*t.size)).take t.size) l[i]/\i*t.size+t.size<=aa cs:=by
 have u:∀c x,dU E t c x->aa c=t.size:=λc x A=>A.size
 refine⟨h.get u i j,?_⟩;rw[h.length u,<-Nat.succ_mul];exact eL _ j
def xF{E:Env}:∀(p:List Uv) (c:aF) (cs:List bh) (n:Nat) (v:aF),VO E c cs->(loc c p).eval=aw (n,v)->
  (n=0/\v=c)\/(V E v ((cs.drop n).take v.size)/\n+v.size<=aa cs)
 |[],c,cs,n,v,I,h=>by grind [loc,aM]
 |L::p,c,cs,n,v,I,h=>by
  by_cases u7:L= .arr
  .subst u7;have h':(loc c p).eval=aw (n,v):=by grind [loc]
   exact xF p c cs n v I h'
  right;have B:∀(c':aF) (A:List bh) (K:Nat) (v':aF),V E c' A->(loc c' p).eval=aw (K,v')->V E v' ((A.drop K).take v'.size)/\K+v'.size<=aa A:=by
   intro c' A K v' M hl;rcases xF p c' A K v' (VO.of M) hl with⟨rfl,rfl⟩ | hh
   .have:=M.size;grind
   grind
  have j:∀(a b:aF) (u J:List bh),cs=u++J->aa u=a.size->V E b J->((loc b p).bind λ(n,v)=>Out.ok (a.size+n,v)).eval=aw (n,v)->
    V E v ((cs.drop n).take v.size)/\n+v.size<=aa cs:=by
   intro a b u J e hl hb hh;obtain⟨⟨K,v'⟩,h1,T⟩:=aI.1 hh;obtain⟨rfl,rfl⟩:=T;subst e;rw[<-hl,oJ,dJ aq,bf,Nat.add_sub_cancel_left];grind
  have elem:∀(t:Ty) (l:List t.den) (i:Nat),bR (dU E t) cs l->(Out.CU (decide (i < aa l)) ((loc (.d t (nth t l i)) p).bind λ(n,v)=>Out.ok (i*t.size+n,v))).eval=aw (n,v)->
    V E v ((cs.drop n).take v.size)/\n+v.size<=aa cs:=by
   intro t l i Hr hh;obtain⟨hi,hh⟩:=cV.1 hh;have hi:i < aa l:=by grind
   obtain⟨⟨K,v'⟩,h1,T⟩:=aI.1 hh;obtain⟨rfl,rfl⟩:=T;obtain⟨hp,hle⟩:=aci Hr hi;rw[ayB hi]at h1;have hv:V E (.d t l[i]) ((cs.drop (i*t.size)).take t.size):=by grind [V]
   grind [anH,VO]
  cases c with
  |pr a b=>
   simp only[VO,V]at I;obtain⟨u,J,e,O,hb⟩:=I;cases L with
   |arr=>grind
   |fst=>
    simp only[loc]at h;obtain⟨h3,h4⟩:=B a u n v O h;subst e;refine⟨?_,by grind⟩;rw[oJ,List.take_append,dy,Nat.sub_eq_zero_of_le (by omega:v.size<=aa u - n),du,bm];exact h3
   |snd=>simp only[loc]at h;exact j a b u J e O.size hb h
   |idx i=>grind [loc,aG]
  |d t x=>
   simp only[VO,V]at I;cases t with
   |pair ta tb=>
    simp only[dU]at I;obtain⟨u,J,e,O,hb⟩:=I;cases L with
    |arr=>grind
    |fst=>
     simp only[loc]at h;obtain⟨h3,h4⟩:=B (.d ta x.1) u n v (by grind [V]) h;subst e;refine⟨?_,by grind⟩;rw[oJ,List.take_append,dy,Nat.sub_eq_zero_of_le (by omega:v.size<=aa u - n),du,bm];exact h3
    |snd=>simp only[loc]at h;exact j (.d ta x.1) (.d tb x.2) u J e O.size (by grind [V]) h
    |idx i=>grind [loc,aG]
   |arr m t=>
    simp only[dU]at I;cases L with
    |arr=>grind
    |idx i=>grind [loc]
    |fst=>grind [loc,aG]
    |snd=>grind [loc,aG]
   |_=>cases L <;> first | exact absurd rfl u7 | (simp only[loc,aG]at h)
  |vec e t l=>
   simp only[VO]at I;cases L with
   |arr=>grind
   |idx i=>grind [loc]
   |fst=>grind [loc,aG]
   |snd=>grind [loc,aG]
  |_=>cases L <;> first | exact absurd rfl u7 | (simp only[loc,aG]at h)
def aG5{E:Env}{a b:aF}{j u:List bh}(A:V E a j)(B:V E b u):V E (aaO a b) (j++u):=by unfold aaO;grind [V,dU]
def ahh(a b:aF):(aaO a b).lg=aZ:=by unfold aaO;split <;> rfl
def dP(cs:List bh)(n:Nat)(vs:List bh):List bh:=cs.take n++vs++cs.drop (n+aa vs)
theorem Sk{j u vs:List bh}{n:Nat}(h:n+aa vs<=aa j):dP (j++u) n vs=dP j n vs++u:=by unfold dP;grind
def acI{j u vs:List bh}{n:Nat}:dP (j++u) (aa j+n) vs=j++dP u n vs:=by unfold dP;rw[List.take_append,bp aq,oJ,dJ aq];grind
def aLD{cs vs:List bh}{i z n:Nat}(A:i+z<=aa cs)(h:n+aa vs<=z):
  dP cs (i+n) vs=cs.take i++dP ((cs.drop i).take z) n vs++cs.drop (i+z):=by
 have e:cs=cs.take i++((cs.drop i).take z++cs.drop (i+z)):=by rw[<-iH,ee,ee]
 have j:aa (cs.take i)=i:=by simp;omega
 have u:aa ((cs.drop i).take z)=z:=by simp;omega
 conv=>lhs;rw[e,show i+n=aa (cs.take i)+n by rw[j]]
 rw[acI,Sk aq];simp only[aR]
theorem vE{cs vs:List bh}{n:Nat}(h:n+aa vs<=aa cs):aa (dP cs n vs)=aa cs:=by grind [dP]
def lK:aF->aF->Prop
 | .vec e t l,.vec j A u=>j=e/\A=t/\aa u=aa l
 | .vec ..,_=>False
 |_,.vec .. =>False
 | .mp ..,_ | .xB ..,_ | .BO ..,_=>False
 |_,.mp .. | _,.xB .. | _,.BO .. =>False
 |_,_=>True
def lK.zb{a b:aF}(h:lK a b)(j:a.lg=aZ):b.lg=aZ:=by
 cases b <;> first
  |rfl
  | (cases a <;> first | (simp[aF.lg]at j;done) | exact h.elim)
def lK.of{a b:aF}(j:a.lg=aZ)(u:b.lg=aZ):lK a b:=by
 cases a <;> first
  | (done)
  | (cases b <;> first | trivial | (done))
def V.zb{E:Env}{a:aF}{cs:List bh}(h:V E a cs):a.lg=aZ:=by cases a <;> first | rfl | (simp only[V]at h)
def uR{E:Env}:∀(p:List Uv) (c:aF) (cs:List bh) (n:Nat) (o v c':aF) (vs:List bh),VO E c cs->(loc c p).eval=aw (n,o)->V E v vs->
  (Dj c p v).eval=aw c'->n+aa vs<=aa cs/\VO E c' (dP cs n vs)/\
   lK c c'
 |[],c,cs,n,o,v,c',vs,B,j,hv,h=>by
  simp only[loc,aM,kX]at j;obtain⟨rfl,rfl⟩:=j
  have main:∀(bl0:c.lg=aZ),(Out.guard (v.fF && (c.size==v.size)) (.ok v)).eval=aw c'->0+aa vs<=aa cs/\VO E c' (dP cs 0 vs)/\
   lK c c':=by
   intro bl0 hg;obtain⟨T,J⟩:=ba.1 hg;obtain rfl:=aM.1 J;simp only[aQ,lZ]at T;have e1:=(B.to bl0).size;have e2:=hv.size;refine⟨aq,?_,?_⟩
   .grind [VO.of,dP]
   .exact lK.of bl0 hv.zb
  cases c with
  |vec e t l=>grind [Dj,aG]
  |mp k v l=>grind [VO,V]
  |xB q ver k v rest cur=>grind [VO,V]
  |BO k f p=>grind [VO,V]
  |_=>exact main rfl (by simpa only[Dj]using h)
 |st::p,c,cs,n,o,v,c',vs,B,j,hv,h=>by
  by_cases u7:st= .arr
  .subst u7;have hl':(loc c p).eval=aw (n,o):=by grind [loc]
   have h':(Dj c p v).eval=aw c':=by grind [Dj]
   exact uR p c cs n o v c' vs B hl' hv h'
  have left:∀(a b:aF) (u A:List bh),cs=u++A->V E a u->V E b A->(loc a p).eval=aw (n,o)->((Dj a p v).bind λa'=>Out.ok (aaO a' b)).eval=aw c'->
    n+aa vs<=aa cs/\VO E c' (dP cs n vs)/\c'.lg=aZ:=by
   intro a b u A e I hb j hh;obtain⟨a',T,J⟩:=aI.1 hh;obtain rfl:=aM.1 J;obtain⟨h3,h4,h5⟩:=uR p a u n o v a' vs (VO.of I) j hv T;subst e;refine⟨by grind,?_,ahh _ _⟩;rw[Sk h3];have boe:a'.lg=aZ:=h5.zb I.zb;exact VO.of (aG5 (h4.to boe) hb)
  have right:∀(a b:aF) (u A:List bh),cs=u++A->aa u=a.size->V E a u->V E b A->((loc b p).bind λ(n,v)=>Out.ok (a.size+n,v)).eval=aw (n,o)->
    ((Dj b p v).bind λb'=>Out.ok (aaO a b')).eval=aw c'->n+aa vs<=aa cs/\VO E c' (dP cs n vs)/\c'.lg=aZ:=by
   intro a b u A e beF I hb j hh;obtain⟨⟨n',v'⟩,T,J⟩:=aI.1 j;simp only[aM,kX]at J;obtain⟨rfl,rfl⟩:=J;obtain⟨b',h3,h4⟩:=aI.1 hh;obtain rfl:=aM.1 h4;obtain⟨h5,h6,h7⟩:=uR p b A n' v' v b' vs (VO.of hb) T hv h3;subst e;refine⟨by grind,?_,ahh _ _⟩;rw[<-beF,acI];have boe:b'.lg=aZ:=h7.zb hb.zb;exact VO.of (aG5 I (h6.to boe))
  have O:∀(t:Ty) (l:List t.den) (i:Nat) (mk:List t.den->aF),bR (dU E t) cs l->(Out.CU (decide (i < aa l)) ((loc (.d t (nth t l i)) p).bind λ(n,v)=>Out.ok (i*t.size+n,v))).eval=aw (n,o)->
    (Out.CU (decide (i < aa l)) ((Dj (.d t (nth t l i)) p v).bind fun
     | .d t' y=>(Out.opt (AD t' t y)).bind λy=> .ok (mk (l.set i y))
     |_=> .fail)).eval=aw c'->
    n+aa vs<=aa cs/\∃l',c'=mk l'/\aa l'=aa l/\bR (dU E t) (dP cs n vs) l':=by
   intro t l i mk Hr j hh;obtain⟨hi,j⟩:=cV.1 j;have hi:i < aa l:=by grind
   obtain⟨⟨n',v'⟩,T,J⟩:=aI.1 j;simp only[aM,kX]at J;obtain⟨rfl,rfl⟩:=J;obtain⟨_,hh⟩:=cV.1 hh;obtain⟨w,h3,h4⟩:=aI.1 hh;obtain⟨hp,hle⟩:=aci Hr hi;rw[ayB hi]at T h3;have bnx:V E (.d t l[i]) ((cs.drop (i*t.size)).take t.size):=by grind [V]
   have hlen:aa ((cs.drop (i*t.size)).take t.size)=t.size:=hp.size;obtain⟨h5,h6,h7⟩:=uR p _ _ n' v' v w vs (VO.of bnx) T hv h3;cases w with
   |d t' y=>
    simp only at h4;obtain⟨y',h8,h9⟩:=aI.1 h4;obtain⟨rfl,h8⟩:=lf (l7.1 h8);simp only at h8;subst h8;obtain rfl:=aM.1 h9;refine⟨aq,_,rfl,by simp,?_⟩;have hy:dU E t' (dP ((cs.drop (i*t'.size)).take t'.size) n' vs) y:=by grind [VO,V]
    have:=bR.set (λc x hx=>dU.size hx) Hr i hi hy;rw[aLD (by omega:i*t'.size+t'.size<=aa cs) aq];rwa[hy.size]at this
   |_=>simp only[aG]at h4
  cases c with
  |pr a b=>
   simp only[VO,V]at B;obtain⟨u,A,e,I,hb⟩:=B;cases st with
   |arr=>exact absurd rfl u7
   |fst=>
    simp only[loc]at j;simp only[Dj]at h;obtain⟨K,L,M⟩:=left a b u A e I hb j h;exact⟨K,L,lK.of rfl M⟩
   |snd=>
    simp only[loc]at j;simp only[Dj]at h;obtain⟨K,L,M⟩:=right a b u A e I.size I hb j h;exact⟨K,L,lK.of rfl M⟩
   |idx i=>grind [aG,Dj]
  |d t x=>
   simp only[VO,V]at B;cases t with
   |pair ta tb=>
    simp only[dU]at B;obtain⟨u,A,e,I,hb⟩:=B;have ha':V E (.d ta x.1) u:=by simpa only[V]using I
    have hb':V E (.d tb x.2) A:=by grind [V]
    cases st with
    |arr=>exact absurd rfl u7
    |fst=>
     simp only[loc]at j;simp only[Dj]at h;obtain⟨K,L,M⟩:=left _ _ u A e ha' hb' j h;exact⟨K,L,lK.of rfl M⟩
    |snd=>
     simp only[loc]at j;simp only[Dj]at h;obtain⟨K,L,M⟩:=right (.d ta x.1) (.d tb x.2) u A e I.size ha' hb' j h;exact⟨K,L,lK.of rfl M⟩
    |idx i=>grind [aG,Dj]
   |arr m t=>
    simp only[dU]at B;cases st with
    |arr=>exact absurd rfl u7
    |idx i=>
     simp only[loc]at j;simp only[Dj]at h;obtain⟨K,l',e,L,M⟩:=O t x i (λl=> .d (.arr m t) l) B.2 j h;grind [VO,V,dU,lK]
    |fst=>grind [aG,Dj]
    |snd=>grind [aG,Dj]
   |_=>cases st <;> first | exact absurd rfl u7 | (simp only[loc,aG]at j)
  |vec e t l=>
   simp only[VO]at B;cases st with
   |arr=>exact absurd rfl u7
   |idx i=>
    simp only[loc]at j;simp only[Dj]at h;obtain⟨K,l',e',L,M⟩:=O t l i (λl=> .vec e t l) B j h;grind [VO,lK]
   |fst=>grind [aG,Dj]
   |snd=>grind [aG,Dj]
  |_=>cases st <;> first | exact absurd rfl u7 | (simp only[loc,aG]at j)
end Go.Ab
namespace Go.Ab
def bk9(E:Env)(id:Id)(fr:Bool)(e:bk)(t:Ty)(l:List t.den):Prop:=
 0 < t.size/\match E.β id with
  |none=>l=[]
  |some pl=>∃cur k,E.w.heap[pl.b]? =aw (.cells cur e (0,0))/\cur.size=pl.cap*t.size/\aa l<=pl.cap/\pl.cap<=maxLen/\E.g pl.b= .own (.id id) k/\
    k<=aa l*t.size/\(fr=aZ->k=0)/\bR (dU E t) (cur.toList.take (aa l*t.size)) l
def aF.PQ:aF->Pl->Nat->bk->Prop
 | .bx j 0 _,_,_,e=>e=j
 | .bx j (z+1) c,pl,n,e=>e=j/\n=pl.cap*(z+1)/\pl.cap<=maxLen/\c.size<=n
 |_,_,_,_=>True
def aF.FT:aF->Nat->Nat
 | .bx _ (_+1) c,_=>c.size
 |_,n=>n
def aF.ayc:aF->Bool | .bx .. =>bn | _=>aZ
def V.Gr{E:Env}{a:aF}{cs:List bh}(h:V E a cs):a.ayc=aZ:=by cases a <;> first | rfl | grind [V]
def afQ{c:aF}(h:c.ayc=aZ):c.strip=c:=by cases c <;> first | rfl | grind [aF.ayc]
def adK{c:aF}(h:c.ayc=aZ)(pl:Pl)(n:Nat)(e:bk):c.PQ pl n e:=by cases c <;> first | trivial | (simp at h)
def akY{c:aF}(h:c.ayc=aZ)(n:Nat):c.FT n=n:=by cases c <;> first | rfl | grind [aF.ayc]
def YF(c:aF){c':aF}(h:c'.ayc=aZ):(c.wrap c').strip=c':=by cases c <;> first | rfl | exact afQ h
def WZ{c c':aF}{pl:Pl}{n:Nat}{e:bk}(j:c.PQ pl n e)(h:c'.ayc=aZ)(u:c'.size=c.strip.size):(c.wrap c').PQ pl n e:=by
 cases c with
 |bx A z c=>cases z with
  |zero=>exact j
  |succ z=>exact⟨j.1,j.2.1,j.2.2.1,by rw[u];exact j.2.2.2⟩
 |_=>exact adK h pl n e
def adJ{c c':aF}{n:Nat}(h:c'.ayc=aZ)(j:c'.size=c.strip.size):(c.wrap c').FT n=c.FT n:=by
 cases c with
 |bx u z c=>cases z with
  |zero=>rfl
  |succ z=>exact j
 |_=>exact akY h n
def awM{c:aF}{pl:Pl}{n:Nat}{e:bk}(h:c.PQ pl n e):c.FT n<=n:=by
 cases c with
 |bx j z c=>cases z with
  |zero=>exact ax _
  |succ z=>exact h.2.2.2
 |_=>exact ax _
def aVX(id:Id)(fr:Bool):pP:=match fr with | true=> .free | false=> .own (.id id) 0
def Zc(E:Env)(id:Id)(fr:Bool)(c:aF):Prop:=∃pl cur e,E.β id=aw pl/\E.w.heap[pl.b]? =aw (.cells cur e (0,0))/\E.g pl.b=aVX id fr/\c.PQ pl cur.size e/\V E c.strip (cur.toList.take (c.FT cur.size))
def Alike{α β:Type}(R:α->β->Prop):List α->List β->Prop
 |[],[]=>True
 |x::xs,y::ys=>R x y/\Alike R xs ys
 |_,_=>False
def Alike.mono{α β:Type}{R j:α->β->Prop}(h:∀x y,R x y->j x y):∀ {u:List α} {A:List β},Alike R u A->Alike j u A
 |[],[],_=>trivial
 |_::_,_::_,⟨h1,h2⟩=>⟨h _ _ h1,Alike.mono h h2⟩
 |[],_::_,h=>h.elim
 |_::_,[],h=>h.elim
def Jg(E:Env)(t:Ty)(v:bh)(x:t.den):Prop:=∃cs,dU E t cs x/\gv t.agg cs v
def LX(E:Env)(j vt:Ty)(e:gR)(x:j.den×vt.den):Prop:=Jg E j e.key x.1/\Jg E vt e.val x.2
def LX.mono{E E':Env}(h:yA E E'){j vt:Ty}{e:gR}{x:j.den×vt.den}(L:LX E j vt e x):LX E' j vt e x:=
 let⟨⟨J,u,B⟩,K,A,I⟩:=L
 ⟨⟨J,u.mono h,B⟩,K,A.mono h,I⟩
def awu(E:Env)(j vt:Ty)(A:List gR)(l:List (j.den×vt.den)):Prop:=∃u,Alike (LX E j vt) A u/\u.Perm l
def awu.mono{E E':Env}(h:yA E E'){j vt:Ty}{u:List gR}{l:List (j.den×vt.den)}(J:awu E j vt u l):awu E' j vt u l:=
 let⟨K,A,B⟩:=J
 ⟨K,A.mono λ_ _ I=>I.mono h,B⟩
def oI(u:List gR)(j:Nat):Prop:=(u.map (·.born)).Nodup/\∀e∈u,e.born < j
def oI.nil(n:Nat):oI [] n:=⟨gO,λ_ h=>(by cases h)⟩
def oI.push{u:List gR}{j:Nat}(h:oI u j){e:gR}(A:e.born=j):oI (u++ [e]) (j+1):=by grind [oI]
def oI.erase{A:List gR}{u:Nat}(h:oI A u)(j:Nat):oI (A.eraseIdx j) u:=⟨h.1.sublist ((List.eraseIdx_sublist A j).map _),λx B=>h.2 x ((List.eraseIdx_sublist A j).subset B)⟩
def oI.set{A:List gR}{u:Nat}(h:oI A u){j:Nat}{e x:gR}(B:A[j]? =aw e)(I:x.born=e.born):oI (A.set j x) u:=by grind [List.map_set,oI]
def bnQ(E:Env)(id:Id)(A vt:Ty)(l:List (A.den×vt.den)):Prop:=
 ∃pl u j,E.β id=aw pl/\E.w.heap[pl.b]? =aw (.map u j)/\E.g pl.b= .own (.id id) 0/\(awu E A vt u.toList l/\(l.map (·.1)).Nodup)/\oI u.toList j
def bid(E:Env)(i q:Id)(L:Nat)(J vt:Ty)(I:List (J.den×vt.den))(cur:Option (J.den×vt.den)):Prop:=
 ∃pl M since seen c0,E.β i=aw pl/\E.w.heap[pl.b]? =aw (.mapIter (aw M) since seen c0)/\E.g pl.b= .own (.id i) 0/\∀K,L=K+1->E.Oi q K/\
  (E.cur q K->(∃k v l,E.s q=aw (.obj K bn (.mp k v l)))/\∃u B j,E.β q=aw u/\u.b=M/\E.w.heap[u.b]? =aw (.map B j)/\E.g u.b= .own (.id q) 0/\
   (∀x∈B.toList,x.born < since)/\(since<=c0/\since<=j)/\(B.toList.map (·.born)).Nodup/\awu E J vt (B.toList.filter λe=> !seen.contains e.born) I/\
   ∀x,cur=aw x->∃(e:gR) (A:Array Nat),e∈B.toList/\seen=A.push e.born/\c0=j/\LX E J vt e x)
def LH:Nat->LoopState->Option Code->Prop
 | 0,j,u=>j= .ready/\u=aC
 | 1,j,_=>j= .busy
 | 2,j,u=>j= .done/\u=aw .ret
 |n+3,j,u=>j= .done/\u=aw (.exit n)
def Jh(E:Env)(f:aF)(tmps:Array bh):Prop:=aa f.list=tmps.size/\∀i,VS E (f.list.getD i .undef) (tmps.getD i undef)
def bnR(E:Env)(id:Id)(c:Ax)(f:aF)(p:Nat):Prop:=∃pl r,E.β id=aw pl/\E.w.heap[pl.b]? =aw (.loop r)/\E.g pl.b= .own (.id id) 0/\(r.params=c.ps/\r.assign=c.as/\r.body=c.b)/\Jh E f r.tmps/\LH p r.state r.pending
def FJ(E:Env)(id:Id)(fr:Bool):aF->Prop
 | .BO c f p=>bnR E id c f p
 | .vec e t l=>bk9 E id fr e t l
 | .mp u vt l=>bnQ E id u vt l
 | .xB q A u vt j cur=>bid E id q A u vt j cur
 |c=>Zc E id fr c
def FJ.box{E:Env}{id:Id}{fr:Bool}{c:aF}(h:FJ E id fr c)(j:c.lg=aZ):Zc E id fr c:=by cases c <;> first | exact h | grind [aF.lg]
def Zc.obj{E:Env}{id:Id}{fr:Bool}{c:aF}(h:Zc E id fr c):FJ E id fr c:=by cases c <;> first | exact h | grind [aF.strip,V,Zc]
def jH(E:Env):Prop:=∀id j fr c,E.s id=aw (.obj j fr c)->FJ E id fr c
structure Trans(w w':cG)(g g':Nat->pP):Prop where
 os:w'.os=w.os
 tape:w'.tape=w.tape
 output:w'.output=w.output/\w.drawn<=w'.drawn
 size:w.heap.size<=w'.heap.size
 aiW:∀b,b < w.heap.size->match g b with
  | .free=>g' b= .free/\w'.heap[b]? =w.heap[b]?
  | .own .gK k=>g' b= .own .gK k/\w'.heap[b]? =w.heap[b]?
  | .own (.id _) k=>(g' b= .free\/∃i k',g' b= .own (.id i) k'/\k<=k')/\∀off v,off < k->w.cell? ⟨b,off,aC⟩=aw v->w'.cell? ⟨b,off,aC⟩=aw v
theorem Trans.refl(w:cG)(g:Nat->pP):Trans w w g g:=
 ⟨rfl,rfl,⟨rfl,ax _⟩,ax _,λb _=>by
  grind⟩
def Trans.trans{w w' A:cG}{g B u:Nat->pP}(h:Trans w w' g B)(j:Trans w' A B u):Trans w A g u:=by refine⟨j.os.trans h.os,j.tape.trans h.tape,⟨j.output.1.trans h.output.1,fa h.output.2 j.output.2⟩,fa h.size j.size,λb I=> ?_⟩;have J:=h.aiW b I;have K:=j.aiW b (Nat.lt_of_lt_of_le I h.size);grind [gh]
def Trans.mem{E E':Env}(h:Trans E.w E'.w E.g E'.g):yA E E':=by
 refine⟨?_,λb J I j=>by
  have u:=h.aiW b (dV.1 j).1;grind⟩
 intro b off v ⟨B,j⟩;have A:=World.block_lt_of_cell? _ _ B;have u:=h.aiW b A;grind [Env.has,EF,gh]
def Jh.mono{E E':Env}(h:df E E'){f:aF}{tmps:Array bh}(j:Jh E f tmps):Jh E' f tmps:=⟨j.1,λi=>(j.2 i).mono h⟩
def FJ.bhR{E E':Env}(h:df E E'){id:Id}{fr:Bool}{c:aF}(B:FJ E id fr c)(hβ:E'.β id=E.β id)
    (hb:∀pl,E.β id=aw pl->E'.w.heap[pl.b]? =E.w.heap[pl.b]? /\E'.g pl.b=E.g pl.b)
    (hq:∀q A k v l,(∃kt vt M cu,c= .xB q (A+1) kt vt M cu)->E.s q=aw (.obj A bn (.mp k v l))->E'.cur q A->(∃k v l,E'.s q=aw (.obj A bn (.mp k v l)))/\∀pl,E.β q=aw pl->E'.w.heap[pl.b]? =E.w.heap[pl.b]? /\E'.g pl.b=E.g pl.b):FJ E' id fr c:=by
  by_cases hn:c.lg=aZ
  · obtain⟨pl,cur,e,O,K,L,I,u⟩:=B.box hn
    exact Zc.obj ⟨pl,cur,e,by grind,by grind,by grind,I,u.mono h⟩
  · cases c <;> first
      | (exact absurd rfl hn)
      | (obtain⟨pl,r,O,K,L,u,I,h6⟩:=B
         exact⟨pl,r,by grind,by grind,by grind,u,I.mono h,h6⟩)
      | (obtain⟨pl,T,j,O,K,L,u⟩:=B
         exact⟨pl,T,j,by grind,by grind,by grind,⟨u.1.1.mono h.mem,u.1.2⟩,u.2⟩)
      | (obtain⟨pl,mb,since,seen,c0,O,K,L,hv⟩:=B
         refine⟨pl,mb,since,seen,c0,by grind,by grind,by grind,λvr J=> ?_⟩;obtain⟨u,I⟩:=hv vr J;refine⟨h.Oi _ _ u,λhc=> ?_⟩;obtain⟨c1,e1⟩:=h.cur _ _ u hc;obtain⟨⟨k,v,l,hk⟩,plq,T,j,g1,g2,g3,g4,g5,g6,g7,g8,g9⟩:=I c1;obtain⟨q1,q2⟩:=hq _ _ _ _ _ ⟨_,_,_,_,by rw[J]⟩ hk hc;exact⟨q1,plq,T,j,by grind,g2,by grind,by grind,g5,g6,g7,g8.mono h.mem,λx hx=>
           let⟨e,se,a1,a2,a3,a4⟩:=g9 x hx
           ⟨e,se,a1,a2,a3,a4.mono h.mem⟩⟩)
      |skip
    obtain⟨hz,B⟩:=B;refine⟨hz,?_⟩;rw[hβ];cases hp:E.β id with
    |none=>grind
    |some pl=>
      rw[hp]at B;obtain⟨cur,k,O,K,L,u,I,h6,h7,h8⟩:=B;exact⟨cur,k,by grind,K,L,u,by grind,h6,h7,h8.mono λc x hx=>hx.mono h.mem⟩
def FJ.mono{E E':Env}(h:df E E'){id:Id}{fr:Bool}{c:aF}(A:FJ E id fr c)(hβ:E'.β id=E.β id)(u:∀pl,E.β id=aw pl->E'.w.heap[pl.b]? =E.w.heap[pl.b]? /\E'.g pl.b=E.g pl.b)(B:∀q j k v l,E.s q=aw (.obj j bn (.mp k v l))->E'.cur q j->(∃k v l,E'.s q=aw (.obj j bn (.mp k v l)))/\∀pl,E.β q=aw pl->E'.w.heap[pl.b]? =E.w.heap[pl.b]? /\E'.g pl.b=E.g pl.b):FJ E' id fr c:=A.bhR h hβ u λq j k v l _=>B q j k v l
def AS.env(s:AS)(w:cG)(g:Nat->pP)(β:Id->Option Pl):Env:= {w,g,β,s:=s.cH}
structure Ctx where
 E:Env
def Ctx.ok(C:Ctx):Prop:=(∀i j,C.E.s (.new i j)=aC)/\∀k v fr c,C.E.s (.dx k)=aw (.obj v fr c)->v=0
def C2(D:Nat):Deferred:= {target:= .collected D,args:= #[]}
def aMu(n:Nat)(j:List Deferred)(w:cG)(g:Nat->pP):Prop:=j.Nodup/\∀d∈j,∃D,d=C2 D/\n<=D/\w.heap[D]? =aw (.deferred (aw []))/\g D= .own .gK 0
def aMu.mono{n:Nat}{j:List Deferred}{w w':cG}{g u:Nat->pP}(h:aMu n j w g)(I:Trans w w' g u):aMu n j w' u:=
 ⟨h.1,λd B=>by
  obtain⟨D,J,K,A,L⟩:=h.2 d B;have:=I.aiW D (dV.1 A).1;grind⟩
structure Inv(C:Ctx)(g:Nat->pP)(β:Id->Option Pl)(s:AS)(a:Act)(w:cG):Prop where
 defers:aMu C.E.w.heap.size a.defers w g
 size:a.tmps.size=aa s.cR
 cR:∀i,VS (s.env w g β) (s.slot i) (a.tmps.getD i undef)
 cd:jH (s.env w g β)
 trans:Trans C.E.w w C.E.g g
 le:df C.E (s.env w g β)
def jO(C:Ctx)(s:AS)(a:Act)(w:cG):Prop:=∃g β,Inv C g β s a w
theorem apZ(s:AS)(d:Nat)(v:aF)(i:Nat):(s.put (aw d) v).slot i=if i=d/\d < aa s.cR then v else s.slot i:=by grind [AS.put,AS.slot]
@[simp] theorem aae(s:AS)(d:Option Tmp)(v:aF):(s.put d v).cH=s.cH:=by cases d <;> rfl
@[simp] theorem bem(s:AS)(d:Option Tmp)(v:aF)(w:cG)(g:Nat->pP)(β:Id->Option Pl):(s.put d v).env w g β=s.env w g β:=by simp[AS.env]
def bbY(a:Act)(d:Nat)(v:bh)(i:Nat):(a.put (aw d) v).tmps.getD i undef=if i=d/\d < a.tmps.size then v else a.tmps.getD i undef:=by simp[Act.put];grind
def Inv.put{C:Ctx}{g:Nat->pP}{β:Id->Option Pl}{s:AS}{a:Act}{w:cG}(h:Inv C g β s a w)(d:Option Tmp){v:aF}{x:bh}(j:VS (s.env w g β) v x):
  Inv C g β (s.put d v) (a.put d x) w:=by
 cases d with
 |none=>exact h
 |some d=>
  refine⟨h.defers,by simpa[Act.put,AS.put]using h.size,λi=> ?_,by simpa using h.cd,h.trans,by simpa using h.le⟩;rw[apZ,bbY,h.size];split
  .exact j
  .exact h.cR i
def Inv.step{C:Ctx}{g u:Nat->pP}{β β':Id->Option Pl}{s j:AS}{a:Act}{w w':cG}(h:Inv C g β s a w)(J:j.cR=s.cR)
  (B:Trans w w' g u) (A:df (s.env w g β) (j.env w' u β')) (I:jH (j.env w' u β')):Inv C u β' j a w':=
 ⟨h.defers.mono B,by rw[J];exact h.size,λi=>by
  have:j.slot i=s.slot i:=by grind [AS.slot]
  rw[this];exact(h.cR i).mono A,I,h.trans.trans B,h.le.trans A⟩
def aVb{E:Env}(v:bh):VS E (ofConst v) v:=by
 cases v with
 |bool b=>exact⟨_,by simp[ofConst,V,dU],rfl⟩
 |int k n=>exact⟨_,by simp[ofConst,V,dU],rfl⟩
 |string s=>exact⟨_,by simp[ofConst,V,dU],rfl⟩
 |slice a l c=>cases a with
  |none=>
   cases l with
   |zero=>cases c with
    |zero=>exact⟨_,by simp[ofConst,V],rfl⟩
    |succ _=>trivial
   |succ _=>trivial
  |some _=>trivial
 |pointer a=>cases a with
  |none=>exact⟨_,by simp[ofConst,V],rfl⟩
  |some _=>trivial
 |map r=>cases r with
  |none=>exact⟨_,by simp[ofConst,V],rfl⟩
  |some _=>trivial
 |nilFunc=>exact⟨_,by simp[ofConst,V],rfl⟩
 |_=>trivial
def Inv.ev{C:Ctx}{g:Nat->pP}{β:Id->Option Pl}{s:AS}{a:Act}{w:cG}(h:Inv C g β s a w)(x:cD):VS (s.env w g β) (s.ev x) (a.eval x):=by
 cases x with
 |tmp t=>exact h.cR t
 |const v=>exact aVb v
 |func f=>exact⟨_,by exact⟨[],rfl,by simp[VC]⟩,rfl⟩
 |global _=>trivial
theorem fq(s:AS)(id:Id)(e:dR)(h:s.cH id≠aC):(s.bD id e).cH id=aw e:=by
 cases id with
 |dx k=>
  grind [AS.cH,AS.bD]
 |new i j=>
  grind [AS.cH,AS.bD]
theorem dz(s:AS)(id id':Id)(e:dR)(h:id'≠id):(s.bD id e).cH id'=s.cH id':=by
 cases id with
 |dx k=>
  cases id' with
  |dx K=>
   simp only[AS.cH,AS.bD];rw[rT (λe=>h (by rw[e]))]
  |new i j=>rfl
 |new i j=>
  cases id' with
  |dx K=>rfl
  |new u J=>
   simp only[AS.cH,AS.bD];by_cases A:u=i
   .subst A;have B:j≠J:=λe=>h (by rw[e])
    by_cases I:u < aa s.news
    .have:((s.news.set u ((s.news.getD u []).set j e)).getD u [])=(s.news.getD u []).set j e:=by simp[dH,I]
     rw[this,rT B]
    .rw[List.set_eq_of_length_le aq]
   .have:(s.news.set i ((s.news.getD i []).set j e)).getD u []=s.news.getD u []:=by simp only[dH];rw[rT (Ne.symm A)]
    rw[this]
@[simp] theorem dF(s:AS)(id:Id)(e:dR):(s.bD id e).cR=s.cR:=by cases id <;> rfl
@[simp] theorem bka(s:AS)(i:Nat)(j:List dR):(s.born i j).cR=s.cR:=rfl
theorem gA{s:AS}{id:Id}{v:Nat}{fr:Bool}{c:aF}(h:s.obj id=aw (v,fr,c)):s.cH id=aw (.obj v fr c):=by grind [AS.obj]
def df.bD{s:AS}{w w':cG}{g g':Nat->pP}{β β':Id->Option Pl}{id:Id}{v v':Nat}{fr fr':Bool}{c c':aF}(hs:s.cH id=aw (.obj v fr c))(hv:v<=v')
  (ht:Trans w w' g g') (hβ:∀i,i≠id->β' i=β i) (hβ':v'=v->β' id=β id):df (s.env w g β) ((s.bD id (.obj v' fr' c')).env w' g' β'):=by
 have vh:=fq s id (.obj v' fr' c') (by grind);refine⟨Trans.mem ht,λi I M=> ?_,λi I M O=> ?_⟩
 .by_cases J:i=id
  .subst J;obtain⟨_,L⟩:=M;refine⟨by show(s.bD i (.obj v' fr' c')).cH i≠aC;grind,λB j u T=> ?_⟩;have K:(s.bD i (.obj v' fr' c')).cH i=aw (.obj B j u):=T;rw[vh]at K;simp at K;have:=L v fr c hs;omega
  .have:=dz s id i (.obj v' fr' c') J;obtain⟨h1,L⟩:=M;exact⟨by show(s.bD id (.obj v' fr' c')).cH i≠aC;rw[this];exact h1,λB j u T=>L B j u (this.symm.trans T)⟩
 .obtain⟨j,u,O⟩:=O;by_cases J:i=id
  .subst J;have A:(s.bD i (.obj v' fr' c')).cH i=aw (.obj I j u):=O;rw[vh]at A;simp at A;have L:=M.2 v fr c hs;have e:v'=v:=aq;refine⟨⟨fr,c,?_⟩,hβ' e⟩;rw[<-A.1,e];exact hs
  .have A:(s.bD id (.obj v' fr' c')).cH i=aw (.obj I j u):=O;rw[dz s id i _ J]at A;exact⟨⟨j,u,A⟩,hβ i J⟩
def jH.bD{s:AS}{w w':cG}{g B:Nat->pP}{β β':Id->Option Pl}{id:Id}{v':Nat}{fr':Bool}{c':aF}(h:jH (s.env w g β))(jV:s.cH id≠aC)
  (he:df (s.env w g β) ((s.bD id (.obj v' fr' c')).env w' B β')) (hβ:∀i,i≠id->β' i=β i)
  (M:∀i j fr c pl,i≠id->s.cH i=aw (.obj j fr c)->β i=aw pl->w'.heap[pl.b]? =w.heap[pl.b]? /\B pl.b=g pl.b)
  (ho:FJ ((s.bD id (.obj v' fr' c')).env w' B β') id fr' c')
  (axU:∀j k v l,s.cH id=aw (.obj j bn (.mp k v l))->v'=j/\fr'=bn/\(∃k v l,c'= .mp k v l)/\∀pl,β id=aw pl->w'.heap[pl.b]? =w.heap[pl.b]? /\B pl.b=g pl.b):jH ((s.bD id (.obj v' fr' c')).env w' B β'):=by
 intro i j fr c O;by_cases I:i=id
 .subst I;have u:(s.bD i (.obj v' fr' c')).cH i=aw (.obj j fr c):=O;grind [fq]
 .have u:(s.bD id (.obj v' fr' c')).cH i=aw (.obj j fr c):=O;rw[dz s id i _ I]at u;refine(h i j fr c u).mono he (hβ i I) (λpl L=>M i j fr c pl I u L) λq T k v l J hc=> ?_
  have J:s.cH q=aw (.obj T bn (.mp k v l)):=J;by_cases A:q=id
  .subst A;obtain⟨rfl,rfl,⟨k',v',l',rfl⟩,K⟩:=axU _ _ _ _ J;exact⟨⟨k',v',l',fq s q _ jV⟩,K⟩
  .exact⟨⟨k,v,l,by show(s.bD id _).cH q=_;grind [dz]⟩,λpl L=>M q T bn _ pl A J L⟩
def ajY{s:AS}{w:cG}{g:Nat->pP}{β:Id->Option Pl}{id:Id}{v:Nat}{fr:Bool}{c:aF}(B:s.cH id=aw (.obj v fr c)):
  ∀j k u l,s.cH id=aw (.obj j bn (.mp k u l))->v=j/\bn=bn/\(∃k v l,c= .mp k v l)/\∀pl,β id=aw pl->w.heap[pl.b]? =w.heap[pl.b]? /\g pl.b=g pl.b:=λj k u l A=>by
 grind
def ue{s:AS}{id:Id}{v:Nat}{fr:Bool}{c:aF}(I:s.cH id=aw (.obj v fr c))(B:∀k u l,c≠ .mp k u l){Q:Nat->Prop}:
  ∀j k u l,s.cH id=aw (.obj j bn (.mp k u l))->Q j:=λj k u l A=>by
 rw[I]at A;cases A;exact absurd rfl (B _ _ _)
def ajX{s:AS}{id:Id}{v:Nat}{c:aF}(B:s.cH id=aw (.obj v aZ c)){Q:Nat->Prop}:
  ∀j k u l,s.cH id=aw (.obj j bn (.mp k u l))->Q j:=λj k u l A=>by
 grind
theorem SQ{s:AS}{id:Id}{v:Nat}{fr:Bool}{c:aF}(j:s.cH id=aw (.obj v fr c))(h:s.Aa id=bn):fr=aZ:=by grind [AS.obj,AS.Aa]
def FJ.label{E:Env}{id:Id}{fr:Bool}{c:aF}(h:FJ E id fr c){pl:Pl}(K:E.β id=aw pl):
    pl.b < E.w.heap.size/\((∃k,E.g pl.b= .own (.id id) k)\/(fr=bn/\E.g pl.b= .free)):=by
  by_cases B:c.lg=aZ
  · obtain⟨j,cur,e,I,A,u,J⟩:=h.box B
    obtain rfl:pl=j:=by grind
    refine⟨(dV.1 A).1,?_⟩;cases fr with
    |true=>exact .inr ⟨rfl,u⟩
    |false=>exact .inl ⟨0,u⟩
  · cases c <;> first
      | (exact absurd rfl B)
      | (obtain⟨j,r,I,A,u,_,_,_⟩:=h
         grind)
      | (grind)
      | (grind)
      |skip
    obtain⟨_,h⟩:=h;grind
def nX{α:Type}(f:Nat->α)(b:Nat)(x:α):Nat->α:=λj=>if j=b then x else f j
@[simp] theorem lR{α:Type}(f:Nat->α)(b:Nat)(x:α):nX f b x b=x:=by simp[nX]
def my{α:Type}(f:Nat->α)(b:Nat)(x:α){j:Nat}(h:j≠b):nX f b x j=f j:=by grind [nX]
def aav:aF->Nat->Prop
 | .vec _ t l,j=>j < aa l*t.size
 |_,_=>True
theorem aav.of{c:aF}(h:c.lg=aZ)(j:Nat):aav c j:=by cases c <;> first | trivial | (simp at h)
def axM{C:Ctx}{g:Nat->pP}{β:Id->Option Pl}{s:AS}{a:Act}{w:cG}(h:Inv C g β s a w)(id:Id):
    ∃g',Inv C g' β (s.freeze id) a w/\df (s.env w g β) ((s.freeze id).env w g' β)/\Trans w w g g'/\
      (∀v fr c,s.cH id=aw (.obj v fr c)->∀pl,β id=aw pl->∀j x,w.cell? ⟨pl.b,j,aC⟩=aw x->
        aav c j->EF g' pl.b j):=by
  unfold AS.freeze;cases L:s.cH id with
  |none=>grind [df.refl,Trans.refl]
  |some e=>
    cases e with
    |dead=>grind [df.refl,Trans.refl]
    |obj v fr c=>
      simp only;have M:FJ (s.env w g β) id fr c:=h.cd id v fr c L;cases hp:β id with
      |none=>
        have I:=Trans.refl w g;have A:df (s.env w g β) ((s.bD id (.obj v bn c)).env w g β):=df.bD L (ax _) I (λ_ _=>rfl) (λ_=>rfl);refine⟨g,h.step (dF _ _ _) I A ?_,A,I,λ_ _ _ _ pl adq=>by grind⟩;refine jH.bD h.cd (by grind) A (λ_ _=>rfl) (λ_ _ _ _ _ _ _ _=>⟨rfl,rfl⟩) ?_ (ajY L)
        by_cases hn:c.lg=aZ
        · obtain⟨pl,_,_,J,_⟩:=M.box hn
          have B:β id=aw pl:=J;grind
        · cases c <;> first
            | (exact absurd rfl hn)
            | (obtain⟨pl,_,J,_⟩:=M
               have B:β id=aw pl:=J;grind)
            | (obtain⟨pl,_,_,J,_⟩:=M
               have B:β id=aw pl:=J;grind)
            | (obtain⟨pl,_,_,_,_,J,_⟩:=M
               have B:β id=aw pl:=J;grind)
            |skip
          obtain⟨hz,ho⟩:=M;have ho':(match β id with
            |none=>_
            |some pl=>_):=ho
          refine⟨hz,?_⟩;show(match β id with
            |none=>_
            |some pl=>_)
          grind
      |some pl=>
        have blU:=M.label (pl:=pl) hp;by_cases hn:c.lg=aZ
        · obtain⟨u,cur,e,J,K,h3,h5,h4⟩:=M.box hn
          have B:β id=aw u:=J;rw[hp]at B;obtain rfl:pl=u:=by grind
          have h3':g pl.b=aVX id fr:=h3;have I:Trans w w g (nX g pl.b .free):=by refine⟨rfl,rfl,⟨rfl,ax _⟩,ax _,λb hb=> ?_⟩;grind [nX]
          have A:df (s.env w g β) ((s.bD id (.obj v bn c)).env w (nX g pl.b .free) β):=df.bD L (ax _) I (λ_ _=>rfl) (λ_=>rfl);refine⟨nX g pl.b .free,h.step (dF _ _ _) I A ?_,A,I,?_⟩
          · refine jH.bD h.cd (by grind) A (λ_ _=>rfl) (λi ver fr' c' u hi eG adq=>⟨rfl,?_⟩) ?_ (ue L λk v1 l e=>by grind [aF.lg])
            · by_cases beH:u.b=pl.b
              · rw[beH,lR]
                have hl:=(h.cd i ver fr' c' eG).label (pl:=u) adq;grind
              grind [nX]
            · exact Zc.obj ⟨pl,cur,e,hp,K,lR _ _ _,h5,V.mono A h4⟩
          simp[EF]
        · cases c <;> first | (exact absurd rfl hn) | skip
          rotate_left;rotate_left
          · rename_i q vq kt vt rest cu
            have I:=Trans.refl w g;have A:df (s.env w g β) ((s.bD id (.obj v bn (.xB q vq kt vt rest cu))).env w g β):=df.bD L (ax _) I (λ_ _=>rfl) (λ_=>rfl);have hob':=M;obtain⟨u,mb,since,seen,c0,J,K,_⟩:=M;have B:β id=aw u:=J;rw[hp]at B;obtain rfl:pl=u:=by grind
            refine⟨g,h.step (dF _ _ _) I A ?_,A,I,λ_ _ _ _ T bl4 j x hx _=> ?_⟩
            · refine jH.bD h.cd (by grind) A (λ_ _=>rfl) (λ_ _ _ _ _ _ _ _=>⟨rfl,rfl⟩) ?_ (ajY L)
              exact FJ.mono A (fr:=bn) hob' rfl (λ_ _=>⟨rfl,rfl⟩) λq2 v2 k2 v3 l2 ax1 _=>⟨⟨k2,v3,l2,by
                have ax1:s.cH q2=aw (.obj v2 bn (.mp k2 v3 l2)):=ax1;have jV:q2≠id:=λe=>by grind
                show(s.bD id _).cH q2=_;grind [dz]⟩,λ_ _=>⟨rfl,rfl⟩⟩
            · obtain rfl:pl=T:=by grind
              have K:w.heap[pl.b]? =aw (.mapIter (aw mb) since seen c0):=K
              grind [gh]
          · rename_i k f p
            have I:=Trans.refl w g;have A:df (s.env w g β) ((s.bD id (.obj v bn (.BO k f p))).env w g β):=df.bD L (ax _) I (λ_ _=>rfl) (λ_=>rfl);obtain⟨u,r,J,K,h3,h4,h5,h6⟩:=M;have B:β id=aw u:=J;rw[hp]at B;obtain rfl:pl=u:=by grind
            refine⟨g,h.step (dF _ _ _) I A ?_,A,I,λ_ _ _ _ T bl4 j x hx _=> ?_⟩
            · exact jH.bD h.cd (by grind) A (λ_ _=>rfl) (λ_ _ _ _ _ _ _ _=>⟨rfl,rfl⟩) ⟨pl,r,hp,K,h3,h4,h5.mono A,h6⟩ (ajY L)
            · obtain rfl:pl=T:=by grind
              have K:w.heap[pl.b]? =aw (.loop r):=K
              grind [gh]
          rotate_left
          · obtain⟨u,es,O,J,K,h3,h4⟩:=M
            have B:β id=aw u:=J;rw[hp]at B;obtain rfl:pl=u:=by grind
            have I:=Trans.refl w g;rename_i kt vt l;have A:df (s.env w g β) ((s.bD id (.obj v bn (.mp kt vt l))).env w g β):=df.bD L (ax _) I (λ_ _=>rfl) (λ_=>rfl);refine⟨g,h.step (dF _ _ _) I A ?_,A,I,λ_ _ _ _ T bl4 j x hx _=> ?_⟩
            · exact jH.bD h.cd (by grind) A (λ_ _=>rfl) (λ_ _ _ _ _ _ _ _=>⟨rfl,rfl⟩) ⟨pl,es,O,hp,K,h3,⟨h4.1.1.mono A.mem,h4.1.2⟩,h4.2⟩ (ajY L)
            · obtain rfl:pl=T:=by grind
              have K:w.heap[pl.b]? =aw (.map es O):=K
              grind [gh]
          rename_i e t l;obtain⟨hz,ho⟩:=M;have ho':(match β id with
            |none=>l=[]
            |some pl=>∃cur k,w.heap[pl.b]? =aw (.cells cur e (0,0))/\cur.size=pl.cap*t.size/\aa l<=pl.cap/\pl.cap<=maxLen/\g pl.b= .own (.id id) k/\
                k<=aa l*t.size/\(fr=aZ->k=0)/\bR (dU (s.env w g β) t) (cur.toList.take (aa l*t.size)) l):=ho
          rw[hp]at ho';obtain⟨cur,k,J,K,h3,h4,h5,h6,h7,h8⟩:=ho';have I:Trans w w g (nX g pl.b (.own (.id id) (aa l*t.size))):=by refine⟨rfl,rfl,⟨rfl,ax _⟩,ax _,λb hb=> ?_⟩;grind [nX]
          have A:df (s.env w g β) ((s.bD id (.obj v bn (.vec e t l))).env w (nX g pl.b (.own (.id id) (aa l*t.size))) β):=df.bD L (ax _) I (λ_ _=>rfl) (λ_=>rfl);refine⟨_,h.step (dF _ _ _) I A ?_,A,I,?_⟩
          · refine jH.bD h.cd (by grind) A (λ_ _=>rfl) (λi ver fr' c' u hi eG adq=>⟨rfl,?_⟩) ?_ (ue L λk v1 l e=>by cases e)
            · by_cases beH:u.b=pl.b
              · exfalso
                have hl:=(h.cd i ver fr' c' eG).label (pl:=u) adq;have bc4:(∃k,g u.b= .own (.id i) k)\/(fr'=bn/\g u.b= .free):=hl.2;grind
              grind [nX]
            · refine⟨hz,?_⟩
              show(match β id with
                |none=>l=[]
                |some pl=>_)
              rw[hp];exact⟨cur,_,J,K,h3,h4,lR _ _ _,ax _,(by grind),h8.mono λc x hx=>hx.mono A.mem⟩
          simp[EF,aav]
end Go.Ab
namespace Go.Ab
def bky(E E':Env)(ids:List Id):Prop:=∀id∈ids,∀v fr c,E.s id=aw (.obj v fr c)->∀pl,E.β id=aw pl->∀j x,E.w.cell? ⟨pl.b,j,aC⟩=aw x->aav c j->E'.has pl.b j x
def alK{s:AS}{id i:Id}{v:Nat}{fr:Bool}{c:aF}(h:s.cH i=aw (.obj v fr c)):∃fr',(s.freeze id).cH i=aw (.obj v fr' c):=by grind [AS.freeze,fq,dz]
def fZ{C:Ctx}{β:Id->Option Pl}{a:Act}{w:cG}:∀(ids:List Id) {g:Nat->pP} {s:AS},Inv C g β s a w->
  ∃u,Inv C u β (s.bP ids) a w/\df (s.env w g β) ((s.bP ids).env w u β)/\Trans w w g u/\bky (s.env w g β) ((s.bP ids).env w u β) ids
 |[],g,s,h=>⟨g,h,df.refl _,Trans.refl _ _,λ_ hi=>by cases hi⟩
 |id::ids,g,s,h=>by
  obtain⟨g1,h1,M,t1,O⟩:=axM h id;obtain⟨g2,h2,I,t2,T⟩:=fZ ids h1;refine⟨g2,h2,M.trans I,t1.trans t2,λi hi v fr c L pl K j x B J=> ?_⟩;rcases cr.1 hi with rfl | hi
  .exact I.mem.has _ _ _ ⟨B,O v fr c L pl K j x B J⟩
  .obtain⟨fr',A⟩:=alK (id:=id) L;exact T i hi v fr' c A pl K j x B J
def azW(s:AS)(id:Id):(s.freeze id).cR=s.cR:=by unfold AS.freeze;split <;> simp
def qZ:∀(ids:List Id) (s:AS),(s.bP ids).cR=s.cR
 |[],_=>rfl
 |id::ids,s=>by rw[AS.bP,qZ ids,azW]
def aDJ(s:AS)(id:Id)(q:Nat):(s.freeze id).ff q=s.ff q:=by
 unfold AS.freeze;split
 .rename_i v b c h;cases id with
  |dx k=>rfl
  |new i j=>
   simp only[AS.bD,AS.ff];by_cases A:i=q
   .subst A;simp only[AS.cH]at h;by_cases u:i < aa s.news
    .rw[List.getElem?_set_self u,cS u];rw[dH,cS u]at h ⊢;simp only[lJ]at h ⊢;cases B:s.news[i]with
     |nil=>rw[B]at h;simp at h
     |cons x I=>cases j <;> simp[gq]
    .rw[List.set_eq_of_length_le aq]
   .rw[rT A]
 .rfl
def Bb:∀(ids:List Id) (s:AS) (q:Nat),(s.bP ids).ff q=s.ff q
 |[],_,_=>rfl
 |id::ids,s,q=>by rw[AS.bP,Bb ids,aDJ]
def amu{e:bk}{t:Ty}:∀ {p:List Uv} {n:Nat} {v:aF},(loc (.vec e t []) p).eval=aw (n,v)->n=0/\v= .vec e t []
 |[],n,v,h=>by grind [loc,aM]
 | .arr::p,n,v,h=>by simp[loc]at h;exact amu h
 | .idx i::p,n,v,h=>by grind [loc,cV]
 | .fst::p,n,v,h=>by grind [loc,aG]
 | .snd::p,n,v,h=>by grind [loc,aG]
theorem aj0{k:Ax}{f:aF}{m:Nat}:∀ {p:List Uv} {n:Nat} {v:aF},(loc (.BO k f m) p).eval=aw (n,v)->n=0/\v= .BO k f m
 |[],n,v,h=>by grind [loc,aM]
 | .arr::p,n,v,h=>by simp[loc]at h;exact aj0 h
 | .idx i::p,n,v,h=>by grind [loc,aG]
 | .fst::p,n,v,h=>by grind [loc,aG]
 | .snd::p,n,v,h=>by grind [loc,aG]
theorem ayl{k t:Ty}{l:List (k.den×t.den)}:∀ {p:List Uv} {n:Nat} {v:aF},(loc (.mp k t l) p).eval=aw (n,v)->n=0/\v= .mp k t l
 |[],n,v,h=>by grind [loc,aM]
 | .arr::p,n,v,h=>by simp[loc]at h;exact ayl h
 | .idx i::p,n,v,h=>by grind [loc,aG]
 | .fst::p,n,v,h=>by grind [loc,aG]
 | .snd::p,n,v,h=>by grind [loc,aG]
theorem ajZ{q:Id}{j:Nat}{k t:Ty}{l:List (k.den×t.den)}{u:Option (k.den×t.den)}:∀ {p:List Uv} {n:Nat} {v:aF},(loc (.xB q j k t l u) p).eval=aw (n,v)->n=0/\v= .xB q j k t l u
 |[],n,v,h=>by grind [loc,aM]
 | .arr::p,n,v,h=>by simp[loc]at h;exact ajZ h
 | .idx i::p,n,v,h=>by grind [loc,aG]
 | .fst::p,n,v,h=>by grind [loc,aG]
 | .snd::p,n,v,h=>by grind [loc,aG]
def afr{E:Env}{s:AS}(hs:E.s=s.cH)(ho:jH E){id:Id}{J:Nat}{p:List Uv}{n:Nat}{t:Ty}{l:List t.den}(h:(s.row id J p).eval=aw (n,⟨t,l⟩)):
    ∃fr c,E.s id=aw (.obj J fr c)/\((E.β id=aC/\l=[]/\n=0)\/∃pl cur e,E.β id=aw pl/\E.w.heap[pl.b]? =aw (.cells cur e (0,0))/\n+aa l*t.size<=cur.size/\
      bR (dU E t) ((cur.toList.drop n).take (aa l*t.size)) l/\
      ∀j,j < n+aa l*t.size->aav c j):=by
  unfold AS.row at h;cases tW:s.obj id with
  |none=>grind [aG]
  |some r=>
    obtain⟨v,fr,c⟩:=r;rw[tW]at h;obtain⟨h1,h2⟩:=ba.1 h;obtain⟨⟨K,v'⟩,B,h4⟩:=aI.1 h2;have hv:v=J:=by grind
    subst hv;have eG:E.s id=aw (.obj v fr c):=by rw[hs];grind [gA]
    refine⟨fr,c,eG,?_⟩;have I:=ho id v fr c eG
    have blB:∀(pl:Pl) (cur:Array bh) (e:bk) (m:Nat) (A:Ty) (M:List A.den) (K:Nat),E.β id=aw pl->E.w.heap[pl.b]? =aw (.cells cur e (0,0))->c.lg=aZ->
        V E (.d (.arr m A) M) ((cur.toList.drop K).take (aF.d (.arr m A) M).size)->K+(aF.d (.arr m A) M).size<=aa cur.toList->(Out.ok (K,(⟨A,M⟩:(t:Ty)×List t.den))).eval=aw (n,⟨t,l⟩)->
        ∃pl cur e,E.β id=aw pl/\E.w.heap[pl.b]? =aw (.cells cur e (0,0))/\n+aa l*t.size<=cur.size/\bR (dU E t) ((cur.toList.drop n).take (aa l*t.size)) l/\
          ∀j,j < n+aa l*t.size->aav c j:=by
      grind [aM,V,dU,aF.size,Ty.size,aav.of]
    by_cases hn:c.lg=aZ
    · right
      obtain⟨pl,cur,e,hp,hh,hg,hk,L⟩:=I.box hn;have hN:=awM hk;generalize c.FT cur.size=N at hN L;obtain⟨u,hu⟩:∃u,c.strip=u:=⟨_,rfl⟩;rw[hu]at L B;have O:∀m k:Nat,m+k<=aa (cur.toList.take N)->((cur.toList.take N).drop m).take k=(cur.toList.drop m).take k/\m+k<=aa cur.toList:=λm k bhE=>by grind [yy]
      rcases xF p u (cur.toList.take N) K v' (VO.of L) B with⟨rfl,rfl⟩ | ⟨hV',hle⟩
      · cases v' with
        |d A x=>cases A with
          |arr m A=>
            have hs:=L.size;have hc:=O 0 (aF.d (.arr m A) x).size aq;grind
          |_=>simp only[aG]at h4
        |vec=>grind [V]
        |_=>simp only[aG]at h4
      grind [aG,V]
    · cases c <;> first
        | (exact absurd rfl hn)
        | (obtain⟨rfl,rfl⟩:=ayl B
           grind [aG])
        | (obtain⟨rfl,rfl⟩:=ajZ B
           grind [aG])
        | (obtain⟨rfl,rfl⟩:=aj0 B
           grind [aG])
        |skip
      rename_i e t0 l0;obtain⟨hz,I⟩:=I;cases hp:E.β id with
      |none=>
        rw[hp]at I;have T:l0=[]:=I;subst T;obtain⟨rfl,rfl⟩:=amu B;grind [aM]
      |some pl=>
        rw[hp]at I;obtain⟨cur,k,q1,q2,q3,q4,q5,q6,q7,q8⟩:=I;right;have hlen:=bR.length (λc x hx=>dU.size hx) q8;rcases xF (E:=E) p (.vec e t0 l0) (cur.toList.take (aa l0*t0.size)) K v' q8 B with⟨rfl,rfl⟩ | ⟨hV',hle⟩
        all_goals grind [aM,yy,V,dU,aF.size,Ty.size,aG,aav]
def W7{E:Env}{t:Ty}{cs:List bh}{l:List t.den}(h:bR (dU E t) cs l)(i j:Nat):bR (dU E t) ((cs.drop (i*t.size)).take (j*t.size)) (cut l i j):=bR.take (λ_ _ u=>u.size) j (bR.drop (λ_ _ u=>u.size) i h)
def Mu{α:Type}{l:List α}{i j:Nat}(h:i+j<=aa l):aa (cut l i j)=j:=by grind [cut]
def aF7{E E':Env}{s:AS}(hs:E.s=s.cH)(ho:jH E)(he:df E E'){id:Id}{I c i u n:Nat}{p:List Uv}{B:Ty}{l:List B.den}{cs:List bh}
  (h1:(s.row id I p).eval=aw (n,⟨B,l⟩)) (h3:decide (n+i*B.size=c/\i+u<=aa l)=bn) (hv:V E (.dq id I p c i u) cs) (hf:bky E E' (aF.dq id I p c i u).shared):dU E' (.slice B) cs (cut l i u):=by
 simp at h3;obtain⟨hc,J⟩:=h3;obtain⟨fr,c0,eG,vf⟩:=afr hs ho h1;obtain⟨a,cap,bnb,hle,Gf,hb,L⟩:=hv;have L:=L ⟨fr,c0,eG⟩;have bo6:=Mu J;refine⟨a,cap,?_⟩;rcases vf with⟨M,hl,_⟩ | ⟨pl,cur,e,M,hh,Hu,Hr,A⟩
 .rw[M]at L;obtain⟨rfl,rfl,rfl⟩:=L;refine⟨[],?_,aq,aq,λ_ _ hh=>by grind,?_⟩
  .grind
  .rfl
 .rw[M]at L;refine⟨((((cur.toList.drop n).take (aa l*B.size)).drop (i*B.size)).take (u*B.size)),by grind,aq,by grind,?_,(W7 Hr i u).mono λ_ _ hx=>hx.mono he.mem⟩;have K:(i+u)*B.size<=aa l*B.size:=eL _ J;rw[gT]at K;rw[anH _ _ _ _ _ K];intro j v T;rw[fS]at T;split at T
  .rw[hc]at T;have O:0 < u:=by grind
   refine⟨pl.b,c,L.1 (.inl O),?_⟩;refine hf id (by simp[aF.shared]) I fr c0 eG pl M (c+j) v ?_ (A _ aq)
   grind [cell_of_row]
  grind
theorem Hd{E E':Env}{s:AS}(M:E.s=s.cH)(L:jH E)(K:df E E'):∀(v:aF) (t:Ty) (x:t.den) (cs:List bh),V E v cs->(s.kU t v).eval=aw x->bky E E' v.shared->dU E' t cs x
 | .d t' x',t,x,cs,j,h,_=>by
  have h':(Out.opt (PX t' t x')).eval=aw x:=by cases t <;> simpa only[AS.kU]using h
  simp only[V]at j;exact Mk (l7.1 h') (j.mono K.mem)
 | .fR,.slice t,x,cs,j,h,_=>by simp only[AS.kU,aM]at h;subst h;simp only[V]at j;simp only[dU];exact⟨aC,0,[],by simpa using j,by simp,by simp,λi v hh=>by simp at hh,rfl⟩
 | .fR,.jj t,x,cs,j,h,_=>by simp only[AS.kU,aM]at h;subst h;simp only[V]at j;simp only[dU];exact⟨λ_=>j,λl hl=>(by cases hl)⟩
 | .dq id ver p c i T,.jj t,x,cs,j,h,u=>by simp only[AS.kU]at h;obtain⟨⟨n,t',l⟩,A,B⟩:=aI.1 h;obtain⟨I,J⟩:=cV.1 B;exact Mk (l7.1 J) (aF7 M L K A I j u)
 | .dq id ver p c i T,.slice t,x,cs,j,h,u=>by simp only[AS.kU]at h;obtain⟨⟨n,t',l⟩,A,B⟩:=aI.1 h;obtain⟨I,J⟩:=cV.1 B;exact Mk (l7.1 J) (aF7 M L K A I j u)
 | .pr a b,.pair ta tb,x,cs,j,h,u=>by simp only[AS.kU]at h;obtain⟨x1,A,B⟩:=aI.1 h;obtain⟨x2,I,J⟩:=aI.1 B;obtain rfl:=aM.1 J;simp only[V]at j;obtain⟨ca,cb,e,ha,hb⟩:=j;simp only[dU];exact⟨ca,cb,e,Hd M L K a ta x1 ca ha A (λi O=>u i (by simp[aF.shared,O])),Hd M L K b tb x2 cb hb I (λi O=>u i (by simp[aF.shared,O]))⟩
 | .fR,.int _,_,_,_,h,_ | .fR,.bool,_,_,_,h,_ | .fR,.str,_,_,_,h,_ | .fR,.unit,_,_,_,h,_ | .fR,.pair _ _,_,_,_,h,_ | .fR,.arr _ _,_,_,_,h,_=>by simp only[AS.kU,aG]at h
 | .dq ..,.int _,_,_,_,h,_ | .dq ..,.bool,_,_,_,h,_ | .dq ..,.str,_,_,_,h,_ | .dq ..,.unit,_,_,_,h,_ | .dq ..,.pair _ _,_,_,_,h,_ | .dq ..,.arr _ _,_,_,_,h,_=>by simp only[AS.kU,aG]at h
 | .pr _ _,.int _,_,_,_,h,_ | .pr _ _,.bool,_,_,_,h,_ | .pr _ _,.str,_,_,_,h,_ | .pr _ _,.unit,_,_,_,h,_ | .pr _ _,.slice _,_,_,_,h,_ | .pr _ _,.arr _ _,_,_,_,h,_ | .pr _ _,.jj _,_,_,_,h,_=>by simp only[AS.kU,aG]at h
 | .undef,t,_,_,_,h,_=>by cases t <;> simp only[AS.kU,aG]at h
 | .gone,t,_,_,_,h,_=>by cases t <;> simp only[AS.kU,aG]at h
 | .qW,t,_,_,_,h,_=>by cases t <;> simp only[AS.kU,aG]at h
 | .Cw,t,_,_,_,h,_=>by cases t <;> simp only[AS.kU,aG]at h
 | .yl ..,t,_,_,_,h,_ | .BO ..,t,_,_,_,h,_=>by cases t <;> simp only[AS.kU,aG]at h
 | .JA,t,_,_,_,h,_=>by cases t <;> simp only[AS.kU,aG]at h
 | .sb _,t,_,_,_,h,_=>by cases t <;> simp only[AS.kU,aG]at h
 | .ptr ..,t,_,_,_,h,_=>by cases t <;> simp only[AS.kU,aG]at h
 | .iU ..,t,_,_,_,h,_=>by cases t <;> simp only[AS.kU,aG]at h
 | .fn ..,t,_,_,_,h,_=>by cases t <;> simp only[AS.kU,aG]at h
 | .cons ..,t,_,_,_,h,_=>by cases t <;> simp only[AS.kU,aG]at h
 | .nil,t,_,_,_,h,_=>by cases t <;> simp only[AS.kU,aG]at h
 | .vec ..,t,_,_,_,h,_=>by cases t <;> simp only[AS.kU,aG]at h
 | .bx ..,t,_,_,_,h,_ | .iI ..,t,_,_,_,h,_ | .mp ..,t,_,_,_,h,_ | .xB ..,t,_,_,_,h,_=>by cases t <;> simp only[AS.kU,aG]at h
def Sy{s:AS}{t:Ty}{v:aF}{x:t.den}(h:(s.kU t v).eval=aw x):v.fF=bn:=by
 cases v <;> first
  |rfl
  | (cases t <;> simp[AS.kU,aG]at h)
theorem aGj{s:AS}{t:Ty}{v:aF}{x:t.den}(h:(s.kU t v).eval=aw x):v.agg=t.agg:=by
 cases v with
 |d u A=>
  have j:(Out.opt (PX u t A)).eval=aw x:=by grind [AS.kU]
  exact atN (l7.1 j)
 |_=>cases t <;> first | rfl | (simp[AS.kU,aG]at h)
def NS{C:Ctx}{g:Nat->pP}{β:Id->Option Pl}{s:AS}{a:Act}{w:cG}(h:Inv C g β s a w){v:aF}{y:bh}(L:VS (s.env w g β) v y){t:Ty}{x:t.den}(A:(s.kU t v).eval=aw x):
  ∃j,Inv C j β (s.bP v.shared) a w/\df (s.env w g β) ((s.bP v.shared).env w j β)/\Trans w w g j/\
   ∃cs,dU ((s.bP v.shared).env w j β) t cs x/\gv t.agg cs y:=by
 obtain⟨j,B,u,I,J⟩:=fZ v.shared h;obtain⟨cs,K,M⟩:=L.fF (Sy A);exact⟨j,B,u,I,cs,Hd rfl h.cd u v t x cs K A J,by grind [aGj]⟩
def alI{α:Type}{R:List bh->α->Prop}{f:α->List bh->Option (List bh)}(B:∀x cs r,f x cs=aw r->∃c,cs=c++r/\R c x):
  ∀(l:List α) (cs r:List bh),aXo f l cs=aw r->∃c,cs=c++r/\bR R c l
 |[],cs,r,h=>by simp only[aXo,cn]at h;exact⟨[],by simp[h],rfl⟩
 |x::xs,cs,r,h=>by
  simp only[aXo]at h;cases j:f x cs with
  |none=>rw[j]at h;cases h
  |some I=>
   rw[j]at h;obtain⟨u,J,L⟩:=B x cs I j;obtain⟨A,K,M⟩:=alI B xs I r h;exact⟨u++A,by rw[J,K,aR],u,A,rfl,L,M⟩
def My(E:Env):∀(t:Ty) (x:t.den) (cs r:List bh),Js t x cs=aw r->∃c,cs=c++r/\dU E t c x
 | .int k,x,cs,r,h=>by
  cases cs with
  |nil=>simp[Js]at h
  |cons v A=>
   cases v <;> simp only[Js]at h <;> try (cases h;done)
   rename_i k' n;split at h
   .rename_i j u;simp at j u h;subst j u h;exact⟨[.int k n],rfl,by simp[dU]⟩
   .cases h
 | .bool,x,cs,r,h=>by
  cases cs with
  |nil=>simp[Js]at h
  |cons v A=>
   cases v <;> simp only[Js]at h <;> try (cases h;done)
   rename_i b;split at h
   .rename_i j;simp at j h;subst j h;exact⟨[.bool b],rfl,by simp[dU]⟩
   .cases h
 | .str,x,cs,r,h=>by
  cases cs with
  |nil=>simp[Js]at h
  |cons v A=>
   cases v <;> simp only[Js]at h <;> try (cases h;done)
   rename_i b;split at h
   .rename_i j;simp at j h;subst j h;exact⟨[.string b],rfl,by simp[dU]⟩
   .cases h
 | .slice t,x,cs,r,h=>by
  cases x with
  |cons _ _=>simp[Js]at h
  |nil=>
   cases cs with
   |nil=>simp[Js]at h
   |cons v A=>
    unfold Js at h;split at h <;> try (cases h;done)
    all_goals simp_all
    exact⟨[.slice aC 0 0],rfl,by simp only[dU];exact⟨aC,0,[],rfl,by simp,by simp,λi v B=>by simp at B,rfl⟩⟩
 | .jj t,x,cs,r,h=>by
  cases x with
  |some _=>simp[Js]at h
  |none=>
   cases cs with
   |nil=>simp[Js]at h
   |cons v A=>
    unfold Js at h;split at h <;> try (cases h;done)
    all_goals simp_all
    exact⟨[.slice aC 0 0],rfl,by simp[dU]⟩
 | .unit,x,cs,r,h=>by simp only[Js,cn]at h;exact⟨[],by simp[h],by simp[dU]⟩
 | .pair a b,x,cs,r,h=>by
  simp only[Js]at h;cases I:Js a x.1 cs with
  |none=>rw[I]at h;cases h
  |some L=>
   rw[I]at h;obtain⟨J,M,j⟩:=My E a x.1 cs L I;obtain⟨K,O,u⟩:=My E b x.2 L r h;exact⟨J++K,by rw[M,O,aR],by simp only[dU];exact⟨J,K,rfl,j,u⟩⟩
 | .arr n t,x,cs,r,h=>by
  simp only[Js]at h;split at h
  .rename_i j;obtain⟨c,e,T⟩:=alI (λx cs r B=>My E t x cs r B) _ _ _ h;exact⟨c,e,by simp only[dU];exact⟨by simpa using j,T⟩⟩
  .cases h
def aH9(E:Env):∀(a:aF) (cs r:List bh),alH a cs=aw r->∃c,cs=c++r/\V E a c:=by
 intro a
 induction a with
 |d t x=>
  simp_all [alH,My,V]
 |pr a b j u=>
  grind [alH,V]
 |fR=>intro cs r h;unfold alH at h;split at h <;> simp_all <;> exact⟨[.slice aC 0 0],rfl,by simp[V]⟩
 |qW=>intro cs r h;unfold alH at h;split at h <;> simp_all <;> exact⟨[.pointer aC],rfl,by simp[V]⟩
 |Cw=>intro cs r h;unfold alH at h;split at h <;> simp_all <;> exact⟨[.nilFunc],rfl,by simp[V]⟩
 |JA=>intro cs r h;unfold alH at h;split at h <;> simp_all <;> exact⟨[.map aC],rfl,by simp[V]⟩
 |_=>intro cs r h;simp[alH]at h
def Be{P:bg}{T:bk}{z:aF}(h:aAL P T z=bn)(E:Env):
  ∃i j,P.info? T=aw i/\i.zero=aw j/\V E z j.cells.toList/\gv z.agg j.cells.toList j:=by
 unfold aAL at h;split at h <;> try (cases h;done)
 rename_i i K;split at h <;> try (cases h;done)
 rename_i j L;simp only[aQ,lZ]at h;obtain⟨B,A⟩:=h;split at B <;> try (cases B;done)
 rename_i J;obtain⟨c,e,I⟩:=aH9 E z _ _ J;rw[bm]at e;rw[<-e]at I;refine⟨i,j,K,L,I,?_⟩;cases u:z.agg with
 |true=>
  rw[u]at A;cases j <;> simp[wP]at A;simp[gv,Value.cells]
 |false=>
  rw[u]at A;cases j <;> first | (simp[wP]at A;done) | simp[gv,Value.cells]
end Go.Ab
namespace Go.Ab
def Fr(r:Option Nat):Fence:= {Fence.wide with round:=r}
def iu(P:bg)(o:Oper)(a:Act)(w:cG)(K:Act->cG->Prop):Prop:=(∃x w',(execOp a.eval o).run P w= .ok (.value x) w'/\K (a.put o.dst x) w')\/(∃w',(execOp a.eval o).run P w= .ok .skip w'/\K (a.put o.dst undef) w')\/(∃f args w',(execOp a.eval o).run P w= .ok (.enter f args) w'/\Calls P f args w' λe j=>∃x,e= .returned x/\K (a.put o.dst x) j)\/(∃l f tmps as b w',(execOp a.eval o).run P w= .ok (.round l f tmps as b) w'/\∀r n,RoundIn (Fr r) n P l f tmps as b w' λe j=>∃x,e= .returned x/\K (a.put o.dst x) j)
def iu.plain{P:bg}{o:Oper}{a:Act}{w:cG}{K:Act->cG->Prop}(h:iu P o a w K)(c:Call):o.op≠ .defer c:=λA=>by
 have u:∀x w',(execOp a.eval o).run P w= .ok x w'->∃d,x= .defer d:=λx w' j=>by
  simp[execOp]at j;cases B:(resolve a.eval c o.type).run P w with
  |ok d I=>
   simp_all [iu,execOp]
  |halt _ _=>simp_all
 grind [iu]
def iu.wpIn{r:Option Nat}{n:Nat}{P:bg}{o:Oper}{a:Act}{w:cG}{K:Act->cG->Prop}{Q:Exit->Act->cG->Prop}(h:iu P o a w K):o.wpIn (Fr r) n P a w K Q:=by
 have A:=h.plain;refine⟨λ_ _=>trivial,?_⟩;rw[Oper.semAt_eq _ _ _ A];rcases h with⟨x,w',u,j⟩ | ⟨w',u,j⟩ | ⟨f,args,w',u,j⟩ | ⟨l,f,tmps,as,b,w',u,j⟩;rotate_left 3
 .rw[u];refine⟨λh=>(by cases h),(j r (n - 1)).mono λe B ⟨x,J,L⟩=> ?_⟩;grind
 .grind [Oper.uponIn_value]
 .grind [Oper.uponIn_skip]
 .rw[u];refine⟨λh=>(by cases h),?_⟩;have I:CallsIn (Fr r) (n - 1) P f args w' _:=callsIn_wide.2 j;grind [CallsIn]
def iu.mono{P:bg}{o:Oper}{a:Act}{w:cG}{K I:Act->cG->Prop}(h:iu P o a w K)(J:∀a w,K a w->I a w):iu P o a w I:=by
 rcases h with⟨x,w',j,h⟩ | ⟨w',j,h⟩ | ⟨f,args,w',j,h⟩ | ⟨l,f,tmps,as,b,w',j,h⟩
 .grind [iu]
 .grind [iu]
 .exact .inr (.inr (.inl ⟨f,args,w',j,h.mono λe B ⟨x,u,A⟩=>⟨x,u,J _ _ A⟩⟩))
 .exact .inr (.inr (.inr ⟨l,f,tmps,as,b,w',j,λr n=>(h r n).mono λe B ⟨x,u,A⟩=>⟨x,u,J _ _ A⟩⟩))
section
variable {P:bg} {C:Ctx} {g:Nat->pP} {β:Id->Option Pl} {s:AS} {a:Act} {w:cG} {o:Oper}
def Inv.value(h:Inv C g β s a w){v:aF}{x:bh}(u:VS (s.env w g β) v x)(j:(execOp a.eval o).run P w= .ok (.value x) w):iu P o a w (jO C (s.put o.dst v)):= .inl ⟨x,w,j,g,β,h.put o.dst u⟩
theorem gj{f:Sem bh}{x:bh}{w':cG}(j:execOp a.eval o=(do pure (.value (<-f))))(u:f.run P w= .ok x w'):(execOp a.eval o).run P w= .ok (.value x) w':=by simp_all
def atY{f:Sem Unit}{w':cG}(j:execOp a.eval o=(do f;pure .skip))(u:f.run P w= .ok () w'):(execOp a.eval o).run P w= .ok .skip w':=by simp_all
def MH{E:Env}{k:mA}{n:Int}{y:bh}(h:VS E (.d (.int k) n) y):y= .int k n:=by obtain⟨cs,u,A⟩:=h;simp only[V,dU]at u;have j:cs=[y]:=A;rw[u]at j;simpa using j.symm
theorem ajF{E:Env}{b:Bool}{y:bh}(h:VS E (.d .bool b) y):y= .bool b:=by obtain⟨cs,A,j⟩:=h;simp[V,dU]at A;have u:cs=[y]:=j;grind
def Sn{E:Env}{b:ByteArray}{y:bh}(h:VS E (.d .str b) y):y= .string b:=by obtain⟨cs,A,j⟩:=h;simp[V,dU]at A;have u:cs=[y]:=j;grind
def pV{E:Env}(k:mA)(n:Int):VS E (.d (.int k) n) (.int k n):=⟨[.int k n],by simp[V,dU],rfl⟩
def Hz{E:Env}(b:Bool):VS E (.d .bool b) (.bool b):=⟨[.bool b],by simp[V,dU],rfl⟩
def aG4{E:Env}(b:ByteArray):VS E (.d .str b) (.string b):=⟨[.string b],by simp[V,dU],rfl⟩
def aNo{T:bk}{d:TypeDesc}(h:P.underlying T=aw d):∃i,P.info? T=aw i:=by grind [Program.underlying]
theorem run_sizeOf{T:bk}{i:TypeInfo}(h:P.info? T=aw i)(w:cG):(sizeOf T).run P w= .ok i.size w:=by simp[sizeOf,typeInfo,h]
theorem sj{T:bk}{i:TypeInfo}(h:P.info? T=aw i):P.cellsOf T=i.size:=by grind [Program.cellsOf]
def wJ{T:bk}{v:aF}(h:fits P T v=bn):v.fF=bn/\∃i,P.info? T=aw i/\i.size=v.size/\∀w,(isAgg T).run P w= .ok v.agg w:=by
 unfold fits at h;simp at h;obtain⟨⟨A,I⟩,j⟩:=h;cases u:P.underlying T with
 |none=>grind
 |some d=>
  obtain⟨i,B⟩:=aNo u;refine⟨A,i,B,by grind [sj],λw=> ?_⟩;rw[u]at j;unfold isAgg;rw[fe,run_underlying u w];cases d <;> simp at j <;> simp[j]
def R3{T:bk}{v:aF}(K:fits P T v=bn){b off:Nat}{cs:List bh}(B:aa cs=v.size)(J:∀j x,cs[j]? =aw x->w.cell? ⟨b,off+j,aC⟩=aw x):
  ∃y,(loadVar T ⟨b,off,aC⟩).run P w= .ok y w/\gv v.agg cs y:=by
 obtain⟨_,i,M,O,u⟩:=wJ K;unfold loadVar;rw[fe,u w];have A:∀j x,cs[j]? =aw x->w.cell? ((⟨b,off,aC⟩:Addr).add j)=aw x:=λj x hj=>by grind [Addr.add_lit]
 cases I:v.agg with
 |true=>
  refine⟨.agg cs.toArray,?_,rfl⟩;simp only[bQ,fe,run_sizeOf M,dL,O,<-B,run_loadCells_list w _ cs A];rfl
 |false=>
  have h1:=aF.aFW I;obtain⟨y,rfl⟩:∃y,cs=[y]:=by
   match cs,B with
   |[y],_=>grind
   |[],L=>grind
   |_::_::_,L=>grind
  refine⟨y,?_,rfl⟩;have:=J 0 y rfl;simp_all
def OX{T:bk}{v:aF}{E:Env}(A:fits P T v=bn){cs:List bh}{y:bh}(j:V E v cs)(J:gv v.agg cs y){b off:Nat}{cur:Array bh}{e:bk}
  (B:w.heap[b]? =aw (.cells cur e (0,0))) (I:off+aa cs<=cur.size):
  (storeVar T ⟨b,off,aC⟩ y).run P w= .ok () (w.setRow b (dP cur.toList off cs).toArray):=by
 obtain⟨_,i,K,M,_⟩:=wJ A;have u:=J.cells j.one;have L:=j.size;have O:=run_storeCells_at P b off e cs 0 cur w B (by grind) j.one;simp_all [storeVar,run_sizeOf,dP]
theorem vb(w:cG)(j:Obj){b:Nat}(h:b < w.heap.size):(w.alloc j).heap[b]? =w.heap[b]? :=by
 show(w.heap.push j)[b]? =w.heap[b]?
 grind
def yC(w:cG)(j:Obj):(w.alloc j).heap[w.heap.size]? =aw j:=by
 show(w.heap.push j)[w.heap.size]? =aw j
 simp
def Trans.alloc(w:cG)(g:Nat->pP)(j:Obj)(l:pP):Trans w (w.alloc j) g (nX g w.heap.size l):=by
 refine⟨rfl,rfl,⟨rfl,ax _⟩,by simp,λb u=> ?_⟩;rw[my _ _ _ aq,vb w j u];cases g b with
 |free=>exact⟨rfl,rfl⟩
 |own o k=>cases o with
  |gK=>exact⟨rfl,rfl⟩
  |id i=>exact⟨.inr ⟨i,k,rfl,ax _⟩,λoff v _ A=>by rw[World.cell?_alloc_lt w j _ u];exact A⟩
def Trans.drew(w:cG)(g:Nat->pP):Trans w w.drew g g:=Trans.refl w g |> λh=>⟨h.os,h.tape,⟨h.output.1,kW _⟩,h.size,h.aiW⟩
def jH.same{w':cG}{u:Nat->pP}(h:jH (s.env w g β))(K:df (s.env w g β) (s.env w' u β))(B:∀i j fr c pl,s.cH i=aw (.obj j fr c)->β i=aw pl->w'.heap[pl.b]? =w.heap[pl.b]? /\u pl.b=g pl.b):jH (s.env w' u β):=λi j fr c I=>(h i j fr c I).mono K rfl (λpl A=>B i j fr c pl I A) λq L k v l J _=>⟨⟨k,v,l,J⟩,λpl A=>B q L bn _ pl J A⟩
def df.same{w':cG}{j:Nat->pP}(u:Trans w w' g j):df (s.env w g β) (s.env w' j β):=⟨Trans.mem u,λ_ _ h=>h,λ_ _ _ h=>⟨h,rfl⟩⟩
def Inv.Th(h:Inv C g β s a w)(j:Obj):Inv C (nX g w.heap.size .free) β s a (w.alloc j):=by have B:=Trans.alloc w g j .free;have A:df (s.env w g β) (s.env (w.alloc j) (nX g w.heap.size .free) β):=df.same B;refine h.step rfl B A (jH.same h.cd A λi u fr c pl I L=> ?_);have J:=((h.cd i u fr c I).label (pl:=pl) L).1;have K:pl.b < w.heap.size:=J;grind [vb,nX]
def Inv.drew(h:Inv C g β s a w):Inv C g β s a w.drew:=by have u:=Trans.drew w g;have j:df (s.env w g β) (s.env w.drew g β):=df.same u;exact h.step rfl u j (jH.same h.cd j λ_ _ _ _ _ _ _=>⟨rfl,rfl⟩)
theorem tx{q:Nat}(h:s.ff q=bn):(∀j,s.cH (.new q j)=aC)/\q < aa s.news:=by grind [AS.ff,AS.cH]
theorem Eh{q:Nat}(A:q < aa s.news)(u:List dR)(j:Nat):(s.born q u).cH (.new q j)=u[j]? :=by simp[AS.cH,AS.born,dH,A]
theorem j9{q:Nat}(u:List dR){id:Id}(h:∀j,id≠ .new q j):(s.born q u).cH id=s.cH id:=by
 cases id with
 |dx k=>rfl
 |new i j=>
  grind [AS.cH,AS.born]
def SR(β:Id->Option Pl)(id:Id)(p:Option Pl):Id->Option Pl:=λi=>if i=id then p else β i
@[simp] theorem oZ(β:Id->Option Pl)(id:Id)(p:Option Pl):SR β id p id=p:=by simp[SR]
def NZ(β:Id->Option Pl)(id:Id)(p:Option Pl){i:Id}(h:i≠id):SR β id p i=β i:=by grind [SR]
def Inv.adI(h:Inv C g β s a w){q:Nat}(hq:s.ff q=bn){w':cG}{J:Nat->pP}{c:aF}{p:Option Pl}(ht:Trans w w' g J)
  (hb:∀b,b < w.heap.size->w'.heap[b]? =w.heap[b]? /\J b=g b)
  (ho:df (s.env w g β) ((s.born q [.obj 0 aZ c]).env w' J (SR β (.new q 0) p))->FJ ((s.born q [.obj 0 aZ c]).env w' J (SR β (.new q 0) p)) (.new q 0) aZ c):
  Inv C J (SR β (.new q 0) p) (s.born q [.obj 0 aZ c]) a w'/\df (s.env w g β) ((s.born q [.obj 0 aZ c]).env w' J (SR β (.new q 0) p)):=by
 obtain⟨hv,hl⟩:=tx hq;have jV:∀id,s.cH id≠aC->∀j,id≠ .new q j:=λid I j e=>I (by grind)
 have T:df (s.env w g β) ((s.born q [.obj 0 aZ c]).env w' J (SR β (.new q 0) p)):=by
  refine⟨Trans.mem ht,λid B u=> ?_,λid B u O=> ?_⟩
  .have I:=jV id u.1;have e:=j9 (s:=s) [.obj 0 aZ c] I;exact⟨by show(s.born q _).cH id≠aC;rw[e];exact u.1,λv fr c' hh=>u.2 v fr c' (e.symm.trans hh)⟩
  .have I:=jV id u.1;have e:=j9 (s:=s) [.obj 0 aZ c] I;obtain⟨fr,c',O⟩:=O;exact⟨⟨fr,c',e.symm.trans O⟩,NZ _ _ _ (I 0)⟩
 refine⟨h.step rfl ht T λid B fr c' I=> ?_,T⟩;have A:(s.born q [.obj 0 aZ c]).cH id=aw (.obj B fr c'):=I;by_cases hi:∃j,id= .new q j
 .grind [Eh]
 .have K:=λj e=>hi ⟨j,e⟩
  rw[j9 _ K]at A;refine(h.cd id B fr c' A).mono T (NZ _ _ _ (K 0)) (λpl hp=> ?_) λq2 vq k v l L _=> ?_
  .exact hb pl.b ((h.cd id B fr c' A).label (pl:=pl) hp).1
  .have M:s.cH q2=aw (.obj vq bn (.mp k v l)):=L;refine⟨⟨k,v,l,by show(s.born q _).cH q2=_;grind [j9]⟩,λpl hp=>hb pl.b ((h.cd q2 vq bn _ M).label (pl:=pl) hp).1⟩
def tT{q:Nat}(u:s.ff q=bn)(c:aF)(w':cG)(j:Nat->pP)(β':Id->Option Pl):((s.born q [.obj 0 aZ c]).env w' j β').Oi (.new q 0) 0:=by have e:=Eh (s:=s) (tx u).2 [.obj 0 aZ c] 0;refine⟨by show(s.born q [.obj 0 aZ c]).cH (.new q 0)≠aC;grind,λv fr c' _=>az _⟩
def Inv.aNG(h:Inv C g β s a w){q:Nat}(u:s.ff q=bn){v:aF}{cs:List bh}{e:bk}(K:∀pl n,v.PQ pl n e)(B:∀n,v.FT n=n)(M:V (s.env w g β) v.strip cs):
  ∃j β',Inv C j β' (s.born q [.obj 0 aZ v]) a (w.alloc (.cells cs.toArray e))/\
   VS ((s.born q [.obj 0 aZ v]).env (w.alloc (.cells cs.toArray e)) j β') (.ptr (.new q 0) 0 [] 0) (.pointer (aw ⟨w.heap.size,0,aC⟩)):=by
 have L:=Trans.alloc w g (.cells cs.toArray e) (.own (.id (.new q 0)) 0);obtain⟨A,O⟩:=h.adI u (c:=v) (p:=aw ⟨w.heap.size,0⟩) L (λb I=>⟨vb w _ I,my _ _ _ aq⟩) (λJ=>
  Zc.obj ⟨⟨w.heap.size,0⟩,cs.toArray,e,oZ _ _ _,yC w _,lR _ _ _,K _ _,by rw[B,show cs.toArray.toList.take cs.toArray.size=cs by simp];exact M.mono J⟩)
 refine⟨_,_,A,?_⟩;refine⟨[.pointer (aw ⟨w.heap.size,0,aC⟩)],?_,rfl⟩;exact⟨_,rfl,tT u _ _ _ _,λ_=>⟨_,oZ _ _ _,rfl⟩⟩
def Inv.bjJ(h:Inv C g β s a w){q:Nat}(A:s.ff q=bn){v:aF}{cs:List bh}(j:V (s.env w g β) v cs)(e:bk):
  ∃u β',Inv C u β' (s.born q [.obj 0 aZ v]) a (w.alloc (.cells cs.toArray e))/\
   VS ((s.born q [.obj 0 aZ v]).env (w.alloc (.cells cs.toArray e)) u β') (.ptr (.new q 0) 0 [] 0) (.pointer (aw ⟨w.heap.size,0,aC⟩)):=
 h.aNG A (λpl n=>adK j.Gr pl n e) (λn=>akY j.Gr n) (by rw[afQ j.Gr];exact j)
def aV0(P:bg)(T:bk){z:aF}{E:Env}{cs:List bh}(j:V E z cs):(∀pl n,(boxed P T z).PQ pl n T)/\(∀n,(boxed P T z).FT n=n)/\V E (boxed P T z).strip cs:=by
 unfold boxed;split
 .exact⟨λ_ _=>rfl,λ_=>rfl,j⟩
 .exact⟨λpl n=>adK j.Gr pl n T,λn=>akY j.Gr n,by rw[afQ j.Gr];exact j⟩
def Inv.bfJ(h:Inv C g β s a w){t:Ty}{x:t.den}{cs:List bh}(B:dU (s.env w g β) t cs x)(e:bk):
  ∃j,Inv C j β s a (w.alloc (.cells cs.toArray e))/\df (s.env w g β) (s.env (w.alloc (.cells cs.toArray e)) j β)/\
   VS (s.env (w.alloc (.cells cs.toArray e)) j β) (.iU t x) (.pointer (aw ⟨w.heap.size,0,aC⟩)):=by
 have A:=Trans.alloc w g (.cells cs.toArray e) .free;have u:df (s.env w g β) (s.env (w.alloc (.cells cs.toArray e)) (nX g w.heap.size .free) β):=df.same A;refine⟨_,h.Th _,u,[.pointer (aw ⟨w.heap.size,0,aC⟩)],?_,rfl⟩;refine⟨w.heap.size,0,cs,rfl,λi v I=>⟨_,_,rfl,?_,?_⟩,B.mono u.mem⟩
 .show(w.alloc (.cells cs.toArray e)).cell? ⟨w.heap.size,0+i,aC⟩=aw v;simp_all
 .show EF (nX g w.heap.size .free) w.heap.size (0+i);simp[EF]
def apO(T:bk)(y:bh)(w:cG):(newVar T y).run P w= .ok ⟨w.heap.size,0,aC⟩ (w.alloc (.cells y.cells T)):=by simp[newVar,newRow]
theorem aHa(h:Inv C g β s a w){T:bk}(ho:o.op= .alloc T){z:aF}{q:Nat}(L:s.ff q=bn)(M:aAL P T z=bn):
  iu P o a w (jO C ((s.born q [.obj 0 aZ (boxed P T z)]).put o.dst (.ptr (.new q 0) 0 [] 0))):=by
 obtain⟨i,O,hi,u,j,hO⟩:=Be M (s.env w g β);obtain⟨K,J,j⟩:=aV0 P T j;obtain⟨A,β',B,I⟩:=h.aNG L K J j;refine .inl ⟨.pointer (aw ⟨w.heap.size,0,aC⟩),w.alloc (.cells O.cells T),?_,A,β',?_⟩
 .simp_all [Instr.alloc,execOp,zeroValue,typeInfo,apO]
 .have:=B.put o.dst I;omega
def VS.bmo{E:Env}{t:Ty}{x:t.den}{y:bh}(h:VS E (.iU t x) y)(j:Bool):VS E (blf j t x) y:=h
theorem aVZ(h:Inv C g β s a w){T:bk}{x:cD}{A L:Bool}(ho:o.op= .box T x){s':AS}(j:(aHC P s A L o.dst T (s.ev x)).eval=aw s'):iu P o a w (jO C s'):=by
 unfold aHC at j;cases K:o.dst with
 |none=>grind [aG]
 |some q=>
  rw[K]at j;have u:=h.ev x;have vg:∀cs:List bh,(a.eval x).cells=cs.toArray->(execOp a.eval o).run P w= .ok (.value (.pointer (aw ⟨w.heap.size,0,aC⟩))) (w.alloc (.cells cs.toArray T)):=by simp_all [Instr.box,execOp,apO]
  cases A with
  |true=>
   obtain⟨hg,iN⟩:=ba.1 j;obtain rfl:=aM.1 iN;simp at hg;obtain⟨hq,hf⟩:=hg;obtain⟨hc,_⟩:=wJ hf;obtain⟨cs,O,J⟩:=u.fF hc;obtain⟨g',β',B,I⟩:=h.bjJ hq O T;refine .inl ⟨_,_,vg cs (J.cells O.one),g',β',?_⟩;rw[K];exact B.put (aw q) I
  |false=>
   cases ht:aL5 P depth T with
   |none=>grind [aG]
   |some t=>
    rw[ht]at j;obtain⟨_,j⟩:=ba.1 j;obtain⟨y,B,I⟩:=aI.1 j;obtain rfl:=aM.1 I;obtain⟨g1,i1,e1,t1,cs,M,J⟩:=NS h u B;obtain⟨g2,i2,e2,hv⟩:=i1.bfJ M T;refine .inl ⟨_,_,vg cs (J.cells M.one),g2,β,?_⟩;rw[K];exact i2.put (aw q) (hv.bmo L)
theorem aco{E:Env}{t:Ty}{x:t.den}{y:bh}(h:VS E (.iU t x) y):∃b off vs,y= .pointer (aw ⟨b,off,aC⟩)/\Oc E (aw ⟨b,off,aC⟩) vs/\dU E t vs x:=by obtain⟨cs,A,j⟩:=h;simp[V]at A;have u:cs=[y]:=j;grind
def M1{E:Env}{id:Id}{j n:Nat}{p:List Uv}{y:bh}(h:VS E (.ptr id j p n) y):
  ∃a,y= .pointer (aw a)/\E.Oi id j/\(E.cur id j->∃pl,E.β id=aw pl/\a=⟨pl.b,n,aC⟩):=by
 obtain⟨cs,B,u⟩:=h;simp[V]at B;have A:cs=[y]:=u;grind
def BX{E:Env}{id:Id}{u c i j:Nat}{p:List Uv}{y:bh}(h:VS E (.dq id u p c i j) y):
  ∃a cap,y= .slice a j cap/\j<=cap/\(0 < j->a.isSome=bn)/\E.Oi id u/\
   (E.cur id u->match E.β id with
    |some pl=>(0 < j\/i=0->a=aw ⟨pl.b,c,aC⟩)/\(p=[]->i=0->cap=pl.cap)
    |none=>a=aC/\j=0/\cap=0):=by
 obtain⟨cs,I,J⟩:=h;simp only[V]at I;obtain⟨a,cap,e,B⟩:=I;have A:cs=[y]:=J;rw[e]at A;exact⟨a,cap,by simpa using A.symm,B⟩
def zT{E:Env}{t:Ty}{l:List t.den}{y:bh}(h:VS E (.d (.slice t) l) y):
  ∃a cap vs,y= .slice a (aa l) cap/\aa l<=cap/\(0 < aa l->a.isSome=bn)/\Oc E a vs/\bR (dU E t) vs l:=by
 obtain⟨cs,A,j⟩:=h;simp[V,dU]at A;have u:cs=[y]:=j;grind
theorem nv{E:Env}{y:bh}(h:VS E .fR y):y= .slice aC 0 0:=by obtain⟨cs,A,j⟩:=h;simp[V]at A;have u:cs=[y]:=j;grind
def aRD{E:Env}{id:Id}{fr:Bool}{c:aF}(h:FJ E id fr c){p:List Uv}{n:Nat}{v:aF}(j:(loc c.strip p).eval=aw (n,v))(hf:v.fF=bn):
  ∃pl cur e,E.β id=aw pl/\E.w.heap[pl.b]? =aw (.cells cur e (0,0))/\V E v ((cur.toList.drop n).take v.size)/\n+v.size<=cur.size:=by
 by_cases I:c.lg=aZ
 .obtain⟨pl,cur,e,B,hh,hg,M,A⟩:=h.box I;have L:=awM M;generalize c.FT cur.size=N at L A;obtain⟨u,O⟩:∃u,c.strip=u:=⟨_,rfl⟩;rw[O]at A j;rcases xF p u (cur.toList.take N) n v (VO.of A) j with⟨rfl,rfl⟩ | ⟨J,K⟩
  .have hs:=A.size;grind
  grind [yy]
 .cases c <;> first | (exact absurd rfl I) | skip
  rotate_left
  .have j:(loc (.mp _ _ _) p).eval=_:=j;grind [ayl,aF.fF]
  .have j:(loc (.xB _ _ _ _ _ _) p).eval=_:=j;grind [ajZ,aF.fF]
  .have j:(loc (.BO _ _ _) p).eval=_:=j;grind [aj0,aF.fF]
  rename_i e t l;obtain⟨hz,h⟩:=h;cases B:E.β id with
  |none=>
   rw[B]at h;have:=h;subst this;obtain⟨_,rfl⟩:=amu j;grind [aF.fF]
  |some pl=>
   rw[B]at h;obtain⟨cur,k,q1,q2,q3,q4,q5,q6,q7,T⟩:=h;rcases xF (E:=E) p (.vec e t l) _ n v T j with⟨rfl,rfl⟩ | ⟨J,K⟩
   all_goals grind [aF.fF,yy]
def aRy{E:Env}{v v':aF}(h:(bjM v).eval=aw v'):(∀cs,V E v cs->V E v' cs)/\v'.agg=v.agg:=by
 unfold bjM at h;split at h
 .obtain⟨u,j⟩:=cV.1 h;obtain rfl:=aM.1 j;refine⟨λcs A=> ?_,rfl⟩;simp_all [V,dU]
 grind [aM]
def amt(h:Inv C g β s a w){T:bk}{x:aF}{y:bh}(hx:VS (s.env w g β) x y){v:aF}(u:(aaI P s T x).eval=aw v):
  ∃L z,y= .pointer (aw L)/\(loadVar T L).run P w= .ok z w/\VS (s.env w g β) v z:=by
 unfold aaI at u;split at u
 .rename_i id ver p n;cases tW:s.obj id with
  |none=>rw[tW]at u;simp only[aG]at u
  |some r=>
   obtain⟨v0,fr,c⟩:=r;rw[tW]at u;obtain⟨O,h2⟩:=ba.1 u;obtain⟨⟨n',v'⟩,h3,h4⟩:=aI.1 h2;obtain⟨h5,h6⟩:=ba.1 h4;obtain⟨h7,h8⟩:=cV.1 h6;obtain⟨n1,n2⟩:=aRy (E:=s.env w g β) h8;simp only[bJ]at h7;have M:v0=ver:=by simpa using O
   subst M h7;have eG:=gA tW;obtain⟨L,rfl,hb,hc⟩:=M1 hx;obtain⟨pl,hp,rfl⟩:=hc ⟨fr,c,eG⟩;obtain⟨K,_⟩:=wJ h5;obtain⟨pl',cur,e,J,hh,hV,hle⟩:=aRD (h.cd id v0 fr c eG) h3 K;rw[hp]at J;obtain rfl:pl=pl':=by simpa using J
   obtain⟨z,B,A⟩:=R3 (P:=P) (w:=w) h5 (b:=pl.b) (off:=n') hV.size (λj x I=>by
    rw[cell_of_row w pl.b (n'+j) cur e (0,0) hh];rw[fS]at I;split at I
    .rw[pR]at I;simpa using I
    .cases I)
   exact⟨_,z,rfl,B,VS.of (n1 _ hV) (by rw[n2];exact A)⟩
 .rename_i t x';obtain⟨O,h2⟩:=ba.1 u;obtain rfl:=aM.1 h2;obtain⟨b,off,vs,rfl,hr,hR⟩:=aco hx;obtain⟨z,B,A⟩:=R3 (P:=P) (w:=w) O (b:=b) (off:=off) hR.size (λj x I=>by
   obtain⟨b',off',e,hh⟩:=hr j x I;simp only[cn,Addr.mk.injEq,lY]at e;obtain⟨rfl,rfl⟩:=e;exact hh.1)
  exact⟨_,z,rfl,B,VS.of (by simpa only[V]using hR) A⟩
 .simp only[aG]at u
theorem aRb(h:Inv C g β s a w){T:bk}{x:cD}(B:o.op= .load T x){v:aF}(j:(aaI P s T (s.ev x)).eval=aw v):iu P o a w (jO C (s.put o.dst v)):=by obtain⟨A,z,J,I,u⟩:=amt h (h.ev x) j;refine h.value u (gj (f:=Instr.loadAt T (a.eval x)) (by grind [execOp]) ?_);grind [Instr.loadAt,Instr.sureAddr]
def Trans.setRow(w:cG){b:Nat}{i:Id}(B:g b= .own (.id i) 0)(cur:Array bh):Trans w (w.setRow b cur) g g:=by
 refine⟨by simp,by simp,by simp,by simp,λj L=> ?_⟩;by_cases u:j=b
 .subst u;rw[B];exact⟨.inr ⟨i,0,rfl,ax _⟩,λ_ _ M=>aq⟩
 .rw[setRow_other w b j cur u];cases A:g j with
  |free=>exact⟨rfl,rfl⟩
  |own K k=>cases K with
   |gK=>exact⟨rfl,rfl⟩
   |id J=>exact⟨.inr ⟨J,k,rfl,ax _⟩,λoff v _ I=>by rw[cell_setRow_other w b cur _ u];exact I⟩
def Inv.apart(h:Inv C g β s a w){id:Id}{k:Nat}{b:Nat}(B:g b= .own (.id id) k){i:Id}{j:Nat}{fr:Bool}{c:aF}{pl:Pl}(I:i≠id)(A:s.cH i=aw (.obj j fr c))(u:β i=aw pl):pl.b≠b:=by have J:(∃k,g pl.b= .own (.id i) k)\/(fr=bn/\g pl.b= .free):=((h.cd i j fr c A).label (pl:=pl) u).2;grind
def aF9(h:Inv C g β s a w){T:bk}{x v:aF}{y z:bh}(hx:VS (s.env w g β) x y)(hz:VS (s.env w g β) v z){s':AS}(he:(Sl P s T x v).eval=aw s'):
  ∃ad w',y= .pointer (aw ad)/\(storeVar T ad z).run P w= .ok () w'/\∃g' β',Inv C g' β' s' a w':=by
 unfold Sl at he;split at he
 .rename_i id ver p n;cases tW:s.obj id with
  |none=>grind [aG]
  |some r=>
   obtain⟨v0,fr,c⟩:=r;rw[tW]at he;obtain⟨h1,h2⟩:=ba.1 he;obtain⟨⟨j,o'⟩,B,h4⟩:=aI.1 h2;obtain⟨h5,h6⟩:=ba.1 h4;obtain⟨h7,h8⟩:=cV.1 h6;obtain⟨c',h9,bly⟩:=aI.1 h8;obtain rfl:=aM.1 bly;simp only[bJ]at h7;simp at h1;obtain⟨⟨bkP,boq⟩,I⟩:=h1;subst bkP h7 boq;have eG:=gA tW;obtain⟨ad,rfl,hb,hc⟩:=M1 hx;obtain⟨pl,hp,rfl⟩:=hc ⟨aZ,c,eG⟩;have hp:β id=aw pl:=hp;obtain⟨aIw,_⟩:=wJ I;obtain⟨cs,hV,hO⟩:=hz.fF aIw;have u:=h.cd id v0 aZ c eG;obtain⟨hcel',_⟩:=wJ h5;have bo1:c.lg=aZ\/c.lg=bn:=by grind
   rcases bo1 with hn | hn
   .obtain⟨pl',cur,e,O,hh,hg,hk,M⟩:=u.box hn;have O:β id=aw pl':=O;rw[hp]at O;obtain rfl:pl=pl':=by grind
    have hg:g pl.b= .own (.id id) 0:=hg;have hN:=awM hk;have hNl:aa (cur.toList.take (c.FT cur.size))=c.FT cur.size:=by grind
    obtain⟨u1,u2,u3⟩:=uR p c.strip (cur.toList.take (c.FT cur.size)) j o' v c' cs (VO.of M) B hV h9;have u4:=u2.to (u3.zb M.zb);have Hu:c'.size=c.strip.size:=by have e1:=u4.size;have e2:=M.size;grind [dP]
    rw[hNl]at u1;have L:aa (dP cur.toList j cs)=aa cur.toList:=vE (by grind);have boU:(dP cur.toList j cs).take (c.FT cur.size)=dP (cur.toList.take (c.FT cur.size)) j cs:=by grind [ee,iA,vE,bp,dP]
    have vg:=OX (P:=P) (w:=w) I hV hO (b:=pl.b) (off:=j) hh (by grind);have ht:=Trans.setRow w hg (dP cur.toList j cs).toArray;have A:df (s.env w g β) ((s.bD id (.obj v0 aZ (c.wrap c'))).env (w.setRow pl.b (dP cur.toList j cs).toArray) g β):=df.bD eG (ax _) ht (λ_ _=>rfl) (λ_=>rfl);refine⟨_,_,rfl,vg,g,β,h.step (dF _ _ _) ht A (jH.bD h.cd (by grind) A (λ_ _=>rfl) (λi ver fr c pl2 hi K J=>⟨setRow_other w pl.b pl2.b _ (h.apart hg hi K J),rfl⟩) ?_ (ue eG λk v1 l e=>by grind [aF.lg]))⟩;exact Zc.obj ⟨pl,_,e,hp,setRow_heap w pl.b cur _ e (0,0) hh,hg,by rw[List.size_toArray,L,jl];exact WZ hk u4.Gr Hu,by
     rw[YF c u4.Gr,List.size_toArray,L,jl,adJ u4.Gr Hu,show(dP cur.toList j cs).toArray.toList=dP cur.toList j cs from rfl,boU];grind [V.mono]⟩
   .cases c <;> first | (simp[aF.lg]at hn;done) | skip
    rotate_left
    .have B:(loc (.mp _ _ _) p).eval=_:=B;grind [ayl,aF.fF]
    .have B:(loc (.xB _ _ _ _ _ _) p).eval=_:=B;grind [ajZ,aF.fF]
    .have B:(loc (.BO _ _ _) p).eval=_:=B;grind [aj0,aF.fF]
    rename_i e t l;obtain⟨aGX,u⟩:=u;have u:(match β id with
     |none=>l=[]
     |some pl=>∃cur k,w.heap[pl.b]? =aw (.cells cur e (0,0))/\cur.size=pl.cap*t.size/\aa l<=pl.cap/\pl.cap<=maxLen/\g pl.b= .own (.id id) k/\
       k<=aa l*t.size/\(aZ=aZ->k=0)/\bR (dU (s.env w g β) t) (cur.toList.take (aa l*t.size)) l):=u
    rw[hp]at u;obtain⟨cur,k,q1,q2,q3,q4,q5,q6,q7,q8⟩:=u;have hk:=q7 rfl;subst hk;have hlen:=bR.length (λc x hx=>dU.size hx) q8;have Hu:aa l*t.size<=cur.size:=by grind
    obtain⟨u1,u2,u3⟩:=uR (E:=s.env w g β) p (.vec e t l) _ j o' v c' cs q8 B hV h9;rw[hlen]at u1;have vg:=OX (P:=P) (w:=w) I hV hO (b:=pl.b) (off:=j) q1 aq;cases c' <;> first | (exact u3.elim) | skip
    rename_i e' t' l';obtain⟨rfl,rfl,hl'⟩:=u3;have ht:=Trans.setRow w q5 (dP cur.toList j cs).toArray;have A:df (s.env w g β) ((s.bD id (.obj v0 aZ (.vec e' t' l'))).env (w.setRow pl.b (dP cur.toList j cs).toArray) g β):=df.bD eG (ax _) ht (λ_ _=>rfl) (λ_=>rfl);refine⟨_,_,rfl,vg,g,β,h.step (dF _ _ _) ht A (jH.bD h.cd (by grind) A (λ_ _=>rfl) (λi ver fr c pl2 hi K J=>⟨setRow_other w pl.b pl2.b _ (h.apart q5 hi K J),rfl⟩) ?_ (ue eG λk v1 l e=>by cases e))⟩;refine⟨aGX,?_⟩;show(match β id with
     |none=>l'=[]
     |some pl=>_)
    rw[hp];have L:aa (dP cur.toList j cs)=aa cur.toList:=vE (by grind);refine⟨_,0,setRow_heap w pl.b cur _ e' (0,0) q1,by grind,aq,q4,q5,aq,λ_=>rfl,?_⟩;have e2:(dP cur.toList j cs).take (aa l'*t'.size)=dP (cur.toList.take (aa l*t'.size)) j cs:=by grind [ee,Sk,vE]
    rw[show(dP cur.toList j cs).toArray.toList=dP cur.toList j cs from rfl,e2];exact bR.mono (λ_ _ hx=>hx.mono A.mem) u2
 grind [aG]
theorem aLH(h:Inv C g β s a w){T:bk}{x v:cD}(J:o.op= .store T x v){j:AS}(A:(Sl P s T (s.ev x) (s.ev v)).eval=aw j):iu P o a w (jO C (j.put o.dst .undef)):=by obtain⟨I,w',L,K,u,β',B⟩:=aF9 h (h.ev x) (h.ev v) A;refine .inr (.inl ⟨w',atY (f:=Instr.storeAt T (a.eval x) (a.eval v)) (by grind [execOp]) ?_,u,β',B.put o.dst VS.undef⟩);grind [Instr.storeAt,Instr.sureAddr]
end
end Go.Ab
namespace Go.Ab
section
variable {P:bg} {C:Ctx} {g:Nat->pP} {β:Id->Option Pl} {s:AS} {a:Act} {w:cG} {o:Oper}
theorem auw(h:Inv C g β s a w){x:cD}(j:o.op= .move x\/o.op= .assign x):iu P o a w (jO C (s.put o.dst (s.ev x))):=by
 refine h.value (h.ev x) ?_
 rcases j with j | j <;> simp[execOp,j]
theorem aRP(h:Inv C g β s a w){c x y:cD}(J:o.op= .pick c x y){v:aF}(j:(aNT (s.ev c) (s.ev x) (s.ev y)).eval=aw v):iu P o a w (jO C (s.put o.dst v)):=by
 have A:=h.ev c;have K:=h.ev x;have L:=h.ev y;unfold aNT at j;split at j
 .rename_i b I;rw[I]at A;have B:=ajF A;have u:(execOp a.eval o).run P w= .ok (.value (if b then a.eval x else a.eval y)) w:=by simp_all [execOp,asBool]
  split at j
  .obtain rfl:=aM.1 j;refine h.value ?_ u
   grind
  .cases b with
   |true=>
    simp[Out.eval]at j;exact h.value (by grind) u
   |false=>
    simp[Out.eval]at j;exact h.value (by grind) u
 grind [Out.eval]
theorem arR(h:Inv C g β s a w){x:cD}(J:o.op= .nilCheck x){M:AS}(A:(match s.ev x with
  | .ptr id v p n=>Out.ok (s.put o.dst (.ptr id v p n))
  | .iU t y=> .ok (s.put o.dst (.iU t y))
  | .fn f c=> .ok (s.put o.dst (.fn f c))
  |_=> .fail).eval=aw M):iu P o a w (jO C M):=by
 have j:=h.ev x;split at A
 .rename_i id v p n B;obtain rfl:=aM.1 A;rw[B]at j;obtain⟨T,I,_⟩:=M1 j;exact h.value j (by simp[execOp,J,I])
 .rename_i t y B;obtain rfl:=aM.1 A;rw[B]at j;obtain⟨b,off,vs,I,_⟩:=aco j;exact h.value j (by simp[execOp,J,I])
 .rename_i f c B;obtain rfl:=aM.1 A;rw[B]at j;obtain⟨cs,L,K⟩:=j.fF rfl;simp only[V]at L;obtain⟨vs,e,O⟩:=L;have u:cs=[a.eval x]:=K;rw[e]at u;have I:a.eval x= .func (.func f) #[] vs.toArray:=by simpa using u.symm
  refine h.value (v:= .fn f c) ⟨cs,by simp only[V];exact⟨vs,e,O⟩,K⟩ (by simp[execOp,J,I])
 .simp only[aG]at A
def aC9{K:BinOp}{k I:mA}{x y:Int}{v:aF}(A:(aYk K k x I y).eval=aw v)(T:bk)(E:Env):
  ∃z,(binOp K T (.int k x) (.int I y)).run P w= .ok z w/\VS E v z:=by
 unfold aYk at A;have same:∀(L:decide (k=I)=bn),k=I:=λL=>by simpa using L
 cases K with
 |shl=>
  obtain⟨j,u⟩:=cV.1 A;obtain rfl:=aM.1 u;have j:¬y < 0:=by simpa using j
  exact⟨_,by simp[binOp,Op.shift,j],pV _ _⟩
 |shr=>
  obtain⟨j,u⟩:=cV.1 A;obtain rfl:=aM.1 u;have j:¬y < 0:=by simpa using j
  exact⟨_,by simp[binOp,Op.shift,j],pV _ _⟩
 |quo=>
  obtain⟨j,u⟩:=ba.1 A;obtain rfl:=same j;obtain⟨B,J⟩:=cV.1 u;obtain rfl:=aM.1 J;have B:y≠0:=by simpa using B
  exact⟨_,by simp[binOp,Op.intDiv,B],pV _ _⟩
 |rem=>
  obtain⟨j,u⟩:=ba.1 A;obtain rfl:=same j;obtain⟨B,J⟩:=cV.1 u;obtain rfl:=aM.1 J;have B:y≠0:=by simpa using B
  exact⟨_,by simp[binOp,Op.intDiv,B],pV _ _⟩
 |add | sub | mul=>
  obtain⟨j,u⟩:=ba.1 A;obtain rfl:=same j;obtain rfl:=aM.1 u;exact⟨_,by simp[binOp,Op.intArith],pV _ _⟩
 |and | or | xor | andNot=>
  obtain⟨j,u⟩:=ba.1 A;obtain rfl:=same j;obtain rfl:=aM.1 u;refine⟨_,?_,pV _ _⟩;unfold binOp Op.intBits;simp[cE]
 |eql | neq | lss | leq | gtr | geq=>
  obtain⟨j,u⟩:=ba.1 A;obtain rfl:=same j;obtain rfl:=aM.1 u;refine⟨_,?_,Hz _⟩;simp[binOp,Op.intCmp]
def aGa{u:BinOp}{x y:ByteArray}{v:aF}(j:(bbO u x y).eval=aw v)(T:bk)(E:Env):
  ∃z,(binOp u T (.string x) (.string y)).run P w= .ok z w/\VS E v z:=by
 unfold bbO at j;cases u <;> simp[aG]at j
 case add=>
  obtain⟨B,A⟩:=cV.1 j;obtain rfl:=aM.1 A;refine⟨.string (x++y),?_,aG4 _⟩;simp_all [Op.stringOp,binOp]
 all_goals
  obtain rfl:=aM.1 j;exact⟨_,by simp[binOp,Op.stringOp],Hz _⟩
def vd{j:BinOp}{T:bk}{x y:cD}{u v:bh}(A:u≠ .nilIface)(B:wP u=aZ):(eqGuard j T x y u v).run P w= .ok () w:=by
 unfold eqGuard
 all_goals (cases u <;> simp_all [wP])
def Eu{T:bk}{b:Bool}(h:XJ P T b=bn):∃i,P.info? T=aw i/\∀w,(isAgg T).run P w= .ok b w:=by
 unfold XJ at h;cases j:P.underlying T with
 |none=>grind
 |some d=>
  obtain⟨i,u⟩:=aNo j;refine⟨i,u,λw=> ?_⟩;rw[j]at h;unfold isAgg;rw[fe,run_underlying j w];cases d <;> simp at h <;> simp[h]
def CM{T:bk}{b:Bool}(h:XJ P T b=bn){cs:List bh}{off n:Nat}(B:P.cellsOf T=n)(u:b=aZ->n=1)(K:off+n<=aa cs):
  ∃y,(part T cs.toArray off).run P w= .ok y w/\gv b ((cs.drop off).take n) y:=by
 obtain⟨i,A,j⟩:=Eu h;rw[sj A]at B;unfold part;cases b with
 |true=>
  simp_all [run_sizeOf,gv]
 |false=>
  have J:=u rfl;have I:off < aa cs:=aq;refine⟨cs[off],?_,?_⟩
  .simp_all
  grind [ak,gv]
def CO{t:Ty}(h:t.agg=aZ):t.size=1:=by cases t <;> first | rfl | grind [Ty.agg]
def amr{α:Type}(f:α->α->Bool)(x y:α)(j u:List α):qj f (x::j) (y::u)=(f x y && qj f j u):=rfl
def Bl(E:Env):∀(n:Nat) (T:bk) (t:Ty),xx P n T t=bn->∀(d:Nat),n<=d->∀(B I:List bh) (x y:t.den) (u v:bh),dU E t B x->dU E t I y->gv t.agg B u->gv t.agg I v->
  (fL d T u v).run P w= .ok (t.beq x y) w
 | 0,T,t,h,_,_,_,_,_,_,_,_,_,_,_,_=>by simp[xx]at h
 |n+1,T,t,h,0,hd,_,_,_,_,_,_,_,_,_,_=>aq
 |n+1,T,t,h,d+1,hd,B,I,x,y,u,v,K,L,hu,hv=>by
  simp only[xx]at h;split at h
  .rename_i k k' hT;simp only[dU]at K L;have M:B=[u]:=hu;have O:I=[v]:=hv;rw[K]at M;rw[L]at O;simp only[da,lY]at M O;subst M O;rw[run_equalIn_int w d T _ _ _ _ hT];rfl
  .rename_i hT;simp only[dU]at K L;have M:B=[u]:=hu;have O:I=[v]:=hv;rw[K]at M;rw[L]at O;simp only[da,lY]at M O;subst M O;rw[run_equalIn_bool' w d T _ _ hT];rfl
  .rename_i hT;simp only[dU]at K L;have M:B=[u]:=hu;have O:I=[v]:=hv;rw[K]at M;rw[L]at O;simp only[da,lY]at M O;subst M O;rw[run_equalIn_string w d T _ _ hT];rfl
  .rename_i m e m' A hT;simp only[aQ,lZ]at h;obtain⟨⟨⟨⟨rfl,bkS⟩,Hu⟩,J⟩,Hr⟩:=h;simp only[dU]at K L;obtain⟨boF,bom⟩:=K;obtain⟨brw,bra⟩:=L;have M:u= .agg B.toArray:=hu;have O:v= .agg I.toArray:=hv;subst M O;obtain⟨i,hi,aIs⟩:=Eu J;have hsz':=Hu;rw[sj hi]at hsz';simp only[fL,fe,run_underlying hT,dL,run_sizeOf hi,hsz'];simp only[Std.Legacy.Range.forIn_eq_forIn_range'];have hm:([:m]:Std.Legacy.Range).size=m:=by simp[Std.Legacy.Range.size]
   rw[hm];have aGX:∀c z,dU E A c z->aa c=A.size:=λc z hz=>hz.size
   have bx:A.agg=aZ->A.size=1:=CO
   have key:∀(k:Nat) (x y:List A.den) (j:Nat),aa x=k->aa y=k->bR (dU E A) (B.drop (j*A.size)) x->bR (dU E A) (I.drop (j*A.size)) y->
     (forIn (List.range' j k) ((aC,()):Option Bool×Unit) λi __s=>(do
      let __do_lift <-part e B.toArray (i*A.size)
      let __do_lift_1 <-part e I.toArray (i*A.size)
      let __do_lift <-fL d e __do_lift __do_lift_1
      if(!__do_lift)=bn then pure (ForInStep.done (aw aZ,())) else pure (ForInStep.yield (aC,())):Sem (ForInStep (Option Bool×Unit)))).run P w= .ok (if qj A.beq x y then aC else aw aZ,()) w:=by
    intro k
    induction k with
    |zero=>
     intro x y j K L _ _;rw[List.length_eq_zero_iff.1 K,List.length_eq_zero_iff.1 L];rfl
    |succ k ih=>
     intro x y j K L hcx' hcy';cases x with
     |nil=>simp at K
     |cons x0 xs=>
      cases y with
      |nil=>simp at L
      |cons y0 ys=>
       have gx:=bR.get aGX hcx' 0 (by simp);have gy:=bR.get aGX hcy' 0 (by simp);simp only[tM,aH,List.getElem_cons_zero]at gx gy;have lenx:aa ((B.drop (j*A.size)).take A.size)=A.size:=gx.size;have leny:aa ((I.drop (j*A.size)).take A.size)=A.size:=gy.size;have arC:A.size≠0:=by simpa using bkS
       have bow:j*A.size+A.size<=aa B:=by simp only[bw,dy]at lenx;omega
       have brr:j*A.size+A.size<=aa I:=by simp only[bw,dy]at leny;omega
       obtain⟨ux,h1,o1⟩:=CM (w:=w) J Hu bx (cs:=B) (off:=j*A.size) bow;obtain⟨uy,h2,o2⟩:=CM (w:=w) J Hu bx (cs:=I) (off:=j*A.size) brr;have h3:=Bl E n e A Hr d aq _ _ x0 y0 ux uy gx gy o1 o2;have nx:bR (dU E A) (B.drop ((j+1)*A.size)) xs:=by have:=bR.drop aGX 1 hcx';rw[iH]at this;simpa[gT]using this
       have ny:bR (dU E A) (I.drop ((j+1)*A.size)) ys:=by have:=bR.drop aGX 1 hcy';rw[iH]at this;simpa[gT]using this
       have:=ih xs ys (j+1) (by simpa using K) (by simpa using L) nx ny;rw[List.range'_succ,List.forIn_cons];simp only[fe,h1,h2,h3,dL,amr];rcases jQ (A.beq x0 y0) with hb | hb
       .simp only[hb,bW,bu,bq,Sem.run_pure,dL,bH];exact this
       .simp only[hb,eJ,bQ,Sem.run_pure,dL,cU,bu,bq]
   have:=key m x y 0 boF brw (by simpa using bom) (by simpa using bra);rw[this];show _=Result.ok (qj A.beq x y) w;cases qj A.beq x y <;> rfl
  .rename_i t0 _ _ fs hT;simp only[aQ,fu]at h;obtain⟨u7,bja⟩:=h;have hF:P.fieldsOf T=fs:=by simp[Program.fieldsOf,hT]
   have hT':P.underlying T=aw (.struct (P.fieldsOf T)):=by rw[hF];exact hT
   have key:∀(fl:List Field) (t:Ty) (off:Nat),Xs P (xx P n) fl t off=bn->∀(x y:t.den),dU E t (B.drop off) x->dU E t (I.drop off) y->
     (Op.eqFields d B.toArray I.toArray fl).run P w= .ok (t.beq x y) w:=by
    intro fl
    induction fl with
    |nil=>
     intro t off hc x y _ _;cases t <;> first | (simp[Xs]at hc;done) | rfl
    |cons f fl ih=>
     intro t off hc x y K L;cases t <;> first | (simp[Xs]at hc;done) | skip
     rename_i ta tb;simp only[Xs,aQ,fu,lZ,beq_eq_false_iff_ne]at hc;obtain⟨⟨⟨⟨⟨⟨boL,beS⟩,hz⟩,Hu⟩,J⟩,Hr⟩,aXX⟩:=hc;simp only[dU]at K L;obtain⟨xa,xb,ex,bmk,bo4⟩:=K;obtain⟨ya,yb,ey,bqA,brU⟩:=L;have bx:ta.agg=aZ->ta.size=1:=CO;have lx:aa xa=ta.size:=bmk.size;have ly:aa ya=ta.size:=bqA.size;have split:∀(cs xa xb:List bh),cs.drop off=xa++xb->aa xa=ta.size->(cs.drop off).take ta.size=xa/\cs.drop (off+ta.size)=xb/\off+ta.size<=aa cs:=by intro cs xa xb e l;refine⟨by rw[e];exact vJ l,by rw[<-iH,e];exact mJ l,?_⟩;have:=bA aa e;simp only[dy,aj]at this;omega
     obtain⟨sx1,sx2,sx3⟩:=split B xa xb ex lx;obtain⟨sy1,sy2,sy3⟩:=split I ya yb ey ly;obtain⟨ux,h1,o1⟩:=CM (w:=w) J Hu bx (cs:=B) (off:=off) sx3;obtain⟨uy,h2,o2⟩:=CM (w:=w) J Hu bx (cs:=I) (off:=off) sy3;rw[sx1]at o1;rw[sy1]at o2;have h3:=Bl E n f.type ta Hr d aq _ _ x.1 y.1 ux uy bmk bqA o1 o2;have h4:=ih tb (off+ta.size) aXX x.2 y.2 (by rw[sx2];exact bo4) (by rw[sy2];exact brU);simp only[Op.eqFields,ne_eq,boL,not_false_eq_true,bQ,fe,beS,h1,h2,h3,dL];show _=Result.ok (ta.beq x.1 y.1 && tb.beq x.2 y.2) w;rcases jQ (ta.beq x.1 y.1) with hb | hb
     .simp only[hb,bW,bu,bq,bH];exact h4
     .simp[hb]
   have J:t0.agg=bn:=by cases hl:fs.toList <;> rw[hl]at bja <;> cases t0 <;> first | rfl | (simp[Xs]at bja;done)
   rw[J]at hu hv;have M:u= .agg B.toArray:=hu;have O:v= .agg I.toArray:=hv;subst M O;rw[run_equalIn_struct w d T _ _ hT' u7,hF];exact key fs.toList t0 0 bja x y (by simpa using K) (by simpa using L)
  .cases h
end
end Go.Ab
namespace Go.Ab
section
variable {P:bg} {C:Ctx} {g:Nat->pP} {β:Id->Option Pl} {s:AS} {a:Act} {w:cG} {o:Oper}
def aZk{E:Env}{v:aF}{y c:bh}(h:VS E v y)(u:v.fF=bn)(j:v.agg=aZ)(A:∀cs,V E v cs->cs=[c]):y=c:=by have:=h.single u j;grind
def aj5{E:Env}{y:bh}(h:VS E .qW y):y= .pointer aC:=aZk h rfl rfl λcs j=>by grind [V]
def aj4{E:Env}{y:bh}(h:VS E .Cw y):y= .nilFunc:=aZk h rfl rfl λcs j=>by grind [V]
def alU{E:Env}{f:fX}{c:aF}{y:bh}(h:VS E (.fn f c) y):∃vs,y= .func (.func f) #[] vs.toArray/\VC E c vs:=by have j:=h.single rfl rfl;grind [V]
def iS{T:bk}{u v:bh}{b:Bool}(h:∀d,(fL (d+1) T u v).run P w= .ok b w):(Op.equal T u v).run P w= .ok b w:=h 9999
def alL{T:bk}{x y:aF}{u v:bh}{E:Env}(M:VS E x u)(O:VS E y v){b:Bool}(J:(KK P T x y).eval=aw b):
  (Op.equal T u v).run P w= .ok b w/\u≠ .nilIface/\(wP u=aZ\/(wP v=bn/\P.eqGuardType P.depth T=aZ))/\
   (∀A,binOp A T u v=(match A with | .eql=>do pure (.bool (<-Op.equal T u v)) | .neq=>do pure (.bool (!(<-Op.equal T u v))) | _=>binOp A T u v)):=by
 unfold KK at J;split at J
 .rename_i t x' t' y';obtain⟨y'',j,B⟩:=aI.1 J;obtain⟨rfl,j⟩:=lf (l7.1 j);simp only at j;subst j;obtain⟨L,h4⟩:=ba.1 B;obtain rfl:=aM.1 h4;simp only[aQ,vI,fu,bJ]at L;obtain⟨L,h5⟩:=L;obtain⟨cx,hVx,hOx⟩:=M.fF rfl;obtain⟨cy,hVy,hOy⟩:=O.fF rfl;simp only[V]at hVx hVy;have hr:=Bl (w:=w) E depth T t' h5 10000 fm cx cy x' y' u v hVx hVy hOx hOy;refine⟨hr,?_⟩;rcases L with⟨aam,brl⟩ | rfl
  .have hOx':gv t'.agg cx u:=hOx;have hOy':gv t'.agg cy v:=hOy;rw[aam]at hOx' hOy';have e1:u= .agg cx.toArray:=hOx';have e2:v= .agg cy.toArray:=hOy';subst e1 e2;exact⟨by simp,.inr ⟨rfl,brl⟩,λA=>by cases A <;> rfl⟩
  .simp only[dU]at hVx hVy;have e1:cx=[u]:=hOx;have e2:cy=[v]:=hOy;rw[hVx]at e1;rw[hVy]at e2;simp only[da,lY]at e1 e2;subst e1 e2;exact⟨by simp,.inl rfl,λA=>by cases A <;> rfl⟩
 .obtain⟨j,B⟩:=ba.1 J;obtain rfl:=aM.1 B;rw[nv M,nv O];unfold KK.isSl at j;split at j <;> try (cases j;done)
  rename_i e I;exact⟨iS λd=>by simp[fL,run_underlying I],by simp,.inl rfl,λA=>by cases A <;> rfl⟩
 .obtain⟨j,B⟩:=ba.1 J;obtain⟨L,h4⟩:=cV.1 B;obtain rfl:=aM.1 h4;obtain⟨ad,cap,vs,rfl,_,K,_⟩:=zT M;rw[nv O];have K:=K (by simpa using L);obtain⟨ad',rfl⟩:=dA.1 K;unfold KK.isSl at j;split at j <;> try (cases j;done)
  rename_i e I;exact⟨iS λd=>by simp[fL,run_underlying I],by simp,.inl rfl,λA=>by cases A <;> rfl⟩
 .obtain⟨j,B⟩:=ba.1 J;obtain⟨L,h4⟩:=cV.1 B;obtain rfl:=aM.1 h4;obtain⟨ad,cap,vs,rfl,_,K,_⟩:=zT O;rw[nv M];have K:=K (by simpa using L);obtain⟨ad',rfl⟩:=dA.1 K;unfold KK.isSl at j;split at j <;> try (cases j;done)
  rename_i e I;exact⟨iS λd=>by simp[fL,run_underlying I],by simp,.inl rfl,λA=>by cases A <;> rfl⟩
 .obtain⟨j,B⟩:=ba.1 J;obtain⟨L,h4⟩:=cV.1 B;obtain rfl:=aM.1 h4;obtain⟨ad,cap,rfl,_,K,_⟩:=BX M;rw[nv O];have K:=K (by simpa using L);obtain⟨ad',rfl⟩:=dA.1 K;unfold KK.isSl at j;split at j <;> try (cases j;done)
  rename_i e I;exact⟨iS λd=>by simp[fL,run_underlying I],by simp,.inl rfl,λA=>by cases A <;> rfl⟩
 .obtain⟨j,B⟩:=ba.1 J;obtain⟨L,h4⟩:=cV.1 B;obtain rfl:=aM.1 h4;obtain⟨ad,cap,rfl,_,K,_⟩:=BX O;rw[nv M];have K:=K (by simpa using L);obtain⟨ad',rfl⟩:=dA.1 K;unfold KK.isSl at j;split at j <;> try (cases j;done)
  rename_i e I;exact⟨iS λd=>by simp[fL,run_underlying I],by simp,.inl rfl,λA=>by cases A <;> rfl⟩
 .obtain⟨j,B⟩:=ba.1 J;obtain rfl:=aM.1 B;rw[aj5 M,aj5 O];unfold KK.isPt at j;split at j <;> try (cases j;done)
  rename_i e I;exact⟨iS λd=>by simp[fL,run_underlying I],by simp,.inl rfl,λA=>by cases A <;> rfl⟩
 .obtain⟨j,B⟩:=ba.1 J;obtain rfl:=aM.1 B;obtain⟨ad,rfl,_⟩:=M1 M;rw[aj5 O];unfold KK.isPt at j;split at j <;> try (cases j;done)
  rename_i e I;exact⟨iS λd=>by simp[fL,run_underlying I],by simp,.inl rfl,λA=>by cases A <;> rfl⟩
 .obtain⟨j,B⟩:=ba.1 J;obtain rfl:=aM.1 B;obtain⟨ad,rfl,_⟩:=M1 O;rw[aj5 M];unfold KK.isPt at j;split at j <;> try (cases j;done)
  rename_i e I;exact⟨iS λd=>by simp[fL,run_underlying I],by simp,.inl rfl,λA=>by cases A <;> rfl⟩
 .obtain⟨j,B⟩:=ba.1 J;obtain rfl:=aM.1 B;rw[aj4 M,aj4 O];unfold KK.isFn at j;split at j <;> try (cases j;done)
  rename_i I;exact⟨iS λd=>by simp[fL,run_underlying I],by simp,.inl rfl,λA=>by cases A <;> rfl⟩
 .obtain⟨j,B⟩:=ba.1 J;obtain rfl:=aM.1 B;obtain⟨vs,rfl,_⟩:=alU M;rw[aj4 O];unfold KK.isFn at j;split at j <;> try (cases j;done)
  rename_i I;exact⟨iS λd=>by simp[fL,run_underlying I],by simp,.inl rfl,λA=>by cases A <;> rfl⟩
 .obtain⟨j,B⟩:=ba.1 J;obtain rfl:=aM.1 B;obtain⟨vs,rfl,_⟩:=alU O;rw[aj4 M];unfold KK.isFn at j;split at j <;> try (cases j;done)
  rename_i I;exact⟨iS λd=>by simp[fL,run_underlying I],by simp,.inl rfl,λA=>by cases A <;> rfl⟩
 .simp only[aG]at J
def aCv{j:BinOp}{T:bk}{x y:cD}{u v:bh}(B:wP u=bn)(I:wP v=bn)(A:P.eqGuardType P.depth T=aZ):(eqGuard j T x y u v).run P w= .ok () w:=by
 cases u <;> first | (simp[wP]at B;done) | skip
 cases v <;> first | (simp[wP]at I;done) | skip
 exact run_eqGuard_agg w j T x y _ _ A
theorem aHm(h:Inv C g β s a w){op:BinOp}{T U:bk}{x y:cD}(ho:o.op= .binOp op T x y U){v:aF}(B:(bis P T op (s.ev x) (s.ev y)).eval=aw v):iu P o a w (jO C (s.put o.dst v)):=by
 have hx:=h.ev x;have I:=h.ev y;have j:∀z,(binOp op T (a.eval x) (a.eval y)).run P w= .ok z w->(eqGuard op T x y (a.eval x) (a.eval y)).run P w= .ok () w->VS (s.env w g β) v z->iu P o a w (jO C (s.put o.dst v)):=by
  intro z u A h3;refine h.value h3 ?_
  simp[execOp,ho,u,A]
 unfold bis at B;split at B
 .rename_i k n k' m hn O;rw[hn]at hx;rw[O]at I;have J:=MH hx;have K:=MH I;obtain⟨z,u,A⟩:=aC9 (P:=P) (w:=w) B T (s.env w g β);exact j z (by rw[J,K];exact u) (by rw[J,K];exact vd (by simp) rfl) A
 .rename_i n m hn O;rw[hn]at hx;rw[O]at I;have J:=Sn hx;have K:=Sn I;obtain⟨z,u,A⟩:=aGa (P:=P) (w:=w) B T (s.env w g β);exact j z (by rw[J,K];exact u) (by rw[J,K];exact vd (by simp) rfl) A
 .have L:(wP (a.eval x)=aZ\/(wP (a.eval y)=bn/\P.eqGuardType P.depth T=aZ))->a.eval x≠ .nilIface->(eqGuard op T x y (a.eval x) (a.eval y)).run P w= .ok () w:=by
   intro M jV;rcases M with M | ⟨M,O⟩
   .exact vd jV M
   .rcases jQ (wP (a.eval x)) with hx | hx
    .exact aCv hx M O
    .exact vd jV hx
  split at B
  .obtain⟨b,u,A⟩:=aI.1 B;obtain rfl:=aM.1 A;obtain⟨q1,q2,q3,q4⟩:=alL (w:=w) hx I u;refine j (.bool b) ?_ (L q3 q2) (Hz b)
   rw[q4 .eql];simp[q1]
  .obtain⟨b,u,A⟩:=aI.1 B;obtain rfl:=aM.1 A;obtain⟨q1,q2,q3,q4⟩:=alL (w:=w) hx I u;refine j (.bool (!b)) ?_ (L q3 q2) (Hz (!b))
   rw[q4 .neq];simp[q1]
  .simp only[aG]at B
theorem aUb(h:Inv C g β s a w){I:UnOp}{T:bk}{x:cD}(B:o.op= .unOp I T x){v:aF}(A:(bnL I (s.ev x)).eval=aw v):iu P o a w (jO C (s.put o.dst v)):=by
 have j:=h.ev x;unfold bnL at A;split at A
 .rename_i b u;rw[u]at j;obtain rfl:=aM.1 A;exact h.value (Hz _) (by simp[execOp,B,ajF j,Op.unary])
 .rename_i k n u;rw[u]at j;obtain rfl:=aM.1 A;exact h.value (pV _ _) (by simp[execOp,B,MH j,Op.unary,Op.intArith])
 .rename_i k n u;rw[u]at j;obtain rfl:=aM.1 A;refine h.value (pV _ _) ?_
  simp[execOp,B,MH j,Op.unary,Op.intBits];simp[cE]
 grind [aG]
end
end Go.Ab
namespace Go.Ab
section
variable {P:bg} {C:Ctx} {g:Nat->pP} {β:Id->Option Pl} {s:AS} {a:Act} {w:cG} {o:Oper}
def Kx{E:Env}{v:aF}{y:bh}(h:VS E v y){n:Int}(j:(asInt v).eval=aw n):∃k,y= .int k n:=by
 unfold asInt at j;split at j
 .rename_i k m;obtain rfl:=aM.1 j;exact⟨k,MH h⟩
 grind [aG]
def afG{k:mA}{i:Int}{y:Nat}(j:BoundsCode)(h:0<=i/\i<=(y:Int)):(Instr.sliceBound (.int k i) y j).run P w= .ok i.toNat w:=run_sliceBound w k i y j h.1 h.2
def Ma(h:Inv C g β s a w){n cap:Nat}(hn:n<=cap){B I:Option cD}{r:Nat×Nat}(he:(bounds s n B I).eval=aw r)(isS:Bool):
  (Instr.sliceBounds isS n cap (B.map a.eval) (I.map a.eval) aC).run P w= .ok (r.1,r.2,cap) w/\r.1<=r.2/\r.2<=n:=by
 unfold bounds at he;obtain⟨hh,O,h2⟩:=aI.1 he;obtain⟨ll,T,h4⟩:=aI.1 h2;obtain rfl:=aM.1 h4;have bjd:hh<=n/\∀y,I.map a.eval=aw y->∃k i,y= .int k i/\0<=i/\i<=(n:Int)/\hh=i.toNat:=by
  cases I with
  |none=>
   simp only at O;obtain rfl:=aM.1 O;exact⟨ax _,λy j=>by cases j⟩
  |some x=>
   simp only at O;obtain⟨i,K,L⟩:=aI.1 O;obtain⟨M,q4⟩:=cV.1 L;obtain rfl:=aM.1 q4;simp only[bJ]at M;obtain⟨k,hk⟩:=Kx (h.ev x) K;refine⟨aq,λy j=> ?_⟩;simp only[kB,cn]at j;exact⟨k,i,by rw[<-j];exact hk,M.1,M.2,rfl⟩
 have beL:I.map a.eval=aC->hh=n:=by
  intro j;cases I with
  |none=>simp only at O;exact(aM.1 O).symm
  |some x=>cases j
 have J:ll<=hh/\∀y,B.map a.eval=aw y->∃k i,y= .int k i/\0<=i/\i<=(hh:Int)/\ll=i.toNat:=by
  cases B with
  |none=>
   simp only at T;obtain rfl:=aM.1 T;exact⟨az _,λy j=>by cases j⟩
  |some x=>
   simp only at T;obtain⟨i,K,L⟩:=aI.1 T;obtain⟨M,q4⟩:=cV.1 L;obtain rfl:=aM.1 q4;simp only[bJ]at M;obtain⟨k,hk⟩:=Kx (h.ev x) K;refine⟨aq,λy j=> ?_⟩;simp only[kB,cn]at j;exact⟨k,i,by rw[<-j];exact hk,M.1,M.2,rfl⟩
 have lo0:B.map a.eval=aC->ll=0:=by
  intro j;cases B with
  |none=>simp only at T;exact(aM.1 T).symm
  |some x=>cases j
 refine⟨?_,J.1,bjd.1⟩;unfold Instr.sliceBounds;cases bqg:I.map a.eval with
 |none=>
  obtain rfl:=beL bqg;cases u:B.map a.eval with
  |none=>
   obtain rfl:=lo0 u;rfl
  |some y=>
   obtain⟨k,i,rfl,K,L,rfl⟩:=J.2 y u;simp only[fe,Sem.run_pure,dL,afG _ ⟨K,L⟩]
 |some z=>
  obtain⟨k',i',rfl,p1,p2,rfl⟩:=bjd.2 z bqg;have hb:∀A,(Instr.sliceBound (.int k' i') cap A).run P w= .ok i'.toNat w:=λA=>afG A ⟨p1,aq⟩
  cases u:B.map a.eval with
  |none=>
   obtain rfl:=lo0 u;simp only[fe,Sem.run_pure,dL,hb]
  |some y=>
   obtain⟨k,i,rfl,K,L,rfl⟩:=J.2 y u;simp only[fe,Sem.run_pure,dL,hb,afG _ ⟨K,L⟩]
def sA{T:bk}{z:Nat}(j:nh P T=aw z)(u:DB P T=aC):∃e,P.underlying T=aw (.slice e)/\P.cellsOf e=z/\0 < z:=by grind [nh,DB]
theorem Eg{T:bk}{z n:Nat}(j:nh P T=aw z)(u:DB P T=aw n):∃e,P.underlying T=aw (.array n e)/\P.cellsOf e=z/\0 < z:=by
 unfold nh at j;unfold DB at u;split at j
 .rename_i n e A;rw[A]at u;simp only[cn]at u;subst u;cases B:P.cellsOf e with
  |zero=>rw[B]at j;cases j
  |succ k=>
   rw[B]at j;simp only[cn]at j;exact⟨e,A,aq,aq⟩
 .rename_i e A;rw[A]at u;cases u
 .cases j
def yg{e:bk}{z:Nat}(h:P.cellsOf e=z)(u:0 < z)(w:cG):(sizeOf e).run P w= .ok z w:=by
 unfold Program.cellsOf at h;cases j:P.info? e with
 |none=>grind
 |some i=>grind [run_sizeOf]
theorem aLu(h:Inv C g β s a w){T:bk}{x:cD}{lo hi:Option cD}(ho:o.op= .slice T x lo hi aC){v:aF}(he:(YC P s T (s.ev x) lo hi).eval=aw v):iu P o a w (jO C (s.put o.dst v)):=by
 have hx:=h.ev x;have fin:∀z,(Instr.sliceAt T (a.eval x) (lo.map a.eval) (hi.map a.eval) aC).run P w= .ok z w->VS (s.env w g β) v z->iu P o a w (jO C (s.put o.dst v)):=by intro z j I;exact h.value I (gj (f:=Instr.sliceAt T (a.eval x) (lo.map a.eval) (hi.map a.eval) aC) (by simp only[execOp,ho,Option.map_none]) j)
 have sl:∀(e:bk) (z:Nat) (u:Option Addr) (len cap:Nat) (b:Nat×Nat),P.underlying T=aw (.slice e)->P.cellsOf e=z->0 < z->a.eval x= .slice u len cap->len<=cap->(bounds s len lo hi).eval=aw b->
   (Instr.sliceAt T (a.eval x) (lo.map a.eval) (hi.map a.eval) aC).run P w= .ok (.slice (if cap=b.1 then u else u.map (·.add (b.1*z))) (b.2 - b.1) (cap - b.1)) w/\b.1<=b.2/\b.2<=len:=by
  intro e z u len cap b L M C0 hy beP hb;obtain⟨j,I,J⟩:=Ma (P:=P) h beP hb bn;refine⟨?_,I,J⟩;rw[hy];simp[Instr.sliceAt,Instr.slice,run_underlying L,j,yg M C0]
 have ar:∀(e:bk) (z n:Nat) (u:Addr) (b:Nat×Nat),P.underlying T=aw (.array n e)->P.cellsOf e=z->0 < z->a.eval x= .pointer (aw u)->(bounds s n lo hi).eval=aw b->
   (Instr.sliceAt T (a.eval x) (lo.map a.eval) (hi.map a.eval) aC).run P w= .ok (.slice (aw (if n=b.1 then u else u.add (b.1*z))) (b.2 - b.1) (n - b.1)) w/\b.1<=b.2/\b.2<=n:=by
  intro e z n u b L M C0 hy hb;obtain⟨j,I,J⟩:=Ma (P:=P) h (ax n) hb aZ;refine⟨?_,I,J⟩;rw[hy];simp[Instr.sliceAt,Instr.sureAddr,run_underlying L,j,yg M C0]
 have cutR:∀(t:Ty) (z:Nat) (u ad':Option Addr) (len' O:Nat) (vs:List bh) (l:List t.den) (b:Nat×Nat),z=t.size->Oc (s.env w g β) u vs->bR (dU (s.env w g β) t) vs l->b.1<=b.2->b.2<=aa l->
   (∀bb off,u=aw ⟨bb,off,aC⟩->b.1 < b.2->ad'=aw ⟨bb,off+b.1*z,aC⟩)->(b.1 < b.2->ad'.isSome=bn)->len'=b.2 - b.1->len'<=O->VS (s.env w g β) (.d (.slice t) (cut l b.1 (b.2 - b.1))) (.slice ad' len' O):=by
  intro t z u ad' len' O vs l b M hr hc j I boc Gf hlen hle;subst M hlen;have bi7:aa (cut l b.1 (b.2 - b.1))=b.2 - b.1:=Mu aq;refine⟨_,?_,rfl⟩;simp only[V,dU];refine⟨ad',O,(vs.drop (b.1*t.size)).take ((b.2 - b.1)*t.size),by rw[bi7],aq,by rw[bi7];intro hp;exact Gf aq,?_,W7 hc b.1 _⟩;intro i v hi;rw[fS]at hi;split at hi
  .rename_i bro;rw[pR]at hi;obtain⟨bb,off,e,hh⟩:=hr _ v hi;have gF:b.1 < b.2:=by
    rcases Nat.lt_or_ge b.1 b.2 with h' | h'
    .exact h'
    .rw[Nat.sub_eq_zero_of_le h',tM]at bro;omega
   exact⟨bb,_,boc bb off e gF,by rw[fP];exact hh⟩
  .cases hi
 unfold YC at he;split at he
 .rename_i st u7;rw[u7]at hx;have e1:=Sn hx;obtain⟨j,I⟩:=ba.1 he;obtain⟨b,J,h4⟩:=aI.1 I;obtain rfl:=aM.1 h4;split at j <;> try (cases j;done)
  rename_i L;obtain⟨q1,q2,q3⟩:=Ma (P:=P) h (ax _) J aZ;refine fin (.string (st.extract b.1 b.2)) ?_ (aG4 _)
  rw[e1];simp[Instr.sliceAt,Instr.slice,run_underlying L,q1]
 .rename_i t l hl;rw[hl]at hx;obtain⟨u,cap,vs,hy,beP,Gf,vf,Hr⟩:=zT hx;obtain⟨j,I⟩:=ba.1 he;obtain⟨b,J,h4⟩:=aI.1 I;obtain rfl:=aM.1 h4;split at j <;> try (cases j;done)
  rename_i z B A;obtain⟨e,L,M,C0⟩:=sA B A;have K:z=t.size:=by simpa using j
  obtain⟨q1,q2,q3⟩:=sl e z u _ cap b L M C0 hy beP J;refine fin _ q1 (cutR t z u _ _ _ vs l b K vf Hr q2 q3 ?_ ?_ rfl aq)
  .intro bb off e1 gF;rw[au aq,e1];simp[Addr.add_lit]
  .intro gF;rw[au aq];have:=Gf aq;cases u <;> simp_all
 .rename_i hl;rw[hl]at hx;have hy:=nv hx;obtain⟨j,I⟩:=ba.1 he;obtain⟨b,J,h4⟩:=aI.1 I;obtain rfl:=aM.1 h4;split at j <;> try (cases j;done)
  rename_i z B A;obtain⟨e,L,M,C0⟩:=sA B A;obtain⟨q1,q2,q3⟩:=sl e z aC 0 0 b L M C0 hy (ax _) J;have adp:b.1=0:=aq;have aea:b.2=0:=aq;refine fin _ q1 ?_
  rw[adp,aea];exact⟨_,by simp[V],rfl⟩
 .rename_i id ver p c i len hl;rw[hl]at hx;obtain⟨u,cap,hy,beP,Gf,ary,jU⟩:=BX hx;obtain⟨r,aXW,he⟩:=aI.1 he;obtain⟨j,I⟩:=ba.1 he;obtain⟨b,J,h4⟩:=aI.1 I;obtain rfl:=aM.1 h4;split at j <;> try (cases j;done)
  rename_i z B A;obtain⟨e,L,M,C0⟩:=sA B A;have K:z=r.2.1.size:=by simpa using j
  obtain⟨q1,q2,q3⟩:=sl e z u _ cap b L M C0 hy beP J;refine fin _ q1 ⟨_,?_,rfl⟩;simp only[V];refine⟨_,_,rfl,aq,?_,ary,λhc=> ?_⟩
  .intro gF;rw[au aq];have:=Gf aq;cases u <;> simp_all
  .have jU:=jU hc;cases hp:β id with
   |none=>
    have hp':(s.env w g β).β id=aC:=hp;rw[hp']at jU ⊢;simp only at jU ⊢;obtain⟨rfl,rfl,rfl⟩:=jU;refine⟨by simp,aq,aq⟩
   |some pl=>
    have hp':(s.env w g β).β id=aw pl:=hp;rw[hp']at jU ⊢;simp only at jU ⊢;refine⟨λhh=> ?_,λboO beL=> ?_⟩
    .by_cases bi6:cap=b.1
     .rw[av bi6];have bm9:b.1=0:=aq;rw[bm9,tM,bY];exact jU.1 (.inr aq)
     .rw[au bi6,jU.1 aq,<-K];simp[Addr.add_lit]
    .have:=jU.2 boO aq;omega
 .rename_i id ver p n hl;rw[hl]at hx;obtain⟨u,hy,ary,jU⟩:=M1 hx;obtain⟨r,aXW,he⟩:=aI.1 he;obtain⟨j,I⟩:=ba.1 he;obtain⟨h5,h6⟩:=cV.1 I;obtain⟨b,J,h4⟩:=aI.1 h6;obtain rfl:=aM.1 h4;split at j <;> try (cases j;done)
  rename_i z m B A;obtain⟨e,L,M,C0⟩:=Eg B A;have K:z=r.2.1.size:=by simpa using j
  rw[A,lJ]at J;obtain⟨q1,q2,q3⟩:=ar e z m u b L M C0 hy J;obtain⟨fr,c0,eG,_⟩:=afr rfl h.cd aXW;obtain⟨pl,hp,beE⟩:=jU ⟨fr,c0,eG⟩;refine fin _ q1 ⟨_,?_,rfl⟩;simp only[V];refine⟨_,_,rfl,aq,λ_=>rfl,ary,λ_=> ?_⟩;rw[hp];simp only;refine⟨λhh=> ?_,λboO=>by simp at boO⟩;rw[beE];by_cases bi6:m=b.1
  .have bm9:b.1=0:=aq;rw[av bi6,bm9,tM,bY]
  .rw[au bi6,<-K,Addr.add_lit]
 .rename_i n t l hl;rw[hl]at hx;obtain⟨bb,off,vs,hy,vf,hR⟩:=aco hx;obtain⟨j,I⟩:=ba.1 he;obtain⟨b,J,h4⟩:=aI.1 I;obtain rfl:=aM.1 h4;split at j <;> try (cases j;done)
  rename_i z m B A;obtain⟨e,L,M,C0⟩:=Eg B A;simp only[aQ,lZ]at j;obtain⟨K,rfl⟩:=j;obtain⟨q1,q2,q3⟩:=ar e z m _ b L M C0 hy J;simp only[dU]at hR;obtain⟨hlen,Hr⟩:=hR;refine fin _ q1 (cutR t z (aw ⟨bb,off,aC⟩) _ _ _ vs l b K vf Hr q2 aq ?_ (λ_=>rfl) rfl aq);intro bb' off' e1 gF;simp only[cn,Addr.mk.injEq,lY]at e1;obtain⟨rfl,rfl⟩:=e1;rw[au aq,Addr.add_lit]
 .simp only[aG]at he
end
end Go.Ab
namespace Go.Ab
section
variable {P:bg} {C:Ctx} {g:Nat->pP} {β:Id->Option Pl} {s:AS} {a:Act} {w:cG} {o:Oper}
theorem amb(h:Inv C g β s a w){T:bk}{x y:cD}(ho:o.op= .indexAddr T x y){i:Int}(hi:(asInt (s.ev y)).eval=aw i){v:aF}(he:(wN P s T (s.ev x) i).eval=aw v):iu P o a w (jO C (s.put o.dst v)):=by
 have hx:=h.ev x;obtain⟨k,hy⟩:=Kx (h.ev y) hi;have fin:∀z,(Instr.indexAt T (a.eval x) (a.eval y)).run P w= .ok z w->VS (s.env w g β) v z->iu P o a w (jO C (s.put o.dst v)):=by intro z J h2;exact h.value h2 (gj (f:=Instr.indexAt T (a.eval x) (a.eval y)) (by grind [execOp]) J)
 have sl:∀(e:bk) (z:Nat) (A:Addr) (I cap:Nat),P.underlying T=aw (.slice e)->P.cellsOf e=z->0 < z->a.eval x= .slice (aw A) I cap->0<=i/\i < (I:Int)->
   (Instr.indexAt T (a.eval x) (a.eval y)).run P w= .ok (.pointer (aw (A.add (i.toNat*z)))) w:=by
  intro e z A I cap O K L hv hb;rw[hv,hy];simp[Instr.indexAt,asIntOf,run_underlying O,hb,yg K L]
 have ar:∀(e:bk) (z n:Nat) (A:Addr),P.underlying T=aw (.array n e)->P.cellsOf e=z->0 < z->a.eval x= .pointer (aw A)->0<=i/\i < (n:Int)->
   (Instr.indexAt T (a.eval x) (a.eval y)).run P w= .ok (.pointer (aw (A.add (i.toNat*z)))) w:=by
  intro e z n A O K L hv hb;rw[hv,hy];simp[Instr.indexAt,Instr.sureAddr,asIntOf,run_underlying O,hb,yg K L]
 have elt:∀(t:Ty) (z:Nat) (bb off:Nat) (vs:List bh) (l:List t.den),z=t.size->Oc (s.env w g β) (aw ⟨bb,off,aC⟩) vs->bR (dU (s.env w g β) t) vs l->0<=i/\i < (aa l:Int)->
   VS (s.env w g β) (.iU t (nth t l i.toNat)) (.pointer (aw ⟨bb,off+i.toNat*z,aC⟩)):=by
  intro t z bb off vs l K hr hc hb;subst K;have gF:i.toNat < aa l:=aq;rw[ayB gF];obtain⟨hp,_⟩:=aci hc gF;refine⟨_,?_,rfl⟩;simp only[V];refine⟨_,_,_,rfl,λj v hj=> ?_,hp⟩;grind [Oc]
 unfold wN at he;split at he
 .rename_i t l hl;rw[hl]at hx;obtain⟨A,cap,vs,hv,beP,Gf,vf,Hr⟩:=zT hx;obtain⟨J,h2⟩:=ba.1 he;obtain⟨M,h4⟩:=cV.1 h2;obtain rfl:=aM.1 h4;simp only[bJ]at M;split at J <;> try (cases J;done)
  rename_i z B u;obtain⟨e,O,K,L⟩:=sA B u;have be0:z=t.size:=by grind
  have hlen:=bR.length (λc x hx=>dU.size hx) Hr;have gF:i.toNat < aa l:=aq;have h0:0 < aa vs:=by rw[hlen];exact Nat.mul_pos aq aq
  obtain⟨bb,off,e1,_⟩:=vf 0 vs[0] (by simp[h0]);grind [Addr.add_lit]
 .grind [aco,ba,cV,aM,Eg,dU,Addr.add_lit]
 .rename_i id ver p c j I hl;rw[hl]at hx;obtain⟨A,cap,hv,beP,Gf,ary,jU⟩:=BX hx;obtain⟨r,aXW,he⟩:=aI.1 he;obtain⟨J,h2⟩:=ba.1 he;obtain⟨M,h4⟩:=cV.1 h2;obtain rfl:=aM.1 h4;simp only[bJ]at M;split at J <;> try (cases J;done)
  rename_i z B u;obtain⟨e,O,K,L⟩:=sA B u;have be0:z=r.2.1.size:=by grind
  have hs:=Gf aq;obtain⟨ad',rfl⟩:=dA.1 hs;refine fin _ (sl e z ad' I cap O K L hv M) ⟨_,?_,rfl⟩;simp only[V];refine⟨_,rfl,ary,λhc=> ?_⟩;have jU:=jU hc;cases hp:β id with
  |none=>
   have hp':(s.env w g β).β id=aC:=hp;grind
  |some pl=>
   grind [Addr.add_lit]
 .rename_i id ver p n hl;rw[hl]at hx;obtain⟨A,hv,ary,jU⟩:=M1 hx;obtain⟨J,h2⟩:=ba.1 he;obtain⟨M,h4⟩:=cV.1 h2;obtain rfl:=aM.1 h4;simp only[bJ]at M;split at J <;> try (cases J;done)
  rename_i z m B u;obtain⟨e,O,K,L⟩:=Eg B u;rw[u,lJ]at M;refine fin _ (ar e z m A O K L hv M) ⟨_,?_,rfl⟩;grind [V,Addr.add_lit]
 grind [aG]
def Oo{T:bk}{f off:Nat}{u:bk}(h:fieldInfo P T f=aw (off,u)):∃fs j,P.underlying T=aw (.struct fs)/\fs[f]? =aw j/\j.offset=off/\j.type=u:=by grind [fieldInfo]
def aa0{E:Env}:∀(x:aF) (f off:Nat) (v:aF) (cs:List bh),V E x cs->partOf x f=aw (off,v)->V E v ((cs.drop off).take v.size)/\off+v.size<=aa cs:=by
 intro x f
 induction f generalizing x with
 |zero=>
  intro off v cs I h;cases x with
  |d t y=>
   cases t <;> simp[partOf]at h;obtain⟨rfl,rfl⟩:=h;simp[V]at I ⊢;obtain⟨u,A,rfl,B,J⟩:=I;have:=B.size;grind [aF.size]
  |pr b c=>
   obtain⟨rfl,rfl⟩:=h;obtain⟨u,A,rfl,B,J⟩:=I;have:=B.size;grind
  |_=>simp[partOf]at h
 |succ f T=>
  intro off v cs I h;have j:∀(u A:List bh) (n:Nat) (b:aF),cs=u++A->aa u=n->V E b A->(match partOf b f with | some (o,v)=>aw (n+o,v) | none=>aC)=aw (off,v)->V E v ((cs.drop off).take v.size)/\off+v.size<=aa cs:=by
   intro u A n b e M J L;cases O:partOf b f with
   |none=>grind
   |some r=>
    grind [oJ,dJ,Nat.add_sub_cancel_left]
  cases x with
  |d t y=>
   cases t with
   |pair K tb=>
    obtain⟨u,A,e,B,J⟩:=I;exact j u A K.size (.d tb y.2) e B.size (by grind [V]) h
   |_=>simp[partOf]at h
  |pr b c=>
   obtain⟨u,A,e,B,J⟩:=I;exact j u A b.size c e B.size J h
  |_=>simp[partOf,reduceCtorEq]at h
theorem alS(h:Inv C g β s a w){T:bk}{x:cD}{f:Nat}(ho:o.op= .fieldAddr T x f){v:aF}(he:(ME P T (s.ev x) f).eval=aw v):iu P o a w (jO C (s.put o.dst v)):=by
 have hx:=h.ev x;unfold ME at he;split at he
 .rename_i off ft hf;obtain⟨fs,I,hT,L,rfl,rfl⟩:=Oo hf;obtain⟨h1,A⟩:=ba.1 he;have hz:P.cellsOf I.type≠0:=by simpa using h1
  have run:∀K n,a.eval x= .pointer (aw ⟨K,n,aC⟩)->(Instr.fieldAt T (a.eval x) f).run P w= .ok (.pointer (aw ⟨K,n+I.offset,aC⟩)) w:=by intro K n B;rw[B];simp[Instr.fieldAt,run_underlying hT,L,Instr.sureAddr,fieldPlace,yg (P:=P) (e:=I.type) rfl aq,hz,Addr.add_lit]
  have runS:∀J,a.eval x= .pointer (aw J)->(Instr.fieldAt T (a.eval x) f).run P w= .ok (.pointer (aw (J.add I.offset))) w:=by intro J B;rw[B];simp[Instr.fieldAt,run_underlying hT,L,Instr.sureAddr,fieldPlace,yg (P:=P) (e:=I.type) rfl aq,hz]
  have M:∀z,(Instr.fieldAt T (a.eval x) f).run P w= .ok z w->VS (s.env w g β) v z->iu P o a w (jO C (s.put o.dst v)):=by intro z h1 A;exact h.value A (gj (f:=Instr.fieldAt T (a.eval x) f) (by simp only[execOp,ho]) h1)
  split at A
  .rename_i id ver p n hl;rw[hl]at hx;obtain rfl:=aM.1 A;obtain⟨J,B,ary,jU⟩:=M1 hx;refine M _ (runS J B) ⟨_,?_,rfl⟩;simp only[V];refine⟨_,rfl,ary,λhc=> ?_⟩;obtain⟨pl,hp,beE⟩:=jU hc;exact⟨pl,hp,by rw[beE,Addr.add_lit]⟩
  .rename_i t y hl;rw[hl]at hx;obtain⟨K,off,vs,B,vf,hR⟩:=aco hx;split at A
   .rename_i o' t' y' hp;obtain⟨h3,h4⟩:=ba.1 A;obtain rfl:=aM.1 h4;have h3:I.offset=o':=by simpa using h3
    obtain⟨hV,hle⟩:=aa0 (.d t y) f o' (.d t' y') vs (by simpa only[V]using hR) hp;refine M _ (run K off B) ⟨_,?_,rfl⟩;simp only[V]at hV ⊢;refine⟨_,_,_,rfl,λj u O=> ?_,hV⟩;rw[fS]at O;split at O
    .rw[pR]at O;obtain⟨b',o'',e,hh⟩:=vf _ u O;simp only[cn,Addr.mk.injEq,lY]at e;obtain⟨rfl,rfl⟩:=e;exact⟨_,_,rfl,by rw[h3,fP];exact hh⟩
    .cases O
   .simp only[aG]at A
  .simp only[aG]at A
 .simp only[aG]at he
def arf{x:aF}{f:Nat}{r:Nat×aF}(h:partOf x f=aw r):x.agg=bn/\x.fF=bn:=by
 cases x with
 |d t y=>cases t <;> cases f <;> simp[partOf]at h <;> exact⟨rfl,rfl⟩
 |pr b c=>exact⟨rfl,rfl⟩
 |_=>cases f <;> simp[partOf]at h
def Qa{T:bk}{v:aF}(h:fits P T v=bn):XJ P T v.agg=bn/\P.cellsOf T=v.size/\v.fF=bn:=by grind [fits,XJ]
theorem aIg(h:Inv C g β s a w){T:bk}{x:cD}{f:Nat}(ho:o.op= .field T x f){v:aF}(J:(axJ P T (s.ev x) f).eval=aw v):iu P o a w (jO C (s.put o.dst v)):=by
 have hx:=h.ev x;unfold axJ at J;split at J
 .rename_i off ft o' v' hf O;obtain⟨fs,fd,hT,bop,rfl,rfl⟩:=Oo hf;obtain⟨L,h2⟩:=ba.1 J;obtain rfl:=aM.1 h2;simp at L;obtain⟨rfl,A⟩:=L;obtain⟨u,j⟩:=arf O;obtain⟨cs,hV,M⟩:=hx.fF j;rw[u]at M;have hy:a.eval x= .agg cs.toArray:=M;obtain⟨I,K⟩:=aa0 _ _ _ _ cs hV O;obtain⟨q1,q2,q3⟩:=Qa A;obtain⟨y,hr,B⟩:=CM (w:=w) q1 q2 (λhh=>aF.aFW hh) K;refine h.value (VS.of I B) (gj (f:=Instr.field T (a.eval x) f) (by grind [execOp]) ?_);simp_all [Instr.field,run_underlying,asAgg]
 grind [aG]
theorem aIJ(h:Inv C g β s a w){T:bk}{x y:cD}(ho:o.op= .index T x y){i:Int}(hi:(asInt (s.ev y)).eval=aw i){v:aF}(O:(ax8 P T (s.ev x) i).eval=aw v):iu P o a w (jO C (s.put o.dst v)):=by
 have hx:=h.ev x;obtain⟨k,hy⟩:=Kx (h.ev y) hi;have A:∀z,(Instr.index T (a.eval x) (a.eval y)).run P w= .ok z w->VS (s.env w g β) v z->iu P o a w (jO C (s.put o.dst v)):=by intro z M h2;exact h.value h2 (gj (f:=Instr.index T (a.eval x) (a.eval y)) (by grind [execOp]) M)
 unfold ax8 at O;split at O
 .rename_i n t l m e hl hT;rw[hl]at hx;obtain⟨M,h2⟩:=ba.1 O;obtain⟨B,h4⟩:=cV.1 h2;obtain rfl:=aM.1 h4;simp at M B;obtain⟨rfl,al6⟩:=M;obtain⟨q1,q2,q3⟩:=Qa al6;obtain⟨cs,hV,hO⟩:=hx.fF rfl;have brX:=hO;obtain⟨hlen,Hr⟩:=hV;have L:i.toNat < aa l:=aq;obtain⟨hp,hle⟩:=aci Hr L;have K:P.cellsOf e=t.size:=q2;have J:=q1;obtain⟨y',hr,hOy⟩:=CM (w:=w) J K CO hle;obtain⟨j,hj,_⟩:=Eu J;rw[<-ayB L]at hp;refine A y' ?_ (VS.of (by grind [V]) hOy)
  rw[brX,hy];have Hu:=run_sizeOf hj w;rw[<-sj hj,K]at Hu;simp[Instr.index,asIntOf,run_underlying hT,B,Hu,hr]
 .rename_i u hl hT;rw[hl]at hx;obtain⟨B,h4⟩:=cV.1 O;obtain rfl:=aM.1 h4;simp at B;have e1:=Sn hx;have L:i.toNat < aa u.data.toList:=by
   have:u.size=aa u.data.toList:=by simp
   omega
  have bjc:u[i.toNat]? =aw (u.data.toList[i.toNat]):=by have I:=aq;rw[getElem?_pos u i.toNat I];rfl
  refine A (.int .u8 ((u.data.toList.getD i.toNat 0).toNat:Int)) ?_ (pV _ _)
  rw[e1,hy];simp[Instr.index,asIntOf,run_underlying hT,B.1,bjc,cS L]
 grind [aG]
def bih{E:Env}:∀(c:aF) (vs:List bh) (i:Nat) (v:aF),VC E c vs->c.list[i]? =aw v->∃y,vs[i]? =aw y/\VS E v y:=by
 intro c
 induction c with
 |cons x y _ A=>
  grind [VC,aF.list,List.getElem?_cons_zero,VS.of]
 |_=>intro vs i v u j;simp[aF.list]at j
theorem axB(h:Inv C g β s a w){x:cD}{i:Nat}(J:o.op= .extract x i){v:aF}(j:(Out.opt ((s.ev x).list[i]?)).eval=aw v):iu P o a w (jO C (s.put o.dst v)):=by
 have I:=h.ev x;have j:=l7.1 j;cases B:s.ev x with
 |cons p q=>
  rw[B]at I j;obtain⟨vs,L,u⟩:=I;obtain⟨y,K,A⟩:=bih _ vs i v u j;refine h.value A (gj (f:=Instr.extract (a.eval x) i) (by grind [execOp]) ?_);simp_all [Instr.extract]
 |_=>rw[B]at j;simp[aF.list]at j
def aMy(h:Inv C g β s a w):∀(l:List cD),FV (yH s l)=bn->VC (s.env w g β) (yH s l) (l.map a.eval)
 |[],_=>by simp[yH,VC]
 |x::xs,hc=>by simp[yH,FV]at hc;obtain⟨cs,u,j⟩:=(h.ev x).fF hc.1;exact⟨_,_,cs,rfl,u,j,aMy h xs hc.2⟩
theorem arL(h:Inv C g β s a w){f:fX}{first j:Array cD}(I:o.op= .makeFunc (.func f) first j)(u:first.isEmpty=bn)(A:FV (yH s j.toList)=bn):
  iu P o a w (jO C (s.put o.dst (.fn f (yH s j.toList)))):=by
 have B:first= #[]:=by simpa using u
 refine h.value (x:= .func (.func f) #[] (j.toList.map a.eval).toArray) ⟨_,?_,rfl⟩ (gj (f:=Instr.makeFunc (.func f) (first.map a.eval) (j.map a.eval)) (by simp only[execOp,I]) ?_)
 .simp only[V];exact⟨_,rfl,aMy h _ A⟩
 .subst B;have:j.map a.eval=(j.toList.map a.eval).toArray:=by apply FH;simp
  simp[Instr.makeFunc,this]
end
end Go.Ab
namespace Go.Ab
def ams{α:Type}{f:α->α->Bool}(A:∀x y,f x y=bn->x=y):∀ {j u:List α},qj f j u=bn->j=u
 |[],[],_=>rfl
 |x::j,y::u,h=>by simp[qj]at h;rw[A _ _ h.1,ams A h.2]
 |[],_::_,h=>by grind [qj]
 |_::_,[],h=>by grind [qj]
theorem beq_eq:∀(t:Ty) (x y:t.den),t.comp=bn->t.beq x y=bn->x=y
 | .int _,x,y,_,h=>by simpa[Ty.beq]using h
 | .bool,x,y,_,h=>by simpa[Ty.beq]using h
 | .str,x,y,_,h=>by
  have h:(x:ByteArray).toList=(y:ByteArray).toList:=by simpa[Ty.beq]using h
  rw[Go.ByteArray.toList_eq,Go.ByteArray.toList_eq]at h;exact ByteArray.ext (Array.toList_inj.1 h)
 | .slice _,_,_,h,_=>by simp[Ty.comp]at h
 | .unit,_,_,_,_=>rfl
 | .pair a b,x,y,j,h=>by simp only[Ty.comp,aQ]at j;simp only[Ty.beq,aQ]at h;exact Prod.ext (beq_eq a _ _ j.1 h.1) (beq_eq b _ _ j.2 h.2)
 | .arr _ t,x,y,j,h=>ams (λx y=>beq_eq t x y j) h
def Plain(c:bh):Prop:=∀n,Instr.sameBits n c c=bn
def dU.plain{E:Env}:∀ {t:Ty} {cs:List bh} {x:t.den},t.comp=bn->dU E t cs x->∀c∈cs,Plain c
 | .int _,_,_,_,h,c,hc,n=>by simp only[dU]at h;rw[h,bM]at hc;subst hc;cases n <;> simp[Instr.sameBits]
 | .bool,_,_,_,h,c,hc,n=>by simp only[dU]at h;rw[h,bM]at hc;subst hc;cases n <;> simp[Instr.sameBits]
 | .str,_,_,_,h,c,hc,n=>by simp only[dU]at h;rw[h,bM]at hc;subst hc;cases n <;> exact(Go.MapKept.bytes_beq _ _).2 rfl
 | .slice _,_,_,hc,_,_,_,_=>by simp[Ty.comp]at hc
 | .unit,_,_,_,h,c,hc,_=>by simp only[dU]at h;rw[h]at hc;cases hc
 | .pair a b,_,_,j,h,c,hc,n=>by
  simp only[Ty.comp,aQ]at j;simp only[dU]at h;obtain⟨J,K,rfl,u,A⟩:=h;rcases bZ.1 hc with hc | hc
  .exact dU.plain j.1 u c hc n
  .exact dU.plain j.2 A c hc n
 | .arr _ t,_,_,j,h,c,hc,n=>by simp only[dU]at h;exact bR.all (p:=Plain) (λc x I v B=>dU.plain (t:=t) j I v B) h.2 c hc n
def dU.bkH{E:Env}:∀ {t:Ty} {cs u:List bh} {x:t.den},t.comp=bn->dU E t cs x->dU E t u x->cs=u
 | .int _,_,_,_,_,h,j=>by simp only[dU]at h j;rw[h,j]
 | .bool,_,_,_,_,h,j=>by simp only[dU]at h j;rw[h,j]
 | .str,_,_,_,_,h,j=>by simp only[dU]at h j;rw[h,j]
 | .slice _,_,_,_,hc,_,_=>by simp[Ty.comp]at hc
 | .unit,_,_,_,_,h,j=>by simp only[dU]at h j;rw[h,j]
 | .pair a b,_,_,_,A,h,j=>by simp only[Ty.comp,aQ]at A;simp only[dU]at h j;obtain⟨ca,cb,rfl,O,T⟩:=h;obtain⟨L,M,rfl,B,I⟩:=j;rw[dU.bkH A.1 O B,dU.bkH A.2 T I]
 | .arr _ t,cs,u,x,A,h,j=>by
  simp only[dU]at h j;have key:∀(l:List t.den) (cs u:List bh),bR (dU E t) cs l->bR (dU E t) u l->cs=u:=by
   intro l
   induction l with
   |nil=>intro cs u h j;have h:cs=[]:=h;have j:u=[]:=j;rw[h,j]
   |cons x l ih=>
    intro cs u h j;obtain⟨c,r,rfl,hx,hr⟩:=h;obtain⟨c',r',rfl,K,J⟩:=j;rw[dU.bkH (t:=t) A hx K,ih _ _ hr J]
  exact key _ _ _ h.2 j.2
def Jg.bkH{E:Env}{t:Ty}{v v':bh}{x:t.den}(K:t.comp=bn)(h:Jg E t v x)(B:Jg E t v' x):v=v':=by obtain⟨cs,I,J⟩:=h;obtain⟨A,j,u⟩:=B;have e:=dU.bkH K I j;unfold gv at J u;grind
def Jg.same{E:Env}{t:Ty}{v:bh}{x:t.den}(K:t.comp=bn)(h:Jg E t v x):Instr.sameBits 10000 v v=bn:=by
 obtain⟨cs,J,j⟩:=h;have B:=dU.plain K J;unfold gv at j;cases A:t.agg with
 |true=>
  rw[A]at j;have j:v= .agg cs.toArray:=j;subst j;simp only[Instr.sameBits,beq_self_eq_true,bH,eA];intro p u;obtain⟨a,b⟩:=p;have:∀(l:List bh),(a,b)∈l.zip l->a∈l/\a=b:=by
   intro l
   induction l with
   |nil=>intro h;simp at h
   |cons y l I=>
    intro h;simp only[List.zip_cons_cons,cr,kX]at h;rcases h with⟨rfl,rfl⟩ | h
    .exact⟨aY,rfl⟩
    .exact⟨aT _ (I h).1,(I h).2⟩
  obtain⟨L,rfl⟩:=this _ u;exact B a (by simpa using L) _
 |false=>
  rw[A]at j;have j:cs=[v]:=j;subst j;exact B v (by simp) _
def aTh{P:bg}{w:cG}{E:Env}{t:Ty}{v:bh}{x:t.den}(j:t.comp=bn)(h:Jg E t v x):(Instr.keyThatStays v v).run P w= .ok v w:=by unfold Instr.keyThatStays;rw[av (h.same j)];rfl
section
variable {P:bg} {w:cG} {E:Env}
def Ga:∀(n:Nat) (T:bk) (t:Ty),xx P n T t=bn->t.comp=bn
 | 0,T,t,h=>by simp[xx]at h
 |n+1,T,t,h=>by
  simp only[xx]at h;split at h
  .rfl
  .rfl
  .rfl
  .rename_i m e m' I A;simp only[aQ]at h;exact Ga n e I h.2
  .rename_i J _ _ fs A;simp only[aQ]at h;have key:∀(u:List Field) (t:Ty) (off:Nat),Xs P (xx P n) u t off=bn->t.comp=bn:=by
    intro u
    induction u with
    |nil=>intro t off j;cases t <;> first | rfl | (simp[Xs]at j;done)
    |cons f u B=>
     intro t off j;cases t <;> first | (simp[Xs]at j;done) | skip
     rename_i K tb;simp only[Xs,aQ]at j;simp only[Ty.comp,aQ];exact⟨Ga n _ _ j.1.2,B tb _ j.2⟩
   exact key _ _ _ h.2
  .cases h
def sk(em:Bool):∀(n:Nat) (T:bk) (t:Ty),xx P n T t=bn->∀(d:Nat),n<=d->∀(v:bh) (x:t.den),Jg E t v x->(Instr.checkKey em d T v).run P w= .ok () w
 | 0,T,t,h,_,_,_,_,_=>by simp[xx]at h
 |n+1,T,t,h,0,hd,_,_,_=>aq
 |n+1,T,t,h,d+1,hd,v,x,⟨cs,B,hv⟩=>by
  simp only[xx]at h;split at h
  .rename_i J;simp only[dU]at B;have A:cs=[v]:=hv;rw[B]at A;simp only[da,lY]at A;subst A;simp[Instr.checkKey,run_underlying J]
  .rename_i J;simp only[dU]at B;have A:cs=[v]:=hv;rw[B]at A;simp only[da,lY]at A;subst A;simp[Instr.checkKey,run_underlying J]
  .rename_i J;simp only[dU]at B;have A:cs=[v]:=hv;rw[B]at A;simp only[da,lY]at A;subst A;simp[Instr.checkKey,run_underlying J]
  .rename_i m e m' u J;simp only[aQ,lZ]at h;obtain⟨⟨⟨⟨rfl,bkS⟩,Hu⟩,I⟩,Hr⟩:=h;simp only[dU]at B;obtain⟨boF,bom⟩:=B;have A:v= .agg cs.toArray:=hv;subst A;obtain⟨i,hi,aIs⟩:=Eu I;have L:=Hu;rw[sj hi]at L;simp only[Instr.checkKey,fe,run_underlying J,dL];simp only[Std.Legacy.Range.forIn_eq_forIn_range'];have hm:([:m]:Std.Legacy.Range).size=m:=by simp[Std.Legacy.Range.size]
   rw[hm];have aGX:∀c z,dU E u c z->aa c=u.size:=λc z hz=>hz.size
   have bx:u.agg=aZ->u.size=1:=CO
   have key:∀(k:Nat) (x:List u.den) (j:Nat),aa x=k->bR (dU E u) (cs.drop (j*u.size)) x->
     (forIn (List.range' j k) () λi __s=>(do
      let __do_lift <-sizeOf e
      let __do_lift <-part e cs.toArray (i*__do_lift)
      Instr.checkKey em d e __do_lift
      pure (ForInStep.yield ()):Sem (ForInStep Unit))).run P w= .ok () w:=by
    intro k
    induction k with
    |zero=>intro x j _ _;rfl
    |succ k ih=>
     intro x j B K;cases x with
     |nil=>simp at B
     |cons x0 xs=>
      have gx:=bR.get aGX K 0 (by simp);simp only[tM,aH,List.getElem_cons_zero]at gx;have lenx:aa ((cs.drop (j*u.size)).take u.size)=u.size:=gx.size;have arC:u.size≠0:=by simpa using bkS
      have bow:j*u.size+u.size<=aa cs:=by simp only[bw,dy]at lenx;omega
      obtain⟨ux,h1,o1⟩:=CM (w:=w) I Hu bx (cs:=cs) (off:=j*u.size) bow;have h3:=sk em n e u Hr d aq ux x0 ⟨_,gx,o1⟩;have nx:bR (dU E u) (cs.drop ((j+1)*u.size)) xs:=by have:=bR.drop aGX 1 K;rw[iH]at this;simpa[gT]using this
      have:=ih xs (j+1) (by simpa using B) nx;rw[List.range'_succ,List.forIn_cons];simp only[fe,run_sizeOf hi,L,h1,h3,dL,Sem.run_pure];exact this
   exact(bA (λr:Result Unit=>r.andThen λ_ w'=>Sem.run P (pure ()) w') (key m x 0 boF (by simpa using bom))).trans rfl
  .rename_i t0 _ _ fs J;simp only[aQ,fu]at h;obtain⟨u7,O⟩:=h;have I:t0.agg=bn:=by cases hl:fs.toList <;> rw[hl]at O <;> cases t0 <;> first | rfl | (simp[Xs]at O;done)
   rw[I]at hv;have A:v= .agg cs.toArray:=hv;subst A
   have key:∀(fl:List Field) (t:Ty) (off:Nat),Xs P (xx P n) fl t off=bn->∀(x:t.den),dU E t (cs.drop off) x->
     (forIn fl () λf __s=>(do
      if f.name≠ "_" then
       let __do_lift <-part f.type cs.toArray f.offset
       Instr.checkKey em d f.type __do_lift
       pure (ForInStep.yield ())
      else pure (ForInStep.yield ()):Sem (ForInStep Unit))).run P w= .ok () w:=by
    intro fl
    induction fl with
    |nil=>intro t off _ x _;rfl
    |cons f fl ih=>
     intro t off hc x B;cases t <;> first | (simp[Xs]at hc;done) | skip
     rename_i M tb;simp only[Xs,aQ,fu,lZ,beq_eq_false_iff_ne]at hc;obtain⟨⟨⟨⟨⟨⟨boL,beS⟩,hz⟩,Hu⟩,I⟩,Hr⟩,aXX⟩:=hc;simp only[dU]at B;obtain⟨xa,xb,ex,bmk,bo4⟩:=B;have bx:M.agg=aZ->M.size=1:=CO;have lx:aa xa=M.size:=bmk.size;have sx1:(cs.drop off).take M.size=xa:=by rw[ex];exact vJ lx
     have sx2:cs.drop (off+M.size)=xb:=by rw[<-iH,ex];exact mJ lx
     have sx3:off+M.size<=aa cs:=by have:=bA aa ex;simp only[dy,aj]at this;omega
     obtain⟨ux,h1,o1⟩:=CM (w:=w) I Hu bx (cs:=cs) (off:=off) sx3;rw[sx1]at o1;have h3:=sk em n f.type M Hr d aq ux x.1 ⟨_,bmk,o1⟩;have h4:=ih tb (off+M.size) aXX x.2 (by rw[sx2];exact bo4);rw[List.forIn_cons];simp only[ne_eq,boL,not_false_eq_true,bQ,fe,beS,h1,h3,dL,Sem.run_pure];exact h4
   have:=key fs.toList t0 0 O x (by simpa using B);simp only[Instr.checkKey,fe,run_underlying J,dL,Array.forIn_toList]at this ⊢;exact(bA (λr:Result Unit=>r.andThen λ_ w'=>Sem.run P (pure ()) w') this).trans rfl
  .cases h
def Zm{K:bk}{A vt:Ty}(O:xx P depth K A=bn){v:bh}{x:A.den}(T:Jg E A v x):∀(I:List gR) (l:List (A.den×vt.den)) (i:Nat),Alike (LX E A vt) I l->
  ∃r,(Instr.findAsking K v I i).run P w= .ok r w/\match r with | none=>lj A x l=aC | some (j,u)=>∃n e,lj A x l=aw n/\j=i+n/\I[n]? =aw e/\u=e.val
 |[],[],i,_=>⟨aC,by simp[Instr.findAsking],rfl⟩
 |e::I,p::l,i,⟨he,hr⟩=>by
  have M:=T;obtain⟨c1,r1,o1⟩:=M;obtain⟨c2,r2,o2⟩:=he.1;have B:(Op.equal K v e.key).run P w= .ok (A.beq x p.1) w:=Bl E depth K A O 10000 fm c1 c2 x p.1 v e.key r1 r2 o1 o2;cases J:A.beq x p.1 with
  |true=>
   rw[J]at B;refine⟨aw (i,e.val),by simp[Instr.findAsking,B],0,e,by simp[lj,J],rfl,rfl,rfl⟩
  |false=>
   rw[J]at B;obtain⟨r,h1,L⟩:=Zm O T I l (i+1) hr;refine⟨r,by simp[Instr.findAsking,B,h1],?_⟩;cases r with
   |none=>simp only at L ⊢;simp[lj,J,L]
   |some u=>
    obtain⟨j,u⟩:=u;obtain⟨n,e',g1,g2,g3,g4⟩:=L;exact⟨n+1,e',by simp[lj,J,g1],aq,by simpa using g3,g4⟩
 |[],_::_,_,h=>h.elim
 |_::_,[],_,h=>h.elim
def auK{d:TypeDesc}{A vt:Ty}{v:bh}{x:A.den}(I:∀u y,Jg E A u y->Instr.sameNow d v u=aw (A.beq x y)):∀(B:List gR) (l:List (A.den×vt.den)) (i:Nat),Alike (LX E A vt) B l->
  ∃r,Instr.findNow d v B i=aw r/\match r with | none=>lj A x l=aC | some (j,u)=>∃n e,lj A x l=aw n/\j=i+n/\B[n]? =aw e/\u=e.val
 |[],[],i,_=>⟨aC,rfl,rfl⟩
 |e::B,p::l,i,⟨he,hr⟩=>by
  have J:=I e.key p.1 he.1;cases M:A.beq x p.1 with
  |true=>
   simp_all [Instr.findNow,lj]
  |false=>
   obtain⟨r,K,L⟩:=auK I B l (i+1) hr;grind [Instr.findNow,lj]
 |[],_::_,_,h=>h.elim
 |_::_,[],_,h=>h.elim
def Xz{K:bk}{B vt:Ty}(hK:xx P depth K B=bn){v:bh}{x:B.den}(hx:Jg E B v x){I:List gR}{l:List (B.den×vt.den)}(h:Alike (LX E B vt) I l):
  ∃r,(Instr.findKey K v I).run P w= .ok r w/\match r with | none=>lj B x l=aC | some (j,u)=>∃e,lj B x l=aw j/\I[j]? =aw e/\u=e.val:=by
 have fin:∀r:Option (Nat×bh),(match r with | none=>lj B x l=aC | some (j,u)=>∃n e,lj B x l=aw n/\j=0+n/\I[n]? =aw e/\u=e.val)->match r with | none=>lj B x l=aC | some (j,u)=>∃e,lj B x l=aw j/\I[j]? =aw e/\u=e.val:=by
  intro r hr;cases r with
  |none=>exact hr
  |some u=>
   obtain⟨j,u⟩:=u;obtain⟨n,e,g1,g2,g3,g4⟩:=hr;obtain rfl:j=n:=aq;exact⟨e,g1,g3,g4⟩
 have A:∀d,P.underlying K=aw d->(∀u y,Jg E B u y->Instr.sameNow d v u=aw (B.beq x y))->∃r,(Instr.findKey K v I).run P w= .ok r w/\match r with | none=>lj B x l=aC | some (j,u)=>∃e,lj B x l=aw j/\I[j]? =aw e/\u=e.val:=by intro d hd hs;obtain⟨r,h1,h2⟩:=auK hs I l 0 h;exact⟨r,by simp[Instr.findKey,run_underlying hd,h1],fin r h2⟩
 have agg:∀d,P.underlying K=aw d->(∀u y,Jg E B u y->Instr.sameNow d v u=aC)->∃r,(Instr.findKey K v I).run P w= .ok r w/\match r with | none=>lj B x l=aC | some (j,u)=>∃e,lj B x l=aw j/\I[j]? =aw e/\u=e.val:=by
  intro d hd hs;cases I with
  |nil=>
   cases l with
   |nil=>exact⟨aC,by simp[Instr.findKey,run_underlying hd,Instr.findNow],rfl⟩
   |cons _ _=>exact h.elim
  |cons e I=>
   cases l with
   |nil=>exact h.elim
   |cons p l=>
    have hn:Instr.findNow d v (e::I) 0=aC:=by simp[Instr.findNow,hs e.key p.1 h.1.1]
    obtain⟨r,h1,h2⟩:=Zm (w:=w) (vt:=vt) hK hx (e::I) (p::l) 0 h;exact⟨r,by simp[Instr.findKey,run_underlying hd,hn,h1],fin r h2⟩
 have M:=hK;unfold depth at M;simp only[xx]at M;obtain⟨cx,rx,ox⟩:=hx;split at M
 .rename_i k k' O;refine A _ O λu y ⟨cy,T,oy⟩=> ?_
  simp only[dU]at rx T;have J:cx=[v]:=ox;have L:cy=[u]:=oy;rw[rx]at J;rw[T]at L;simp only[da,lY]at J L;subst J L;simp[Instr.sameNow,Ty.beq]
 .rename_i O;refine A _ O λu y ⟨cy,T,oy⟩=> ?_
  simp only[dU]at rx T;have J:cx=[v]:=ox;have L:cy=[u]:=oy;rw[rx]at J;rw[T]at L;simp only[da,lY]at J L;subst J L;simp[Instr.sameNow,Ty.beq]
 .rename_i O;refine A _ O λu y ⟨cy,T,oy⟩=> ?_
  simp only[dU]at rx T;have J:cx=[v]:=ox;have L:cy=[u]:=oy;rw[rx]at J;rw[T]at L;simp only[da,lY]at J L;subst J L;have hs:∀a b:ByteArray,(a==b)=(a.toList==b.toList):=λa b=>by
   by_cases wM:a=b
   .subst wM;rw[(Go.MapKept.bytes_beq a a).2 rfl];simp
   .have h1:(a==b)=aZ:=by
     cases h:(a==b) with
     |false=>rfl
     |true=>exact absurd ((Go.MapKept.bytes_beq a b).1 h) wM
    have h2:(a.toList==b.toList)=aZ:=by
     cases h:(a.toList==b.toList) with
     |false=>rfl
     |true=>exact absurd (beq_eq .str a b rfl h) wM
    rw[h1,h2]
  simp[Instr.sameNow,Ty.beq,hs]
 .rename_i m e m' t' O;exact agg _ O λu y _=>by simp[Instr.sameNow]
 .rename_i t0 _ _ fs O;exact agg _ O λu y _=>by simp[Instr.sameNow]
 .cases M
end
section
variable {α β:Type} {R:α->β->Prop}
def Alike.get:∀ {j:List α} {u:List β} {i:Nat} {x:α},Alike R j u->j[i]? =aw x->∃y,u[i]? =aw y/\R x y
 |[],_,_,_,_,h=>by simp at h
 |_::_,[],_,_,h,_=>h.elim
 |x::j,y::u,0,z,⟨h1,_⟩,h=>by simp at h;subst h;exact⟨y,rfl,h1⟩
 |x::j,y::u,i+1,z,⟨_,h2⟩,h=>by simp at h;simpa using Alike.get h2 h
def Alike.set{x:α}{y:β}(j:R x y):∀ {u:List α} {A:List β} (i:Nat),Alike R u A->Alike R (u.set i x) (A.set i y)
 |[],[],_,_=>trivial
 |[],_::_,_,h=>h.elim
 |_::_,[],_,h=>h.elim
 |_::_,_::_,0,⟨_,h2⟩=>⟨j,h2⟩
 |_::_,_::_,i+1,⟨h1,h2⟩=>⟨h1,Alike.set j i h2⟩
def Alike.push{x:α}{y:β}(j:R x y):∀ {u:List α} {A:List β},Alike R u A->Alike R (u++ [x]) (A++ [y])
 |[],[],_=>⟨j,trivial⟩
 |[],_::_,h=>h.elim
 |_::_,[],h=>h.elim
 |_::_,_::_,⟨h1,h2⟩=>⟨h1,Alike.push j h2⟩
def Alike.erase:∀ {j:List α} {u:List β} (i:Nat),Alike R j u->Alike R (j.eraseIdx i) (u.eraseIdx i)
 |[],[],_,_=>by grind
 |[],_::_,_,h=>h.elim
 |_::_,[],_,h=>h.elim
 |_::_,_::_,0,⟨_,h2⟩=>h2
 |_::_,_::_,i+1,⟨h1,h2⟩=>⟨h1,Alike.erase i h2⟩
end
def aaH{α:Type}{f:α->α->Bool}(u:∀x,f x x=bn):∀j:List α,qj f j j=bn
 |[]=>rfl
 |x::j=>by simp[qj,u x,aaH u j]
theorem beq_refl:∀(t:Ty) (x:t.den),t.comp=bn->t.beq x x=bn
 | .int _,x,_=>by simp[Ty.beq]
 | .bool,x,_=>by simp[Ty.beq]
 | .str,x,_=>by simp[Ty.beq]
 | .slice _,_,h=>by simp[Ty.comp]at h
 | .jj _,_,h=>by simp[Ty.comp]at h
 | .unit,_,_=>rfl
 | .pair a b,x,h=>by simp only[Ty.comp,aQ]at h;simp only[Ty.beq,beq_refl a _ h.1,beq_refl b _ h.2,Bool.and_self]
 | .arr _ t,x,h=>by simp only[Ty.comp]at h;exact aaH (λy=>beq_refl t y h) x
section
variable {β:Type} {kt:Ty}
def uh{x:kt.den}:bT kt x ([]:List (kt.den×β))=aC:=rfl
theorem fU{x:kt.den}{p:kt.den×β}{l:List (kt.den×β)}:bT kt x (p::l)=if kt.beq x p.1=bn then aw p.2 else bT kt x l:=by
 unfold bT;cases h:kt.beq x p.1 with
 |true=>simp[lj,h]
 |false=>
  simp only[lj,h];cases lj kt x l <;> simp
def aRq{x:kt.den}{v:β}:fi kt x v []=[(x,v)]:=rfl
def sP{x:kt.den}{v:β}{p:kt.den×β}{l:List (kt.den×β)}:fi kt x v (p::l)=if kt.beq x p.1=bn then(x,v)::l else p::fi kt x v l:=by grind [fi,lj]
def aRp{x:kt.den}:fV kt x ([]:List (kt.den×β))=[]:=rfl
def wS{x:kt.den}{p:kt.den×β}{l:List (kt.den×β)}:fV kt x (p::l)=if kt.beq x p.1=bn then l else p::fV kt x l:=by grind [fV,lj]
theorem TO{x:kt.den}{v:β}:∀l:List (kt.den×β),(fi kt x v l).Perm ((x,v)::fV kt x l)
 |[]=>jf _
 |p::l=>by
  rw[sP,wS];split
  .simp
  .exact((TO l).cons p).trans (List.Perm.swap _ _ _)
theorem MR(u:kt.comp=bn){x:kt.den}:∀ {l:List (kt.den×β)},(l.map (·.1)).Nodup->fV kt x l=l.filter λp=> !kt.beq x p.1
 |[],_=>rfl
 |p::l,hn=>by
  rw[cq,db]at hn;rw[wS];by_cases h:kt.beq x p.1=bn
  .grind [beq_eq,List.filter_eq_self]
  .have j:kt.beq x p.1=aZ:=by grind
   simp[j];rw[MR u hn.2]
theorem lO(j:kt.comp=bn){x:kt.den}{v:β}:∀ {l:List (kt.den×β)},(l.map (·.1)).Nodup->(bT kt x l=aw v↔(x,v)∈l)
 |[],_=>by simp[uh]
 |p::l,hn=>by
  rw[cq,db]at hn;rw[fU,cr];by_cases h:kt.beq x p.1=bn
  .rw[av h];have u:=beq_eq kt _ _ j h;constructor
   .intro e;left;rw[u,<-cj e]
   .rintro(e | e)
    .rw[<-e]
    .exact absurd (dE.2 ⟨_,e,rfl⟩) (by rw[<-u]at hn;exact hn.1)
  .rw[au h,lO j hn.2];constructor
   .exact .inr
   .rintro(e | e)
    .exact absurd (by rw[<-e];exact beq_refl kt x j) h
    .exact e
def amK(u:kt.comp=bn){x:kt.den}{l j:List (kt.den×β)}(A:(l.map (·.1)).Nodup)(B:j.Perm l):bT kt x j=bT kt x l:=by apply Option.ext;grind [lO]
def amJ(u:kt.comp=bn){x:kt.den}{l j:List (kt.den×β)}(A:(l.map (·.1)).Nodup)(B:j.Perm l):(fV kt x j).Perm (fV kt x l):=by grind [MR]
def aI6(u:kt.comp=bn){x:kt.den}{v:β}{l j:List (kt.den×β)}(A:(l.map (·.1)).Nodup)(B:j.Perm l):(fi kt x v j).Perm (fi kt x v l):=
 (TO j).trans (((amJ u A B).cons _).trans (TO l).symm)
def Qy(j:kt.comp=bn){x:kt.den}{l:List (kt.den×β)}(u:(l.map (·.1)).Nodup):((fV kt x l).map (·.1)).Nodup:=by grind [fV]
def Qz(j:kt.comp=bn){x:kt.den}{v:β}{l:List (kt.den×β)}(u:(l.map (·.1)).Nodup):((fi kt x v l).map (·.1)).Nodup:=by grind [TO,MR,beq_refl]
end
def Yk{E:Env}:∀(v:aF) (t:Ty) (x:t.den) (cs:List bh),V E v cs->(w7 t v).eval=aw x->dU E t cs x/\v.agg=t.agg/\v.fF=bn
 | .d T x',t,x,cs,j,h=>by
  have u:(Out.opt (AD T t x')).eval=aw x:=by grind [w7]
  obtain⟨rfl,u⟩:=lf (l7.1 u);subst u;exact⟨j,rfl,rfl⟩
 | .fR,.slice t,x,cs,j,h=>by simp[w7,aM]at h;subst h;simp[V]at j;exact⟨⟨aC,0,[],by grind,by simp,by simp,λi v hh=>by grind,rfl⟩,rfl,rfl⟩
 | .pr a b,.pair ta tb,x,cs,j,h=>by obtain⟨x1,I,J⟩:=aI.1 h;obtain⟨x2,K,L⟩:=aI.1 J;obtain rfl:=aM.1 L;obtain⟨A,B,rfl,M,O⟩:=j;exact⟨⟨A,B,rfl,(Yk a ta x1 A M I).1,(Yk b tb x2 B O K).1⟩,rfl,rfl⟩
 | .fR,.int _,_,_,_,h | .fR,.bool,_,_,_,h | .fR,.str,_,_,_,h | .fR,.unit,_,_,_,h | .fR,.pair _ _,_,_,_,h | .fR,.arr _ _,_,_,_,h=>by grind [w7,aG]
 | .pr _ _,.int _,_,_,_,h | .pr _ _,.bool,_,_,_,h | .pr _ _,.str,_,_,_,h | .pr _ _,.unit,_,_,_,h | .pr _ _,.slice _,_,_,_,h | .pr _ _,.arr _ _,_,_,_,h=>by grind [w7,aG]
 | .undef,t,_,_,_,h | .gone,t,_,_,_,h | .qW,t,_,_,_,h | .Cw,t,_,_,_,h | .yl ..,t,_,_,_,h | .JA,t,_,_,_,h | .ptr ..,t,_,_,_,h | .iU ..,t,_,_,_,h | .dq ..,t,_,_,_,h | .fn ..,t,_,_,_,h
 | .cons ..,t,_,_,_,h | .nil,t,_,_,_,h | .vec ..,t,_,_,_,h | .sb _,t,_,_,_,h | .bx ..,t,_,_,_,h | .iI ..,t,_,_,_,h | .mp ..,t,_,_,_,h | .xB ..,t,_,_,_,h | .BO ..,t,_,_,_,h=>by cases t <;> simp[w7,aG]at h
def ar0{v:aF}{t:Ty}{x:t.den}(h:(w7 t v).eval=aw x):v.fF=bn:=by cases v <;> first | rfl | (cases t <;> simp only[w7,aG]at h)
def M3{E:Env}{v:aF}{y:bh}(u:VS E v y){t:Ty}{x:t.den}(h:(w7 t v).eval=aw x):Jg E t y x:=by obtain⟨cs,j,A⟩:=u.fF (ar0 h);obtain⟨B,I,_⟩:=Yk v t x cs j h;grind [Jg]
def H6{P:bg}{T K j:bk}{u vt:Ty}(h:mapOf P T=aw (K,j,u,vt)):P.underlying T=aw (.map K j)/\xx P depth K u=bn/\aAL P j (.d vt vt.zero)=bn:=by grind [mapOf]
def aBC{k v j v':Ty}{l:List (k.den×v.den)}{u:List (j.den×v'.den)}(h:aHI k v j v' l=aw u):∃(A:k=j) (B:v=v'),(A▸B▸l)=u:=by grind [aHI]
section
variable {P:bg} {C:Ctx} {g:Nat->pP} {β:Id->Option Pl} {s:AS} {a:Act} {w:cG} {o:Oper}
def EA(h:Inv C g β s a w){id:Id}{u:Nat}{I vt:Ty}{l:List (I.den×vt.den)}(M:(s.y9 id u I vt).eval=aw l){y:bh}(hv:VS (s.env w g β) (.iI id u) y):
  ∃fr pl B j,s.cH id=aw (.obj u fr (.mp I vt l))/\β id=aw pl/\y= .map (aw pl.b)/\w.heap[pl.b]? =aw (.map B j)/\g pl.b= .own (.id id) 0/\awu (s.env w g β) I vt B.toList l/\oI B.toList j/\(l.map (·.1)).Nodup:=by
 unfold AS.y9 at M;split at M
 .rename_i v fr k' v' l' tW;obtain⟨A,J⟩:=ba.1 M;have A:v=u:=by grind
  obtain⟨rfl,rfl,rfl⟩:=aBC (l7.1 J);subst A;have K:=gA tW;obtain⟨pl,B,j,O,T,h3,L⟩:=h.cd id v fr _ K;have hs:=hv.single rfl rfl;obtain⟨b,hb,_,hc⟩:=hs;obtain⟨pl',h5,h6⟩:=hc ⟨fr,_,K⟩;refine⟨fr,pl,B,j,K,O,?_,T,h3,L.1.1,L.2,L.1.2⟩;grind
 grind [aG]
theorem ayu(h:Inv C g β s a w){T:bk}(O:o.op= .makeMap T aC){A:AS}(j:(Qw P s o.dst T).eval=aw A):iu P o a w (jO C A):=by
 unfold Qw at j;split at j
 .rename_i K M L vt q hm hd;obtain⟨u,j⟩:=ba.1 j;obtain rfl:=aM.1 j;have J:=Trans.alloc w g (.map #[] 0) (.own (.id (.new q 0)) 0);obtain⟨B,h2⟩:=h.adI u (c:= .mp L vt []) (p:=aw ⟨w.heap.size,0⟩) J (λb I=>⟨vb w _ I,my _ _ _ aq⟩) (λ_=>
   ⟨⟨w.heap.size,0⟩,#[],0,oZ _ _ _,yC w _,lR _ _ _,⟨⟨[],trivial,jf _⟩,gO⟩,oI.nil _⟩)
  refine .inl ⟨.map (aw w.heap.size),w.alloc (.map #[] 0),?_,_,_,B.put o.dst (v:= .iI (.new q 0) 0) ⟨[.map (aw w.heap.size)],?_,rfl⟩⟩
  .simp_all [Instr.makeMap,execOp]
  .exact⟨_,rfl,tT u _ _ _ _,λ_=>⟨_,oZ _ _ _,rfl⟩⟩
 grind [aG]
def Jg.vs{E:Env}{t:Ty}{v:bh}{x:t.den}(h:Jg E t v x):VS E (.d t x) v:=by obtain⟨cs,u,j⟩:=h;exact⟨cs,by grind [V],j⟩
theorem aDq(h:Inv C g β s a w){T:bk}{x i:cD}{ok:Bool}(gE:o.op= .lookup T x i ok){v:aF}(A:(MJ P s T (s.ev x) (s.ev i) ok).eval=aw v):iu P o a w (jO C (s.put o.dst v)):=by
 unfold MJ at A;split at A
 .rename_i K V' I vt id ver hm hx;obtain⟨l,h1,A⟩:=aI.1 A;obtain⟨k,h2,A⟩:=aI.1 A;obtain rfl:=aM.1 A;obtain⟨hT,hK,hz⟩:=H6 hm;have J:=h.ev x;rw[hx]at J;obtain⟨fr,pl,es,clock,g1,g2,g3,g4,g5,M,g7,gn⟩:=EA h h1 J;have U8:=Ga depth K I hK;obtain⟨l0,M,gp⟩:=M;rw[<-amK U8 gn gp];clear gn h1;generalize l0=l at M;have hk:=M3 (h.ev i) h2;have L:=sk (P:=P) (w:=w) es.isEmpty depth K I hK 10000 fm _ _ hk;obtain⟨r,hf,hr⟩:=Xz (P:=P) (w:=w) hK hk M;obtain⟨iz,zv,z1,z2,z3,z4⟩:=Be hz (s.env w g β);have aX3:Jg (s.env w g β) vt zv vt.zero:=⟨_,by simpa only[V]using z3,z4⟩;have B:(zeroValue V').run P w= .ok zv w:=by simp[zeroValue,typeInfo,z1,z2]
  obtain⟨val,vg,Hv⟩:∃val:bh×Bool,(Instr.lookup T (a.eval x) (a.eval i) ok).run P w= .ok (if ok then .tuple #[val.1,.bool val.2] else val.1) w/\Jg (s.env w g β) vt val.1 ((bT I k l).getD vt.zero)/\val.2=(bT I k l).isSome:=by
   cases r with
   |none=>
    simp only at hr;have O:bT I k l=aC:=by simp[bT,hr]
    refine⟨(zv,aZ),?_,by rw[O];exact aX3,by rw[O];rfl⟩;simp[Instr.lookup,run_underlying hT,g3,Go.MapKept.run_getObj_map g4,L,hf,B]
   |some u=>
    obtain⟨j,u⟩:=u;obtain⟨e,m1,m2,rfl⟩:=hr;obtain⟨p,m3,m4⟩:=M.get m2;have O:bT I k l=aw p.2:=by simp[bT,m1,m3]
    refine⟨(e.val,bn),?_,by rw[O];exact m4.2,by rw[O];rfl⟩;simp[Instr.lookup,run_underlying hT,g3,Go.MapKept.run_getObj_map g4,L,hf]
  refine h.value (x:=if ok then .tuple #[val.1,.bool val.2] else val.1) ?_ (gj (f:=Instr.lookup T (a.eval x) (a.eval i) ok) (by simp only[execOp,gE]) vg)
  unfold bhP;cases ok with
  |true=>
   obtain⟨cs,c1,c2⟩:=Hv.1;refine⟨[val.1,.bool val.2],rfl,?_⟩;simp only[VC];refine⟨_,_,cs,rfl,by simpa only[V]using c1,c2,_,_,[.bool val.2],rfl,?_,rfl,rfl⟩;simp only[V,dU,Hv.2]
  |false=>exact Hv.1.vs
 .simp only[aG]at A
def Inv.bbr(h:Inv C g β s a w){id:Id}{B:Nat}{fr:Bool}{L vt:Ty}{l M:List (L.den×vt.den)}{pl:Pl}{es u:Array gR}{I j:Nat}(eG:s.cH id=aw (.obj B fr (.mp L vt l)))(hp:β id=aw pl)
  (hb:w.heap[pl.b]? =aw (.map es I)) (hg:g pl.b= .own (.id id) 0) (hr:awu (s.env w g β) L vt u.toList M) (bno:(M.map (·.1)).Nodup) (blE:oI u.toList j) (bnv:s.Aa id=bn):
  Inv C g β (s.bD id (.obj B aZ (.mp L vt M))) a {w with heap:=w.heap.setIfInBounds pl.b (.map u j)}:=by
 have A:∀K,K≠pl.b->({w with heap:=w.heap.setIfInBounds pl.b (.map u j)}:cG).heap[K]? =w.heap[K]? :=λK jV=>by grind
 have ht:Trans w {w with heap:=w.heap.setIfInBounds pl.b (.map u j)} g g:=by refine⟨rfl,rfl,⟨rfl,ax _⟩,by simp,λK _=> ?_⟩;grind [gh]
 have J:df (s.env w g β) ((s.bD id (.obj B aZ (.mp L vt M))).env {w with heap:=w.heap.setIfInBounds pl.b (.map u j)} g β):=df.bD eG (ax _) ht (λ_ _=>rfl) (λ_=>rfl);refine h.step (dF _ _ _) ht J (jH.bD h.cd (by grind) J (λ_ _=>rfl) (λi B fr c pl2 hi T O=>⟨A _ (h.apart hg hi T O),rfl⟩) ?_ (by grind [SQ]));refine⟨pl,u,j,hp,?_,hg,⟨hr.mono J.mem,bno⟩,blE⟩;show(w.heap.setIfInBounds pl.b _)[pl.b]? =_
 grind
theorem aDx(h:Inv C g β s a w){T:bk}{m k x:cD}(gE:o.op= .mapUpdate T m k x){s':AS}(J:(MO P s T (s.ev m) (s.ev k) (s.ev x)).eval=aw s'):iu P o a w (jO C (s'.put o.dst .undef)):=by
 unfold MO at J;split at J
 .rename_i K V' I vt id ver hm hx;obtain⟨l,h1,J⟩:=aI.1 J;obtain⟨O,h2,J⟩:=aI.1 J;obtain⟨vx,h3,J⟩:=aI.1 J;obtain⟨bnv,J⟩:=ba.1 J;obtain rfl:=aM.1 J;obtain⟨hT,hK,_⟩:=H6 hm;have aC0:=h.ev m;rw[hx]at aC0;obtain⟨fr,pl,es,B,g1,g2,g3,g4,g5,g6,g7,gn⟩:=EA h h1 aC0;obtain⟨l0,g6,gp⟩:=g6;have hk:=M3 (h.ev k) h2;have hv:=M3 (h.ev x) h3;have aCP:=sk (P:=P) (w:=w) aZ depth K I hK 10000 fm _ _ hk;obtain⟨r,hf,hr⟩:=Xz (P:=P) (w:=w) hK hk g6;have U8:=Ga depth K I hK
  have fin:∀(L:Array gR) (A:Nat),(Instr.mapUpdate T (a.eval m) (a.eval k) (a.eval x)).run P w= .ok () {w with heap:=w.heap.setIfInBounds pl.b (.map L A)}->Alike (LX (s.env w g β) I vt) L.toList (fi I O vx l0)->oI L.toList A->
    iu P o a w (jO C ((s.bD id (.obj ver aZ (.mp I vt (fi I O vx l)))).put o.dst .undef)):=λL A vg beF blE=>
   .inr (.inl ⟨_,atY (f:=Instr.mapUpdate T (a.eval m) (a.eval k) (a.eval x)) (by simp only[execOp,gE]) vg,g,β,(h.bbr g1 g2 g4 g5 ⟨_,beF,aI6 U8 gn gp⟩ (Qz U8 gn) blE bnv).put o.dst VS.undef⟩)
  cases r with
  |none=>
   simp only at hr;refine fin (es.push {key:=a.eval k,val:=a.eval x,born:=B}) (B+1) ?_ ?_ (by rw[Array.toList_push];exact g7.push rfl)
   .simp[Instr.mapUpdate,run_underlying hT,g3,Go.MapKept.run_getObj_map g4,aCP,hf,Go.MapKept.run_setObj_map _ g4]
   .simp only[fi,hr,Array.toList_push];exact g6.push ⟨hk,hv⟩
  |some u=>
   obtain⟨j,u⟩:=u;obtain⟨e,m1,m2,rfl⟩:=hr;obtain⟨p,m3,m4⟩:=g6.get m2;have bog:I.beq O p.1=bn:=by
    have:∀(l:List (I.den×vt.den)) (j:Nat),lj I O l=aw j->∀p,l[j]? =aw p->I.beq O p.1=bn:=by
     intro l
     induction l with
     |nil=>intro j M;simp[lj]at M
     |cons q l ih=>
      intro j M p hp;simp only[lj]at M;cases hb:I.beq O q.1 with
      |true=>
       rw[hb]at M;simp only[cn]at M;subst M;simp at hp;subst hp;exact hb
      |false=>
       rw[hb]at M;simp only[fb]at M;obtain⟨j',hj',rfl⟩:=M;exact ih j' hj' p (by simpa using hp)
    exact this l0 j m1 p m3
   have beZ:=beq_eq I O p.1 U8 bog;have boB:e.key=a.eval k:=Jg.bkH U8 (beZ▸m4.1) hk;have m2':es[j]? =aw e:=by simpa using m2
   refine fin (es.modify j λe=> {e with key:=a.eval k,val:=a.eval x}) B ?_ ?_ (by rw[Array.toList_modify,Go.ChangeMaps.modify_eq_set _ _ _ _ m2];exact g7.set m2 rfl)
   .simp[Instr.mapUpdate,run_underlying hT,g3,Go.MapKept.run_getObj_map g4,aCP,hf,m2',boB,aTh U8 hk,Go.MapKept.run_setObj_map _ g4]
   .simp only[fi,m1,Array.toList_modify];rw[Go.ChangeMaps.modify_eq_set _ _ _ _ m2];exact Alike.set (R:=LX (s.env w g β) I vt) ⟨hk,hv⟩ j g6
 .simp only[aG]at J
end
end Go.Ab
namespace Go.Ab
section
variable {P:bg} {C:Ctx} {g:Nat->pP} {β:Id->Option Pl} {s:AS} {a:Act} {w:cG} {o:Oper}
def Jm{b:Builtin}{args:Array cD}{j:Array bk}{f:Sem bh}{x:bh}{w':cG}(I:o.op= .call {callee:= .builtin b,args,argTypes:=j})
  (A:∀ty cs u,u=args.map a.eval->builtin b j ty cs u=(do pure (.value (<-f)))) (B:f.run P w= .ok x w'):(execOp a.eval o).run P w= .ok (.value x) w':=by
 simp_all [execOp,resolve,invoke]
theorem aYB(h:Inv C g β s a w){c:Call}{x:cD}{T:bk}(ho:o.op= .call c)(hc:c.callee= .builtin .len)(ha:c.args.toList=[x])(ht:c.argTypes.toList=[T]){v:aF}(B:(bfp P T (s.ev x)).eval=aw v):
  iu P o a w (jO C (s.put o.dst v)):=by
 obtain⟨cal,args,O⟩:=c;have J:args= #[x]:=by grind
 have K:O= #[T]:=by grind
 subst hc J K;have A:=h.ev x;have j:∀z,(Builtin.len_ #[T] 0 #[a.eval x]).run P w= .ok z w->VS (s.env w g β) v z->iu P o a w (jO C (s.put o.dst v)):=by intro z h1 h2;refine h.value h2 (Jm ho (f:=Builtin.len_ #[T] 0 #[a.eval x]) (λty cs xs bc5=> ?_) h1);grind [Builtin.len_,builtin]
 unfold bfp at B;split at B
 .rename_i st u I;rw[I]at A;obtain rfl:=aM.1 B;refine j (.int .i64 (st.size:Int)) ?_ (pV _ _)
  rw[Sn A];simp[Builtin.len_,run_underlying u,goInt]
 .rename_i e t l u I;rw[I]at A;obtain rfl:=aM.1 B;obtain⟨ad,cap,vs,L,_⟩:=zT A;refine j (.int .i64 (aa l:Int)) ?_ (pV _ _)
  rw[L];simp[Builtin.len_,run_underlying u,goInt]
 .rename_i e u I;rw[I]at A;obtain rfl:=aM.1 B;refine j (.int .i64 0) ?_ (pV _ _)
  rw[nv A];simp[Builtin.len_,run_underlying u,goInt]
 .rename_i e id ver p c i M u I;rw[I]at A;obtain rfl:=aM.1 B;obtain⟨ad,cap,L,_⟩:=BX A;refine j (.int .i64 (M:Int)) ?_ (pV _ _)
  rw[L];simp[Builtin.len_,run_underlying u,goInt]
 .rename_i n e u;obtain rfl:=aM.1 B;refine j (.int .i64 (n:Int)) ?_ (pV _ _)
  simp[Builtin.len_,run_underlying u,goInt]
 grind [aG]
def Env.open(E:Env):Env:= {E with g:=λ_=> .free}
def agx{E:Env}{k:mA}:∀ {vs:List bh} {l:List Int},bR (dU E (.int k)) vs l->vs=l.map (Value.int k)
 |vs,[],h=>h
 |_,x::xs,⟨c,cs',e,hx,hr⟩=>by
  have j:c=[Value.int k x]:=by grind [dU]
  rw[e,j,agx hr];rfl
def Qh{E:Env}{k:mA}:∀(l:List Int),bR (dU E (.int k)) (l.map (Value.int k)) l
 |[]=>rfl
 |x::xs=>⟨[.int k x],xs.map (Value.int k),rfl,by simp[dU],Qh xs⟩
def aEa{α:Type}(j:Array α)(x:α)(f:α->α):(j.push x).modify j.size f=j.push (f x):=by grind
def axL(w:cG)(c:Array bh)(e:bk)(n:Nat):(w.alloc (.cells c e)).freeze ⟨w.heap.size,n,aC⟩ 1=w.alloc (.cells c e (n,n+1)):=by show({w with heap:=(w.heap.push (.cells c e)).modify w.heap.size _}:cG)= {w with heap:=w.heap.push (.cells c e (n,n+1))};simp[aEa]
def acx(e:bk)(A:ByteArray)(w:cG):∃cap:Nat,A.size<=cap/\∃u:Array bh,(∀(j:Nat) (v:bh),((bX A).map (Value.int .u8))[j]? =aw v->u[j]? =aw v)/\
  (Conv.stringToBytes e A).run P w= .ok (.slice (aw ⟨w.heap.size,0,aC⟩) A.size cap) (w.drew.alloc (.cells u e (u.size,u.size+1))):=by
 refine⟨(Question.appendCap A.size 0 e).cut (w.tape w.drawn (.appendCap A.size 0 e)),by simp[Question.cut],
  (A.data.map λb=>Value.int .u8 b.toNat)++Array.replicate ((Question.appendCap A.size 0 e).cut (w.tape w.drawn (.appendCap A.size 0 e)) - A.size) (.int .u8 0),?_,?_⟩
 .grind [bX]
 .have B:∀(u:Array bh),(markStringish ⟨w.heap.size,0,aC⟩).run P (w.drew.alloc (.cells u e))= .ok () (w.drew.alloc (.cells u e (u.size,u.size+1))):=by
   intro u;have I:(w.drew.alloc (.cells u e)).shape? w.heap.size=aw (e,u.size):=by
    have J:(w.drew.alloc (.cells u e)).heap[w.heap.size]? =aw (.cells u e):=yC w.drew _
    grind [World.shape?]
   have K:=axL w.drew u e u.size;simp_all [markStringish]
  simp[Conv.stringToBytes,Question.forced,newRow,B]
def Inv.kill(h:Inv C g β s a w){id:Id}{v:Nat}{fr:Bool}{c:aF}(hs:s.cH id=aw (.obj v fr c)){b:Nat}(hg:g b= .own (.id id) 0){w':cG}(aXV:w'.os=w.os)(boX:w'.tape=w.tape)(axZ:w'.output=w.output/\w.drawn<=w'.drawn)(Hu:w'.heap.size=w.heap.size)
  (I:∀M,M≠b->w'.heap[M]? =w.heap[M]?):Inv C (nX g b .free) β (s.bD id .dead) a w':=by
 have ht:Trans w w' g (nX g b .free):=by refine⟨aXV,boX,axZ,aq,λM hb'=> ?_⟩;grind [gh,nX]
 have vh:=fq s id .dead (by grind);have K:df (s.env w g β) ((s.bD id .dead).env w' (nX g b .free) β):=by
  refine⟨Trans.mem ht,λi j hb=> ?_,λi j hb B=> ?_⟩
  .by_cases u:i=id
   .subst u;exact⟨by show(s.bD i .dead).cH i≠aC;grind,λv fr c O=>by
     have O:(s.bD i .dead).cH i=aw (.obj v fr c):=O;grind⟩
   .have:=dz s id i .dead u;obtain⟨h1,h2⟩:=hb;exact⟨by show(s.bD id .dead).cH i≠aC;rw[this];exact h1,λv fr c O=>h2 v fr c (this.symm.trans O)⟩
  .obtain⟨fr,c,B⟩:=B;have B:(s.bD id .dead).cH i=aw (.obj j fr c):=B;by_cases u:i=id
   .grind
   .rw[dz s id i .dead u]at B;exact⟨⟨fr,c,B⟩,rfl⟩
 refine h.step (dF _ _ _) ht K λi j fr c u=> ?_
 have u:(s.bD id .dead).cH i=aw (.obj j fr c):=u;by_cases eH:i=id
 .grind
 .rw[dz s id i .dead eH]at u;refine(h.cd i j fr c u).mono K rfl (λpl hp=> ?_) λT vq k2 v2 l2 A blI=> ?_
  .have L:=h.apart hg eH u (pl:=pl) hp;exact⟨I pl.b L,my _ _ _ L⟩
  .have A:s.cH T=aw (.obj vq bn (.mp k2 v2 l2)):=A;have hd:T≠id:=λe=>by obtain⟨fr3,c3,J⟩:=blI;have J:(s.bD id .dead).cH T=aw (.obj vq fr3 c3):=J;grind
   refine⟨⟨k2,v2,l2,by show(s.bD id .dead).cH T=_;grind [dz]⟩,λpl hp=> ?_⟩;have L:=h.apart hg hd A (pl:=pl) hp;exact⟨I pl.b L,my _ _ _ L⟩
theorem axd(h:Inv C g β s a w){obj:Bool}{A dst:bk}{x:cD}(ho:o.op= .convert A dst x){v:aF}(B:(aBV P s obj A dst (s.ev x)).eval=aw v):iu P o a w (jO C (s.put o.dst v)):=by
 have J:=h.ev x;have K:∀z,(convert A dst (a.eval x)).run P w= .ok z w->VS (s.env w g β) v z->iu P o a w (jO C (s.put o.dst v)):=by intro z h1 h2;exact h.value h2 (gj (f:=convert A dst (a.eval x)) (by simp only[execOp,ho]) h1)
 unfold aBV at B;unfold bht at B;split at B
 .rename_i k n k' d O L M;rw[O]at J;obtain rfl:=aM.1 B;refine K (.int k' (k'.wrap n)) ?_ (pV _ _)
  rw[MH J];simp[convert,run_underlying L,run_underlying M,Conv.intToInt]
 .rename_i I d O L M;rw[O]at J;obtain rfl:=aM.1 B;refine K (.string I) ?_ (aG4 _)
  rw[Sn J];simp[convert,run_underlying L,run_underlying M]
 .rename_i I e d O L M;rw[O]at J;split at B
  .rename_i hE;obtain⟨cap,aIv,u,blB,vg⟩:=acx (P:=P) e I w;have i1:=(h.drew).Th (.cells u e (u.size,u.size+1));have T:aa (bX I)=I.size:=by simp only[bX,cz,jl];rfl
   have h2:=yC w.drew (.cells u e (u.size,u.size+1));have hex:(execOp a.eval o).run P w= .ok (.value (.slice (aw ⟨w.heap.size,0,aC⟩) I.size cap)) (w.drew.alloc (.cells u e (u.size,u.size+1))):=by
    refine gj (f:=convert A dst (a.eval x)) (by simp only[execOp,ho]) ?_
    rw[Sn J];simp[convert,run_underlying L,run_underlying M,run_underlying hE,vg]
   have aXT:nX g w.drew.heap.size .free w.heap.size= .free:=by rw[show w.drew.heap.size=w.heap.size from rfl,lR]
   obtain rfl:=aM.1 B;refine .inl ⟨_,_,hex,_,β,i1.put o.dst ⟨_,?_,rfl⟩⟩;simp only[V,dU];refine⟨_,cap,(bX I).map (Value.int .u8),by rw[T],aq,λ_=>rfl,λj v hj=>⟨_,_,rfl,?_,?_⟩,Qh (E:=s.env (w.drew.alloc (.cells u e (u.size,u.size+1))) (nX g w.drew.heap.size .free) β) _⟩
   .have:=blB j v hj;rw[aO];show(w.drew.alloc (.cells u e (u.size,u.size+1))).cell? ⟨w.drew.heap.size,j,aC⟩=aw v;simp only[gh,h2];simpa using this
   .show EF (nX g w.drew.heap.size .free) w.heap.size (0+j);unfold EF;rw[aXT];trivial
  .simp only[aG]at B
 .simp only[aG]at B
end
end Go.Ab
namespace Go.Ab
section
variable {P:bg} {C:Ctx} {g:Nat->pP} {β:Id->Option Pl} {s:AS} {a:Act} {w:cG} {o:Oper}
def at3(off:Nat):∀(vs:List bh) (k:Nat) (u:Array bh),off+k+aa vs<=u.size->
  ((vs.zipIdx k).foldl (λcs (c,j)=>cs.setIfInBounds (off+j) c) u).toList=dP u.toList (off+k) vs
 |[],k,u,_=>by simp[dP]
 |v::vs,k,u,h=>by rw[List.zipIdx_cons,bN,at3 off vs (k+1) _ (by grind)];have:=list_seg_step u.toList (off+k) v vs (by grind);simp_all [dP,fP]
theorem at1{u:Nat->Option (Nat×Nat)}{j:Array bh}{i off:Nat}{v:bh}{vs:List bh}{A:List (Nat×bh)}(I:u i=aw (off,aa vs))(K:v.cells=vs.toArray)(J:off+aa vs<=j.size):
  Instr.fill u j ((i,v)::A)=Instr.fill u (dP j.toList off vs).toArray A:=by
 have B:¬(v.cells.size≠aa vs || off+v.cells.size > j.size)=bn:=by grind
 simp only[Instr.fill,I];rw[au B];congr 1;apply FH;simp_all [at3]
def Kd{E E':Env}(hs:E.s=s.cH)(ho:jH E)(T:df E E'){t:Ty}(A:∀x,VS E (s.ev x) (a.eval x)):
  ∀(B:List (Nat×cD)) (l:List t.den) (r:List t.den×List Id) (j:Array bh),(jF t s B l).eval=aw r->bky E E' r.2->bR (dU E' t) j.toList l->
   ∃u,Instr.fill (λi=>aw (i*t.size,t.size)) j (B.map λ(i,x)=>(i,a.eval x))=aw u/\bR (dU E' t) u.toList r.1
 |[],l,r,j,h,_,J=>by grind [aM,jF,Instr.fill]
 | (i,x)::B,l,r,j,h,hf,J=>by
  obtain⟨h1,h2⟩:=ba.1 h;obtain⟨y,L,h4⟩:=aI.1 h2;obtain⟨r',h5,h6⟩:=aI.1 h4;obtain rfl:=aM.1 h6;have hi:i < aa l:=by grind
  obtain⟨cs,O,hO⟩:=(A x).fF (Sy L);have M:=Hd hs ho T _ t y cs O L (λid eH=>hf id (by grind));have agU:=hO.cells O.one;have hlen:=J.length (λ_ _ K=>dU.size K);have Hu:=M.size;have hle:i*t.size+aa cs<=j.size:=by have:=eL t.size (show i+1<=aa l by omega);grind
  have I:=bR.set (λ_ _ K=>dU.size K) J i hi M;obtain⟨u,q1,q2⟩:=Kd hs ho T A B (l.set i y) r' (dP j.toList (i*t.size) cs).toArray h5 (λid eH=>hf id (by grind)) I;grind [at1]
def zN{E:Env}{t:Ty}{zc:Array bh}(A:dU E t zc.toList t.zero):∀n:Nat,bR (dU E t) (madeCells zc (n*t.size)).toList (ag n t.zero):=by
 have B:zc.size=t.size:=by have:=A.size;grind
 intro n
 induction n with
 |zero=>simp[madeCells,bR]
 |succ n K=>
  have e:(madeCells zc ((n+1)*t.size)).toList=(madeCells zc (n*t.size)).toList++zc.toList:=by
   apply mU;intro j;simp[madeCells];by_cases I:j < n*t.size
   .grind
   .by_cases u:j < n*t.size+t.size
    .have J:j%t.size=j - n*t.size:=by
      have:j=(j - n*t.size)+t.size*n:=by grind
      rw[this,Nat.add_mul_mod_self_left,lI aq];grind
     grind
    grind
  grind [List.replicate_succ',bR.append,bR.one]
def vc{M:Bool}{T:bk}{e:bk}{t:Ty}{b:Nat}(h:MA P M T=aw (e,t,b)):
  P.underlying T=aw (.slice e)/\0 < t.size/\∃i j,P.info? e=aw i/\i.size=t.size/\i.bytes=b/\i.zero=aw j/\∀E,dU E t j.cells.toList t.zero:=by
 unfold MA at h;split at h
 .rename_i e' B;split at h
  .split at h
   .rename_i A;obtain⟨rfl,rfl,rfl⟩:=h;simp at A;obtain⟨⟨h1,h2⟩,u⟩:=A;obtain⟨i,j,I,K,_,_⟩:=Be u {w:=default,g:=λ_=> .free,β:=λ_=>aC,s:=λ_=>aC};refine⟨B,aq,i,j,I,by grind [sj],by grind [Program.bytesOf],K,λE=> ?_⟩;obtain⟨i',O,J,L,hV,_⟩:=Be u E;grind [V]
   grind
  grind
 grind
def Jt{T:bk}{e:bk}{t:Ty}{b:Nat}(h:ajI P T=aw (e,t,b)):P.underlying T=aw (.slice e)/\0 < t.size/\∃i j,P.info? e=aw i/\i.size=t.size/\i.bytes=b/\i.zero=aw j/\∀E,dU E t j.cells.toList t.zero:=vc h
def arw{T:bk}{e:bk}{t:Ty}{b:Nat}(h:axz P T=aw (e,t,b)):0 < t.size:=by
 unfold axz at h;split at h
 .exact(vc h).2.1
 .exact(vc h).2.1
def Inv.ayz(h:Inv C g β s a w){q:Nat}(A:s.ff q=bn){e:bk}{t:Ty}{l:List t.den}{cur:Array bh}{cap:Nat}(hz:0 < t.size)(J:bR (dU (s.env w g β) t) (cur.toList.take (aa l*t.size)) l)
  (M:cur.size=cap*t.size) (u:aa l<=cap) (L:cap<=maxLen):
  ∃j β',Inv C j β' (s.born q [.obj 0 aZ (.vec e t l)]) a (w.alloc (.cells cur e))/\
   VS ((s.born q [.obj 0 aZ (.vec e t l)]).env (w.alloc (.cells cur e)) j β') (.dq (.new q 0) 0 [] 0 0 (aa l)) (.slice (aw ⟨w.heap.size,0,aC⟩) (aa l) cap):=by
 have O:=Trans.alloc w g (.cells cur e) (.own (.id (.new q 0)) 0);obtain⟨B,h2⟩:=h.adI A (c:= .vec e t l) (p:=aw ⟨w.heap.size,cap⟩) O (λb I=>⟨vb w _ I,my _ _ _ aq⟩) (λK=>by
  refine⟨hz,?_⟩;show(match SR β (.new q 0) (aw ⟨w.heap.size,cap⟩) (.new q 0) with
   |none=>l=[]
   |some pl=>_)
  rw[oZ];exact⟨cur,0,yC w _,M,u,L,lR _ _ _,az _,λ_=>rfl,J.mono λ_ _ T=>T.mono K.mem⟩)
 refine⟨_,_,B,_,?_,rfl⟩;refine⟨_,_,rfl,u,λ_=>rfl,tT A _ _ _ _,λ_=> ?_⟩;show(match SR β (.new q 0) (aw ⟨w.heap.size,cap⟩) (.new q 0) with
   |some pl=>_
   |none=>_)
 simp
def Inv.aY9(h:Inv C g β s a w){q:Nat}(j:s.ff q=bn){e:bk}{t:Ty}(I:0 < t.size):
  ∃β',Inv C g β' (s.born q [.obj 0 aZ (.vec e t [])]) a w/\df (s.env w g β) ((s.born q [.obj 0 aZ (.vec e t [])]).env w g β')/\
   VS ((s.born q [.obj 0 aZ (.vec e t [])]).env w g β') (.dq (.new q 0) 0 [] 0 0 0) (.slice aC 0 0):=by
 have B:=Trans.refl w g;obtain⟨u,A⟩:=h.adI j (c:= .vec e t []) (p:=aC) B (λb J=>⟨rfl,rfl⟩) (λK=>by
  refine⟨I,?_⟩;simp[AS.env])
 refine⟨_,u,A,_,?_,rfl⟩;refine⟨_,_,rfl,ax _,λL=>aq,tT j _ _ _ _,λ_=> ?_⟩;simp[AS.env]
def auu(j:Array (Nat×cD)):(j.map λ(i,x)=>(i,a.eval x)).toList=j.toList.map λ(i,x)=>(i,a.eval x):=by simp
theorem aiX(h:Inv C g β s a w){T:bk}{n:Nat}{B:Array (Nat×cD)}{nl O:Bool}(ho:o.op= .buildSlice T n B){s':AS}(he:(pg P s nl O o.dst T n B.toList).eval=aw s'):iu P o a w (jO C s'):=by
 unfold pg at he;split at he
 .rename_i e t b q ajP hd;obtain⟨hT,hz,i,zv,hi,I,bje,aIG,aX3⟩:=vc ajP;obtain⟨h1,h2⟩:=ba.1 he;obtain⟨r,h3,h4⟩:=aI.1 h2;simp at h1;obtain⟨M,i1,e1,t1,f1⟩:=fZ r.2 h;obtain⟨u,bp8,Hr⟩:=Kd (a:=a) rfl h.cd e1 h.ev B.toList _ r (madeCells zv.cells (n*t.size)) h3 f1 (zN (aX3 _) n);have L:aa r.1=n:=by
   have:∀(ps:List (Nat×cD)) (l:List t.den) (r:List t.den×List Id),(jF t s ps l).eval=aw r->aa r.1=aa l:=by
    intro ps
    induction ps with
    |nil=>simp[aM,jF]
    |cons p ps ih=>
     grind [jF,ba,aI,aM]
   grind
  have bi7:=Hr.length (λ_ _ hx=>dU.size hx);have vg:(execOp a.eval o).run P w= .ok (.value (.slice (aw ⟨w.heap.size,0,aC⟩) n n)) (w.alloc (.cells u e)):=by
   refine gj (f:=Instr.buildSlice T n (B.map λ(i,x)=>(i,a.eval x))) (by grind [execOp]) ?_
   have K:=aq;have A:Instr.fill (λi=>aw (i*t.size,t.size)) ((Array.range (n*t.size)).map (λx=>(zv.cells)[x%zv.cells.size]!)) (B.map λ(i,x)=>(i,a.eval x)).toList=aw u:=by simp_all [madeCells]
   by_cases hn:n*t.size=0
   .have blX:n=0:=by grind [Nat.mul_eq_zero]
    subst blX;simp only[tM]at A K;have h0:Array.range 0= #[]:=rfl;rw[h0,Array.map_empty]at A;simp at A;simp[Instr.buildSlice,run_underlying hT,run_sizeOf hi,I,newRow,h0,A]
   .simp[Instr.buildSlice,run_underlying hT,run_sizeOf hi,I,newRow,hn,K,zeroValue,typeInfo,hi,aIG];simp_all
  cases O with
  |true=>
   obtain⟨hq,h5⟩:=ba.1 h4;obtain rfl:=aM.1 h5;rw[<-Bb r.2]at hq;obtain⟨g2,β2,i2,J⟩:=i1.ayz hq (e:=e) (l:=r.1) (cur:=u) (cap:=n) hz (by grind) (by grind) aq (by
    have:=Nat.le_mul_of_pos_right n hz;grind [maxLen])
   refine .inl ⟨_,_,vg,g2,β2,?_⟩;rw[hd];rw[L]at J ⊢;exact i2.put (aw q) J
  |false=>
   obtain rfl:=aM.1 h4;have i2:=i1.Th (.cells u e);refine .inl ⟨_,_,vg,nX M w.heap.size .free,β,?_⟩;rw[hd];refine i2.put (aw q) ⟨[.slice (aw ⟨w.heap.size,0,aC⟩) n n],?_,rfl⟩;refine⟨_,n,u.toList,by rw[L],aq,λ_=>rfl,λj v hj=>⟨_,_,rfl,?_,?_⟩,Hr.mono λ_ _ hx=>hx.mono (Trans.mem (E:=(s.bP r.2).env w M β) (E':=(s.bP r.2).env (w.alloc (.cells u e)) (nX M w.heap.size .free) β) (Trans.alloc w M (.cells u e) .free))⟩
   .show(w.alloc (.cells u e)).cell? ⟨w.heap.size,0+j,aC⟩=aw v;grind [World.cell?_alloc_new]
   .show EF (nX M w.heap.size .free) w.heap.size (0+j);simp[EF]
 grind [aG]
theorem amD(h:Inv C g β s a w){T:bk}{x y:cD}(ho:o.op= .makeSlice T x y){j cap:Int}(B:(asInt (s.ev x)).eval=aw j)(hy:(asInt (s.ev y)).eval=aw cap){s':AS}
  (O:(wR P s o.dst T j cap).eval=aw s'):iu P o a w (jO C s'):=by
 obtain⟨k,B⟩:=Kx (h.ev x) B;obtain⟨k',hy⟩:=Kx (h.ev y) hy;unfold wR at O;split at O
 .rename_i e t b q M hd;obtain⟨hT,hz,i,zv,hi,J,bje,I,K⟩:=Jt M;obtain⟨hq,h2⟩:=ba.1 O;obtain⟨h3,h4⟩:=cV.1 h2;obtain rfl:=aM.1 h4;simp[cM]at h3;obtain⟨⟨h5,h6⟩,h7,h8⟩:=h3;have u:(i.bytes:Int)*cap<=281474976710656:=by grind
  have hr:=run_make (P:=P) w T e i zv hT hi I k k' j cap h5 h6 u aq;rw[J]at hr;have L:=zN (K (s.env w g β)) cap.toNat;have aX0:=bR.take (λ_ _ B=>dU.size B) j.toNat L;obtain⟨g2,β2,i2,A⟩:=h.ayz hq (e:=e) (l:=ag j.toNat t.zero) (cur:=madeCells zv.cells (cap.toNat*t.size)) (cap:=cap.toNat) hz (by grind) (size_madeCells _ _) (by grind) (by grind [maxLen]);rw[cT]at A;refine .inl ⟨_,_,gj (f:=Instr.makeSlice T (a.eval x) (a.eval y)) (by grind [execOp]) (by rw[B,hy];exact hr),g2,β2,?_⟩;rw[hd];exact i2.put (aw q) A
 grind [aG]
end
end Go.Ab
namespace Go.Ab
section
variable {P:bg} {C:Ctx} {g:Nat->pP} {β:Id->Option Pl} {s:AS} {a:Act} {w:cG} {o:Oper}
def aJr:∀(c:aF) (f off:Nat) (v:aF),partOf c f=aw (off,v)->(loc c (tV f)).eval=aw (off,v):=by
 intro c f
 induction f generalizing c with
 |zero=>
  intro off v h;cases c with
  |d t y=>
   cases t <;> simp[partOf]at h;obtain⟨rfl,rfl⟩:=h;rfl
  |pr b c=>
   simp[partOf]at h;obtain⟨rfl,rfl⟩:=h;cases b <;> rfl
  |_=>simp[partOf]at h
 |succ f u=>
  intro off v h;cases c with
  |d t y=>
   cases t with
   |pair A tb=>
    simp[partOf]at h;cases j:partOf (.d tb y.2) f with
    |none=>grind
    |some r=>
     rw[j]at h;obtain⟨rfl,rfl⟩:=h;simp only[tV,loc,aI];exact⟨_,u _ _ _ j,rfl⟩
   |_=>simp[partOf]at h
  |pr b c=>
   simp[partOf]at h;cases j:partOf c f with
   |none=>grind
   |some r=>
    rw[j]at h;obtain⟨rfl,rfl⟩:=h;simp only[tV,loc,aI];exact⟨_,u _ _ _ j,rfl⟩
  |_=>simp[partOf]at h
def aDz(a b:aF):(aaO a b).agg=bn:=by unfold aaO;split <;> rfl
def as2{v x v':aF}{i:Nat}(h:(Dj v (tV i) x).eval=aw v'):v'.agg=bn:=by
 have j:∀ {o:Out aF} {f:aF->aF},(∀a,(f a).agg=bn)->(o.bind λa=>Out.ok (f a)).eval=aw v'->v'.agg=bn:=by grind [aI,aM]
 cases i <;> simp[tV]at h
 all_goals
  cases v with
  |d t y=>cases t <;> first | (simp[Dj,aG]at h;done) | (exact j (λ_=>aDz _ _) h)
  |pr b c=>exact j (λ_=>aDz _ _) h
  |_=>simp[Dj,aG]at h
def R8{E:Env}(I:∀x,VS E (s.ev x) (a.eval x)){fs:Array Field}{A:Array (Nat×Nat)}(T:∀(i:Nat) (f:Field),fs[i]? =aw f->A[i]? =aw (f.offset,P.cellsOf f.type)):
  ∀(L:List (Nat×cD)) (v v':aF) (j:Array bh),(rv P fs s L v).eval=aw v'->V E v j.toList->v.agg=bn->
   ∃u,Instr.fill (A[·]?) j (L.map λ(i,x)=>(i,a.eval x))=aw u/\V E v' u.toList/\v'.agg=bn
 |[],v,v',j,h,hV,O=>by grind [aM,rv,Instr.fill]
 | (i,x)::L,v,v',j,h,hV,O=>by
  simp[rv]at h;split at h
  .rename_i f off dx hf hp;obtain⟨h1,h2⟩:=ba.1 h;obtain⟨v1,h3,h4⟩:=aI.1 h2;simp at h1;obtain⟨⟨rfl,bnk⟩,J⟩:=h1;obtain⟨M,_⟩:=wJ J;obtain⟨cs,B,hO⟩:=(I x).fF M;have K:=hO.cells B.one;have boD:=aJr _ _ _ _ hp;obtain⟨u1,u2,u3⟩:=uR (tV i) v j.toList f.offset dx (s.ev x) v1 cs (VO.of hV) boD B h3;have bl0:=u3.zb hV.zb;have Hu:P.cellsOf f.type=aa cs:=by rw[(Qa J).2.1];exact B.size.symm
   obtain⟨u,q1,q2,q3⟩:=R8 I T L v1 v' (dP j.toList f.offset cs).toArray h4 (by simpa using u2.to bl0) (as2 h3);grind [at1]
  grind [aG]
def aFH{α γ:Type}(f:α->Sem γ)(r:α->γ):∀(l:List α),(∀x∈l,(f x).run P w= .ok (r x) w)->(l.mapM f).run P w= .ok (l.map r) w
 |[],_=>by simp
 |x::xs,h=>by simp[h x (by simp),aFH f r xs (λy j=>h y (by simp[j]))]
theorem aHD(h:Inv C g β s a w){T:bk}{u:Array (Nat×cD)}(ho:o.op= .build T u){s':AS}(K:(PR P s o.dst T u.toList).eval=aw s'):iu P o a w (jO C s'):=by
 unfold PR at K;split at K
 .rename_i fs hT;split at K
  .rename_i z bsL;obtain⟨O,h2⟩:=ba.1 K;obtain⟨v,h3,h4⟩:=aI.1 h2;obtain rfl:=aM.1 h4;simp only[aQ,eA]at O;obtain⟨⟨hz,aam⟩,bov⟩:=O;obtain⟨i,zv,hi,I,hV,hO⟩:=Be hz (s.env w g β)
   let B:=fs.map λf=>(f.offset,P.cellsOf f.type)
   have adq:∀(i:Nat) (f:Field),fs[i]? =aw f->B[i]? =aw (f.offset,P.cellsOf f.type):=by grind
   obtain⟨A,q1,q2,q3⟩:=R8 (a:=a) h.ev adq u.toList z v zv.cells h3 hV aam;have hm:(fs.mapM λf=>(do pure (f.offset,<-sizeOf f.type):Sem (Nat×Nat))).run P w= .ok B w:=by
    rw[Array.mapM_eq_mapM_toList];have:=aFH (P:=P) (w:=w) (λf=>(do pure (f.offset,<-sizeOf f.type):Sem (Nat×Nat))) (λf=>(f.offset,P.cellsOf f.type)) fs.toList (by
     intro f hf;obtain⟨j,hj⟩:=dA.1 (bov f hf);rw[fe,run_sizeOf hj,sj hj];rfl)
    rw[Sem.run_map,this];show Result.ok _ w=Result.ok _ w;congr 1;apply FH;simp[B]
   refine h.value (x:= .agg A) (VS.of q2 (by grind [gv])) (gj (f:=Instr.build T (u.map λ(i,x)=>(i,a.eval x))) (by grind [execOp]) ?_);have J:Instr.fill (B[·]?) zv.cells (u.map λ(i,x)=>(i,a.eval x)).toList=aw A:=by rw[auu];exact q1
   simp only[Instr.build,fe,zeroValue,typeInfo,run_program,hi,dL,Sem.run_pure,I,run_underlying hT,hm,J]
  grind [aG]
 .rename_i n e hT;split at K
  .rename_i t ht;obtain⟨O,h2⟩:=ba.1 K;obtain⟨r,h3,h4⟩:=aI.1 h2;obtain rfl:=aM.1 h4;simp at O;obtain⟨Hu,hz⟩:=O;obtain⟨g1,i1,e1,t1,f1⟩:=fZ r.2 h;obtain⟨i,zv,hi,I,hV,hO⟩:=Be hz ((s.bP r.2).env w g1 β);obtain⟨A,q1,q2⟩:=Kd (a:=a) rfl h.cd e1 h.ev u.toList _ r zv.cells h3 f1 hV.2;have boE:aa r.1=n:=by
    have:∀(ps:List (Nat×cD)) (l:List t.den) (r:List t.den×List Id),(jF t s ps l).eval=aw r->aa r.1=aa l:=by
     intro ps
     induction ps with
     |nil=>simp[aM,jF]
     |cons p ps ih=>
      grind [jF,ba,aI,aM]
    grind
   refine .inl ⟨.agg A,w,gj (f:=Instr.build T (u.map λ(i,x)=>(i,a.eval x))) (by grind [execOp]) ?_,g1,β,i1.put o.dst ⟨A.toList,?_,by simp[gv,aF.agg,Ty.agg]⟩⟩
   .have J:Instr.fill (λi=>aw (i*t.size,t.size)) zv.cells (u.map λ(i,x)=>(i,a.eval x)).toList=aw A:=by rw[auu];exact q1
    cases L:P.info? e with
    |none=>
     simp_all [aL5,awg,depth,Program.underlying]
    |some ie=>
     have M:=run_sizeOf L w;rw[<-sj L,Hu]at M;simp only[Instr.build,fe,zeroValue,typeInfo,run_program,hi,dL,Sem.run_pure,I,run_underlying hT,M,J]
   grind [V,dU]
  grind [aG]
 grind [aG]
def afF{T X ty e:bk}{i:TypeInfo}(hT:P.underlying T=aw (.slice e))(I:P.underlying X=aw .string\/∃K,P.underlying X=aw (.slice K))(hi:P.info? e=aw i)
  {b j A:Nat} {cur:Array bh} (hg:w.heap[b]? =aw (.cells cur e (0,0))) {x:bh} {n:Nat} {news:List bh} (O:∀u∈news,u.oneCell'=bn)
  (B:(Builtin.lenOf x).run P w= .ok n w) (hf:(Builtin.firstCells i.size n x).run P w= .ok news.toArray w) (M:j+n<=A) (J:j*i.size+aa news<=cur.size):
  (Builtin.append_ #[T,X] ty #[.slice (aw ⟨b,0,aC⟩) j A,x]).run P w= .ok (.slice (aw ⟨b,0,aC⟩) (j+n) A) (w.setRow b (dP cur.toList (j*i.size) news).toArray):=by
 have L:=run_storeCells_at P b (j*i.size) e news 0 cur w hg (by simpa using J) O;simp only[bY]at L;rcases I with I | ⟨K,I⟩ <;> simp[Builtin.append_,run_underlying hT,run_underlying I,sizeOf,typeInfo,hi,B,M,hf,Addr.add_lit,L,dP]
def OW{T X ty e:bk}{i:TypeInfo}(B:P.underlying T=aw (.slice e))(u:P.underlying X=aw .string\/∃A,P.underlying X=aw (.slice A))(J:P.info? e=aw i)
  {x:bh} (j:(Builtin.lenOf x).run P w= .ok 0 w) (I:(Builtin.firstCells i.size 0 x).run P w= .ok #[] w):
  (Builtin.append_ #[T,X] ty #[.slice aC 0 0,x]).run P w= .ok (.slice aC 0 0) w:=by
 rcases u with u | ⟨A,u⟩ <;> simp[Builtin.append_,run_underlying B,run_underlying u,sizeOf,typeInfo,J,j,I]
def afE{T X ty e:bk}{i:TypeInfo}{zv:bh}(hT:P.underlying T=aw (.slice e))(J:P.underlying X=aw .string\/∃e',P.underlying X=aw (.slice e'))(hi:P.info? e=aw i)(L:i.zero=aw zv)
  {O:Option Addr} {j u:Nat} {cO:List bh} (ho:(Builtin.firstCells i.size j (.slice O j u)).run P w.drew= .ok cO.toArray w.drew) {x:bh} {n:Nat} {news:List bh}
  (I:(Builtin.lenOf x).run P w= .ok n w) (hf:(Builtin.firstCells i.size n x).run P w.drew= .ok news.toArray w.drew) (Va:u < j+n)
  (bsu:((j+n:Nat):Int)<=9223372036854775807) (K:(j+n)*i.bytes<=140737488355328):
  (Builtin.append_ #[T,X] ty #[.slice O j u,x]).run P w= .ok (.slice (aw ⟨w.heap.size,0,aC⟩) (j+n) (grownCap w (j+n) u e))
   (w.drew.alloc (.cells (cO.toArray++news.toArray++Builtin.zeroCells zv.cells (grownCap w (j+n) u e - (j+n))) e)):=by
 have hn:=aq;have B:=aq;have M:=growslice_fits (bytes:=i.bytes) Va K;have A:=aq;rcases J with J | ⟨e',J⟩
 all_goals
  simp[Builtin.append_,run_underlying hT,run_underlying J,sizeOf,typeInfo,zeroValue,hi,L,I,hn,B,A,Question.forced,hf,ho,newRow,grownCap];grind
end
end Go.Ab
namespace Go.Ab
section
variable {P:bg} {C:Ctx} {g:Nat->pP} {β:Id->Option Pl} {s:AS} {a:Act} {w:cG} {o:Oper}
def aZA(h:Inv C g β s a w){v:aF}{y:bh}(O:VS (s.env w g β) v y){t:Ty}{m:List t.den}(he:(s.bfW (.slice t) v).eval=aw m):
  ∃A cap vs,y= .slice A (aa m) cap/\(0 < aa m->A.isSome=bn)/\(∀j u,vs[j]? =aw u->∃L off,A=aw ⟨L,off,aC⟩/\w.cell? ⟨L,off+j,aC⟩=aw u)/\bR (dU (s.env w g β) t) vs m:=by
 have I:(s.kU (.slice t) v).eval=aw m:=he;cases v <;> first | (simp[AS.kU,aG]at I) | skip
 case fR=>
  simp[aM]at I;subst I;exact⟨aC,0,[],nv O,by simp,λj u M=>by grind,rfl⟩
 case d t' x=>
  have I:=l7.1 I;have ha:=atN I;have hV:=O.single rfl ha;have O:VS (s.env w g β) (.d (.slice t) m) y:=VS.of (cs:=[y]) (by grind [V,Mk]) rfl;obtain⟨A,cap,vs,hy,_,hs,hr,hc⟩:=zT O;exact⟨A,cap,vs,hy,hs,λj u M=>let⟨L,off,e,hh⟩:=hr j u M;⟨L,off,e,hh.1⟩,hc⟩
 case dq id ver p c i B=>
  obtain⟨⟨n,t',l⟩,h1,h2⟩:=aI.1 I;obtain⟨h3,h4⟩:=cV.1 h2;obtain⟨bjk,bsB⟩:=aP6 (E:=s.env w g β) (l7.1 h4);simp at h3;obtain⟨hc,J⟩:=h3
  suffices hg:∃A cap vs,y= .slice A (aa (cut l i B)) cap/\(0 < aa (cut l i B)->A.isSome=bn)/\(∀j u,vs[j]? =aw u->∃L off,A=aw ⟨L,off,aC⟩/\w.cell? ⟨L,off+j,aC⟩=aw u)/\bR (dU (s.env w g β) t') vs (cut l i B) by grind
  obtain⟨fr,c0,eG,vf⟩:=afr rfl h.cd h1;obtain⟨A,cap,hy,hle,Gf,hb,jU⟩:=BX O;have jU:=jU ⟨fr,c0,eG⟩;have bo6:=Mu J;rcases vf with⟨I,hl,_⟩ | ⟨pl,cur,e,I,hh,Hu,Hr,T⟩
  .simp_all [bR]
  .have K:(i+B)*t'.size<=aa l*t'.size:=eL _ J;rw[gT]at K;refine⟨A,cap,_,by grind,by grind,?_,W7 Hr i B⟩;rw[anH _ _ _ _ _ K];intro j v M;rw[fS]at M;split at M
   .rw[hc]at M;have hh':w.heap[pl.b]? =aw (.cells cur e (0,0)):=hh
    grind [cell_of_row]
   grind
def ahj(h:Inv C g β s a w){t:Ty}{X:bk}{x:aF}{y:bh}(B:VS (s.env w g β) x y){m:List t.den}(A:(Qx P s t X x).eval=aw m):
  (P.underlying X=aw .string\/∃u,P.underlying X=aw (.slice u))/\∃news:List bh,bR (dU (s.env w g β) t) news m/\(Builtin.lenOf y).run P w= .ok (aa m) w/\
   ∀w',w'.heap=w.heap->(Builtin.firstCells t.size (aa m) y).run P w'= .ok news.toArray w':=by
 have sl:∀(x:aF),VS (s.env w g β) x y->(match P.underlying X with
   |some (.slice _)=>s.bfW (.slice t) x
   |_=> .fail).eval=aw m->(P.underlying X=aw .string\/∃u,P.underlying X=aw (.slice u))/\∃news:List bh,bR (dU (s.env w g β) t) news m/\(Builtin.lenOf y).run P w= .ok (aa m) w/\
   ∀w',w'.heap=w.heap->(Builtin.firstCells t.size (aa m) y).run P w'= .ok news.toArray w':=by
  intro x B A;split at A
  .rename_i u I;refine⟨.inr ⟨u,I⟩,?_⟩;obtain⟨L,cap,vs,rfl,Gf,vf,K⟩:=aZA h B A;have j:=bR.length (λ_ _ B=>dU.size B) K;refine⟨vs,K,rfl,λw' O=> ?_⟩;cases L with
   |none=>
    simp_all [Builtin.firstCells]
   |some L=>
    grind [run_firstCells_some,Addr.add_lit,gh]
  grind [aG]
 unfold Qx at A;split at A
 .rename_i J;split at A
  .rename_i I;refine⟨.inl I,?_⟩;obtain⟨e,M⟩:=lf (l7.1 A);have u:Ty.int .u8=t:=by grind
   subst u;subst M;have T:=Sn B;subst T;have j:aa (bX J)=J.size:=by simp[bX]
   refine⟨(bX J).map (Value.int .u8),Qh _,by rw[j];rfl,λw' _=> ?_⟩;simp[Builtin.firstCells];grind [bX]
  grind [aG]
 grind
def Hq(z:Array bh)(n:Nat):(Builtin.zeroCells z n).size=n*z.size:=by simp[Builtin.zeroCells]
theorem aP7(h:Inv C g β s a w){c:Call}{x y:cD}{T X:bk}(ho:o.op= .call c)(hc:c.callee= .builtin .copy)(ha:c.args.toList=[x,y])(ht:c.argTypes.toList=[T,X]){s':AS}
  (K:(atO P s o.dst T X (s.ev x) (s.ev y)).eval=aw s'):iu P o a w (jO C s'):=by
 obtain⟨cal,args,tys⟩:=c;have ha':args= #[x,y]:=by grind
 have ht':tys= #[T,X]:=by grind
 subst hc ha' ht';have A:=h.ev x;have hy:=h.ev y;have fin:∀z w',(Builtin.copy_ #[T,X] 0 #[a.eval x,a.eval y]).run P w= .ok z w'->(∃g' β',Inv C g' β' s' (a.put o.dst z) w')->iu P o a w (jO C s'):=by intro z w' h1 h2;refine .inl ⟨z,w',Jm ho (f:=Builtin.copy_ #[T,X] 0 #[a.eval x,a.eval y]) (λty cs xs O=> ?_) h1,h2⟩;grind [Builtin.copy_,builtin]
 unfold atO at K;split at K
 .rename_i e t b id ver u ajP O;obtain⟨hT,hz,i,zv,hi,aUW,bje,aIG,aX3⟩:=Jt ajP;obtain⟨m,hm,K⟩:=aI.1 K;obtain⟨hX,news,Hr,hlen,bhD⟩:=ahj h hy hm;have bjm:=Hr.length (λ_ _ A=>dU.size A);have B:=bR.all (λ_ _ A=>A.one) Hr;rw[<-aUW]at bhD;split at K
  .rename_i ve n L l tW;obtain⟨h1,agV⟩:=ba.1 K;simp at h1;obtain⟨bkQ,bru⟩:=h1;subst bkQ bru;obtain⟨l',I,axT⟩:=aI.1 agV;obtain⟨et,I⟩:=lf (l7.1 I);have et':L=t:=by grind
   subst et';subst I;obtain⟨bjk,bkK⟩:=cV.1 axT;have bjk:aa m<=u:=by grind
   obtain rfl:=aM.1 bkK;have eG:=gA tW;rw[O]at A;obtain⟨ad,cap,aUZ,beP,Gf,ary,jU⟩:=BX A;have jU:=jU ⟨aZ,_,eG⟩;obtain⟨pl,cur,e0,hp,hh,hg,hk,hV⟩:=(h.cd id ve aZ _ eG).box rfl;have hp:β id=aw pl:=hp;have j:(match β id with
    |some pl=>(0 < u\/0=0->ad=aw ⟨pl.b,0,aC⟩)/\(([.arr]:List Uv)=[]->0=0->cap=pl.cap)
    |none=>ad=aC/\u=0/\cap=0):=jU
   rw[hp]at j;simp only at j;have beE:=j.1 (.inr trivial);subst beE;have hV:V (s.env w g β) (.d (.arr u L) l) (cur.toList.take cur.size):=hV;obtain⟨bji,hVc⟩:=hV;have bi7:=hVc.length (λ_ _ A=>dU.size A);have aCQ:aa news<=cur.size:=by simp_all [eL]
   have u7:=run_storeCells_at P pl.b 0 e0 news 0 cur w hh (by grind) B;have vg:(Builtin.copy_ #[T,X] 0 #[a.eval x,a.eval y]).run P w= .ok (goInt (aa m)) (w.setRow pl.b (dP cur.toList 0 news).toArray):=by have boG:=qS bjk;rw[aUZ];simp[Builtin.copy_,run_underlying hT,hlen,sizeOf,typeInfo,hi,boG,bhD w rfl,u7,dP]
   have M:=Trans.setRow w hg (dP cur.toList 0 news).toArray;have J:df (s.env w g β) ((s.bD id (.obj ve aZ (.d (.arr u L) (m++l.drop (aa m))))).env (w.setRow pl.b (dP cur.toList 0 news).toArray) g β):=df.bD eG (ax _) M (λ_ _=>rfl) (λ_=>rfl);have i1:=h.step (dF _ _ _) M J (jH.bD (axU:=ue eG λk v1 l e=>by cases e) h.cd (by grind) J (λ_ _=>rfl) (λi ver fr c pl2 hi arb arA=>⟨setRow_other w pl.b pl2.b _ (h.apart hg hi arb arA),rfl⟩) (Zc.obj ⟨pl,_,e0,hp,setRow_heap w pl.b cur _ e0 (0,0) hh,hg,trivial,by
    show V _ (.d (.arr u L) (m++l.drop (aa m))) ((dP cur.toList 0 news).toArray.toList.take (dP cur.toList 0 news).toArray.size);rw[<-jl,bI];refine⟨by grind,?_⟩;have e2:dP cur.toList 0 news=news++cur.toList.drop (aa m*L.size):=by grind [dP]
    have q:bR (dU (s.env w g β) L) (dP cur.toList 0 news) (m++l.drop (aa m)):=by grind [bR.append,bR.drop,dU.size]
    exact q.mono λ_ _ A=>A.mono J.mem⟩))
   exact fin _ _ vg ⟨g,β,i1.put o.dst ⟨[.int .i64 (aa m:Int)],by simp[V,dU],rfl⟩⟩
  grind [aG]
 grind [aG]
theorem aA9(h:Inv C g β s a w){c:Call}{x y:cD}{T X:bk}(ho:o.op= .call c)(hc:c.callee= .builtin .append)(ha:c.args.toList=[x,y])(ht:c.argTypes.toList=[T,X]){s':AS}
  {nl dt:Bool} (M:(DG P s nl dt o.dst T X (s.ev x) (s.ev y)).eval=aw s'):iu P o a w (jO C s'):=by
 obtain⟨cal,args,tys⟩:=c;simp only at hc ha ht;have ha':args= #[x,y]:=by apply FH;simpa using ha
 have ht':tys= #[T,X]:=by apply FH;simpa using ht
 subst hc ha' ht';have hx:=h.ev x;have hy:=h.ev y;have fin:∀z w',(Builtin.append_ #[T,X] 0 #[a.eval x,a.eval y]).run P w= .ok z w'->(∃g' β',Inv C g' β' s' (a.put o.dst z) w')->iu P o a w (jO C s'):=by intro z w' h1 h2;refine .inl ⟨z,w',Jm ho (f:=Builtin.append_ #[T,X] 0 #[a.eval x,a.eval y]) (λty cs xs bc5=> ?_) h1,h2⟩;subst bc5;have e1:Builtin.append_ #[T,X] 0 #[a.eval x,a.eval y]=Builtin.append_ #[T,X] ty #[a.eval x,a.eval y]:=rfl;rw[e1];simp[builtin]
 unfold DG at M;split at M
 .rename_i e t b q ajP hd;obtain⟨hT,hz,i,zv,hi,aUW,bje,aIG,aX3⟩:=vc ajP;obtain⟨m,hm,M⟩:=aI.1 M;obtain⟨hX,news,Hr,hlen,bhD⟩:=ahj h hy hm;have bjm:=Hr.length (λ_ _ hx=>dU.size hx);have h1news:∀u∈news,u.oneCell'=bn:=bR.all (λ_ _ hx=>hx.one) Hr;rw[<-aUW]at bhD;have bqB:zv.cells.size=t.size:=by have:=(aX3 (s.env w g β)).size;simpa using this
  have bo7:∀n,(Builtin.zeroCells zv.cells n).size=n*t.size:=λn=>by rw[Hq,bqB]
  have grow:∀(ad:Option Addr) (B sCap:Nat) (cO:List bh) (l0:List t.den),a.eval x= .slice ad B sCap->aa cO=B*t.size->aa l0=B->bR (dU (s.env w g β) t) cO l0->
    (Builtin.firstCells i.size B (.slice ad B sCap)).run P w.drew= .ok cO.toArray w.drew->sCap < B+aa m->cM (B+aa m) b=bn->
    ∃(cur:Array bh) (cap:Nat),(Builtin.append_ #[T,X] 0 #[a.eval x,a.eval y]).run P w= .ok (.slice (aw ⟨w.heap.size,0,aC⟩) (B+aa m) cap) (w.drew.alloc (.cells cur e))/\
     cur.size=cap*t.size/\B+aa m<=cap/\cap<=maxLen/\cur.toList.take ((B+aa m)*t.size)=cO++news:=by
   intro ad B sCap cO l0 L axV bqm bok bnk Va K;simp only[cM,bJ]at K;have hr:=afE (P:=P) (w:=w) (ty:=0) hT hX hi aIG bnk hlen (bhD w.drew rfl) Va aq (by rw[bje];exact K.1);rw[L];refine⟨_,_,hr,?_,grownCap_ge _ _ _ _,grownCap_le_maxLen _ _ _ _ (by unfold maxLen;omega),?_⟩
   .have bsx:=grownCap_ge w (B+aa m) sCap e;simp only[Array.size_append,List.size_toArray,bo7,axV,bjm,<-gT];congr 1;omega
   .have bc4:aa (cO++news)=(B+aa m)*t.size:=by rw[aj,axV,bjm,gT]
    simp only[eV];rw[<-bc4];exact List.take_left
  split at M
  .rename_i brT;rw[brT]at hx;have L:=nv hx;cases dt with
   |true=>
    simp only at M;obtain⟨K,M⟩:=cV.1 M;obtain rfl:=aM.1 M;simp only[aQ,bJ]at K;obtain⟨K,aQS⟩:=K;obtain⟨cur,cap,hr,q1,q2,q3,q4⟩:=grow aC 0 0 [] [] L (by simp) rfl rfl rfl aq (by simpa using K);simp only[aO,bf]at hr q2 q4;have boh:bR (dU (s.env w.drew g β) t) news m:=Hr.mono λ_ _ hx=>hx.mono (df.same (s:=s) (β:=β) (Trans.drew w g)).mem
    refine fin _ _ hr ⟨nX g w.heap.size .free,β,(h.drew.Th (.cells cur e)).put o.dst ⟨[.slice (aw ⟨w.heap.size,0,aC⟩) (aa m) cap],?_,rfl⟩⟩;simp only[V,dU];refine⟨λh0=>(by cases h0),λm' hm'=> ?_⟩;obtain rfl:m=m':=cj hm';refine⟨_,cap,cur.toList.take (aa m*t.size),rfl,q2,λ_=>rfl,λj v hj=>⟨_,_,rfl,?_,?_⟩,?_⟩
    .show(w.drew.alloc (.cells cur e)).cell? ⟨w.drew.heap.size,0+j,aC⟩=aw v;rw[World.cell?_alloc_new,aO];rw[fS]at hj;split at hj
     .simpa using hj
     .cases hj
    .show EF (nX g w.heap.size .free) w.heap.size (0+j);unfold EF;rw[lR];trivial
    .rw[q4];exact boh.mono λ_ _ hx=>hx.mono (Trans.mem (E:=s.env w.drew g β) (E':=s.env (w.drew.alloc (.cells cur e)) (nX g w.drew.heap.size .free) β) (Trans.alloc w.drew g (.cells cur e) .free))
   |false=>
   simp only at M;obtain⟨hq,M⟩:=ba.1 M;obtain⟨K,M⟩:=cV.1 M;obtain rfl:=aM.1 M;by_cases aQS:aa m=0
   .have boI:m=[]:=bV aQS;subst boI;have blZ:news=[]:=bV (by rw[bjm];simp);subst blZ;obtain⟨β',i1,e1,v1⟩:=h.aY9 hq (e:=e) hz;refine fin (.slice aC 0 0) w ?_ ⟨g,β',?_⟩
    .rw[L];exact OW (P:=P) hT hX hi hlen (bhD w rfl)
    .exact i1.put o.dst v1
   .obtain⟨cur,cap,hr,q1,q2,q3,q4⟩:=grow aC 0 0 [] [] L (by simp) rfl rfl rfl aq (by simpa using K);simp only[aO,bf]at hr q2 q4;obtain⟨g2,β2,i2,v2⟩:=(h.drew).ayz hq (e:=e) (l:=m) (cur:=cur) (cap:=cap) hz (by rw[q4];exact Hr.mono λ_ _ hx=>hx.mono (df.same (s:=s) (β:=β) (Trans.drew w g)).mem) q1 q2 q3;refine fin _ _ hr ⟨g2,β2,?_⟩;exact i2.put o.dst v2
  .rename_i id ver A bc5;rw[bc5]at hx;obtain⟨ad,cap,L,beP,Gf,ary,jU⟩:=BX hx;split at M
   .rename_i v fr e' I l tW;obtain⟨h1,agV⟩:=ba.1 M;clear M;simp only[aQ,lZ]at h1;obtain⟨bkQ,brd⟩:=h1;subst bkQ brd;obtain⟨l',hl',axT⟩:=aI.1 agV;obtain⟨et,hl'⟩:=lf (l7.1 hl');have et':I=t:=by simpa using et
    subst et';simp only at hl';subst hl';obtain⟨beQ,blM⟩:=cV.1 axT;have beQ:A<=aa l:=by simpa using beQ
    obtain⟨bp9,bkK⟩:=cV.1 blM;obtain⟨K,bp6⟩:=cV.1 bkK;obtain rfl:=aM.1 bp6;clear agV axT blM bkK bp6;have eG:=gA tW;have jU:=jU ⟨fr,_,eG⟩;obtain⟨_,hO⟩:=h.cd id v fr _ eG;have hO':(match β id with
     |none=>l=[]
     |some pl=>∃cur k,w.heap[pl.b]? =aw (.cells cur e (0,0))/\cur.size=pl.cap*I.size/\aa l<=pl.cap/\pl.cap<=maxLen/\g pl.b= .own (.id id) k/\
       k<=aa l*I.size/\(fr=aZ->k=0)/\bR (dU (s.env w g β) I) (cur.toList.take (aa l*I.size)) l):=hO
    have J:(match β id with
     |some pl=>(0 < A\/0=0->ad=aw ⟨pl.b,0,aC⟩)/\(([]:List Uv)=[]->0=0->cap=pl.cap)
     |none=>ad=aC/\A=0/\cap=0):=jU
    have boq:fr=aZ\/A=aa l:=by simp only[vI,fu,bJ]at bp9;exact bp9
    have jV:s.cH id≠aC:=by rw[eG];simp
    have fresh:∀(cur:Array bh) (cp:Nat) (g0:Nat->pP),Trans w (w.drew.alloc (.cells cur e)) g (nX g0 w.heap.size (.own (.id (id)) 0))->
      (∀i ver fr c pl,i≠id->s.cH i=aw (.obj ver fr c)->β i=aw pl->g0 pl.b=g pl.b)->cur.size=cp*I.size->A+aa m<=cp->cp<=maxLen->
      bR (dU (s.env w g β) I) (cur.toList.take ((A+aa m)*I.size)) (l.take A++m)->A<=aa l->
      ∃g' β',Inv C g' β' ((s.bD id (.obj (v+1) fr (.vec e I (l.take A++m)))).put o.dst (.dq id (v+1) [] 0 0 (A+aa m))) (a.put o.dst (.slice (aw ⟨w.heap.size,0,aC⟩) (A+aa m) cp)) (w.drew.alloc (.cells cur e)):=by
     intro cur cp g0 ht bor q1 q2 q3 q4 q5;have bji:aa (l.take A++m)=A+aa m:=by simp;omega
     have O:df (s.env w g β) ((s.bD id (.obj (v+1) fr (.vec e I (l.take A++m)))).env (w.drew.alloc (.cells cur e)) (nX g0 w.heap.size (.own (.id id) 0)) (SR β id (aw ⟨w.heap.size,cp⟩))):=
      df.bD eG aq ht (λi hi=>NZ _ _ _ hi) (λhh=>aq)
     have i1:=h.step (dF _ _ _) ht O (jH.bD (axU:=ue eG λk v1 l e=>by cases e) h.cd jV O (λi hi=>NZ _ _ _ hi) (λi ver fr' c' pl hi arb arA=>by
       have gF:pl.b < w.heap.size:=((h.cd i ver fr' c' arb).label (pl:=pl) arA).1;exact⟨vb w.drew _ gF,by rw[my _ _ _ aq];exact bor i ver fr' c' pl hi arb arA⟩) (by
      refine⟨hz,?_⟩;show(match SR β id (aw ⟨w.heap.size,cp⟩) id with
       |none=>(l.take A++m)=[]
       |some pl=>_)
      rw[oZ];refine⟨cur,0,yC w.drew _,q1,by rw[bji];exact q2,q3,lR _ _ _,az _,λ_=>rfl,?_⟩;rw[bji];exact q4.mono λ_ _ hx=>hx.mono O.mem))
     refine⟨_,_,i1.put o.dst ⟨_,?_,rfl⟩⟩;simp only[V];have vh:=fq s id (.obj (v+1) fr (.vec e I (l.take A++m))) jV;refine⟨_,_,rfl,q2,λ_=>rfl,⟨by show(s.bD id _).cH id≠aC;rw[vh];simp,λv' fr' c' hh=> ?_⟩,λ_=> ?_⟩
     .have hh':(s.bD id (.obj (v+1) fr (.vec e I (l.take A++m)))).cH id=aw (.obj v' fr' c'):=hh;rw[vh]at hh';simp only[cn,dR.obj.injEq]at hh';omega
     .show(match SR β id (aw ⟨w.heap.size,cp⟩) id with
       |some pl=>_
       |none=>_)
      rw[oZ];exact⟨λ_=>rfl,λ_ _=>rfl⟩
    cases hp:β id with
    |none=>
     rw[hp]at hO' J;simp only at hO' J;obtain⟨rfl,rfl,rfl⟩:=J;subst hO';by_cases aQS:aa m=0
     .have boI:m=[]:=bV aQS;subst boI;have blZ:news=[]:=bV (by rw[bjm];simp);subst blZ;have ht:=Trans.refl w g;have O:df (s.env w g β) ((s.bD id (.obj (v+1) fr (.vec e I []))).env w g β):=df.bD eG aq ht (λ_ _=>rfl) (λ_=>rfl);have i1:=h.step (dF _ _ _) ht O (jH.bD (axU:=ue eG λk v1 l e=>by cases e) h.cd jV O (λ_ _=>rfl) (λ_ _ _ _ _ _ _ _=>⟨rfl,rfl⟩) (by
       refine⟨hz,?_⟩;show(match β id with
        |none=>([]:List I.den)=[]
        |some pl=>_)
       rw[hp]))
      refine fin (.slice aC 0 0) w ?_ ⟨g,β,i1.put o.dst ⟨_,?_,rfl⟩⟩
      .rw[L];exact OW (P:=P) hT hX hi hlen (bhD w rfl)
      .simp only[V];have vh:=fq s id (.obj (v+1) fr (.vec e I [])) jV;refine⟨_,_,rfl,ax _,λhh=>by simp at hh,⟨by show(s.bD id _).cH id≠aC;rw[vh];simp,λv' fr' c' hh=> ?_⟩,λ_=> ?_⟩
       .have hh':(s.bD id (.obj (v+1) fr (.vec e I []))).cH id=aw (.obj v' fr' c'):=hh;rw[vh]at hh';simp only[cn,dR.obj.injEq]at hh';omega
       .show(match β id with
         |some pl=>_
         |none=>_)
        rw[hp];exact⟨rfl,by simp,rfl⟩
     .obtain⟨cur,cp,hr,q1,q2,q3,q4⟩:=grow aC 0 0 [] [] L (by simp) rfl rfl rfl aq K;refine fin _ _ hr (fresh cur cp g (Trans.trans (Trans.drew w g) (Trans.alloc w.drew g _ _)) (λ_ _ _ _ _ _ _ _=>rfl) q1 q2 q3 ?_ (by simp));rw[q4];simpa using Hr
    |some pl=>
     rw[hp]at hO' J;simp only at hO' J;obtain⟨beE,aIv⟩:=J;have beE:=beE (.inr trivial);have aIv:=aIv trivial trivial;subst beE aIv;obtain⟨cur,k,p1,p2,p3,p4,p5,p6,p7,p8⟩:=hO';have hk:k<=A*I.size:=by
      rcases boq with hf | hf
      .rw[p7 hf];exact az _
      .rw[hf];exact p6
     have hmul:A*I.size<=aa l*I.size:=eL _ beQ;have bqp:aa l*I.size<=cur.size:=by rw[p2];exact eL _ p3
     have aX0:=bR.take (λ_ _ hx=>dU.size hx) A p8;rw[rV,qS hmul]at aX0;have axV:aa (cur.toList.take (A*I.size))=A*I.size:=by simp;omega
     by_cases Va:A+aa m<=pl.cap
     .have brK:(A+aa m)*I.size<=cur.size:=by rw[p2];exact eL _ Va
      have aCQ:A*i.size+aa news<=cur.size:=by rw[aUW,bjm,<-gT];exact brK
      have hr:=afF (P:=P) (w:=w) (ty:=0) hT hX hi p1 h1news hlen (bhD w rfl) Va aCQ;rw[aUW]at hr aCQ;have ht:Trans w (w.setRow pl.b (dP cur.toList (A*I.size) news).toArray) g g:=by
       refine⟨by simp,by simp,by simp,by simp,λb' hb=> ?_⟩;by_cases beH:b'=pl.b
       .subst beH;rw[p5];refine⟨.inr ⟨id,k,rfl,ax _⟩,λoff u beS hu=> ?_⟩;rw[cell_of_row w pl.b off cur e (0,0) p1]at hu;rw[cell_setRow_same w pl.b off cur _ e (0,0) p1];simp only[dP,aR,List.getElem?_toArray];rw[jx (by rw[axV];omega),fS,av aq];simpa using hu
       .rw[setRow_other w pl.b b' _ beH];cases bjb:g b' with
        |free=>exact⟨rfl,rfl⟩
        |own o' k=>cases o' with
         |gK=>exact⟨rfl,rfl⟩
         |id i'=>exact⟨.inr ⟨i',k,rfl,ax _⟩,λoff v _ hv=>by rw[cell_setRow_other w pl.b _ _ beH];exact hv⟩
      have O:df (s.env w g β) ((s.bD id (.obj (v+1) fr (.vec e I (l.take A++m)))).env (w.setRow pl.b (dP cur.toList (A*I.size) news).toArray) g β):=
       df.bD eG aq ht (λ_ _=>rfl) (λ_=>rfl)
      have bji:aa (l.take A++m)=A+aa m:=by simp;omega
      have boT:aa (dP cur.toList (A*I.size) news)=aa cur.toList:=vE (by simpa using aCQ);have i1:=h.step (dF _ _ _) ht O (jH.bD (axU:=ue eG λk v1 l e=>by cases e) h.cd jV O (λ_ _=>rfl) (λi ver fr c pl2 hi arb arA=>⟨setRow_other w pl.b pl2.b _ (h.apart p5 hi arb arA),rfl⟩) (by
       refine⟨hz,?_⟩;show(match β id with
        |none=>(l.take A++m)=[]
        |some pl=>_)
       rw[hp];refine⟨_,k,setRow_heap w pl.b cur _ e (0,0) p1,by rw[List.size_toArray,boT];simpa using p2,by rw[bji];exact Va,p4,p5,?_,p7,?_⟩
       .rw[bji,gT];omega
       .rw[bji,show(dP cur.toList (A*I.size) news).toArray.toList=dP cur.toList (A*I.size) news from rfl];have e1:(dP cur.toList (A*I.size) news).take ((A+aa m)*I.size)=cur.toList.take (A*I.size)++news:=by
         unfold dP;have bc4:aa (cur.toList.take (A*I.size)++news)=(A+aa m)*I.size:=by rw[aj,axV,bjm,gT]
         rw[<-bc4];exact List.take_left
        rw[e1];exact(bR.append aX0 Hr).mono λ_ _ hx=>hx.mono O.mem))
      rw[<-L]at hr;refine fin _ _ hr ⟨g,β,i1.put o.dst ⟨_,?_,rfl⟩⟩;simp only[V];have vh:=fq s id (.obj (v+1) fr (.vec e I (l.take A++m))) jV;refine⟨_,_,rfl,Va,λ_=>rfl,⟨by show(s.bD id _).cH id≠aC;rw[vh];simp,λv' fr' c' hh=> ?_⟩,λ_=> ?_⟩
      .have hh':(s.bD id (.obj (v+1) fr (.vec e I (l.take A++m)))).cH id=aw (.obj v' fr' c'):=hh;rw[vh]at hh';simp only[cn,dR.obj.injEq]at hh';omega
      .show(match β id with
        |some pl=>_
        |none=>_)
       rw[hp];exact⟨λ_=>rfl,λ_ _=>rfl⟩
     .have bnk:(Builtin.firstCells i.size A (.slice (aw ⟨pl.b,0,aC⟩) A pl.cap)).run P w.drew= .ok (cur.toList.take (A*I.size)).toArray w.drew:=by
       refine run_firstCells_some (P:=P) w.drew i.size _ _ _ _ _ (by rw[axV,aUW]) (λj u hj=> ?_);rw[Addr.add_lit,aO];show w.cell? ⟨pl.b,j,aC⟩=aw u;rw[cell_of_row w pl.b j cur e (0,0) p1];rw[fS]at hj;split at hj
       .simpa using hj
       .cases hj
      obtain⟨cur2,cp,hr,q1,q2,q3,q4⟩:=grow (aw ⟨pl.b,0,aC⟩) A pl.cap (cur.toList.take (A*I.size)) (l.take A) L axV (by simp;omega) aX0 bnk aq K;have gF:pl.b < w.heap.size:=(dV.1 p1).1;have aXT:Trans w w.drew g (nX g pl.b .free):=by
       refine⟨rfl,rfl,⟨rfl,kW _⟩,ax _,λb' hb=> ?_⟩;by_cases beH:b'=pl.b
       .subst beH;rw[p5,lR];exact⟨.inl rfl,λ_ _ _ hh=>hh⟩
       .rw[my _ _ _ beH];exact(Trans.drew w g).aiW b' hb
      refine fin _ _ hr (fresh cur2 cp (nX g pl.b .free) (Trans.trans aXT (Trans.alloc w.drew _ _ _)) (λi ver fr c pl2 hi arb arA=>my _ _ _ (h.apart p5 hi arb arA)) q1 q2 q3 ?_ beQ);rw[q4];exact bR.append aX0 Hr
   .simp only[aG]at M
  .simp only[aG]at M
 .simp only[aG]at M
end
end Go.Ab
end
