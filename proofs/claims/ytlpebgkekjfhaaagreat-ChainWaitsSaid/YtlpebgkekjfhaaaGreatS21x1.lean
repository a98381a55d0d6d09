/-
  Made short by a program of mine (wip/tools/mini.py).
-/
import Derived.WalkKit
import Derived.KernelRfl
import Derived.OrdersIn
import Derived.LoopNIn
import Derived.TacticsIn
import Derived.RangeFuncCalls
import Derived.RangeFuncLeaves
import Derived.RangeFuncRecord
import Derived.MapKept
import Derived.ChangeMaps3
set_option linter.unusedVariables false
set_option linter.unusedSimpArgs false
set_option maxRecDepth 100000
set_option synthInstance.maxSize 5000
noncomputable section
namespace Go.Ab
theorem gq:type_of% @Array.ext':= @Array.ext'
theorem nq:type_of% @Array.ext_getElem?:= @Array.ext_getElem?
theorem cJ:type_of% @Array.getD_eq_getD_getElem?:= @Array.getD_eq_getD_getElem?
theorem jR:type_of% @Array.getElem?_append:= @Array.getElem?_append
theorem fp:type_of% @Array.getElem?_eq_getElem:= @Array.getElem?_eq_getElem
theorem bJ:type_of% @Array.getElem?_eq_some_iff:= @Array.getElem?_eq_some_iff
theorem gA:type_of% @Array.getElem?_modify:= @Array.getElem?_modify
theorem ea:type_of% @Array.getElem?_setIfInBounds:= @Array.getElem?_setIfInBounds
theorem iD:type_of% @Array.getElem?_toList:= @Array.getElem?_toList
theorem cO:type_of% @Array.length_toList:= @Array.length_toList
theorem bW:type_of% @Array.toList_append:= @Array.toList_append
theorem iY:type_of% @BitVec.ofInt_natCast:= @BitVec.ofInt_natCast
theorem nr:type_of% @BitVec.toNat_ofInt:= @BitVec.toNat_ofInt
theorem jJ:type_of% @BitVec.toNat_ofNat:= @BitVec.toNat_ofNat
theorem aj:type_of% @Bool.and_eq_true:= @Bool.and_eq_true
theorem iV:type_of% @Bool.eq_false_or_eq_true:= @Bool.eq_false_or_eq_true
theorem kB:type_of% @Bool.false_and:= @Bool.false_and
theorem cv:type_of% @Bool.false_eq_true:= @Bool.false_eq_true
theorem cC:type_of% @Bool.not_eq_true':= @Bool.not_eq_true'
theorem ia:type_of% @Bool.not_false:= @Bool.not_false
theorem dj:type_of% @Bool.not_true:= @Bool.not_true
theorem ix:type_of% @Bool.or_eq_true:= @Bool.or_eq_true
theorem ez:type_of% @Bool.true_and:= @Bool.true_and
theorem l7:type_of% @Int.emod_emod_of_dvd:= @Int.emod_emod_of_dvd
theorem fi:type_of% @Int.emod_eq_of_lt:= @Int.emod_eq_of_lt
theorem jK:type_of% @Int.emod_lt_of_pos:= @Int.emod_lt_of_pos
theorem jW:type_of% @Int.emod_nonneg:= @Int.emod_nonneg
theorem kS:type_of% @Int.le_refl:= @Int.le_refl
theorem oc:type_of% @Int.mul_emod:= @Int.mul_emod
theorem mu:type_of% @Int.natCast_emod:= @Int.natCast_emod
theorem jX:type_of% @Int.natCast_mul:= @Int.natCast_mul
theorem gM:type_of% @Int.natCast_nonneg:= @Int.natCast_nonneg
theorem jY:type_of% @Int.natCast_pow:= @Int.natCast_pow
theorem gg:type_of% @Int.pow_succ:= @Int.pow_succ
theorem j4:type_of% @Int.pow_zero:= @Int.pow_zero
theorem mw:type_of% @Int.sub_zero:= @Int.sub_zero
theorem jL:type_of% @Int.tdiv_eq_ediv_of_nonneg:= @Int.tdiv_eq_ediv_of_nonneg
theorem ig:type_of% @Int.tmod_eq_emod_of_nonneg:= @Int.tmod_eq_emod_of_nonneg
theorem aa:type_of% @Int.toNat_natCast:= @Int.toNat_natCast
theorem bN:type_of% @Int.toNat_zero:= @Int.toNat_zero
theorem l9:type_of% @List.Perm.refl:= @List.Perm.refl
theorem dv:type_of% @List.all_eq_true:= @List.all_eq_true
theorem jz:type_of% @List.any_cons:= @List.any_cons
theorem jl:type_of% @List.any_eq_false:= @List.any_eq_false
theorem aD:type_of% @List.append_assoc:= @List.append_assoc
theorem bS:type_of% @List.append_nil:= @List.append_nil
theorem ed:type_of% @List.cons.injEq:= @List.cons.injEq
theorem jF:type_of% @List.drop_append:= @List.drop_append
theorem gD:type_of% @List.drop_drop:= @List.drop_drop
theorem ax:type_of% @List.drop_eq_getElem_cons:= @List.drop_eq_getElem_cons
theorem jZ:type_of% @List.drop_left':= @List.drop_left'
theorem aZ:type_of% @List.drop_length:= @List.drop_length
theorem gh:type_of% @List.drop_of_length_le:= @List.drop_of_length_le
theorem od:type_of% @List.drop_take:= @List.drop_take
theorem aJ:type_of% @List.drop_zero:= @List.drop_zero
theorem bF:type_of% @List.eq_nil_of_length_eq_zero:= @List.eq_nil_of_length_eq_zero
theorem j5:type_of% @List.ext_getElem?:= @List.ext_getElem?
theorem jq:type_of% @List.filter_eq_self:= @List.filter_eq_self
theorem dx:type_of% @List.flatMap_cons:= @List.flatMap_cons
theorem my:type_of% @List.flatMap_nil:= @List.flatMap_nil
theorem jm:type_of% @List.flatten_cons:= @List.flatten_cons
theorem mz:type_of% @List.flatten_nil:= @List.flatten_nil
theorem bT:type_of% @List.foldl_cons:= @List.foldl_cons
theorem dR:type_of% @List.foldl_nil:= @List.foldl_nil
theorem kz:type_of% @List.getD_cons_zero:= @List.getD_cons_zero
theorem aA:type_of% @List.getD_eq_getElem?_getD:= @List.getD_eq_getElem?_getD
theorem fq:type_of% @List.getElem?_append_left:= @List.getElem?_append_left
theorem kD:type_of% @List.getElem?_cons_succ:= @List.getElem?_cons_succ
theorem fS:type_of% @List.getElem?_cons_zero:= @List.getElem?_cons_zero
theorem fW:type_of% @List.getElem?_drop:= @List.getElem?_drop
theorem cj:type_of% @List.getElem?_eq_getElem:= @List.getElem?_eq_getElem
theorem dM:type_of% @List.getElem?_eq_none:= @List.getElem?_eq_none
theorem dL:type_of% @List.getElem?_eq_some_iff:= @List.getElem?_eq_some_iff
theorem fj:type_of% @List.getElem?_map:= @List.getElem?_map
theorem eW:type_of% @List.getElem?_set_ne:= @List.getElem?_set_ne
theorem dp:type_of% @List.getElem?_take:= @List.getElem?_take
theorem aL:type_of% @List.getElem_mem:= @List.getElem_mem
theorem ae:type_of% @List.length_append:= @List.length_append
theorem aB:type_of% @List.length_cons:= @List.length_cons
theorem dy:type_of% @List.length_drop:= @List.length_drop
theorem cK:type_of% @List.length_map:= @List.length_map
theorem bn:type_of% @List.length_nil:= @List.length_nil
theorem dg:type_of% @List.length_replicate:= @List.length_replicate
theorem bQ:type_of% @List.length_take:= @List.length_take
theorem gr:type_of% @List.map_congr_left:= @List.map_congr_left
theorem bX:type_of% @List.map_cons:= @List.map_cons
theorem ij:type_of% @List.map_nil:= @List.map_nil
theorem bt:type_of% @List.mem_append:= @List.mem_append
theorem cX:type_of% @List.mem_cons:= @List.mem_cons
theorem aF:type_of% @List.mem_cons_of_mem:= @List.mem_cons_of_mem
theorem aH:type_of% @List.mem_cons_self:= @List.mem_cons_self
theorem nh:type_of% @List.mem_filter:= @List.mem_filter
theorem jS:type_of% @List.mem_iff_getElem?:= @List.mem_iff_getElem?
theorem eJ:type_of% @List.mem_map:= @List.mem_map
theorem dd:type_of% @List.mem_of_getElem?:= @List.mem_of_getElem?
theorem iZ:type_of% @List.mem_of_mem_take:= @List.mem_of_mem_take
theorem bI:type_of% @List.mem_singleton:= @List.mem_singleton
theorem aR:type_of% @List.nil_append:= @List.nil_append
theorem dI:type_of% @List.nodup_cons:= @List.nodup_cons
theorem ja:type_of% @List.nodup_nil:= @List.nodup_nil
theorem gB:type_of% @List.set_getElem_self:= @List.set_getElem_self
theorem dN:type_of% @List.singleton_append:= @List.singleton_append
theorem ik:type_of% @List.size_toArray:= @List.size_toArray
theorem mA:type_of% @List.take_append:= @List.take_append
theorem dO:type_of% @List.take_append_drop:= @List.take_append_drop
theorem jb:type_of% @List.take_append_of_le_length:= @List.take_append_of_le_length
theorem j2:type_of% @List.take_left':= @List.take_left'
theorem dh:type_of% @List.take_length:= @List.take_length
theorem bk:type_of% @List.take_of_length_le:= @List.take_of_length_le
theorem kE:type_of% @List.take_take:= @List.take_take
theorem eF:type_of% @List.take_zero:= @List.take_zero
theorem gb:type_of% @Nat.add_assoc:= @Nat.add_assoc
theorem eM:type_of% @Nat.add_mul:= @Nat.add_mul
theorem kZ:type_of% @Nat.add_sub_cancel:= @Nat.add_sub_cancel
theorem cF:type_of% @Nat.add_zero:= @Nat.add_zero
theorem fb:type_of% @Nat.eq_of_beq_eq_true:= @Nat.eq_of_beq_eq_true
theorem iK:type_of% @Nat.eq_zero_or_pos:= @Nat.eq_zero_or_pos
theorem eK:type_of% @Nat.le_of_ble_eq_true:= @Nat.le_of_ble_eq_true
theorem aw:type_of% @Nat.le_refl:= @Nat.le_refl
theorem j6:type_of% @Nat.le_trans:= @Nat.le_trans
theorem gE:type_of% @Nat.lt_irrefl:= @Nat.lt_irrefl
theorem nu:type_of% @Nat.lt_of_lt_of_le:= @Nat.lt_of_lt_of_le
theorem mC:type_of% @Nat.lt_or_ge:= @Nat.lt_or_ge
theorem gH:type_of% @Nat.min_eq_left:= @Nat.min_eq_left
theorem jG:type_of% @Nat.mod_eq_of_lt:= @Nat.mod_eq_of_lt
theorem mD:type_of% @Nat.mul_comm:= @Nat.mul_comm
theorem cY:type_of% @Nat.mul_le_mul_right:= @Nat.mul_le_mul_right
theorem j7:type_of% @Nat.mul_mod:= @Nat.mul_mod
theorem jA:type_of% @Nat.mul_one:= @Nat.mul_one
theorem iy:type_of% @Nat.one_mul:= @Nat.one_mul
theorem ma:type_of% @Nat.pow_add:= @Nat.pow_add
theorem jT:type_of% @Nat.sub_eq_zero_of_le:= @Nat.sub_eq_zero_of_le
theorem aI:type_of% @Nat.zero_add:= @Nat.zero_add
theorem aK:type_of% @Nat.zero_le:= @Nat.zero_le
theorem lf:type_of% @Nat.zero_mul:= @Nat.zero_mul
theorem dW:type_of% @Option.getD_some:= @Option.getD_some
theorem bY:type_of% @Option.isSome_iff_exists:= @Option.isSome_iff_exists
theorem fv:type_of% @Option.map_eq_some_iff:= @Option.map_eq_some_iff
theorem ee:type_of% @Option.map_some:= @Option.map_some
theorem ba:type_of% @Option.some.inj:= @Option.some.inj
theorem aq:type_of% @Option.some.injEq:= @Option.some.injEq
theorem cR:type_of% @Prod.mk.injEq:= @Prod.mk.injEq
theorem mM:type_of% @Quotient.exists_rep:= @Quotient.exists_rep
theorem jH:type_of% @Sum.getLeft?_inl:= @Sum.getLeft?_inl
theorem dX:type_of% @Sum.getRight?_inr:= @Sum.getRight?_inr
theorem kH:type_of% @Sum.isLeft_inl:= @Sum.isLeft_inl
theorem fe:type_of% @Sum.isLeft_inr:= @Sum.isLeft_inr
end Go.Ab
namespace Go.Ab
inductive Ty where
 |int (k:IntKind) | bool | str | slice (t:Ty) | unit | pair (a b:Ty) | arr (n:Nat) (t:Ty)
 |im (t:Ty)
 |oq (t:Ty)
 deriving DecidableEq,Inhabited
@[reducible] def Ty.den:Ty->Type
 | .int _=>Int
 | .bool=>Bool
 | .str=>ByteArray
 | .slice t=>List t.den
 | .unit=>Unit
 | .pair a b=>a.den×b.den
 | .arr _ t=>List t.den
 | .im t=>Option (List t.den)
 | .oq t=>Option t.den
def Ty.size:Ty->Nat
 | .unit=>0
 | .pair a b=>a.size+b.size
 | .arr n t=>n*t.size
 | .int _ | .bool | .str | .slice _ | .im _ | .oq _=>1
def Ty.agg:Ty->Bool
 | .unit | .pair _ _ | .arr _ _=>true
 | .int _ | .bool | .str | .slice _ | .im _ | .oq _=>false
def Ty.zero:(t:Ty)->t.den
 | .int _=>(0:Int)
 | .bool=>false
 | .str=>ByteArray.empty
 | .slice _=> []
 | .unit=>()
 | .pair a b=>(a.zero,b.zero)
 | .arr n t=>List.replicate n t.zero
 | .im _=>none
 | .oq _=>none
def Ty.comp:Ty->Bool
 | .slice _ | .im _ | .oq _=>false
 | .pair a b=>a.comp && b.comp
 | .arr _ t=>t.comp
 | .int _ | .bool | .str | .unit=>true
def lj{α:Type}(f:α->α->Bool):List α->List α->Bool
 |[],[]=>true
 |x::xs,y::ys=>f x y && lj f xs ys
 |_,_=>false
def Ty.beq:(t:Ty)->t.den->t.den->Bool
 | .int _,x,y=>(x:Int)==y
 | .bool,x,y=>(x:Bool)==y
 | .str,x,y=>(x:ByteArray).toList==(y:ByteArray).toList
 | .slice t,x,y=>lj t.beq x y
 | .unit,_,_=>true
 | .pair a b,x,y=>a.beq x.1 y.1 && b.beq x.2 y.2
 | .arr _ t,x,y=>lj t.beq x y
 | .im t,x,y=>lj t.beq (x.getD []) (y.getD [])
 | .oq _,_,_=>false
def oY(t t':Ty)(x:t.den):Option t'.den:=if h:t=t' then some (h▸x) else none
def CI:(a b:Ty)->Option (a.den->b.den)
 | .im t,.slice t'=>if h:t=t' then some λo=>cast (congrArg (λt:Ty=>List t.den) h) (o.getD []) else none
 | .slice t,.im t'=>if h:t=t' then some λl=>some (cast (congrArg (λt:Ty=>List t.den) h) l) else none
 | .pair a b,.pair c d=>match CI a c,CI b d with
  |some f,some k=>some λx=>(f x.1,k x.2)
  |_,_=>none
 | .slice a,.slice b=>match CI a b with
  |some f=>some (List.map f)
  |none=>none
 |a,b=>if h:a=b then some (cast (congrArg Ty.den h)) else none
def SE(a b:Ty)(x:a.den):b.den:=match CI a b with | some f=>f x | none=>b.zero
def uB(t t':Ty)(x:t.den):Option t'.den:=
 match oY t t' x with
 |some y=>some y
 |none=>match CI t t' with
  |some f=>some (f x)
  |none=>none
def nth(t:Ty)(l:List t.den)(i:Nat):t.den:=l.getD i t.zero
inductive Id where
 |aV (k:Nat)
 |new (site j:Nat)
 deriving DecidableEq,Inhabited
inductive vI where
 |fst | snd
 |idx (i:Nat)
 |arr
structure oX where
 y:Nat
 ps:Array Tmp
 as:Code
 b:Code
inductive av where
 |undef
 |gone
 |di | mO | pL | sx
 |d (t:Ty) (x:t.den)
 |pr (a b:av)
 |ptr (id:Id) (ver:Nat) (p:List vI) (n:Nat)
 |eD (t:Ty) (x:t.den)
 |aS (id:Id) (ver:Nat) (p:List vI) (c i len:Nat)
 |fn (f:FuncId) (caps:av)
 |cons (a b:av)
 |nil
 |vec (e:TypeId) (t:Ty) (l:List t.den)
 |sb (l:List Int)
 |bx (e:TypeId) (z:Nat) (c:av)
 |db (id:Id) (ver:Nat)
 |mp (k v:Ty) (l:List (k.den×v.den))
 |nH (q:Id) (ver:Nat) (k v:Ty) (rest:List (k.den×v.den)) (cur:Option (k.den×v.den))
 |yl (id:Id) (ver:Nat)
 |mr (c:oX) (frame:av) (p:Nat)
inductive dS where
 |dead
 |obj (ver:Nat) (fr:Bool) (c:av)
structure AS where
 cr:List av
 cz:List dS
 news:List (List dS)
def aT(n:Nat)(l:List av):List av:=List.replicate n .undef++l
def ct(n:Nat)(l:List (List dS)):List (List dS):=List.replicate n []++l
inductive Out(α:Type):Type 1 where
 |ok (a:α)
 |fail
 |oO (c:Bool) (r:Out α)
 |get {β:Type} (x:Option β) (f:β->Out α)
 |br (c:Bool) (a b:Out α)
def Out.eval{α:Type}:Out α->Option α
 | .ok a=>some a
 | .fail=>none
 | .oO c r=>match c with | true=>r.eval | false=>none
 | .get x f=>match x with | some y=>(f y).eval | none=>none
 | .br c a b=>match c with | true=>a.eval | false=>b.eval
def aP{α:Type}(c:Bool)(x y:Option α):Option α:=match c with | true=>x | false=>y
def ah{α β:Type}(x:Option α)(f:α->Option β):Option β:=match x with | some a=>f a | none=>none
def Out.run{α R:Type}:Out α->(α->Option R)->Option R
 | .ok a,k=>k a
 | .fail,_=>none
 | .oO c r,k=>aP c (r.run k) none
 | .get x f,k=>ah x λy=>(f y).run k
 | .br c a b,k=>aP c (a.run k) (b.run k)
def Out.bind{α β:Type}:Out α->(α->Out β)->Out β
 | .ok a,f=>f a
 | .fail,_=> .fail
 | .oO c r,f=> .oO c (r.bind f)
 | .get x g,f=> .get x λy=>(g y).bind f
 | .br c a b,f=> .br c (a.bind f) (b.bind f)
def Out.opt{α:Type}:Option α->Out α
 |some a=> .ok a
 |none=> .fail
def Out.guard{α:Type}(c:Bool)(r:Out α):Out α:=match c with | true=>r | false=> .fail
def av.size:av->Nat
 | .d t _=>t.size
 | .pr a b=>a.size+b.size
 |_=>1
def av.agg:av->Bool
 | .d t _=>t.agg
 | .pr _ _=>true
 |_=>false
def av.eX:av->Bool
 | .undef | .cons _ _ | .nil | .vec .. | .bx .. | .mp .. | .nH .. | .mr .. =>false
 |_=>true
def av.strip:av->av
 | .bx _ _ c=>c
 |c=>c
def av.wrap:av->av->av
 | .bx e z _,c=> .bx e z c
 |_,c=>c
def xE:av->av->av
 | .d a x,.d b y=> .d (.pair a b) (x,y)
 |a,b=> .pr a b
def ofConst:Value->av
 | .bool b=> .d .bool b
 | .int k n=> .d (.int k) n
 | .string s=> .d .str s
 | .slice none 0 0=> .di
 | .pointer none=> .mO
 | .nilFunc=> .pL
 | .map none=> .sx
 |_=> .undef
def AS.slot(s:AS)(i:Nat):av:=s.cr.getD i .undef
def AS.ev(s:AS):Operand->av
 | .tmp t=>s.slot t
 | .const v=>ofConst v
 | .func f=> .fn f .nil
 | .global _=> .undef
def AS.put(s:AS)(dst:Option Tmp)(v:av):AS:=
 match dst with
 |some t=> {s with cr:=s.cr.set t v}
 |none=>s
def AS.bZ(s:AS):Id->Option dS
 | .aV k=>s.cz[k]?
 | .new i j=>(s.news.getD i [])[j]?
def AS.aO(s:AS)(id:Id)(e:dS):AS:=
 match id with
 | .aV k=> {s with cz:=s.cz.set k e}
 | .new i j=> {s with news:=s.news.set i ((s.news.getD i []).set j e)}
def AS.ek(s:AS)(i:Nat):Bool:=match s.news[i]? with | some []=>true | _=>false
def AS.born(s:AS)(i:Nat)(es:List dS):AS:= {s with news:=s.news.set i es}
def AS.obj(s:AS)(id:Id):Option (Nat×Bool×av):=
 match s.bZ id with
 |some (.obj v f c)=>some (v,f,c)
 |_=>none
def Co(P:Program)(nl:Bool):Nat->TypeId->Option Ty
 | 0,_=>none
 |n+1,T=>
  match P.underlying T with
  |some (.int k)=>some (.int k)
  |some .bool=>some .bool
  |some .string=>some .str
  |some (.slice e)=>match Co P false n e with | some t=>some (match nl with | true=> .im t | false=> .slice t) | none=>none
  |some (.array k e)=>match Co P nl n e with | some t=>some (.arr k t) | none=>none
  |some (.pointer e)=>match Co P false n e with | some t=>some (.oq t) | none=>none
  |some (.struct fs)=>fs.toList.foldr (λf acc=>match Co P nl n f.type,acc with | some a,some b=>some (.pair a b) | _,_=>none) (some .unit)
  |_=>none
def Hk(P:Program):Nat->TypeId->Option Ty:=Co P false
def zeroOf(P:Program):Nat->TypeId->Option av
 | 0,_=>none
 |n+1,T=>
  match P.underlying T with
  |some (.int k)=>some (.d (.int k) (0:Int))
  |some .bool=>some (.d .bool false)
  |some .string=>some (.d .str ByteArray.empty)
  |some (.slice _)=>some .di
  |some (.pointer _)=>some .mO
  |some (.map _ _)=>some .sx
  |some (.func _ _ _)=>some .pL
  |some (.array k e)=>match Hk P n e with | some t=>some (.d (.arr k t) (List.replicate k t.zero)) | none=>none
  |some (.struct fs)=>fs.toList.foldr (λf acc=>match zeroOf P n f.type,acc with | some a,some b=>some (xE a b) | _,_=>none) (some (.d .unit ()))
  |_=>none
def depth:Nat:=12
def fits(P:Program)(T:TypeId)(v:av):Bool:=
 v.eX && (P.cellsOf T==v.size) &&
 (match P.underlying T with | some (.struct _)=>v.agg | some (.array _ _)=>v.agg | some _=> !v.agg | none=>false)
def lG:Nat->List vI
 | 0=> [.fst]
 |n+1=> .snd::lG n
def loc:av->List vI->Out (Nat×av)
 |c,[]=> .ok (0,c)
 |c,.arr::p=>loc c p
 | .pr a _,.fst::p=>loc a p
 | .pr a b,.snd::p=>(loc b p).bind λ(n,v)=> .ok (a.size+n,v)
 | .d (.pair a _) x,.fst::p=>loc (.d a x.1) p
 | .d (.pair a b) x,.snd::p=>(loc (.d b x.2) p).bind λ(n,v)=> .ok (a.size+n,v)
 | .d (.arr _ t) l,.idx i::p=> .oO (decide (i < (l:List t.den).length)) ((loc (.d t (nth t l i)) p).bind λ(n,v)=> .ok (i*t.size+n,v))
 | .vec _ t l,.idx i::p=> .oO (decide (i < l.length)) ((loc (.d t (nth t l i)) p).bind λ(n,v)=> .ok (i*t.size+n,v))
 |_,_::_=> .fail
def qw:av->List vI->av->Out av
 |c,.arr::p,v=>qw c p v
 | .vec ..,[],_=> .fail
 | .mp ..,[],_=> .fail
 | .nH ..,[],_=> .fail
 | .mr ..,[],_=> .fail
 |c,[],v=> .guard (v.eX && (c.size==v.size)) (.ok v)
 | .pr a b,.fst::p,v=>(qw a p v).bind λa'=> .ok (xE a' b)
 | .pr a b,.snd::p,v=>(qw b p v).bind λb'=> .ok (xE a b')
 | .d (.pair a b) x,.fst::p,v=>(qw (.d a x.1) p v).bind λa'=> .ok (xE a' (.d b x.2))
 | .d (.pair a b) x,.snd::p,v=>(qw (.d b x.2) p v).bind λb'=> .ok (xE (.d a x.1) b')
 | .d (.arr n t) l,.idx i::p,v=> .oO (decide (i < (l:List t.den).length)) ((qw (.d t (nth t l i)) p v).bind fun
   | .d t' y=>(Out.opt (oY t' t y)).bind λy=> .ok (.d (.arr n t) ((l:List t.den).set i y))
   |_=> .fail)
 | .vec e t l,.idx i::p,v=> .oO (decide (i < l.length)) ((qw (.d t (nth t l i)) p v).bind fun
   | .d t' y=>(Out.opt (oY t' t y)).bind λy=> .ok (.vec e t (l.set i y))
   |_=> .fail)
 |_,_::_,_=> .fail
def AS.row(s:AS)(id:Id)(ver:Nat)(p:List vI):Out (Nat×(t:Ty)×List t.den):=
 match s.obj id with
 |some (v,_,c)=> .guard (v==ver) ((loc c.strip p).bind fun
  | (n,.d (.arr _ t) l)=> .ok (n,⟨t,l⟩)
  | (n,.vec _ t l)=> .ok (n,⟨t,l⟩)
  |_=> .fail)
 |none=> .fail
def cut{α:Type}(l:List α)(i len:Nat):List α:=(l.drop i).take len
def AS.ji(s:AS):(t:Ty)->av->Out t.den
 |t,.d t' x=>Out.opt (uB t' t x)
 | .slice _,.di=> .ok []
 | .im _,.di=> .ok none
 | .slice t,.aS id ver p c i len=>(s.row id ver p).bind λr=> .oO (decide (r.1+i*r.2.1.size=c/\i+len<=r.2.2.length)) (Out.opt (uB (.slice r.2.1) (.slice t) (cut r.2.2 i len)))
 | .im t,.aS id ver p c i len=>(s.row id ver p).bind λr=> .oO (decide (r.1+i*r.2.1.size=c/\i+len<=r.2.2.length)) (Out.opt (uB (.slice r.2.1) (.im t) (cut r.2.2 i len)))
 | .pair a b,.pr x y=>(s.ji a x).bind λx=>(s.ji b y).bind λy=> .ok (x,y)
 |_,_=> .fail
def av.shared:av->List Id
 | .aS id _ _ _ _ _=> [id]
 | .pr a b=>a.shared++b.shared
 |_=> []
def AS.freeze(s:AS)(id:Id):AS:=
 match s.bZ id with
 |some (.obj v _ c)=>s.aO id (.obj v true c)
 |_=>s
def AS.bl(s:AS):List Id->AS
 |[]=>s
 |id::ids=>(s.freeze id).bl ids
end Go.Ab
namespace Go.Ab
def Mt{α:Type}(f:α->List Value->Option (List Value)):List α->List Value->Option (List Value)
 |[],cs=>some cs
 |x::xs,cs=>match f x cs with | some r=>Mt f xs r | none=>none
def qE:(t:Ty)->t.den->List Value->Option (List Value)
 | .int k,x,.int k' n::r=>match decide (k=k'),decide (n=(x:Int)) with | true,true=>some r | _,_=>none
 | .bool,x,.bool b::r=>match decide (b=(x:Bool)) with | true=>some r | false=>none
 | .str,x,.string s::r=>match decide (s=(x:ByteArray)) with | true=>some r | false=>none
 | .slice _,[],.slice none 0 0::r=>some r
 | .im _,none,.slice none 0 0::r=>some r
 | .oq _,none,.pointer none::r=>some r
 | .unit,_,r=>some r
 | .pair a b,x,r=>match qE a x.1 r with | some r'=>qE b x.2 r' | none=>none
 | .arr n t,l,r=>match decide ((l:List t.den).length=n) with | true=>Mt (qE t) l r | false=>none
 |_,_,_=>none
def zM:av->List Value->Option (List Value)
 | .d t x,r=>qE t x r
 | .di,.slice none 0 0::r=>some r
 | .mO,.pointer none::r=>some r
 | .pL,.nilFunc::r=>some r
 | .sx,.map none::r=>some r
 | .pr a b,r=>match zM a r with | some r'=>zM b r' | none=>none
 |_,_=>none
def nG:Value->Bool | .agg _=>true | _=>false
def Fa(P:Program)(T:TypeId)(z:av):Bool:=
 match P.info? T with
 |some i=>match i.zero with
  |some zv=>(match zM z zv.cells.toList with | some []=>true | _=>false) && (nG zv==z.agg)
  |none=>false
 |none=>false
structure gV where
 val:av
 cz:List dS
 news:List dS
structure Entry where
 params:List (Option Ty)
 X:Type
 run:List av->List dS->Option X
 out:List av->List dS->X->gV
 sp:X->Out X:= .ok
 NL:∀x y,(sp x).eval=some y->y=x:=by exact λx y h=>(ba h).symm
abbrev mR:=FuncId->List av->Option Entry
def av.ids:av->List Id
 | .ptr id _ _ _=> [id]
 | .aS id _ _ _ _ _=> [id]
 | .pr a b=>a.ids++b.ids
 | .cons a b=>a.ids++b.ids
 | .fn _ c=>c.ids
 | .bx _ _ c=>c.ids
 | .db id _=> [id]
 | .yl id _=> [id]
 | .mr _ f _=>f.ids
 | .nH id _ _ _ _ _=> [id]
 |_=> []
def dS.ids:dS->List Id
 | .obj _ _ c=>c.ids
 | .dead=> []
def AS.reach(s:AS):Nat->List Id->List Id->List Id
 | 0,_,acc=>acc
 |_+1,[],acc=>acc
 |n+1,id::todo,acc=>if acc.contains id then s.reach n todo acc else s.reach n (((s.bZ id).getD .dead).ids++todo) (acc++ [id])
def idxOf(id:Id):List Id->Option Nat
 |[]=>none
 |x::xs=>if x=id then some 0 else(idxOf id xs).map (· +1)
def av.iW(ρ:Id->Nat->Option (Id×Nat)):av->av
 | .ptr id ver p n=>match ρ id ver with | some r=> .ptr r.1 r.2 p n | none=> .gone
 | .aS id ver p c i len=>match ρ id ver with | some r=> .aS r.1 r.2 p c i len | none=> .gone
 | .pr a b=> .pr (a.iW ρ) (b.iW ρ)
 | .cons a b=> .cons (a.iW ρ) (b.iW ρ)
 | .fn f c=> .fn f (c.iW ρ)
 | .bx e z c=> .bx e z (c.iW ρ)
 | .db id ver=>match ρ id ver with | some r=> .db r.1 r.2 | none=> .gone
 | .yl id ver=>match ρ id ver with | some r=> .yl r.1 r.2 | none=> .gone
 | .mr k f p=> .mr k (f.iW ρ) p
 | .nH id _ k v rest cur=> .nH id 0 k v rest cur
 |v=>v
def AS.pT(s:AS)(ids:List Id)(id:Id)(ver:Nat):Option (Id×Nat):=
 match idxOf id ids,s.obj id with
 |some k,some (v,_,_)=>if v=ver then some (.aV k,0) else none
 |_,_=>none
def AS.lr(s:AS)(ids:List Id)(id:Id):dS:=
 match s.bZ id with
 |some (.obj _ fr c)=> .obj 0 fr (c.iW (s.pT ids))
 |_=> .dead
def AS.sj(s:AS)(id:Id):Nat:=match s.obj id with | some (v,_,_)=>v | none=>0
def Qa(ids:List Id)(dst:Nat):Id->Id
 | .aV k=>ids.getD k (.aV 0)
 | .new _ j=> .new dst j
def AS.pf(s:AS)(ids:List Id)(dst:Nat):Id->Nat->Option (Id×Nat)
 | .aV k,v=>match ids[k]? with | some id=>some (id,s.sj id+v) | none=>none
 | .new _ j,v=>some (.new dst j,v)
def AS.nA(s:AS)(ids:List Id)(dst:Nat)(ver:Nat):dS->dS
 | .obj v fr c=> .obj (ver+v) fr (c.iW (s.pf ids dst))
 | .dead=> .dead
def AS.conv(s:AS):List (Option Ty)->List av->Out (List av×List Id)
 |[],[]=> .ok ([],[])
 |some t::ps,v::vs=>(s.ji t v).bind λx=>(s.conv ps vs).bind λr=> .ok (.d t x::r.1,v.shared++r.2)
 |none::ps,v::vs=>(s.conv ps vs).bind λr=> .ok (v::r.1,r.2)
 |_,_=> .fail
def AS.jy(s0:AS)(all:List Id)(dst:Nat)(s:AS):List Id->List dS->AS
 |id::ids,e::es=>AS.jy s0 all dst (s.aO id (s0.nA all dst (s0.sj id) e)) ids es
 |_,_=>s
def av.list:av->List av
 | .cons a b=>a::b.list
 |_=> []
def AS.made(s:AS)(ids:List Id)(t:Nat):List dS->AS
 |[]=>s
 |e::es=>s.born t ((e::es).map (s.nA ids t 0))
def AS.back(s:AS)(ids:List Id)(dst:Option Tmp)(g:gV):Out AS:=
 match dst with
 |some t=> .guard ((g.cz.length==ids.length) && (g.news.isEmpty || s.ek t))
   (.ok ((AS.jy s ids t (s.made ids t g.news) ids g.cz).put dst (g.val.iW (s.pf ids t))))
 |none=> .guard ((g.cz.length==ids.length) && g.news.isEmpty) (.ok (AS.jy s ids 0 s ids g.cz))
def AS.JE(s:AS)(vs:List av):List Id:=s.reach 64 (vs.flatMap av.ids) []
def AS.A9(s:AS)(id:Id):Bool:=match s.obj id with | some (_,true,.mp ..)=>false | _=>true
def AS.enter(s:AS)(en:Entry)(dst:Option Tmp)(ids:List Id)(vs:List av):Out AS:=
 .guard (ids.all λid=>(s.obj id).isSome && s.A9 id)
  (.get (en.run (vs.map (av.iW (s.pT ids))) (ids.map (s.lr ids))) λx=>(en.sp x).bind λx=>s.back ids dst (en.out (vs.map (av.iW (s.pT ids))) (ids.map (s.lr ids)) x))
def AS.call(s:AS)(en:Entry)(dst:Option Tmp)(vs:List av):Out AS:=
 (s.conv en.params vs).bind λr=>(s.bl r.2).enter en dst ((s.bl r.2).JE r.1) r.1
def dY(op:BinOp)(k:IntKind)(x y:Int):Int:=
 match op with
 | .and=>k.wrap ((BitVec.ofInt k.bits x &&& BitVec.ofInt k.bits y).toNat)
 | .or=>k.wrap ((BitVec.ofInt k.bits x ||| BitVec.ofInt k.bits y).toNat)
 | .xor=>k.wrap ((BitVec.ofInt k.bits x^^^BitVec.ofInt k.bits y).toNat)
 |_=>k.wrap ((BitVec.ofInt k.bits x &&& ~~~BitVec.ofInt k.bits y).toNat)
def MU(op:BinOp)(k:IntKind)(x:Int)(k':IntKind)(y:Int):Out av:=
 match op with
 | .shl=> .oO (decide (0<=y)) (.ok (.d (.int k) (k.wrap (x*2^(min y.toNat k.bits)))))
 | .shr=> .oO (decide (0<=y)) (.ok (.d (.int k) (x.fdiv (2^(min y.toNat k.bits)))))
 |_=> .guard (decide (k=k')) (match op with
  | .add=> .ok (.d (.int k) (k.wrap (x+y)))
  | .sub=> .ok (.d (.int k) (k.wrap (x - y)))
  | .mul=> .ok (.d (.int k) (k.wrap (x*y)))
  | .quo=> .oO (!(decide (y=0))) (.ok (.d (.int k) (k.wrap (x.tdiv y))))
  | .rem=> .oO (!(decide (y=0))) (.ok (.d (.int k) (x.tmod y)))
  | .eql=> .ok (.d .bool (x==y))
  | .neq=> .ok (.d .bool (x !=y))
  | .lss=> .ok (.d .bool (decide (x < y)))
  | .leq=> .ok (.d .bool (decide (x<=y)))
  | .gtr=> .ok (.d .bool (decide (x > y)))
  | .geq=> .ok (.d .bool (decide (x>=y)))
  |op=> .ok (.d (.int k) (dY op k x y)))
def NP(op:BinOp)(x y:ByteArray):Out av:=
 match op with
 | .add=> .oO (decide (((x.size+y.size:Nat):Int)<=IntKind.i64.max)) (.ok (.d .str (x++y)))
 | .eql=> .ok (.d .bool (x.toList==y.toList))
 | .neq=> .ok (.d .bool (!(x.toList==y.toList)))
 | .lss=> .ok (.d .bool (Op.bytesLess x.toList y.toList))
 | .geq=> .ok (.d .bool (!(Op.bytesLess x.toList y.toList)))
 |_=> .fail
def wI(P:Program)(T:TypeId)(b:Bool):Bool:=
 match P.underlying T with | some (.struct _)=>b | some (.array _ _)=>b | some _=> !b | none=>false
def wB(P:Program)(oO:TypeId->Ty->Bool):List Field->Ty->Nat->Bool
 |[],.unit,_=>true
 |f::fs,.pair a b,off=> !(f.name== "_") && (f.offset==off) && !(a.size==0) && (P.cellsOf f.type==a.size) && wI P f.type a.agg && oO f.type a && wB P oO fs b (off+a.size)
 |_,_,_=>false
def nO(P:Program):Nat->TypeId->Ty->Bool
 | 0,_,_=>false
 |n+1,T,t=>match P.underlying T,t with
  |some (.int _),.int _=>true
  |some .bool,.bool=>true
  |some .string,.str=>true
  |some (.array m e),.arr m' t'=>(m==m') && !(t'.size==0) && (P.cellsOf e==t'.size) && wI P e t'.agg && nO P n e t'
  |some (.struct fs),t=> !P.stoodInHeld T && wB P (nO P n) fs.toList t 0
  |_,_=>false
def rP(P:Program)(T:TypeId):av->av->Out Bool
 | .d t x,.d t' y=>(Out.opt (oY t' t y)).bind λy=> .guard ((t.agg && !P.eqGuardType P.depth T || decide (t= .bool)) && nO P depth T t) (.ok (t.beq x y))
 | .di,.di=> .guard (isSl P T) (.ok true)
 | .d (.slice t) l,.di=> .guard (isSl P T) (.oO (decide (0 < (l:List t.den).length)) (.ok false))
 | .di,.d (.slice t) l=> .guard (isSl P T) (.oO (decide (0 < (l:List t.den).length)) (.ok false))
 | .aS _ _ _ _ _ len,.di=> .guard (isSl P T) (.oO (decide (0 < len)) (.ok false))
 | .di,.aS _ _ _ _ _ len=> .guard (isSl P T) (.oO (decide (0 < len)) (.ok false))
 | .mO,.mO=> .guard (isPt P T) (.ok true)
 | .ptr ..,.mO=> .guard (isPt P T) (.ok false)
 | .mO,.ptr .. => .guard (isPt P T) (.ok false)
 | .d (.oq t) x,.mO=> .guard (isPt P T) (.ok (x:Option t.den).isNone)
 | .mO,.d (.oq t) x=> .guard (isPt P T) (.ok (x:Option t.den).isNone)
 | .pL,.pL=> .guard (isFn P T) (.ok true)
 | .fn ..,.pL=> .guard (isFn P T) (.ok false)
 | .pL,.fn .. => .guard (isFn P T) (.ok false)
 |_,_=> .fail
where
 isSl (P:Program) (T:TypeId):Bool:=match P.underlying T with | some (.slice _)=>true | _=>false
 isPt (P:Program) (T:TypeId):Bool:=match P.underlying T with | some (.pointer _)=>true | _=>false
 isFn (P:Program) (T:TypeId):Bool:=match P.underlying T with | some (.func _ _ _)=>true | _=>false
def QF(P:Program)(T:TypeId)(op:BinOp)(x y:av):Out av:=
 match x,y with
 | .d (.int k) a,.d (.int k') b=>MU op k a k' b
 | .d .str a,.d .str b=>NP op a b
 |x,y=>match op with
  | .eql=>(rP P T x y).bind λb=> .ok (.d .bool b)
  | .neq=>(rP P T x y).bind λb=> .ok (.d .bool (!b))
  |_=> .fail
def VA(op:UnOp)(x:av):Out av:=
 match op,x with
 | .not,.d .bool b=> .ok (.d .bool (!b))
 | .neg,.d (.int k) n=> .ok (.d (.int k) (k.wrap (0 - n)))
 | .xor,.d (.int k) n=> .ok (.d (.int k) (dY .xor k (if k.signed then -1 else k.max) n))
 |_,_=> .fail
def cD(s:ByteArray):List Int:=s.data.toList.map λb=>(b.toNat:Int)
def fy(l:List Int):ByteArray:=⟨(l.map λn=>UInt8.ofNat n.toNat).toArray⟩
def AS.ID(s:AS)(t:Ty)(v:av):Out t.den:=s.ji t v
def Mp(P:Program)(s:AS)(obj:Bool)(src dst:TypeId)(x:av):Out av:=
 match x,P.underlying dst,P.underlying src with
 | .d (.int _) n,some (.int k),some _=> .ok (.d (.int k) (k.wrap n))
 | .d .str a,some .string,some _=> .ok (.d .str a)
 | .d .str a,some (.slice e),some _=>match P.underlying e with
  |some (.int .u8)=>match obj with | true=> .ok (.sb (cD a)) | false=> .ok (.d (.slice (.int .u8)) (cD a))
  |_=> .fail
 |x,some .string,some (.slice e)=>match P.underlying e with
  |some (.int .u8)=>(s.ID (.slice (.int .u8)) x).bind λl=> .ok (.d .str (fy l))
  |_=> .fail
 |_,_,_=> .fail
def Mq(P:Program)(src dst:TypeId)(l:List Int):Out av:=
 match P.underlying dst,P.underlying src with
 |some (.slice e),some (.slice _)=>match P.underlying e with
  |some (.int .u8)=> .guard (src==dst) (.ok (.d (.slice (.int .u8)) l))
  |_=> .fail
 |_,_=> .fail
def Df(P:Program)(s:AS)(obj:Bool)(src dst:TypeId)(x:av):Out av:=
 match x with
 | .sb l=>Mq P src dst l
 |x=>Mp P s obj src dst x
def FL(P:Program)(s:AS)(d:Option Tmp)(src dst:TypeId)(id:Id)(ver len:Nat):Out AS:=
 match s.obj id,P.underlying dst with
 |some (v,false,.vec _ (.int .u8) l),some (.slice e)=>match P.underlying e with
  |some (.int .u8)=> .guard ((v==ver) && (src==dst)) (.oO (decide (0 < len/\len=(l:List Int).length)) (.ok ((s.aO id .dead).put d (.d (.slice (.int .u8)) l))))
  |_=> .fail
 |_,_=> .fail
def Dg(P:Program)(s:AS)(src dst:TypeId)(id:Id)(ver:Nat):Out av:=
 match s.obj id with
 |some (v,_,.bx e 0 c)=>match P.underlying src,P.underlying dst with
  |some (.pointer t),some .unsafePointer=> .guard ((v==ver) && !(P.cellsOf t==0) && !(c.size==0)) (.ok (.ptr id ver [] 0))
  |some .unsafePointer,some (.pointer u)=> .guard ((v==ver) && !(P.cellsOf u==0) && liesAt P P.depth e (c.size / P.cellsOf e) 0 u 1) (.ok (.ptr id ver [] 0))
  |_,_=> .fail
 |_=> .fail
def UA(P:Program)(T:TypeId):Bool:=match P.underlying T with | some (.pointer u)=>(P.info? u).isSome | _=>false
def SF(P:Program)(s:AS)(T:TypeId)(op:BinOp)(i:Id)(v:Nat)(j:Id)(w:Nat):Out av:=
 match s.obj i with
 |some (v',_,_)=> .guard (decide (i=j) && (v==w) && (v==v') && UA P T) (match op with | .eql=> .ok (.d .bool true) | .neq=> .ok (.d .bool false) | _=> .fail)
 |none=> .fail
def Hg(P:Program)(s:AS)(d:Option Tmp)(T:TypeId)(id:Id)(ver:Nat)(n:Int):Out AS:=
 match s.obj id,P.underlying T with
 |some (v,false,.vec e (.int .u8) l),some (.pointer u)=> .guard ((v==ver) && (u==e) && (P.cellsOf e==1))
   (.oO (decide (0 < n/\n<=((l:List Int).length:Int))) (.ok ((s.aO id .dead).put d (.d .str (fy ((l:List Int).take n.toNat))))))
 |_,_=> .fail
def asInt:av->Out Int
 | .d (.int _) n=> .ok n
 |_=> .fail
def bounds(s:AS)(n:Nat)(lo hi:Option Operand):Out (Nat×Nat):=
 (match hi with
  |some h=>(asInt (s.ev h)).bind λh=> .oO (decide (0<=h/\h<=(n:Int))) (.ok h.toNat)
  |none=> .ok n).bind λh=>
 (match lo with
  |some l=>(asInt (s.ev l)).bind λl=> .oO (decide (0<=l/\l<=(h:Int))) (.ok l.toNat)
  |none=> .ok 0).bind λl=> .ok (l,h)
def kc(P:Program)(T:TypeId):Option Nat:=
 match P.underlying T with
 |some (.array _ e)=>match P.cellsOf e with | 0=>none | z+1=>some (z+1)
 |some (.slice e)=>match P.cellsOf e with | 0=>none | z+1=>some (z+1)
 |_=>none
def qu(P:Program)(T:TypeId):Option Nat:=
 match P.underlying T with
 |some (.array n _)=>some n
 |_=>none
def u5(P:Program)(s:AS)(T:TypeId)(x:av)(lo hi:Option Operand):Out av:=
 match x with
 | .d .str a=> .guard (match P.underlying T with | some .string=>true | _=>false) ((bounds s a.size lo hi).bind λb=> .ok (.d .str (a.extract b.1 b.2)))
 | .d (.slice t) l=> .guard (match kc P T,qu P T with | some z,none=>z==t.size | _,_=>false)
   ((bounds s (l:List t.den).length lo hi).bind λb=> .ok (.d (.slice t) (cut l b.1 (b.2 - b.1))))
 | .di=> .guard (match kc P T,qu P T with | some _,none=>true | _,_=>false) ((bounds s 0 lo hi).bind λ_=> .ok .di)
 | .aS id ver p c i len=>(s.row id ver p).bind λr=> .guard (match kc P T,qu P T with | some z,none=>z==r.2.1.size | _,_=>false)
   ((bounds s len lo hi).bind λb=> .ok (.aS id ver p (c+b.1*r.2.1.size) (i+b.1) (b.2 - b.1)))
 | .ptr id ver p n=>(s.row id ver p).bind λr=> .guard (match kc P T,qu P T with | some z,some _=>z==r.2.1.size | _,_=>false)
   (.oO (decide (qu P T=some r.2.2.length/\r.1=n)) ((bounds s ((qu P T).getD 0) lo hi).bind λb=> .ok (.aS id ver (p++ [.arr]) (n+b.1*r.2.1.size) b.1 (b.2 - b.1))))
 | .eD (.arr n t) l=> .guard (match kc P T,qu P T with | some z,some m=>(z==t.size) && (m==n) | _,_=>false)
   ((bounds s n lo hi).bind λb=> .ok (.d (.slice t) (cut l b.1 (b.2 - b.1))))
 |_=> .fail
def O4:av->Int
 | .d (.slice t) l=>((l:List t.den).length:Int)
 | .aS _ _ _ _ _ len=>(len:Int)
 | .di=>0
 |_=> -1
def FN:Option Operand->av->av
 |some _,.aS id ver p c i len=> .aS id ver (p++ [.arr]) c i len
 |_,v=>v
def yd(P:Program)(s:AS)(T:TypeId)(x:av)(lo:Option Operand)(h m:Operand):Out av:=
 (asInt (s.ev h)).bind λhv=>(asInt (s.ev m)).bind λmv=> .oO (decide (0<=hv/\hv<=mv/\mv<=O4 x)) ((u5 P s T x lo (some h)).bind λv=> .ok (FN (some m) v))
def nF(P:Program)(s:AS)(T:TypeId)(x:av)(i:Int):Out av:=
 match x with
 | .d (.slice t) l=> .guard (match kc P T,qu P T with | some z,none=>z==t.size | _,_=>false)
   (.oO (decide (0<=i/\i < ((l:List t.den).length:Int))) (.ok (.eD t (nth t l i.toNat))))
 | .eD (.arr n t) l=> .guard (match kc P T,qu P T with | some z,some m=>(z==t.size) && (m==n) | _,_=>false)
   (.oO (decide (0<=i/\i < (n:Int))) (.ok (.eD t (nth t l i.toNat))))
 | .aS id ver p c j len=>(s.row id ver p).bind λr=> .guard (match kc P T,qu P T with | some z,none=>z==r.2.1.size | _,_=>false)
   (.oO (decide (0<=i/\i < (len:Int))) (.ok (.ptr id ver (p++ [.idx (j+i.toNat)]) (c+i.toNat*r.2.1.size))))
 | .ptr id ver p n=> .guard (match kc P T,qu P T with | some _,some _=>true | _,_=>false)
   (.oO (decide (0<=i/\i < (((qu P T).getD 0:Nat):Int))) (.ok (.ptr id ver (p++ [.idx i.toNat]) (n+i.toNat*(kc P T).getD 0))))
 |_=> .fail
def fieldInfo(P:Program)(T:TypeId)(f:Nat):Option (Nat×TypeId):=
 match P.underlying T with
 |some (.struct fs)=>match fs[f]? with | some x=>some (x.offset,x.type) | none=>none
 |_=>none
def partOf:av->Nat->Option (Nat×av)
 | .d (.pair a _) x,0=>some (0,.d a x.1)
 | .d (.pair a b) x,n+1=>match partOf (.d b x.2) n with | some (o,v)=>some (a.size+o,v) | none=>none
 | .pr a _,0=>some (0,a)
 | .pr a b,n+1=>match partOf b n with | some (o,v)=>some (a.size+o,v) | none=>none
 |_,_=>none
def tn(P:Program)(T:TypeId)(x:av)(f:Nat):Out av:=
 match fieldInfo P T f with
 |some (o,ft)=> .guard (!(P.cellsOf ft==0)) (match x with
  | .ptr id ver p n=> .ok (.ptr id ver (p++lG f) (n+o))
  | .eD t x=>match partOf (.d t x) f with
   |some (o',.d t' y)=> .guard (o==o') (.ok (.eD t' y))
   |_=> .fail
  | .d (.oq t) x=> .get (x:Option t.den) λx=>match partOf (.d t x) f with
   |some (o',.d t' y)=> .guard (o==o') (.ok (.eD t' y))
   |_=> .fail
  |_=> .fail)
 |none=> .fail
def Er(P:Program)(T:TypeId)(x:av)(f:Nat):Out av:=
 match fieldInfo P T f,partOf x f with
 |some (o,ft),some (o',v)=> .guard ((o==o') && fits P ft v) (.ok v)
 |_,_=> .fail
def EF(P:Program)(T:TypeId)(x:av)(i:Int):Out av:=
 match x,P.underlying T with
 | .d (.arr n t) l,some (.array m e)=> .guard ((n==m) && fits P e (.d t t.zero)) (.oO (decide (0<=i/\i < (n:Int))) (.ok (.d t (nth t l i.toNat))))
 | .d .str a,some .string=> .oO (decide (0<=i/\i < (a.size:Int))) (.ok (.d (.int .u8) ((a.data.toList.getD i.toNat 0).toNat:Int)))
 |_,_=> .fail
def RO:av->Out av
 | .d (.im t) l=> .oO (l:Option (List t.den)).isNone (.ok .di)
 |v=> .ok v
def xC(P:Program)(s:AS)(T:TypeId)(x:av):Out av:=
 match x with
 | .ptr id ver p n=>match s.obj id with
  |some (v,_,c)=> .guard (v==ver) ((loc c.strip p).bind λr=> .guard (fits P T r.2) (.oO (decide (r.1=n)) (RO r.2)))
  |none=> .fail
 | .eD t y=> .guard (fits P T (.d t y)) (.ok (.d t y))
 | .d (.oq t) y=> .get (y:Option t.den) λy=> .guard (fits P T (.d t y)) (.ok (.d t y))
 |_=> .fail
def u6(P:Program)(s:AS)(T:TypeId)(x v:av):Out AS:=
 match x with
 | .ptr id ver p n=>match s.obj id with
  |some (ve,fr,c)=> .guard ((ve==ver) && !fr && fits P T v) ((loc c.strip p).bind λr=> .guard (fits P T r.2) (.oO (decide (r.1=n)) ((qw c.strip p v).bind λc'=> .ok (s.aO id (.obj ve fr (c.wrap c'))))))
  |none=> .fail
 |_=> .fail
def O3(P:Program)(T:TypeId)(x:av):Out av:=
 match P.underlying T,x with
 |some .string,.d .str a=> .ok (.d (.int .i64) (a.size:Int))
 |some (.slice _),.d (.slice t) l=> .ok (.d (.int .i64) ((l:List t.den).length:Int))
 |some (.slice _),.di=> .ok (.d (.int .i64) (0:Int))
 |some (.slice _),.aS _ _ _ _ _ len=> .ok (.d (.int .i64) (len:Int))
 |some (.array n _),_=> .ok (.d (.int .i64) (n:Int))
 |_,_=> .fail
def uQ(P:Program)(s:AS)(t:Ty)(X:TypeId)(x:av):Out (List t.den):=
 match x with
 | .d .str a=>match P.underlying X with
  |some .string=>Out.opt (oY (.slice (.int .u8)) (.slice t) (cD a))
  |_=> .fail
 |x=>match P.underlying X with
  |some (.slice _)=>s.ID (.slice t) x
  |_=> .fail
def dZ(n b:Nat):Bool:=decide (n*b<=140737488355328/\n<=9223372036854775807)
def tm(P:Program)(nl:Bool)(T:TypeId):Option (TypeId×Ty×Nat):=
 match P.underlying T with
 |some (.slice e)=>match Co P nl depth e with
  |some t=>match(P.cellsOf e==t.size) && !(t.size==0) && Fa P e (.d t t.zero) with | true=>some (e,t,P.bytesOf e) | false=>none
  |none=>none
 |_=>none
def z7(P:Program)(T:TypeId):Option (TypeId×Ty×Nat):=tm P false T
def El(P:Program)(T:TypeId):Option (TypeId×Ty×Nat):=
 match Nat.ble 100000 T with
 |true=>tm P true (T - 100000)
 |false=>tm P false T
def F4(P:Program)(s:AS)(dst:Option Tmp)(T X:TypeId)(n:Int):Out AS:=
 match z7 P T,dst,P.underlying X with
 |some (e,t,b),some q,some (.int _)=> .guard (s.ek q) (.oO (decide (0 < n) && dZ n.toNat b)
   (.ok ((s.born q [.obj 0 false (.vec e t (List.replicate n.toNat t.zero))]).put dst (.aS (.new q 0) 0 [] 0 0 n.toNat))))
 |_,_,_=> .fail
def KX(mx:Bool):List av->Out av
 |[.d (.int k) x,.d (.int k') y]=> .guard (decide (k=k')) (.ok (.d (.int k) (match mx with | true=>(if x < y then y else x) | false=>(if y < x then y else x))))
 |[.d (.int k) x,.d (.int k') y,.d (.int k2) z]=> .guard (decide (k=k') && decide (k=k2)) (.ok (.d (.int k) (match mx with | true=>(if(if x < y then y else x) < z then z else(if x < y then y else x)) | false=>(if z < (if y < x then y else x) then z else(if y < x then y else x)))))
 |_=> .fail
def qA(P:Program)(s:AS)(nl dt:Bool)(dst:Option Tmp)(T X:TypeId)(x y:av):Out AS:=
 match tm P nl T,dst with
 |some (e,t,b),some q=>(uQ P s t X y).bind λm=>
  match x with
  | .di=>match dt with
   |true=> .oO (dZ m.length b && decide (0 < m.length)) (.ok (s.put dst (.d (.im t) (some m))))
   |false=> .guard (s.ek q) (.oO (dZ m.length b) (.ok ((s.born q [.obj 0 false (.vec e t m)]).put dst (.aS (.new q 0) 0 [] 0 0 m.length))))
  | .aS id ver [] 0 0 len=>match s.obj id with
   |some (v,fr,.vec e' t' l)=> .guard ((v==ver) && (e==e')) ((Out.opt (oY (.slice t') (.slice t) l)).bind λl=>
     .oO (decide (len<=l.length)) <| .oO ((!fr) || decide (len=l.length)) (.oO (dZ (len+m.length) b)
      (.ok ((s.aO id (.obj (v+1) fr (.vec e t (l.take len++m)))).put dst (.aS id (v+1) [] 0 0 (len+m.length))))))
   |_=> .fail
  |_=> .fail
 |_,_=> .fail
def Ay(P:Program)(s:AS)(dst:Option Tmp)(T X:TypeId)(x y:av):Out AS:=
 match z7 P T,x with
 |some (_,t,_),.aS id ver [.arr] 0 0 len=>(uQ P s t X y).bind λm=>match s.obj id with
  |some (ve,false,.d (.arr n t') l)=> .guard ((ve==ver) && (len==n)) ((Out.opt (oY (.slice t') (.slice t) l)).bind λl=> .oO (decide (m.length<=n))
    (.ok ((s.aO id (.obj ve false (.d (.arr n t) (m++(l:List t.den).drop m.length)))).put dst (.d (.int .i64) (m.length:Int)))))
  |_=> .fail
 |_,_=> .fail
def jt(t:Ty)(s:AS):List (Nat×Operand)->List t.den->Out (List t.den×List Id)
 |[],l=> .ok (l,[])
 | (i,x)::ps,l=> .guard (decide (i < l.length)) ((s.ji t (s.ev x)).bind λy=>(jt t s ps (l.set i y)).bind λr=> .ok (r.1,(s.ev x).shared++r.2))
def mH(P:Program)(fs:Array Field)(s:AS):List (Nat×Operand)->av->Out av
 |[],v=> .ok v
 | (i,x)::ps,v=>match fs[i]?,partOf v i with
  |some f,some (o,aV)=> .guard ((f.offset==o) && fits P f.type aV && fits P f.type (s.ev x)) ((qw v (lG i) (s.ev x)).bind λv'=>mH P fs s ps v')
  |_,_=> .fail
def uA(P:Program)(s:AS)(dst:Option Tmp)(T:TypeId)(parts:List (Nat×Operand)):Out AS:=
 match P.underlying T with
 |some (.struct fs)=>match zeroOf P depth T with
  |some z=> .guard (Fa P T z && z.agg && fs.toList.all λf=>(P.info? f.type).isSome)
    ((mH P fs s parts z).bind λv=> .ok (s.put dst v))
  |none=> .fail
 |some (.array n e)=>match Hk P depth e with
  |some t=> .guard ((P.cellsOf e==t.size) && Fa P T (.d (.arr n t) (List.replicate n t.zero))) ((jt t s parts (List.replicate n t.zero)).bind λr=> .ok ((s.bl r.2).put dst (.d (.arr n t) r.1)))
  |none=> .fail
 |_=> .fail
def kU(P:Program)(s:AS)(nl obj:Bool)(dst:Option Tmp)(T:TypeId)(n:Nat)(parts:List (Nat×Operand)):Out AS:=
 match tm P nl T,dst with
 |some (e,t,_),some q=> .guard (decide (n*t.size<=16777216)) ((jt t s parts (List.replicate n t.zero)).bind λr=>
   match obj with
   |true=> .guard (s.ek q) (.ok (((s.bl r.2).born q [.obj 0 false (.vec e t r.1)]).put dst (.aS (.new q 0) 0 [] 0 0 r.1.length)))
   |false=> .ok ((s.bl r.2).put dst (.d (.slice t) r.1)))
 |_,_=> .fail
def nJ(P:Program)(s:AS)(dst:Option Tmp)(T:TypeId)(len cap:Int):Out AS:=
 match z7 P T,dst with
 |some (e,t,b),some q=> .guard (s.ek q) (.oO (decide (0<=len/\len<=cap) && dZ cap.toNat b)
   (.ok ((s.born q [.obj 0 false (.vec e t (List.replicate len.toNat t.zero))]).put dst (.aS (.new q 0) 0 [] 0 0 len.toNat))))
 |_,_=> .fail
def Pr(P:Program)(T:TypeId):Bool:=
 match P.underlying T with
 |some (.struct fs)=>fs.toList.any λf=>match P.underlying f.type with | some (.pointer u)=>decide (u=T) | _=>false
 |_=>false
def boxed(P:Program)(T:TypeId)(z:av):av:=match Pr P T with | true=> .bx T 0 z | false=>z
def QG(dt:Bool)(t:Ty)(x:t.den):av:=match dt with | true=> .d (.oq t) (some x) | false=> .eD t x
def FA(P:Program)(s:AS)(obj dt:Bool)(dst:Option Tmp)(T:TypeId)(v:av):Out AS:=
 match dst with
 |some q=>match obj with
  |true=> .guard (s.ek q && fits P T v) (.ok ((s.born q [.obj 0 false v]).put dst (.ptr (.new q 0) 0 [] 0)))
  |false=>match Hk P depth T with
   |some t=> .guard (fits P T (.d t t.zero)) ((s.ji t v).bind λx=> .ok ((s.bl v.shared).put dst (QG dt t x)))
   |none=> .fail
 |none=> .fail
def wW(P:Program)(s:AS)(dst:Option Tmp)(T:TypeId)(x:av):Out AS:=
 match P.underlying T with
 |some (.array n e)=>match Hk P depth e with
  |some t=> .guard ((P.cellsOf e==t.size) && !(n==0) && !(t.size==0)) ((s.ji (.slice t) x).bind λl=> .oO (decide (n<=(l:List t.den).length)) (.ok ((s.bl x.shared).put dst (.eD (.arr n t) (l.take n)))))
  |none=> .fail
 |_=> .fail
def nw(s:AS):List Operand->av
 |[]=> .nil
 |x::xs=> .cons (s.ev x) (nw s xs)
def qY:av->Bool
 | .cons a b=>a.eX && qY b
 | .nil=>true
 |_=>false
def JP(c a b:av):Out av:=
 match c with
 | .d .bool c=>match a,b with
  | .d .bool x,.d .bool y=> .ok (.d .bool (bif c then x else y))
  |a,b=> .br c (.ok a) (.ok b)
 |_=> .fail
def isObj(bK:List Nat):Option Tmp->Bool
 |some q=>bK.any λx=>decide (x=q)
 |none=>false
def KL(bK:List Nat)(dst:Option Tmp):Bool:=isObj bK (dst.map (· +100000))
def Ig(bK:List Nat)(dst:Option Tmp):Bool:=isObj bK (dst.map (· +200000))
def mQ:(t:Ty)->av->Out t.den
 |t,.d t' x=>Out.opt (oY t' t x)
 | .slice _,.di=> .ok []
 | .pair a b,.pr x y=>(mQ a x).bind λx=>(mQ b y).bind λy=> .ok (x,y)
 |_,_=> .fail
def mapOf(P:Program)(T:TypeId):Option (TypeId×TypeId×Ty×Ty):=
 match P.underlying T with
 |some (.map K V)=>match Hk P depth K,Hk P depth V with
  |some kt,some vt=>match nO P depth K kt && Fa P V (.d vt vt.zero) with | true=>some (K,V,kt,vt) | false=>none
  |_,_=>none
 |_=>none
def iS{β:Type}(kt:Ty)(x:kt.den):List (kt.den×β)->Option Nat
 |[]=>none
 |p::l=>match kt.beq x p.1 with | true=>some 0 | false=>(iS kt x l).map (· +1)
def dG{β:Type}(kt:Ty)(x:kt.den)(l:List (kt.den×β)):Option β:=(iS kt x l).bind λi=>(l[i]?).map (·.2)
def iT{β:Type}(kt:Ty)(x:kt.den)(v:β)(l:List (kt.den×β)):List (kt.den×β):=
 match iS kt x l with | some i=>l.set i (x,v) | none=>l++ [(x,v)]
def kf{β:Type}(kt:Ty)(x:kt.den)(l:List (kt.den×β)):List (kt.den×β):=
 match iS kt x l with | some i=>l.eraseIdx i | none=>l
def HO(k v k' v':Ty)(l:List (k.den×v.den)):Option (List (k'.den×v'.den)):=if h:k=k'/\v=v' then some (h.1▸h.2▸l) else none
def AS.oB(s:AS)(id:Id)(ver:Nat)(kt vt:Ty):Out (List (kt.den×vt.den)):=
 match s.obj id with
 |some (v,_,.mp k' v' l)=> .guard (v==ver) (Out.opt (HO k' v' kt vt l))
 |_=> .fail
def AS.oL(s:AS)(id:Id):Bool:=match s.obj id with | some (_,fr,_)=> !fr | none=>false
def Qe(vt:Ty)(ok:Bool)(r:Option vt.den):av:=
 match ok with
 |true=> .cons (.d vt (r.getD vt.zero)) (.cons (.d .bool r.isSome) .nil)
 |false=> .d vt (r.getD vt.zero)
def uP(P:Program)(s:AS)(dst:Option Tmp)(T:TypeId):Out AS:=
 match mapOf P T,dst with
 |some (_,_,kt,vt),some q=> .guard (s.ek q) (.ok ((s.born q [.obj 0 false (.mp kt vt [])]).put dst (.db (.new q 0) 0)))
 |_,_=> .fail
def tt(P:Program)(s:AS)(T:TypeId)(m k:av)(ok:Bool):Out av:=
 match mapOf P T,m with
 |some (_,_,kt,vt),.db id ver=>(s.oB id ver kt vt).bind λl=>(mQ kt k).bind λk=> .ok (Qe vt ok (dG kt k l))
 |_,_=> .fail
def tx(P:Program)(s:AS)(T:TypeId)(m k v:av):Out AS:=
 match mapOf P T,m with
 |some (_,_,kt,vt),.db id ver=>(s.oB id ver kt vt).bind λl=>(mQ kt k).bind λk=>(mQ vt v).bind λv=> .guard (s.oL id) (.ok (s.aO id (.obj ver false (.mp kt vt (iT kt k v l)))))
 |_,_=> .fail
def tw(P:Program)(s:AS)(T:TypeId)(m k:av):Out AS:=
 match mapOf P T,m with
 |some (_,_,kt,vt),.db id ver=>(s.oB id ver kt vt).bind λl=>(mQ kt k).bind λk=> .guard (s.oL id) (.ok (s.aO id (.obj ver false (.mp kt vt (kf kt k l)))))
 |_,_=> .fail
def AS.Gn(s:AS)(id:Id)(ver:Nat):Bool:=match s.obj id with | some (v,true,.mp ..)=>v==ver | _=>false
def dS.MW(q:Id):dS->Bool
 | .obj _ _ (.nH q' ver _ _ _ _)=>decide (q'=q) && !(ver==0)
 |_=>false
def AS.BT(s:AS)(q:Id):Bool:=s.cz.any (dS.MW q) || s.news.any λes=>es.any (dS.MW q)
def qO(kt vt:Ty)(l:List (kt.den×vt.den))(j:Nat):kt.den×vt.den:=l.getD j (kt.zero,vt.zero)
def IH(P:Program)(s:AS)(dst:Option Tmp)(T:TypeId)(m:av):Out AS:=
 match mapOf P T,m,dst with
 |some (_,_,kt,vt),.db id ver,some q=>(s.oB id ver kt vt).bind λl=> .guard (s.oL id && s.ek q)
   (.ok (((s.aO id (.obj ver true (.mp kt vt l))).born q [.obj 0 false (.nH id (ver+1) kt vt l none)]).put dst (.ptr (.new q 0) 0 [] 0)))
 |_,_,_=> .fail
structure J4 where
 i:Id
 v:Nat
 fr:Bool
 q:Id
 vr:Nat
 kt:Ty
 vt:Ty
 rest:List (kt.den×vt.den)
 cur:Option (kt.den×vt.den)
def AS.MV(s:AS)(x:av):Option J4:=
 match x with
 | .ptr i ver [] 0=>match s.obj i with
  |some (v,fr,.nH q (vr+1) kt vt rest cur)=>match v==ver,s.Gn q vr with
   |true,true=>some ⟨i,v,fr,q,vr,kt,vt,rest,cur⟩
   |_,_=>none
  |_=>none
 |_=>none
def HW(s:AS)(x:av):Out av:=
 match s.MV x with
 |some ⟨_,_,_,_,_,kt,vt,_,some c⟩=> .ok (.cons (.d kt c.1) (.cons (.d vt c.2) .nil))
 |_=> .fail
def AS.drawn(s:AS)(t:J4)(dst:Option Tmp)(j:Nat):AS:=
 (s.aO t.i (.obj t.v t.fr (.nH t.q (t.vr+1) t.kt t.vt (t.rest.eraseIdx j) (some (qO t.kt t.vt t.rest j))))).put dst
  (.cons (.d .bool true) (.cons (.d t.kt (qO t.kt t.vt t.rest j).1) (.cons (.d t.vt (qO t.kt t.vt t.rest j).2) .nil)))
def AS.unlock(s:AS)(id:Id):AS:=match s.obj id with | some (v,_,c)=>s.aO id (.obj v false c) | none=>s
def AS.Pk(s:AS)(t:J4)(dst:Option Tmp):Option AS:=
 match(s.aO t.i (.obj t.v t.fr (.nH t.q 0 t.kt t.vt [] none))).BT t.q with
 |false=>some (((s.aO t.i (.obj t.v t.fr (.nH t.q 0 t.kt t.vt [] none))).unlock t.q).put dst (.cons (.d .bool false) .nil))
 |true=>none
open Classical in
def OC{R:Type}(n:Nat)(k:Nat->Option R):Option R:=if h:∃r,0 < n/\∀j,j < n->k j=some r then some h.choose else none
open Classical in
def QO{X R:Type}(S:X->Prop)(k:X->Option R):Option R:=if h:∃r,(∃x,S x)/\∀x,S x->k x=some r then some h.choose else none
def Nf{R:Type}(s:AS)(dst:Option Tmp)(t:J4)(k:AS->Option R):Option R:=
 aP (decide (0 < t.rest.length)) (OC t.rest.length λj=>k (s.drawn t dst j)) (match s.Pk t dst with | some s'=>k s' | none=>none)
def yB:Nat:=4294967296
def mN(P:Program)(Γ:mR)(bK:List Nat)(o:Oper)(s:AS):Out AS:=
 match o.op with
 | .move x=> .ok (s.put o.dst (s.ev x))
 | .assign x=> .ok (s.put o.dst (s.ev x))
 | .pick c a b=>(JP (s.ev c) (s.ev a) (s.ev b)).bind λv=> .ok (s.put o.dst v)
 | .alloc T=>match zeroOf P depth T,o.dst with
  |some z,some q=> .guard (s.ek q && Fa P T z) (.ok ((s.born q [.obj 0 false (boxed P T z)]).put o.dst (.ptr (.new q 0) 0 [] 0)))
  |_,_=> .fail
 | .box T x=>FA P s (isObj bK o.dst) (Ig bK o.dst) o.dst T (s.ev x)
 | .build T parts=>uA P s o.dst T parts.toList
 | .buildSlice T n parts=>kU P s (KL bK o.dst) (isObj bK o.dst) o.dst T n parts.toList
 | .load T x=>(xC P s T (s.ev x)).bind λv=> .ok (s.put o.dst v)
 | .store T x v=>(u6 P s T (s.ev x) (s.ev v)).bind λs'=> .ok (s'.put o.dst .undef)
 | .nilCheck x=>match s.ev x with
  | .ptr id v p n=> .ok (s.put o.dst (.ptr id v p n))
  | .eD t y=> .ok (s.put o.dst (.eD t y))
  | .d (.oq t) y=> .get (y:Option t.den) λy=> .ok (s.put o.dst (.eD t y))
  | .fn f c=> .ok (s.put o.dst (.fn f c))
  |_=> .fail
 | .binOp op T x y _=>match s.ev x,s.ev y with
  | .ptr i v [] 0,.ptr j w [] 0=>(SF P s T op i v j w).bind λv=> .ok (s.put o.dst v)
  |_,_=>(QF P T op (s.ev x) (s.ev y)).bind λv=> .ok (s.put o.dst v)
 | .unOp op _ x=>(VA op (s.ev x)).bind λv=> .ok (s.put o.dst v)
 | .convert src dst x=>match src==dst,s.ev x with
  |true,.aS id ver [] 0 0 len=>FL P s o.dst src dst id ver len
  |_,.ptr id ver [] 0=>(Dg P s src dst id ver).bind λv=> .ok (s.put o.dst v)
  |_,_=>(Df P s (isObj bK o.dst) src dst (s.ev x)).bind λv=> .ok (s.put o.dst v)
 | .sliceToArrayPointer T x=>wW P s o.dst T (s.ev x)
 | .makeFunc (.func f) first caps=> .guard (first.isEmpty && qY (nw s caps.toList)) (.ok (s.put o.dst (.fn f (nw s caps.toList))))
 | .makeSlice T l c=>(asInt (s.ev l)).bind λl=>(asInt (s.ev c)).bind λc=>nJ P s o.dst T l c
 | .slice T x lo hi none=>(u5 P s T (s.ev x) lo hi).bind λv=> .ok (s.put o.dst v)
 | .slice T x lo (some h) (some m)=>(yd P s T (s.ev x) lo h m).bind λv=> .ok (s.put o.dst v)
 | .fieldAddr T x f=>(tn P T (s.ev x) f).bind λv=> .ok (s.put o.dst v)
 | .field T x f=>(Er P T (s.ev x) f).bind λv=> .ok (s.put o.dst v)
 | .indexAddr T x i=>(asInt (s.ev i)).bind λi=>(nF P s T (s.ev x) i).bind λv=> .ok (s.put o.dst v)
 | .index T x i=>(asInt (s.ev i)).bind λi=>(EF P T (s.ev x) i).bind λv=> .ok (s.put o.dst v)
 | .extract x i=>(Out.opt ((s.ev x).list[i]?)).bind λv=> .ok (s.put o.dst v)
 | .makeMap T none=>uP P s o.dst T
 | .lookup T x i ok=>(tt P s T (s.ev x) (s.ev i) ok).bind λv=> .ok (s.put o.dst v)
 | .mapUpdate T m k x=>(tx P s T (s.ev m) (s.ev k) (s.ev x)).bind λs'=> .ok (s'.put o.dst .undef)
 | .call c=>match c.callee with
  | .builtin .delete=>match c.args.toList,c.argTypes.toList with
   |[m,k],[T,_]=>(tw P s T (s.ev m) (s.ev k)).bind λs'=> .ok (s'.put o.dst .nil)
   |_,_=> .fail
  | .builtin .copy=>match c.args.toList,c.argTypes.toList with
   |[x,y],[T,X]=>Ay P s o.dst T X (s.ev x) (s.ev y)
   |_,_=> .fail
  | .builtin .len=>match c.args.toList,c.argTypes.toList with
   |[x],[T]=>(O3 P T (s.ev x)).bind λv=> .ok (s.put o.dst v)
   |_,_=> .fail
  | .builtin .append=>match c.args.toList,c.argTypes.toList with
   |[x,y],[T,X]=>match s.ev x,s.ev y with
    | .di,.d (.int _) n=>F4 P s o.dst T X n
    |_,_=>qA P s (KL bK o.dst) (Ig bK o.dst) o.dst T X (s.ev x) (s.ev y)
   |_,_=> .fail
  | .builtin .cap=>match c.args.toList,c.argTypes.toList with
   |[x],[T]=>match s.ev x,P.underlying T with
    | .di,some (.slice _)=> .ok (s.put o.dst (.d (.int .i64) (0:Int)))
    |_,_=> .fail
   |_,_=> .fail
  | .builtin .max=>(KX true (c.args.toList.map s.ev)).bind λv=> .ok (s.put o.dst v)
  | .builtin .min=>(KX false (c.args.toList.map s.ev)).bind λv=> .ok (s.put o.dst v)
  | .builtin .unsafeSliceData=>match c.args.toList with
   |[x]=>match s.ev x with
    | .aS id ver [] 0 0 len=> .oO (decide (0 < len)) (.ok (s.put o.dst (.ptr id ver [.idx 0] 0)))
    |_=> .fail
   |_=> .fail
  | .builtin .unsafeString=>match c.args.toList,c.argTypes.toList with
   |[x,y],[T,_]=>match s.ev x,s.ev y with
    | .ptr id ver [.idx 0] 0,.d (.int .i64) n=>Hg P s o.dst T id ver n
    |_,_=> .fail
   |_,_=> .fail
  | .value f=>match s.ev f with
   | .fn f caps=>match Γ f (c.args.toList.map s.ev++caps.list) with
    |some en=> .guard (Nat.blt f yB) (s.call en o.dst (c.args.toList.map s.ev++caps.list))
    |none=> .fail
   |_=> .fail
  |_=> .fail
 |_=> .fail
def Al(xs:Array Operand):List Nat:=xs.toList.filterMap λ | .tmp t=>some t | _=>none
def yK(ops:Array Oper)(o:Oper):List Nat:=
 match o.guard with
 |some (j,_)=>match(ops[j]?).bind (·.dst) with | some t=> [t] | none=> []
 |none=> []
def OK{R:Type}(P:Program)(Γ:mR)(bK:List Nat)(ops:Array Oper)(o:Oper)(s:AS)(k:AS->Option R):Option R:=
 match o.guard with
 |none=>(mN P Γ bK o s).run k
 |some (j,want)=>match(ops[j]?).bind (·.dst) with
  |some q=>match s.slot q with
   | .d .bool b=>match want with
    |true=>aP b ((mN P Γ bK o (s.put (some q) (.d .bool true))).run k) (k ((s.put (some q) (.d .bool false)).put o.dst .nil))
    |false=>aP b (k ((s.put (some q) (.d .bool true)).put o.dst .nil)) ((mN P Γ bK o (s.put (some q) (.d .bool false))).run k)
   | .nil=>k (s.put o.dst .nil)
   |_=>none
  |none=>none
def BH(s:AS)(x y:Operand):Option Nat:=
 match s.ev x,s.ev y with
 | .d (.slice t) l,.di=>some (l:List t.den).length
 | .di,.d (.slice t) l=>some (l:List t.den).length
 | .aS _ _ _ _ _ len,.di=>some len
 | .di,.aS _ _ _ _ _ len=>some len
 |_,_=>none
open Classical in
def nd{R:Type}(x y:Option R):Option R:=if x=y then x else none
def zD:Code->List (Array Tmp×Code×Code)
 | .seq a b=>zD a++zD b
 | .cond _ a b=>zD a++zD b
 | .block _ b=>zD b
 | .scope b=>zD b
 | .loop b=>zD b
 | .rangeFunc _ ps as b=> [(ps,as,b)]
 |_=> []
def Xb(fn:Func)(i y:Nat):oX:=match fn.body with
 |some c=>match(zD c)[i]? with
  |some x=>⟨y,x.1,x.2.1,x.2.2⟩
  |none=>⟨y,#[],.skip,.skip⟩
 |none=>⟨y,#[],.skip,.skip⟩
def ln(P:Program)(y:Nat):oX:=match P.funcs[y%yB / 16]? with
 |some fn=>Xb fn (y%16) y
 |none=>⟨y,#[],.skip,.skip⟩
open Classical in
def same{R:Type}(c c':oX)(x:Option R):Option R:=if c=c' then x else none
def AS.yielded(s:AS)(F:av)(n:Nat):Option (Id×Nat×oX×av):=
 match F with
 | .yl id ver=>match s.obj id with
  |some (v,false,.mr c f 0)=>match v==ver && n==c.ps.size && Nat.ble yB c.y with
   |true=>some (id,ver,c,f)
   |false=>none
  |_=>none
 |_=>none
def OL{R:Type}(P:Program)(Γ:mR)(bK:List Nat)(ops:Array Oper)(o:Oper)(s:AS)(k:AS->Option R):Option R:=
 match o.guard,o.op with
 |none,.binOp .eql T x y _=>match BH s x y,rP.isSl P T with
  |some n,true=>aP (decide (0 < n)) (k (s.put o.dst (.d .bool false))) (nd (k (s.put o.dst (.d .bool true))) (k (s.put o.dst (.d .bool false))))
  |_,_=>OK P Γ bK ops o s k
 |none,.binOp .neq T x y _=>match BH s x y,rP.isSl P T with
  |some n,true=>aP (decide (0 < n)) (k (s.put o.dst (.d .bool true))) (nd (k (s.put o.dst (.d .bool true))) (k (s.put o.dst (.d .bool false))))
  |_,_=>OK P Γ bK ops o s k
 |none,.range T m=>(IH P s o.dst T (s.ev m)).run k
 |none,.entry x=>((HW s (s.ev x)).bind λv=> .ok (s.put o.dst v)).run k
 |none,.next x false=>match s.MV (s.ev x) with
  |some t=>Nf s o.dst t k
  |none=>none
 |none,.call c=>match c.callee with
  | .value F=>match s.yielded (s.ev F) c.args.size with
   |some (id,ver,rc,f)=>match Γ rc.y (.yl id ver::(c.args.toList.map s.ev++f.list)) with
    |some en=>same rc (ln P rc.y) ((s.call en o.dst (.yl id ver::(c.args.toList.map s.ev++f.list))).run k)
    |none=>none
   |none=>OK P Γ bK ops o s k
  |_=>OK P Γ bK ops o s k
 |_,_=>OK P Γ bK ops o s k
def seen{α R:Type}(l:List α):(List α->R)->R:=List.rec (motive:=λ_=>(List α->R)->R) (λk=>k []) (λx _ ih k=>ih λl'=>k (x::l')) l
theorem xW{α R:Type}:∀(l:List α) (k:List α->R),seen l k=k l
 |[],_=>rfl
 |_::l,k=>xW l _
def AS.seen{R:Type}(s:AS)(k:AS->R):R:=Go.Ab.seen s.cr λl=>k ⟨l,s.cz,s.news⟩
theorem AS.xW{R:Type}(s:AS)(k:AS->R):s.seen k=k s:=Go.Ab.xW _ _
def OM{R:Type}(P:Program)(Γ:mR)(bK:List Nat)(ops:Array Oper):List Oper->AS->(AS->Option R)->Option R
 |[],s,k=>k s
 |o::l,s,k=>OL P Γ bK ops o s λs'=>s'.seen λs'=>OM P Γ bK ops l s' k
def Eb(acc:List Nat)(o:Oper):Nat:=(o.after.toList.filter (Region.binds .any)).foldr (λe m=>Nat.lor (Nat.lor (Nat.pow 2 e.on) (acc.getD e.on 0)) m) 0
def Fv(ops:List Oper):List Nat:=ops.foldl (λacc o=>acc++ [Eb acc o]) []
structure uu where
 dst:Option Tmp
 cr:List Nat
 rs:List Id
 ws:List Id
def DA:Op->Bool
 | .move _=>true
 |_=>false
def GJ(s:AS)(o:Oper):List Id:=match DA o.op with | true=> [] | false=>(Al o.op.operands).flatMap λi=>(s.slot i).ids
def px:List (Option Ty)->List av->List Id
 |none::ps,v::vs=>v.ids++px ps vs
 |some _::ps,_::vs=>px ps vs
 |_,_=> []
def writes(Γ:mR)(s:AS)(o:Oper):List Id:=
 match o.op with
 | .store _ x _=>(s.ev x).ids
 | .mapUpdate _ m _ _=>(s.ev m).ids
 | .convert src dst x=>match src==dst with | true=>(s.ev x).ids | false=> []
 | .call c=>match c.callee with
  | .builtin .append=>match c.args.toList with | x::_=>(s.ev x).ids | []=> []
  | .builtin .delete=>match c.args.toList with | x::_=>(s.ev x).ids | []=> []
  | .builtin .copy=>match c.args.toList with | x::_=>(s.ev x).ids | []=> []
  | .builtin .unsafeString=>match c.args.toList with | x::_=>(s.ev x).ids | []=> []
  | .value F=>match s.ev F with
   | .fn f caps=>match Γ f (c.args.toList.map s.ev++caps.list) with
    |some en=>s.reach 64 (px en.params (c.args.toList.map s.ev++caps.list)) []
    |none=> []
   |_=> []
  |_=> []
 |_=> []
def gS(Γ:mR)(ops:Array Oper)(s:AS)(o:Oper):uu:=
 {dst:=o.dst,cr:=Al o.op.operands++yK ops o,rs:=GJ s o++writes Γ s o,ws:=writes Γ s o}
def meets(xs ys:List Id):Bool:=xs.any λx=>ys.any λy=>decide (x=y)
def uu.TT(f g:uu):Bool:=
 match f.dst with
 |some t=>(g.cr.any λx=>decide (x=t)) || decide (g.dst=some t)
 |none=>false
def B7(d:Option Tmp)(ids:List Id):Bool:=
 match d with
 |some q=>ids.any λx=>match x with | .new i _=>decide (i=q) | .aV _=>false
 |none=>false
def uu.indep(f g:uu):Bool:= !f.TT g && !g.TT f && !meets f.ws g.rs && !meets g.ws f.rs && !B7 f.dst g.rs && !B7 g.dst f.rs
def Dt{R:Type}(P:Program)(Γ:mR)(bK:List Nat)(ops:Array Oper)(anc:List Nat):Nat->List Oper->List (Nat×uu)->AS->(AS->Option R)->Option R
 |_,[],_,s,k=>k s
 |i,o::l,fs,s,k=>
  match fs.all λx=>(anc.getD i 0).testBit x.1 || x.2.indep (gS Γ ops s o) with
  |true=>OK P Γ bK ops o s λs'=>s'.seen λs'=>Dt P Γ bK ops anc (i+1) l ((i,gS Γ ops s o)::fs) s' k
  |false=>none
def Ek(ops:List Oper):Bool:=ops.zipIdx.all λx=>x.1.after.toList.all λe=> !Region.binds .any e || decide (e.on < x.2)
structure Oo where
 j:Nat
 p:List vI
 q:Nat
 T:TypeId
structure U1 where
 j:Nat
 p:List vI
 t:Ty
structure mB where
 bo:List Nat:=[]
 sites:List Nat:=[]
 Jq:List Id:=[]
 data:List (Nat×Ty):=[]
 owns:List Oo:=[]
 Az:List U1:=[]
 Up:List Nat:=[]
 QM:List Id:=[]
 XH:List Nat:=[]
 Yl:List Nat:=[]
 SD:List (Nat×Nat):=[]
structure eE where
 X:Type
 run:AS->Option X
 out:X->Out (Exit×AS)
 set:Option (AS->X->Prop):=none
structure J5 where
 an:mB
 X:Type
 Vp:Exit->AS->Option X
 out:X->Out (Exit×AS)
 ok:∀e s x,Vp e s=some x->(out x).eval=some (e,s)
structure rN where
 bK:List Nat:=[]
 loops:Nat->mB:=λ_=> {}
 outs:Nat->Bool->mB:=λ_ _=> {}
 iX:Nat->Option eE:=λ_=>none
 owns:List Oo:=[]
 trim:List Nat:=[]
 res:List (Option Ty):=[]
 Az:List U1:=[]
 Uq:Nat->Option J5:=λ_=>none
 Ur:Nat->Option J5:=λ_=>none
 rf:Nat->Option (Nat×List Nat):=λ_=>none
 oH:Option Nat:=none
 SD:List (Nat×Nat):=[]
def ei:Code->Nat
 | .region id _ _=>id
 | .seq a _=>ei a
 | .block _ b=>ei b
 | .loop b=>ei b
 | .scope b=>ei b
 |_=>0
def eT(bo:List Nat):Nat->List av->List av
 |_,[]=> []
 |i,v::vs=>(match bo.any (λx=>decide (x=i)) with | true=>v | false=> .undef)::eT bo (i+1) vs
def lI(bo:List Nat):Nat->List (List dS)->List (List dS)
 |_,[]=> []
 |i,v::vs=>(match bo.any (λx=>decide (x=i)) with | true=>v | false=> [])::lI bo (i+1) vs
def av.head:av->Option (Id×Nat)
 | .aS id ver [] 0 0 _=>some (id,ver)
 | .ptr id ver [] 0=>some (id,ver)
 |_=>none
def xQ(es:List dS)(b q:Nat)(i:Id)(ver:Nat):Option (Id×Nat):=
 match i with
 | .aV k=>some (.aV k,ver)
 | .new x j=>match decide (x=b) with
  |true=>(match es[j]? with | some (.obj v _ _)=>(match ver==v with | true=>some (.new q j,0) | false=>none) | _=>none)
  |false=>(match decide (x=q) with | true=>none | false=>some (.new x j,ver))
def dS.Pq(ρ:Id->Nat->Option (Id×Nat)):dS->dS
 | .obj _ fr c=> .obj 0 fr (c.iW ρ)
 | .dead=> .dead
def av.RX(ρ:Id->Nat->Option (Id×Nat))(kp:Id->Bool):av->av
 | .nH q ver k v rest cur=>match kp q with | true=> .nH q ver k v rest cur | false=> .nH q 0 k v rest cur
 |c=>c.iW ρ
def dS.CX(ρ:Id->Nat->Option (Id×Nat))(kp:Id->Bool):dS->dS
 | .obj v fr c=> .obj v fr (c.RX ρ kp)
 | .dead=> .dead
def vn(b q:Nat):Id->Bool | .aV _=>true | .new x _=> !decide (x=b) && !decide (x=q)
def AS.uX(s:AS)(b q:Nat)(es:List dS):AS:=
 {cr:=s.cr.map (av.iW (xQ es b q)),cz:=s.cz.map (dS.CX (xQ es b q) (vn b q)),
  news:=((s.news.map λes'=>es'.map (dS.CX (xQ es b q) (vn b q))).set b []).set q (es.map (dS.Pq (xQ es b q)))}
def AS.at(s:AS)(j:Nat):List vI->Out av
 |[]=> .ok (s.slot j)
 |p=>match s.slot j with
  | .ptr id ver p0 _=>match s.obj id with
   |some (v,_,c)=> .guard (v==ver) ((loc c.strip (p0++p)).bind λr=> .ok r.2)
   |none=> .fail
  |_=> .fail
def AS.putAt(s:AS)(j:Nat)(v:av):List vI->Out AS
 |[]=> .ok (s.put (some j) v)
 |p=>match s.slot j with
  | .ptr id _ p0 _=>match s.obj id with
   |some (ver,fr,c)=>match c.strip with
    | .vec .. => .fail
    |c1=>(qw c1 (p0++p) v).bind λc'=> .ok (s.aO id (.obj ver fr (c.wrap c')))
   |none=> .fail
  |_=> .fail
def AS.still(s:AS):List Nat->AS
 |[]=>s
 |q::l=>(match s.obj (.new q 0) with | some (v,fr,.nH i ver k t r _)=>s.aO (.new q 0) (.obj v fr (.nH i ver k t r none)) | _=>s).still l
def DN(α:Type):Setoid (List α):=⟨List.Perm,l9,List.Perm.symm,List.Perm.trans⟩
def iM{α:Type}(l:List α):List α:=(mM (Quotient.mk (DN α) l)).choose
def AS.canon(s:AS):List Id->AS
 |[]=>s
 |id::l=>(match s.obj id with | some (v,fr,.mp k t r)=>s.aO id (.obj v fr (.mp k t (iM r))) | _=>s).canon l
def zb(s:AS):List U1->Out AS
 |[]=> .ok s
 |o::l=>match o.p,s.slot o.j with
  |_::_,.mO=>zb s l
  |_,_=>(s.at o.j o.p).bind λu=>(s.ji o.t u).bind λx=>((s.bl u.shared).putAt o.j (.d o.t x) o.p).bind λs'=>zb s' l
def xl:(t:Ty)->t.den->Out av
 | .im t,x=> .oO (x:Option (List t.den)).isNone (.ok .di)
 | .pair a b,x=>(xl a x.1).bind λu=>(xl b x.2).bind λv=> .ok (xE u v)
 |t,x=> .ok (.d t x)
def Kv(s:AS):List Nat->Out AS
 |[]=> .ok s
 |j::l=>match s.slot j with
  | .ptr id ver (.idx k::p) n=>match s.obj id with
   |some (v,false,.vec e t r)=> .guard (v==ver) (.oO (decide (k < r.length)) ((xl t (nth t r k)).bind λu=>
     Kv ((s.aO id (.obj v false (.bx e t.size (.pr (.d (.arr k t) (r.take k)) (.pr u (.d (.arr (r.drop (k+1)).length t) (r.drop (k+1)))))))).put (some j) (.ptr id ver (.snd:: .fst::p) n)) l))
   |_=> .fail
  | .ptr _ _ (.snd::_) _=>Kv s l
  |_=> .fail
def NX(s:AS):List Nat->Out AS
 |[]=> .ok s
 |j::l=>match s.slot j with
  | .ptr id ver (.snd:: .fst::p) n=>match s.obj id with
   |some (v,false,.bx e z (.pr (.d (.arr k t) l1) (.pr u (.d (.arr _ t') l2))))=> .guard ((v==ver) && (z==t.size) && !(z==0) && !(u.shared.any λi=>decide (i=id)))
     ((Out.opt (oY (.slice t') (.slice t) l2)).bind λl2=>(s.ji t u).bind λx=>
      NX (((s.bl u.shared).aO id (.obj v false (.vec e t (l1++x::l2)))).put (some j) (.ptr id ver (.idx k::p) n)) l)
   |_=> .fail
  |_=> .fail
def qP(P:Program)(s:AS):List Oo->Out AS
 |[]=> .ok s
 |o::l=>match o.p,s.slot o.j with
  |_::_,.mO=>qP P s l
  |_,_=>(s.at o.j o.p).bind λu=>match u with
  | .di=>match El P o.T,s.ek o.q with
   |some (e,t,_),true=>((s.born o.q [.obj 0 false (.vec e t [])]).putAt o.j (.aS (.new o.q 0) 0 [] 0 0 0) o.p).bind λs'=>qP P s' l
   |_,_=> .fail
  |u=>match u.head with
   |some (.new b j,ver)=>match s.obj (.new b j),decide (o.q < s.news.length) with
    |some (v,_,_),true=>match v==ver with
     |true=>qP P (s.uX b o.q (s.news.getD b [])) l
     |false=> .fail
    |_,_=> .fail
   |_=> .fail
def D0(s:AS):List Nat->Out AS
 |[]=> .ok s
 |j::l=>match s.slot j with
  | .aS id ver [] 0 0 len=>match s.obj id with
   |some (v,false,.vec e t r)=>match v==ver with
    |true=> .oO (decide (len<=r.length)) (D0 (s.aO id (.obj v false (.vec e t (r.take len)))) l)
    |false=> .fail
   |_=> .fail
  |_=> .fail
def asData(s:AS):List (Nat×Ty)->Out AS
 |[]=> .ok s
 | (j,t)::l=>(s.ji t (s.slot j)).bind λx=>asData ((s.bl (s.slot j).shared).put (some j) (.d t x)) l
def av.there(s:AS):av->Bool
 | .ptr id _ _ _=>(s.obj id).isSome
 | .aS id _ _ _ _ _=>(s.obj id).isSome
 | .pr a b=>a.there s && b.there s
 | .cons a b=>a.there s && b.there s
 | .fn _ c=>c.there s
 | .bx _ _ c=>c.there s
 | .db id _=>(s.obj id).isSome
 | .yl id _=>(s.obj id).isSome
 | .mr _ f _=>f.there s
 | .nH .. =>false
 |_=>true
def dS.there(s:AS):dS->Bool
 | .obj _ _ (.nH id _ _ _ _ _)=>(s.obj id).isSome
 | .obj _ _ c=>c.there s
 | .dead=>true
def xy(an:mB)(s:AS):AS:= {cr:=eT an.bo 0 s.cr,cz:=s.cz,news:=lI an.sites 0 s.news}
def AS.Fo(s:AS):Bool:=(s.cr.all (av.there s)) && (s.cz.all (dS.there s)) && (s.news.all λes=>es.all (dS.there s))
def pG(k v n:Nat)(i:Id)(ver:Nat):Option (Id×Nat):=match i with
 | .aV j=>match Nat.beq j k with
  |true=>match Nat.beq ver v with | true=>some (.aV j,n) | false=>none
  |false=>some (.aV j,ver)
 |i=>some (i,ver)
def dS.IM(ρ:Id->Nat->Option (Id×Nat)):dS->dS
 | .obj v fr c=> .obj v fr (c.iW ρ)
 | .dead=> .dead
def AS.Mi(s:AS)(k n:Nat):Out AS:=match s.bZ (.aV k) with
 |some (.obj v fr c)=> .guard (Nat.ble v n || Nat.ble 1 n) (.ok {cr:=s.cr.map (av.iW (pG k v n)),cz:=(s.cz.map (dS.IM (pG k v n))).set k (.obj n fr (c.iW (pG k v n))),news:=s.news.map λes=>es.map (dS.IM (pG k v n))})
 |_=> .fail
def FF(s:AS):List (Nat×Nat)->Out AS
 |[]=> .ok s
 |x::l=>(s.Mi x.1 x.2).bind λs=>FF s l
def norm(P:Program)(an:mB)(s:AS):Out AS:=
 (FF s an.SD).bind λs=>(NX (((s.bl an.Jq).still an.Up).canon an.QM) an.Yl).bind λs=>(zb s an.Az).bind λs=>(asData s an.data).bind λs=> .guard (xy an s).Fo ((Kv (xy an s) an.XH).bind λs=>qP P s an.owns)
def zm{R:Type}(nrm:AS->Out AS)(nrmX:Exit->AS->Out AS)(body:AS->(Exit->AS->Option R)->Option R):Nat->AS->(Exit->AS->Option R)->Option R
 | 0,_,_=>none
 |n+1,s,k=>body s λe s'=>match e with
  | .normal=>(nrm s').run λs1=>zm nrm nrmX body n s1 k
  |e=>(nrmX e s').run (k e)
def Gg:Exit->Bool | .ret=>true | _=>false
def NY{R:Type}(le:eE)(s:AS)(k:Exit->AS->Option R):Option R:=
 match le.set with
 |none=>ah (le.run s) λx=>(le.out x).run λr=>k r.1 r.2
 |some S=>QO (S s) λx=>(le.out x).run λr=>k r.1 r.2
def yO{R:Type}(P:Program)(j:Option J5)(run: {R:Type}->(Exit->AS->Option R)->Option R)(k:Exit->AS->Option R):Option R:=
 match j with
 |none=>run k
 |some j=>ah (run λe s=>(norm P j.an s).run (j.Vp e)) λx=>(j.out x).run λr=>k r.1 r.2
def jr:List av->av
 |[]=> .nil
 |a::l=> .cons a (jr l)
def GY(P:Program)(h:FuncId):Bool:=match P.funcs[h]? with
 |some fn=> !(fn.name== "runtime.NumGoroutine") && fn.body.isSome
 |none=>false
def tG{R:Type}(P:Program)(Γ:mR)(an:rN)(s:AS)(f:Operand)(ps:Array Tmp)(as b:Code)(k:Exit->AS->Option R):Option R:=
 match an.oH,an.rf (ps.getD 0 0),s.ev f with
 |none,some (y,bo),.fn h caps=>match GY P h && s.ek (ps.getD 0 0) && Nat.blt (ps.getD 0 0) s.cr.length && Nat.blt h yB,Γ h (.yl (.new (ps.getD 0 0) 0) 0::caps.list) with
  |true,some en=>(((s.born (ps.getD 0 0) [.obj 0 false (.mr ⟨y,ps,as,b⟩ (jr (eT bo 0 s.cr)) 0)]).put (some (ps.getD 0 0)) (.yl (.new (ps.getD 0 0) 0) 0)).call en none (.yl (.new (ps.getD 0 0) 0) 0::caps.list)).run λs3=>
   match s3.bZ (.new (ps.getD 0 0) 0),s3.slot (ps.getD 0 0) with
   |some (.obj 0 false (.mr _ _ p)),.yl (.new q' 0) 0=>match Nat.beq q' (ps.getD 0 0),p with
    |true,0=>k .normal ((s3.aO (.new (ps.getD 0 0) 0) .dead).put (some (ps.getD 0 0)) .undef)
    |true,2=>k .ret ((s3.aO (.new (ps.getD 0 0) 0) .dead).put (some (ps.getD 0 0)) .undef)
    |true,i+3=>k (.exit i) ((s3.aO (.new (ps.getD 0 0) 0) .dead).put (some (ps.getD 0 0)) .undef)
    |_,_=>none
   |_,_=>none
  |_,_=>none
 |_,_,_=>none
def ev(P:Program)(Γ:mR)(an:rN)(N:Nat):Code-> {R:Type}->AS->(Exit->AS->Option R)->Option R
 | .skip,_,s,k=>k .normal s
 | .region id ops draw,_,s,k=>yO P (an.Uq id) (λk=>match draw with
  |true=>(match Ek ops.toList with
   |true=>Dt P Γ an.bK ops (Fv ops.toList) 0 ops.toList [] s λs'=>k .normal s'
   |false=>none)
  |false=>OM P Γ an.bK ops ops.toList s λs'=>k .normal s') k
 | .seq a b,_,s,k=>yO P (an.Ur (ei b)) (λk=>ev P Γ an N a s k) λe s'=>match e with | .normal=>ev P Γ an N b s' k | e=>k e s'
 | .cond c x y,_,s,k=>match s.ev c with
  | .d .bool b=>aP b (ev P Γ an N x s k) (ev P Γ an N y s k)
  |_=>none
 | .block id b,_,s,k=>ev P Γ an N b s λe s'=>match e with | .exit i=>(match decide (i=id) with | true=>k .normal s' | false=>k (.exit i) s') | e=>k e s'
 | .loop b,_,s,k=>(norm P (an.loops (ei b)) s).run λs1=>match an.iX (ei b) with
  |some le=>NY le s1 k
  |none=>zm (norm P (an.loops (ei b))) (λe=>norm P (an.outs (ei b) (Gg e))) (ev P Γ an N b) N s1 k
 | .scope b,_,s,k=>ev P Γ an N b s λe s'=>match e with | .goto _=>none | e=>k e s'
 | .label _,_,s,k=>k .normal s
 | .exit id,_,s,k=>k (.exit id) s
 | .ret,_,s,k=>k .ret s
 | .rangeFunc f ps as b,_,s,k=>tG P Γ an s f ps as b k
 |_,_,_,_=>none
def BZ(P:Program)(s:AS):ResultVar->Out av
 | .tmp t=> .ok (s.slot t)
 | .cell a T=>xC P s T (s.slot a)
def BY(P:Program)(s:AS)(r:ResultVar):Option Ty->Out (AS×av)
 |none=>(BZ P s r).bind λv=> .ok (s,v)
 |some t=>(BZ P s r).bind λv=>(s.ji t v).bind λx=> .ok (s.bl v.shared,.d t x)
def xT(P:Program)(s:AS):List ResultVar->List (Option Ty)->Out (AS×av)
 |[],_=> .ok (s,.nil)
 |r::rs,ts=>(BY P s r (ts.headD none)).bind λx=> .guard x.2.eX ((xT P x.1 rs ts.tail).bind λy=> .ok (y.1,.cons x.2 y.2))
def EY(P:Program)(fn:Func)(ts:List (Option Ty))(s:AS):Out (AS×av):=
 match fn.results.toList with
 |[r]=>BY P s r (ts.headD none)
 |rs=>xT P s rs ts
def ke:Code->List Code
 | .seq a b=>ke a++ke b
 | .cond _ a b=>ke a++ke b
 | .block _ b=>ke b
 | .scope b=>ke b
 | .loop b=>b::ke b
 |_=> []
def mf(fn:Func)(i:Nat):Code:=match fn.body with | some c=>(ke c).getD i .skip | none=> .skip
def uO(P:Program)(Γ:mR)(an:rN)(N:Nat)(fn:Func)(i:Nat){R:Type}(s:AS)(kn:AS->Option R)(kx:Exit->AS->Option R):Option R:=
 ev P Γ an N (mf fn i) s λe s'=>match e with
  | .normal=>(norm P (an.loops (ei (mf fn i))) s').run kn
  |e=>(norm P (an.outs (ei (mf fn i)) (Gg e)) s').run (kx e)
def zQ(P:Program)(Γ:mR)(an:rN)(N:Nat)(fn:Func)(i:Nat){R:Type}(n:Nat)(s:AS)(k:Exit->AS->Option R):Option R:=
 zm (norm P (an.loops (ei (mf fn i)))) (λe=>norm P (an.outs (ei (mf fn i)) (Gg e))) (ev P Γ an N (mf fn i)) n s k
def Id.Qd:Id->Bool | .new _ _=>true | .aV _=>false
def AS.yH(s:AS)(v:av):List Id:=(s.reach 64 (v.ids++s.cz.flatMap dS.ids) []).filter Id.Qd
def wD(ids:List Id):Id->Nat->Option (Id×Nat)
 | .aV k,v=>some (.aV k,v)
 |id,v=>match idxOf id ids with | some j=>some (.new 0 j,v) | none=>none
def dS.fin(ids:List Id):dS->dS
 | .obj v fr c=> .obj v fr (c.iW (wD ids))
 | .dead=> .dead
def AS.PN(s:AS)(ids:List Id)(v:av):gV:=
 {val:=v.iW (wD ids),cz:=s.cz.map (dS.fin ids),news:=ids.map λid=>((s.bZ id).getD .dead).fin ids}
def AS.fin(s:AS)(v:av):gV:=s.PN (s.yH v) v
def start(fn:Func)(args:List av)(cz:List dS):AS:=
 {cr:=args++List.replicate (fn.ntmps - args.length) .undef,cz,news:=List.replicate fn.ntmps []}
def NA(fn:Func):List Nat:=fn.results.toList.map λr=>match r with | .tmp t=>t | .cell a _=>a
def AS.drop(s:AS)(ks:List Nat):AS:= {cr:=eT ks 0 s.cr,cz:=s.cz,news:=s.news}
def finish(P:Program)(an:rN)(fn:Func)(s:AS):Out gV:=
 (zb s an.Az).bind λs=>(qP P (s.drop (NA fn)) an.owns).bind λs=>(D0 s an.trim).bind λs=>(FF s an.SD).bind λs=>(EY P fn an.res s).bind λr=> .ok (r.1.fin r.2)
def Sr(P:Program)(y:Nat):Func:= {(default:Func) with body:=some (.seq (ln P y).as (ln P y).b)}
def AS.yW(s:AS)(q p:Nat):Option AS:=match s.bZ (.aV 0) with
 |some (.obj 0 false (.mr c f q'))=>(match Nat.beq q q' with | true=>some (s.aO (.aV 0) (.obj 0 false (.mr c f p))) | false=>none)
 |_=>none
def qQ:List (Tmp×av)->List av->List av
 |[],l=>l
 |x::xs,l=>qQ xs (l.set x.1 x.2)
def Cb(ps:List Tmp)(args:List av)(cz:List dS):AS:=
 {cr:=qQ (ps.zip (args.take ps.length)) (args.drop ps.length),cz,news:=List.replicate (args.drop ps.length).length []}
def PM:Exit->Option Nat
 | .normal=>some 0
 | .ret=>some 2
 | .exit i=>some (i+3)
 |_=>none
def Jp(P:Program)(an:rN)(s:AS)(v:av):Out gV:=
 (zb s an.Az).bind λs=>(qP P (s.drop []) an.owns).bind λs=>(D0 s an.trim).bind λs=>(FF s an.SD).bind λs=> .ok (s.fin v)
def dS.first:dS->Bool
 | .obj v _ _=>Nat.beq v 0
 | .dead=>true
def NB(P:Program)(Γ:mR)(an:rN)(N:Nat)(c:oX)(args:List av)(cz:List dS){R:Type}(k:gV->Option R):Option R:=
 match args with
 | .yl (.aV 0) 0::args=>match cz.all dS.first with | false=>none | true=>ev P Γ an N c.as (Cb c.ps.toList args cz) λe s=>match e with
  | .normal=>ah (s.yW 0 1) λs=>ev P Γ an N c.b s λe s=>ah (PM e) λp=>ah (s.yW 1 p) λs=>(Jp P an s (.d .bool (Nat.beq p 0))).run k
  |_=>none
 |_=>none
def Ka(P:Program)(Γ:mR)(an:rN)(N:Nat)(fn:Func)(args:List av)(cz:List dS){R:Type}(k:gV->Option R):Option R:=
 match an.oH with
 |some y=>NB P Γ an N (ln P y) args cz k
 |none=>match fn.body with
 |some c=>match cz.all dS.first with | false=>none | true=>ev P Γ an N c (start fn args cz) λe s=>match e with
  | .normal=>(finish P an fn s).run k
  | .ret=>(finish P an fn s).run k
  |_=>none
 |none=>none
end Go.Ab
namespace Go.Ab
inductive Own where
 |eL
 |id (i:Id)
inductive kY where
 |free
 |own (o:Own) (k:Nat)
structure Pl where
 b:Nat
 cap:Nat
structure Env where
 w:World
 g:Nat->kY
 β:Id->Option Pl
 s:Id->Option dS
def oT(g:Nat->kY)(b off:Nat):Prop:=match g b with | .free=>True | .own _ k=>off < k
def Env.has(E:Env)(b off:Nat)(v:Value):Prop:=E.w.cell? ⟨b,off,none⟩=some v/\oT E.g b off
def bj{α:Type}(R:List Value->α->Prop):List Value->List α->Prop
 |cs,[]=>cs=[]
 |cs,x::xs=>∃c cs',cs=c++cs'/\R c x/\bj R cs' xs
def tS(E:Env)(a:Option Addr)(vs:List Value):Prop:=
 ∀i v,vs[i]? =some v->∃b off,a=some ⟨b,off,none⟩/\E.has b (off+i) v
def dm(E:Env):(t:Ty)->List Value->t.den->Prop
 | .int k,cs,x=>cs=[.int k x]
 | .bool,cs,x=>cs=[.bool x]
 | .str,cs,x=>cs=[.string x]
 | .slice t,cs,l=>∃a cap vs,cs=[.slice a (l:List t.den).length cap]/\(l:List t.den).length<=cap/\(0 < (l:List t.den).length->a.isSome=true)/\tS E a vs/\bj (dm E t) vs l
 | .unit,cs,_=>cs=[]
 | .pair a b,cs,x=>∃ca cb,cs=ca++cb/\dm E a ca x.1/\dm E b cb x.2
 | .arr n t,cs,l=>(l:List t.den).length=n/\bj (dm E t) cs l
 | .im t,cs,x=>((x:Option (List t.den))=none->cs=[.slice none 0 0])/\∀l:List t.den,(x:Option (List t.den))=some l->
   ∃a cap vs,cs=[.slice a l.length cap]/\l.length<=cap/\(0 < l.length->a.isSome=true)/\tS E a vs/\bj (dm E t) vs l
 | .oq t,cs,x=>((x:Option t.den)=none->cs=[.pointer none])/\∀y:t.den,(x:Option t.den)=some y->
   ∃b off vs,cs=[.pointer (some ⟨b,off,none⟩)]/\tS E (some ⟨b,off,none⟩) vs/\dm E t vs y
section
variable {α:Type} {R R':List Value->α->Prop} {z:Nat}
theorem bj.mono(h:∀c x,R c x->R' c x):∀ {cs:List Value} {l:List α},bj R cs l->bj R' cs l
 |_,[],hc=>hc
 |_,_::_,⟨c,cs',e,hx,hr⟩=>⟨c,cs',e,h _ _ hx,bj.mono h hr⟩
theorem bj.length(h:∀c x,R c x->c.length=z):∀ {cs:List Value} {l:List α},bj R cs l->cs.length=l.length*z
 |cs,[],hc=>by
  have:cs=[]:=hc
  simp[this]
 |_,x::xs,⟨c,cs',e,hx,hr⟩=>by
  rw[e,ae,h c x hx,bj.length h hr,aB,eM,iy,Nat.add_comm]
theorem bj.all{p:Value->Prop}(h:∀c x,R c x->∀v∈c,p v):∀ {cs:List Value} {l:List α},bj R cs l->∀v∈cs,p v
 |cs,[],hc,v,hv=>by
  have:cs=[]:=hc
  simp[this]at hv
 |_,_::_,⟨c,cs',e,hx,hr⟩,v,hv=>by
  rw[e]at hv
  rcases bt.1 hv with hv | hv
  ·exact h _ _ hx v hv
  ·exact bj.all h hr v hv
theorem bj.append:∀ {cs:List Value} {l:List α} {cs':List Value} {l':List α},bj R cs l->bj R cs' l'->bj R (cs++cs') (l++l')
 |cs,[],_,_,hc,h'=>by
  have:cs=[]:=hc
  simpa[this]using h'
 |_,x::xs,_,_,⟨c,cs1,e,hx,hr⟩,h'=>⟨c,cs1++_,by rw[e,aD],hx,bj.append hr h'⟩
theorem bj.take(h:∀c x,R c x->c.length=z):∀ {cs:List Value} {l:List α} (n:Nat),bj R cs l->bj R (cs.take (n*z)) (l.take n)
 |cs,[],n,hc=>by
  have:cs=[]:=hc
  simp[this,bj]
 |_,x::xs,0,_=>by simp[bj]
 |_,x::xs,n+1,⟨c,cs',e,hx,hr⟩=>by
  refine⟨c,cs'.take (n*z),?_,hx,bj.take h n hr⟩
  rw[e,mA,h c x hx,eM,iy,bk (by rw[h c x hx];omega),kZ]
theorem bj.drop(h:∀c x,R c x->c.length=z):∀ {cs:List Value} {l:List α} (n:Nat),bj R cs l->bj R (cs.drop (n*z)) (l.drop n)
 |cs,[],n,hc=>by
  have:cs=[]:=hc
  simp[this,bj]
 |_,x::xs,0,hc=>by simpa using hc
 |_,x::xs,n+1,⟨c,cs',e,hx,hr⟩=>by
  rw[e,jF,h c x hx,eM,iy,gh (by rw[h c x hx];omega),kZ]
  simpa using bj.drop h n hr
theorem bj.get(h:∀c x,R c x->c.length=z){cs:List Value}{l:List α}(hc:bj R cs l)(i:Nat)(hi:i < l.length):R ((cs.drop (i*z)).take z) l[i]:=by
 have h1:=bj.take h 1 (bj.drop h i hc)
 rw[ax hi]at h1
 simp only[iy,List.take_succ_cons,eF]at h1
 obtain⟨c,cs',e,hx,hr⟩:=h1
 have:cs'=[]:=hr
 rw[e,this,bS]
 exact hx
theorem bj.set(h:∀c x,R c x->c.length=z){cs:List Value}{l:List α}(hc:bj R cs l)(i:Nat)(hi:i < l.length){c:List Value}{x:α}(hx:R c x):
  bj R (cs.take (i*z)++c++cs.drop (i*z+c.length)) (l.set i x):=by
 rw[List.set_eq_take_append_cons_drop,if_pos hi,h c x hx]
 have h1:=bj.take h i hc
 have h2:=bj.drop h (i+1) hc
 rw[eM,iy]at h2
 have h3:bj R (c++cs.drop (i*z+z)) (x::l.drop (i+1)):=⟨c,_,rfl,hx,h2⟩
 rw[aD]
 exact bj.append h1 h3
theorem bj.one{c:List Value}{x:α}(h:R c x):bj R c [x]:=⟨c,[],by simp,h,rfl⟩
end
theorem dm.size{E:Env}:∀ {t:Ty} {cs:List Value} {x:t.den},dm E t cs x->cs.length=t.size
 | .int _,_,_,h=>by simp only[dm]at h;simp[h,Ty.size]
 | .bool,_,_,h=>by simp only[dm]at h;simp[h,Ty.size]
 | .str,_,_,h=>by simp only[dm]at h;simp[h,Ty.size]
 | .slice t,_,_,h=>by simp only[dm]at h;obtain⟨a,cap,vs,rfl,_⟩:=h;simp[Ty.size]
 | .unit,_,_,h=>by simp only[dm]at h;simp[h,Ty.size]
 | .pair a b,_,_,h=>by
  simp only[dm]at h
  obtain⟨ca,cb,rfl,ha,hb⟩:=h
  simp[Ty.size,dm.size ha,dm.size hb]
 | .arr n t,_,_,h=>by
  simp only[dm]at h
  rw[bj.length (λc x hx=>dm.size hx) h.2,h.1,Ty.size]
 | .im t,_,x,h=>by
  simp only[dm]at h
  obtain⟨h1,h2⟩:=h
  cases hx:(x:Option (List t.den)) with
  |none=>rw[h1 hx];rfl
  |some l=>obtain⟨a,cap,vs,rfl,_⟩:=h2 l hx;rfl
 | .oq t,_,x,h=>by
  simp only[dm]at h
  obtain⟨h1,h2⟩:=h
  cases hx:(x:Option t.den) with
  |none=>rw[h1 hx];rfl
  |some l=>obtain⟨b,off,vs,rfl,_⟩:=h2 l hx;rfl
theorem dm.one{E:Env}:∀ {t:Ty} {cs:List Value} {x:t.den},dm E t cs x->∀c∈cs,c.oneCell'=true
 | .int _,_,_,h=>by simp only[dm]at h;simp[h,Value.oneCell']
 | .bool,_,_,h=>by simp only[dm]at h;simp[h,Value.oneCell']
 | .str,_,_,h=>by simp only[dm]at h;simp[h,Value.oneCell']
 | .slice t,_,_,h=>by simp only[dm]at h;obtain⟨a,cap,vs,rfl,_⟩:=h;simp[Value.oneCell']
 | .unit,_,_,h=>by simp only[dm]at h;simp[h]
 | .pair a b,_,_,h=>by
  simp only[dm]at h
  obtain⟨ca,cb,rfl,ha,hb⟩:=h
  intro c hc
  rcases bt.1 hc with hc | hc
  ·exact dm.one ha c hc
  ·exact dm.one hb c hc
 | .arr n t,_,_,h=>by
  simp only[dm]at h
  exact bj.all (λc x hx=>dm.one hx) h.2
 | .im t,_,x,h=>by
  simp only[dm]at h
  obtain⟨h1,h2⟩:=h
  cases hx:(x:Option (List t.den)) with
  |none=>rw[h1 hx];simp[Value.oneCell']
  |some l=>obtain⟨a,cap,vs,rfl,_⟩:=h2 l hx;simp[Value.oneCell']
 | .oq t,_,x,h=>by
  simp only[dm]at h
  obtain⟨h1,h2⟩:=h
  cases hx:(x:Option t.den) with
  |none=>rw[h1 hx];simp[Value.oneCell']
  |some l=>obtain⟨b,off,vs,rfl,_⟩:=h2 l hx;simp[Value.oneCell']
structure oe(E E':Env):Prop where
 has:∀b off v,E.has b off v->E'.has b off v
 fz:∀b ob,E.g b= .free->E.w.heap[b]? =some ob->E'.g b= .free/\E'.w.heap[b]? =some ob
theorem oe.refl(E:Env):oe E E:=⟨λ_ _ _ h=>h,λ_ _ h h'=>⟨h,h'⟩⟩
theorem oe.trans{E E' E'':Env}(h:oe E E')(h':oe E' E''):oe E E'':=⟨λb o v x=>h'.has b o v (h.has b o v x),λb ob h1 h2=>let⟨h3,h4⟩:=h.fz b ob h1 h2;h'.fz b ob h3 h4⟩
theorem tS.mono{E E':Env}(h:oe E E'){a:Option Addr}{vs:List Value}(hr:tS E a vs):tS E' a vs:=
 λi v hv=>let⟨b,off,ha,hh⟩:=hr i v hv;⟨b,off,ha,h.has _ _ _ hh⟩
theorem dm.mono{E E':Env}(hm:oe E E'):∀ {t:Ty} {cs:List Value} {x:t.den},dm E t cs x->dm E' t cs x
 | .int _,_,_,h=>by simpa only[dm]using h
 | .bool,_,_,h=>by simpa only[dm]using h
 | .str,_,_,h=>by simpa only[dm]using h
 | .slice t,_,_,h=>by
  simp only[dm]at h ⊢
  obtain⟨a,cap,vs,e,hl,hs,hr,hc⟩:=h
  exact⟨a,cap,vs,e,hl,hs,hr.mono hm,hc.mono λc x hx=>dm.mono hm hx⟩
 | .unit,_,_,h=>by simpa only[dm]using h
 | .pair a b,_,_,h=>by
  simp only[dm]at h ⊢
  obtain⟨ca,cb,e,ha,hb⟩:=h
  exact⟨ca,cb,e,dm.mono hm ha,dm.mono hm hb⟩
 | .arr n t,_,_,h=>by
  simp only[dm]at h ⊢
  exact⟨h.1,h.2.mono λc x hx=>dm.mono hm hx⟩
 | .im t,_,_,h=>by
  simp only[dm]at h ⊢
  refine⟨h.1,λl hx=> ?_⟩
  obtain⟨a,cap,vs,e,hl,hs,hr,hc⟩:=h.2 l hx
  exact⟨a,cap,vs,e,hl,hs,hr.mono hm,hc.mono λc x hx=>dm.mono hm hx⟩
 | .oq t,_,_,h=>by
  simp only[dm]at h ⊢
  refine⟨h.1,λl hx=> ?_⟩
  obtain⟨b,off,vs,e,hr,hc⟩:=h.2 l hx
  exact⟨b,off,vs,e,hr.mono hm,dm.mono hm hc⟩
def Env.cur(E:Env)(id:Id)(ver:Nat):Prop:=∃fr c,E.s id=some (.obj ver fr c)
def Env.tT(E:Env)(id:Id)(ver:Nat):Prop:=E.s id≠none/\∀v fr c,E.s id=some (.obj v fr c)->ver<=v
def fV(agg:Bool)(cs:List Value)(v:Value):Prop:=match agg with | true=>v= .agg cs.toArray | false=>cs=[v]
mutual
def V(E:Env):av->List Value->Prop
 | .undef,_=>False
 | .gone,cs=>∃v,cs=[v]/\v.oneCell'=true
 | .di,cs=>cs=[.slice none 0 0]
 | .mO,cs=>cs=[.pointer none]
 | .pL,cs=>cs=[.nilFunc]
 | .sx,cs=>cs=[.map none]
 | .sb l,cs=>∃(b cap:Nat) (arr:Array Value) (e:TypeId),cs=[.slice (some ⟨b,0,none⟩) l.length cap]/\l.length<=cap/\E.g b= .free/\E.w.heap[b]? =some (.cells arr e (arr.size,arr.size+1))/\∀(j:Nat) (v:Value),(l.map (Value.int .u8))[j]? =some v->arr[j]? =some v
 | .d t x,cs=>dm E t cs x
 | .pr a b,cs=>∃ca cb,cs=ca++cb/\V E a ca/\V E b cb
 | .ptr id ver _ n,cs=>∃a,cs=[.pointer (some a)]/\E.tT id ver/\(E.cur id ver->∃pl,E.β id=some pl/\a=⟨pl.b,n,none⟩)
 | .eD t x,cs=>∃b off vs,cs=[.pointer (some ⟨b,off,none⟩)]/\tS E (some ⟨b,off,none⟩) vs/\dm E t vs x
 | .aS id ver p c i len,cs=>∃a cap,cs=[.slice a len cap]/\len<=cap/\(0 < len->a.isSome=true)/\E.tT id ver/\
   (E.cur id ver->match E.β id with
    |some pl=>(0 < len\/i=0->a=some ⟨pl.b,c,none⟩)/\(p=[]->i=0->cap=pl.cap)
    |none=>a=none/\len=0/\cap=0)
 | .fn f c,cs=>∃vs,cs=[.func (.func f) #[] vs.toArray]/\VC E c vs
 | .cons _ _,_=>False
 | .nil,_=>False
 | .vec ..,_=>False
 | .bx ..,_=>False
 | .yl id ver,cs=>∃l,cs=[.func (.yield l) #[] #[]]/\E.tT id ver/\(E.cur id ver->∃pl,E.β id=some pl/\l=pl.b)
 | .mr ..,_=>False
 | .db id ver,cs=>∃b,cs=[.map (some b)]/\E.tT id ver/\(E.cur id ver->∃pl,E.β id=some pl/\b=pl.b)
 | .mp ..,_ | .nH ..,_=>False
def VC(E:Env):av->List Value->Prop
 | .nil,vs=>vs=[]
 | .cons a b,vs=>∃v vs' cs,vs=v::vs'/\V E a cs/\fV a.agg cs v/\VC E b vs'
 |_,_=>False
end
structure cP(E E':Env):Prop where
 mem:oe E E'
 tT:∀id ver,E.tT id ver->E'.tT id ver
 cur:∀id ver,E.tT id ver->E'.cur id ver->E.cur id ver/\E'.β id=E.β id
theorem cP.refl(E:Env):cP E E:=⟨oe.refl E,λ_ _ h=>h,λ_ _ _ h=>⟨h,rfl⟩⟩
theorem cP.trans{E E' E'':Env}(h:cP E E')(h':cP E' E''):cP E E'':=
 ⟨h.mem.trans h'.mem,λid v b=>h'.tT id v (h.tT id v b),λid v b c=>
  let⟨c1,e1⟩:=h'.cur id v (h.tT id v b) c
  let⟨c2,e2⟩:=h.cur id v b c1
  ⟨c2,e1.trans e2⟩⟩
mutual
theorem V.mono{E E':Env}(h:cP E E'):∀ {a:av} {cs:List Value},V E a cs->V E' a cs
 | .undef,_,hv=>by simp only[V]at hv
 | .gone,_,hv=>by simpa only[V]using hv
 | .di,_,hv=>by simpa only[V]using hv
 | .mO,_,hv=>by simpa only[V]using hv
 | .pL,_,hv=>by simpa only[V]using hv
 | .mr ..,_,hv=>by simp only[V]at hv
 | .sx,_,hv=>by simpa only[V]using hv
 | .sb l,_,hv=>by
  simp only[V]at hv ⊢
  obtain⟨b,cap,arr,e,h1,h2,h3,h4,h5⟩:=hv
  obtain⟨h6,h7⟩:=h.mem.fz b _ h3 h4
  exact⟨b,cap,arr,e,h1,h2,h6,h7,h5⟩
 | .d t x,_,hv=>by simp only[V]at hv ⊢;exact hv.mono h.mem
 | .pr a b,_,hv=>by
  simp only[V]at hv ⊢
  obtain⟨ca,cb,e,ha,hb⟩:=hv
  exact⟨ca,cb,e,V.mono h ha,V.mono h hb⟩
 | .ptr id ver p n,_,hv=>by
  simp only[V]at hv ⊢
  obtain⟨a,e,hb,hc⟩:=hv
  refine⟨a,e,h.tT _ _ hb,λc=> ?_⟩
  obtain⟨c1,e1⟩:=h.cur _ _ hb c
  rw[e1];exact hc c1
 | .eD t x,_,hv=>by
  simp only[V]at hv ⊢
  obtain⟨b,off,vs,e,hr,hx⟩:=hv
  exact⟨b,off,vs,e,hr.mono h.mem,hx.mono h.mem⟩
 | .aS id ver p c i len,_,hv=>by
  simp only[V]at hv ⊢
  obtain⟨a,cap,e,hl,hs,hb,hc⟩:=hv
  refine⟨a,cap,e,hl,hs,h.tT _ _ hb,λc=> ?_⟩
  obtain⟨c1,e1⟩:=h.cur _ _ hb c
  rw[e1];exact hc c1
 | .fn f c,_,hv=>by
  simp only[V]at hv ⊢
  obtain⟨vs,e,hc⟩:=hv
  exact⟨vs,e,VC.mono h hc⟩
 | .cons _ _,_,hv=>by simp only[V]at hv
 | .nil,_,hv=>by simp only[V]at hv
 | .vec ..,_,hv=>by simp only[V]at hv
 | .bx ..,_,hv=>by simp only[V]at hv
 | .yl id ver,_,hv=>by
  simp only[V]at hv ⊢
  obtain⟨b,e,hb,hc⟩:=hv
  refine⟨b,e,h.tT _ _ hb,λc=> ?_⟩
  obtain⟨c1,e1⟩:=h.cur _ _ hb c
  rw[e1];exact hc c1
 | .db id ver,_,hv=>by
  simp only[V]at hv ⊢
  obtain⟨b,e,hb,hc⟩:=hv
  refine⟨b,e,h.tT _ _ hb,λc=> ?_⟩
  obtain⟨c1,e1⟩:=h.cur _ _ hb c
  rw[e1];exact hc c1
 | .mp ..,_,hv | .nH ..,_,hv=>by simp only[V]at hv
theorem VC.mono{E E':Env}(h:cP E E'):∀ {a:av} {vs:List Value},VC E a vs->VC E' a vs
 | .nil,_,hv=>by simpa only[VC]using hv
 | .cons a b,_,hv=>by
  simp only[VC]at hv ⊢
  obtain⟨v,vs',cs,e,ha,ho,hb⟩:=hv
  exact⟨v,vs',cs,e,V.mono h ha,ho,VC.mono h hb⟩
 | .undef,_,hv=>by simp only[VC]at hv
 | .gone,_,hv=>by simp only[VC]at hv
 | .di,_,hv=>by simp only[VC]at hv
 | .mO,_,hv=>by simp only[VC]at hv
 | .pL,_,hv=>by simp only[VC]at hv
 | .yl ..,_,hv | .mr ..,_,hv=>by simp only[VC]at hv
 | .sx,_,hv=>by simp only[VC]at hv
 | .sb _,_,hv=>by simp only[VC]at hv
 | .d t x,_,hv=>by simp only[VC]at hv
 | .pr a b,_,hv=>by simp only[VC]at hv
 | .ptr ..,_,hv=>by simp only[VC]at hv
 | .eD ..,_,hv=>by simp only[VC]at hv
 | .aS ..,_,hv=>by simp only[VC]at hv
 | .fn ..,_,hv=>by simp only[VC]at hv
 | .vec ..,_,hv=>by simp only[VC]at hv
 | .bx ..,_,hv=>by simp only[VC]at hv
 | .db ..,_,hv=>by simp only[VC]at hv
 | .mp ..,_,hv | .nH ..,_,hv=>by simp only[VC]at hv
end
theorem V.size{E:Env}:∀ {a:av} {cs:List Value},V E a cs->cs.length=a.size
 | .undef,_,hv=>by simp only[V]at hv
 | .gone,_,hv=>by simp only[V]at hv;obtain⟨v,rfl,_⟩:=hv;rfl
 | .di,_,hv=>by simp only[V]at hv;rw[hv];rfl
 | .mO,_,hv=>by simp only[V]at hv;rw[hv];rfl
 | .pL,_,hv=>by simp only[V]at hv;rw[hv];rfl
 | .yl ..,_,hv=>by simp only[V]at hv;obtain⟨_,rfl,_⟩:=hv;rfl
 | .mr ..,_,hv=>by simp only[V]at hv
 | .sx,_,hv=>by simp only[V]at hv;rw[hv];rfl
 | .sb _,_,hv=>by simp only[V]at hv;obtain⟨_,_,_,_,rfl,_⟩:=hv;rfl
 | .d t x,_,hv=>by simp only[V]at hv;exact hv.size
 | .pr a b,_,hv=>by
  simp only[V]at hv
  obtain⟨ca,cb,rfl,ha,hb⟩:=hv
  simp[av.size,V.size ha,V.size hb]
 | .ptr ..,_,hv=>by simp only[V]at hv;obtain⟨a,rfl,_⟩:=hv;rfl
 | .eD ..,_,hv=>by simp only[V]at hv;obtain⟨_,_,_,rfl,_⟩:=hv;rfl
 | .aS ..,_,hv=>by simp only[V]at hv;obtain⟨_,_,rfl,_⟩:=hv;rfl
 | .fn ..,_,hv=>by simp only[V]at hv;obtain⟨_,rfl,_⟩:=hv;rfl
 | .cons _ _,_,hv=>by simp only[V]at hv
 | .nil,_,hv=>by simp only[V]at hv
 | .vec ..,_,hv=>by simp only[V]at hv
 | .bx ..,_,hv=>by simp only[V]at hv
 | .db ..,_,hv=>by simp only[V]at hv;obtain⟨_,rfl,_⟩:=hv;rfl
 | .mp ..,_,hv | .nH ..,_,hv=>by simp only[V]at hv
theorem V.one{E:Env}:∀ {a:av} {cs:List Value},V E a cs->∀c∈cs,c.oneCell'=true
 | .undef,_,hv=>by simp only[V]at hv
 | .gone,_,hv=>by simp only[V]at hv;obtain⟨v,rfl,h⟩:=hv;simp[h]
 | .di,_,hv=>by simp only[V]at hv;rw[hv];simp[Value.oneCell']
 | .mO,_,hv=>by simp only[V]at hv;rw[hv];simp[Value.oneCell']
 | .pL,_,hv=>by simp only[V]at hv;rw[hv];simp[Value.oneCell']
 | .yl ..,_,hv=>by simp only[V]at hv;obtain⟨_,rfl,_⟩:=hv;simp[Value.oneCell']
 | .mr ..,_,hv=>by simp only[V]at hv
 | .sx,_,hv=>by simp only[V]at hv;rw[hv];simp[Value.oneCell']
 | .sb _,_,hv=>by simp only[V]at hv;obtain⟨_,_,_,_,rfl,_⟩:=hv;simp[Value.oneCell']
 | .d t x,_,hv=>by simp only[V]at hv;exact hv.one
 | .pr a b,_,hv=>by
  simp only[V]at hv
  obtain⟨ca,cb,rfl,ha,hb⟩:=hv
  intro c hc
  rcases bt.1 hc with hc | hc
  ·exact V.one ha c hc
  ·exact V.one hb c hc
 | .ptr ..,_,hv=>by simp only[V]at hv;obtain⟨a,rfl,_⟩:=hv;simp[Value.oneCell']
 | .eD ..,_,hv=>by simp only[V]at hv;obtain⟨_,_,_,rfl,_⟩:=hv;simp[Value.oneCell']
 | .aS ..,_,hv=>by simp only[V]at hv;obtain⟨_,_,rfl,_⟩:=hv;simp[Value.oneCell']
 | .fn ..,_,hv=>by simp only[V]at hv;obtain⟨_,rfl,_⟩:=hv;simp[Value.oneCell']
 | .cons _ _,_,hv=>by simp only[V]at hv
 | .nil,_,hv=>by simp only[V]at hv
 | .vec ..,_,hv=>by simp only[V]at hv
 | .bx ..,_,hv=>by simp only[V]at hv
 | .db ..,_,hv=>by simp only[V]at hv;obtain⟨_,rfl,_⟩:=hv;simp[Value.oneCell']
 | .mp ..,_,hv | .nH ..,_,hv=>by simp only[V]at hv
theorem av.G5:∀ {v:av},v.agg=false->v.size=1
 | .d (.int _) _,_ | .d .bool _,_ | .d .str _,_ | .d (.slice _) _,_ | .d (.im _) _,_ | .d (.oq _) _,_=>rfl
 | .d .unit _,h | .d (.pair _ _) _,h | .d (.arr _ _) _,h=>by simp[av.agg,Ty.agg]at h
 | .pr _ _,h=>by simp[av.agg]at h
 | .undef,_ | .gone,_ | .di,_ | .mO,_ | .pL,_ | .sx,_ | .ptr ..,_ | .eD ..,_ | .aS ..,_ | .fn ..,_ | .cons ..,_ | .nil,_ | .vec ..,_ | .sb _,_ | .bx ..,_ | .db ..,_ | .mp ..,_ | .nH ..,_ | .yl ..,_ | .mr ..,_=>rfl
def VS(E:Env):av->Value->Prop
 | .undef,_=>True
 | .cons a b,v=>∃vs,v= .tuple vs.toArray/\VC E (.cons a b) vs
 | .nil,v=>v= .tuple #[]
 |a,v=>∃cs,V E a cs/\fV a.agg cs v
theorem VS.mono{E E':Env}(h:cP E E'):∀ {a:av} {v:Value},VS E a v->VS E' a v:=by
 intro a v hv
 cases a <;> first
  |trivial
  |exact hv
  | (obtain⟨cs,h1,h2⟩:=hv;exact⟨cs,V.mono h h1,h2⟩)
  | (obtain⟨vs,e,hc⟩:=hv;exact⟨vs,e,VC.mono h hc⟩)
theorem VS.undef{E:Env}{v:Value}:VS E .undef v:=trivial
theorem VS.of{E:Env}{a:av}{cs:List Value}{v:Value}(h:V E a cs)(ho:fV a.agg cs v):VS E a v:=by
 cases a <;> first
  | (simp only[V]at h;done)
  |exact⟨cs,h,ho⟩
theorem VS.eX{E:Env}{a:av}{v:Value}(h:VS E a v)(hc:a.eX=true):∃cs,V E a cs/\fV a.agg cs v:=by
 cases a <;> first
  | (simp[av.eX]at hc;done)
  |exact h
theorem VS.single{E:Env}{a:av}{v:Value}(h:VS E a v)(hc:a.eX=true)(ha:a.agg=false):V E a [v]:=by
 obtain⟨cs,hv,ho⟩:=h.eX hc
 rw[ha]at ho
 have:cs=[v]:=ho
 rw[<-this];exact hv
theorem fV.cells{agg:Bool}{cs:List Value}{v:Value}(h:fV agg cs v)(h1:∀c∈cs,c.oneCell'=true):v.cells=cs.toArray:=by
 cases agg with
 |true=>have:v= .agg cs.toArray:=h;rw[this];rfl
 |false=>
  have e:cs=[v]:=h
  have:=h1 v (by simp[e])
  rw[e]
  cases v <;> first | rfl | (simp[Value.oneCell']at this;done)
end Go.Ab
namespace Go.Ab
section
variable {α β:Type}
theorem ao{a b:α}:(Out.ok a).eval=some b↔a=b:=by simp[Out.eval]
theorem ai{b:α}:(Out.fail:Out α).eval=some b↔False:=by simp[Out.eval]
theorem bO{c:Bool}{r:Out α}{b:α}:(Out.oO c r).eval=some b↔c=true/\r.eval=some b:=by cases c <;> simp[Out.eval]
theorem ay{c:Bool}{r:Out α}{b:α}:(Out.guard c r).eval=some b↔c=true/\r.eval=some b:=by cases c <;> simp[Out.guard,Out.eval]
theorem pI{x:Option β}{f:β->Out α}{b:α}:(Out.get x f).eval=some b↔∃y,x=some y/\(f y).eval=some b:=by
 cases x <;> simp[Out.eval]
theorem jM{x:Option α}{b:α}:(Out.opt x).eval=some b↔x=some b:=by cases x <;> simp[Out.opt,Out.eval]
theorem En(o:Out α)(f:α->Out β):(o.bind f).eval=o.eval.bind λa=>(f a).eval:=by
 induction o with
 |ok a=>rfl
 |fail=>rfl
 |oO c r ih=>cases c <;> simp[Out.bind,Out.eval,ih]
 |get x g ih=>cases x <;> simp[Out.bind,Out.eval,ih]
 |br c x y ih1 ih2=>cases c <;> simp[Out.bind,Out.eval,ih1,ih2]
theorem ak{o:Out α}{f:α->Out β}{b:β}:(o.bind f).eval=some b↔∃a,o.eval=some a/\(f a).eval=some b:=by
 rw[En];simp[Option.bind_eq_some_iff]
theorem run_eq{R:Type}(o:Out α)(k:α->Option R):o.run k=o.eval.bind k:=by
 induction o with
 |ok a=>rfl
 |fail=>rfl
 |oO c r ih=>cases c <;> simp[Out.run,Out.eval,aP,ih]
 |get x g ih=>cases x <;> simp[Out.run,Out.eval,ah,ih]
 |br c x y ih1 ih2=>cases c <;> simp[Out.run,Out.eval,aP,ih1,ih2]
theorem js{R:Type}{o:Out α}{k:α->Option R}{r:R}:o.run k=some r↔∃a,o.eval=some a/\k a=some r:=by
 rw[run_eq];simp[Option.bind_eq_some_iff]
end
theorem jB{t t':Ty}{x:t.den}{y:t'.den}(h:oY t t' x=some y):∃e:t=t',e▸x=y:=by
 unfold oY at h
 split at h
 ·rename_i e;exact⟨e,by simpa using h⟩
 ·cases h
theorem bj.map{α β:Type}{R:List Value->α->Prop}{R':List Value->β->Prop}{f:α->β}(h:∀c x,R c x->R' c (f x)):∀ {cs:List Value} {l:List α},bj R cs l->bj R' cs (l.map f)
 |_,[],hc=>hc
 |_,x::xs,⟨c,cs',e,hx,hr⟩=>⟨c,cs',e,h c x hx,bj.map h hr⟩
theorem dm.SE{E:Env}:∀(a b:Ty) (f:a.den->b.den),CI a b=some f->∀(cs:List Value) (x:a.den),dm E a cs x->dm E b cs (f x):=by
 intro a b
 induction a,b using CI.induct with
 |case1 t=>
  intro f hf cs x hx
  unfold CI at hf
  rw[dif_pos rfl]at hf
  obtain rfl:=ba hf
  simp only[dm]at hx
  obtain⟨h1,h2⟩:=hx
  show dm E (.slice t) cs ((x:Option (List t.den)).getD [])
  simp only[dm]
  cases hx:(x:Option (List t.den)) with
  |none=>exact⟨none,0,[],h1 hx,aw _,λh=>absurd h (gE 0),λi v hh=>by simp at hh,rfl⟩
  |some l=>exact h2 l hx
 |case2 t t' fL=>
  intro f hf
  unfold CI at hf
  rw[dif_neg fL]at hf
  cases hf
 |case3 t=>
  intro f hf cs x hx
  unfold CI at hf
  rw[dif_pos rfl]at hf
  obtain rfl:=ba hf
  simp only[dm]at hx ⊢
  refine⟨λh=>(by cases h),λl hl=> ?_⟩
  obtain rfl:x=l:=ba hl
  exact hx
 |case4 t t' fL=>
  intro f hf
  unfold CI at hf
  rw[dif_neg fL]at hf
  cases hf
 |case5 a b c d f g h1 h2 ih1 ih2=>
  intro k hk cs x hx
  unfold CI at hk
  rw[h2,h1]at hk
  obtain rfl:=ba hk
  simp only[dm]at hx ⊢
  obtain⟨ca,cb,e,ha,hb⟩:=hx
  exact⟨ca,cb,e,ih1 f h2 ca x.1 ha,ih2 g h1 cb x.2 hb⟩
 |case6 a b c d hn ih1 ih2=>
  intro p hp
  unfold CI at hp
  split at hp
  ·rename_i f k h1 h2
   exact(hn _ _ h1 h2).elim
  ·cases hp
 |case7 a b f h1 ih=>
  intro k hk cs x hx
  unfold CI at hk
  rw[h1]at hk
  obtain rfl:=ba hk
  simp only[dm]at hx ⊢
  obtain⟨ad,cap,vs,e,hl,hs,hr,hc⟩:=hx
  rw[cK]
  exact⟨ad,cap,vs,e,hl,hs,hr,hc.map λc x hx=>ih f h1 c x hx⟩
 |case8 a b h1 ih=>
  intro p hp
  unfold CI at hp
  rw[h1]at hp
  cases hp
 |case9 a h1 h2 h3 h4=>
  intro f hf cs x hx
  rw[CI.eq_5 _ _ h1 h2 h3 h4,dif_pos rfl]at hf
  obtain rfl:=ba hf
  exact hx
 |case10 a b h1 h2 h3 h4 fL=>
  intro f hf
  rw[CI.eq_5 _ _ h1 h2 h3 h4,dif_neg fL]at hf
  cases hf
theorem OB{t t':Ty}{f:t.den->t'.den}(hp:CI t t'=some f):t.agg=t'.agg:=by
 unfold CI at hp
 split at hp
 ·rfl
 ·rfl
 ·rfl
 ·rfl
 ·split at hp
  ·rename_i e;rw[e]
  ·cases hp
theorem De{t t':Ty}{x:t.den}{y:t'.den}(h:uB t t' x=some y):t.agg=t'.agg:=by
 unfold uB at h
 split at h
 ·rename_i z hz
  obtain⟨e,_⟩:=jB hz
  rw[e]
 ·split at h
  ·rename_i f hf
   exact OB hf
  ·cases h
theorem th{E:Env}{t t':Ty}{x:t.den}{y:t'.den}(h:uB t t' x=some y){cs:List Value}(hx:dm E t cs x):dm E t' cs y:=by
 unfold uB at h
 split at h
 ·rename_i z hz
  obtain⟨e,hz⟩:=jB hz
  subst e
  obtain rfl:=ba h
  simp only at hz
  rw[<-hz]
  exact hx
 ·split at h
  ·rename_i f hf
   obtain rfl:=ba h
   exact dm.SE _ _ f hf cs x hx
  ·cases h
theorem Kq{E:Env}{t t':Ty}{x:List t.den}{y:List t'.den}(h:uB (.slice t) (.slice t') x=some y):y.length=x.length/\∀vs,bj (dm E t) vs x->bj (dm E t') vs y:=by
 unfold uB at h
 split at h
 ·rename_i z hz
  obtain⟨e,hz⟩:=jB hz
  have e':t=t':=by simpa using e
  subst e'
  obtain rfl:=ba h
  simp only at hz
  subst hz
  exact⟨rfl,λ_ h=>h⟩
 ·split at h
  ·rename_i p hp
   obtain rfl:=ba h
   unfold CI at hp
   cases hd:CI t t' with
   |none=>rw[hd]at hp;cases hp
   |some q=>
    rw[hd]at hp
    obtain rfl:=ba hp
    exact⟨cK _,λvs hc=>hc.map λc x hx=>dm.SE _ _ q hd c x hx⟩
  ·cases h
def VO(E:Env):av->List Value->Prop
 | .vec _ t l,cs=>bj (dm E t) cs l
 |a,cs=>V E a cs
theorem VO.of{E:Env}{a:av}{cs:List Value}(h:V E a cs):VO E a cs:=by
 cases a <;> first | exact h | (simp only[V]at h)
def av.iI:av->Bool | .vec .. =>true | .mp .. =>true | .nH .. =>true | .mr .. =>true | _=>false
theorem VO.to{E:Env}{a:av}{cs:List Value}(h:VO E a cs)(hn:a.iI=false):V E a cs:=by
 cases a <;> first | exact h | (simp[av.iI]at hn)
theorem VO.mono{E E':Env}(h:cP E E'){a:av}{cs:List Value}(hv:VO E a cs):VO E' a cs:=by
 cases a <;> first | exact V.mono h hv | exact bj.mono (λ_ _ hx=>hx.mono h.mem) hv
theorem BI{t:Ty}{l:List t.den}{i:Nat}(h:i < l.length):nth t l i=l[i]:=by
 unfold nth;simp[h]
theorem BQ{α:Type}(cs:List α)(n m k j:Nat)(h:k+j<=m):(((cs.drop n).take m).drop k).take j=(cs.drop (n+k)).take j:=by
 rw[od,kE,gD]
 congr 1
 omega
theorem xU{E:Env}{t:Ty}{cs:List Value}{l:List t.den}(h:bj (dm E t) cs l){i:Nat}(hi:i < l.length):
  dm E t ((cs.drop (i*t.size)).take t.size) l[i]/\i*t.size+t.size<=cs.length:=by
 have hz:∀c x,dm E t c x->c.length=t.size:=λc x hx=>hx.size
 refine⟨h.get hz i hi,?_⟩
 rw[h.length hz,<-Nat.succ_mul]
 exact cY _ hi
theorem nR{E:Env}:∀(p:List vI) (c:av) (cs:List Value) (n:Nat) (v:av),VO E c cs->(loc c p).eval=some (n,v)->
  (n=0/\v=c)\/(V E v ((cs.drop n).take v.size)/\n+v.size<=cs.length)
 |[],c,cs,n,v,hc,h=>by
  left
  simp only[loc,ao,cR]at h
  exact⟨h.1.symm,h.2.symm⟩
 |st::p,c,cs,n,v,hc,h=>by
  by_cases lZ:st= .arr
  ·subst lZ
   have h':(loc c p).eval=some (n,v):=by cases c <;> simpa only[loc]using h
   exact nR p c cs n v hc h'
  right
  have whole:∀(c':av) (cs':List Value) (n':Nat) (v':av),V E c' cs'->(loc c' p).eval=some (n',v')->V E v' ((cs'.drop n').take v'.size)/\n'+v'.size<=cs'.length:=by
   intro c' cs' n' v' hc' hl
   rcases nR p c' cs' n' v' (VO.of hc') hl with⟨rfl,rfl⟩ | hh
   ·have:=hc'.size
    rw[aJ,bk (by omega)]
    exact⟨hc',by omega⟩
   ·exact hh
  have second:∀(a b:av) (ca cb:List Value),cs=ca++cb->ca.length=a.size->V E b cb->((loc b p).bind λ(n,v)=>Out.ok (a.size+n,v)).eval=some (n,v)->
    V E v ((cs.drop n).take v.size)/\n+v.size<=cs.length:=by
   intro a b ca cb e hl hb hh
   obtain⟨⟨n',v'⟩,h1,h2⟩:=ak.1 hh
   simp only[ao,cR]at h2
   obtain⟨rfl,rfl⟩:=h2
   obtain⟨h3,h4⟩:=whole b cb n' v' hb h1
   subst e
   rw[<-hl,jF,gh (by omega),aR,Nat.add_sub_cancel_left]
   exact⟨h3,by simp only[ae];omega⟩
  have elem:∀(t:Ty) (l:List t.den) (i:Nat),bj (dm E t) cs l->(Out.oO (decide (i < l.length)) ((loc (.d t (nth t l i)) p).bind λ(n,v)=>Out.ok (i*t.size+n,v))).eval=some (n,v)->
    V E v ((cs.drop n).take v.size)/\n+v.size<=cs.length:=by
   intro t l i pt hh
   obtain⟨hi,hh⟩:=bO.1 hh
   have hi:i < l.length:=by simpa using hi
   obtain⟨⟨n',v'⟩,h1,h2⟩:=ak.1 hh
   simp only[ao,cR]at h2
   obtain⟨rfl,rfl⟩:=h2
   obtain⟨hp,hle⟩:=xU pt hi
   rw[BI hi]at h1
   have hv:V E (.d t l[i]) ((cs.drop (i*t.size)).take t.size):=by simpa only[V]using hp
   obtain⟨h3,h4⟩:=whole _ _ n' v' hv h1
   have hlen:((cs.drop (i*t.size)).take t.size).length=t.size:=hp.size
   rw[BQ _ _ _ _ _ (by omega)]at h3
   exact⟨h3,by omega⟩
  cases c with
  |pr a b=>
   simp only[VO,V]at hc
   obtain⟨ca,cb,e,ha,hb⟩:=hc
   cases st with
   |arr=>exact absurd rfl lZ
   |fst=>
    simp only[loc]at h
    obtain⟨h3,h4⟩:=whole a ca n v ha h
    subst e
    refine⟨?_,by simp only[ae];omega⟩
    rw[jF,mA,dy,jT (by omega:v.size<=ca.length - n),eF,bS]
    exact h3
   |snd=>simp only[loc]at h;exact second a b ca cb e ha.size hb h
   |idx i=>simp only[loc,ai]at h
  |d t x=>
   simp only[VO,V]at hc
   cases t with
   |pair ta tb=>
    simp only[dm]at hc
    obtain⟨ca,cb,e,ha,hb⟩:=hc
    cases st with
    |arr=>exact absurd rfl lZ
    |fst=>
     simp only[loc]at h
     obtain⟨h3,h4⟩:=whole (.d ta x.1) ca n v (by simpa only[V]using ha) h
     subst e
     refine⟨?_,by simp only[ae];omega⟩
     rw[jF,mA,dy,jT (by omega:v.size<=ca.length - n),eF,bS]
     exact h3
    |snd=>simp only[loc]at h;exact second (.d ta x.1) (.d tb x.2) ca cb e ha.size (by simpa only[V]using hb) h
    |idx i=>simp only[loc,ai]at h
   |arr m t=>
    simp only[dm]at hc
    cases st with
    |arr=>exact absurd rfl lZ
    |idx i=>simp only[loc]at h;exact elem t x i hc.2 h
    |fst=>simp only[loc,ai]at h
    |snd=>simp only[loc,ai]at h
   |_=>cases st <;> first | exact absurd rfl lZ | (simp only[loc,ai]at h)
  |vec e t l=>
   simp only[VO]at hc
   cases st with
   |arr=>exact absurd rfl lZ
   |idx i=>simp only[loc]at h;exact elem t l i hc h
   |fst=>simp only[loc,ai]at h
   |snd=>simp only[loc,ai]at h
  |_=>cases st <;> first | exact absurd rfl lZ | (simp only[loc,ai]at h)
theorem HC{E:Env}{a b:av}{ca cb:List Value}(ha:V E a ca)(hb:V E b cb):V E (xE a b) (ca++cb):=by
 have gen:V E (.pr a b) (ca++cb):=by simp only[V];exact⟨ca,cb,rfl,ha,hb⟩
 unfold xE
 split
 ·simp only[V]at ha hb ⊢
  simp only[dm]
  exact⟨ca,cb,rfl,ha,hb⟩
 ·exact gen
theorem zr(a b:av):(xE a b).iI=false:=by unfold xE;split <;> rfl
def dD(cs:List Value)(n:Nat)(vs:List Value):List Value:=cs.take n++vs++cs.drop (n+vs.length)
theorem IU{cs vs:List Value}(h:cs.length=vs.length):dD cs 0 vs=vs:=by
 simp[dD,gh (by omega:cs.length<=vs.length)]
theorem sh{ca cb vs:List Value}{n:Nat}(h:n+vs.length<=ca.length):dD (ca++cb) n vs=dD ca n vs++cb:=by
 unfold dD
 rw[mA,jF,jT (by omega:n<=ca.length),eF,bS,jT h,aJ]
 simp only[aD]
theorem yf{ca cb vs:List Value}{n:Nat}:dD (ca++cb) (ca.length+n) vs=ca++dD cb n vs:=by
 unfold dD
 rw[mA,bk (by omega),Nat.add_sub_cancel_left,jF,gh (by omega),aR]
 simp only[aD]
 congr 4
 omega
theorem IV{cs vs:List Value}{i z n:Nat}(hz:i+z<=cs.length)(h:n+vs.length<=z):
  dD cs (i+n) vs=cs.take i++dD ((cs.drop i).take z) n vs++cs.drop (i+z):=by
 have e:cs=cs.take i++((cs.drop i).take z++cs.drop (i+z)):=by
  rw[<-gD,dO,dO]
 have hl:(cs.take i).length=i:=by simp;omega
 have hm:((cs.drop i).take z).length=z:=by simp;omega
 conv=>lhs;rw[e,show i+n=(cs.take i).length+n by rw[hl]]
 rw[yf,sh (by omega)]
 simp only[aD]
theorem jE{cs vs:List Value}{n:Nat}(h:n+vs.length<=cs.length):(dD cs n vs).length=cs.length:=by
 simp[dD];omega
def kG:av->av->Prop
 | .vec e t l,.vec e' t' l'=>e'=e/\t'=t/\l'.length=l.length
 | .vec ..,_=>False
 |_,.vec .. =>False
 | .mp ..,_ | .nH ..,_ | .mr ..,_=>False
 |_,.mp .. | _,.nH .. | _,.mr .. =>False
 |_,_=>True
theorem kG.oF{a b:av}(h:kG a b)(ha:a.iI=false):b.iI=false:=by
 cases b <;> first
  |rfl
  | (cases a <;> first | (simp[av.iI]at ha;done) | exact h.elim)
theorem kG.of{a b:av}(ha:a.iI=false)(hb:b.iI=false):kG a b:=by
 cases a <;> first
  | (simp[av.iI]at ha;done)
  | (cases b <;> first | trivial | (simp[av.iI]at hb;done))
theorem V.oF{E:Env}{a:av}{cs:List Value}(h:V E a cs):a.iI=false:=by
 cases a <;> first | rfl | (simp only[V]at h)
theorem mI{E:Env}:∀(p:List vI) (c:av) (cs:List Value) (n:Nat) (o v c':av) (vs:List Value),VO E c cs->(loc c p).eval=some (n,o)->V E v vs->
  (qw c p v).eval=some c'->n+vs.length<=cs.length/\VO E c' (dD cs n vs)/\
   kG c c'
 |[],c,cs,n,o,v,c',vs,hc,hl,hv,h=>by
  simp only[loc,ao,cR]at hl
  obtain⟨rfl,rfl⟩:=hl
  have main:∀(T5:c.iI=false),(Out.guard (v.eX && (c.size==v.size)) (.ok v)).eval=some c'->0+vs.length<=cs.length/\VO E c' (dD cs 0 vs)/\
   kG c c':=by
   intro T5 hg
   obtain⟨h1,h2⟩:=ay.1 hg
   obtain rfl:=ao.1 h2
   simp only[aj,beq_iff_eq]at h1
   have e1:=(hc.to T5).size
   have e2:=hv.size
   refine⟨by omega,?_,?_⟩
   ·rw[IU (by omega)];exact VO.of hv
   ·exact kG.of T5 hv.oF
  cases c with
  |vec e t l=>simp only[qw,ai]at h
  |mp k v l=>simp only[qw,ai]at h
  |nH q ver k v rest cur=>simp only[qw,ai]at h
  |mr k f p=>simp only[qw,ai]at h
  |_=>exact main rfl (by simpa only[qw]using h)
 |st::p,c,cs,n,o,v,c',vs,hc,hl,hv,h=>by
  by_cases lZ:st= .arr
  ·subst lZ
   have hl':(loc c p).eval=some (n,o):=by cases c <;> simpa only[loc]using hl
   have h':(qw c p v).eval=some c':=by cases c <;> simpa only[qw]using h
   exact mI p c cs n o v c' vs hc hl' hv h'
  have left:∀(a b:av) (ca cb:List Value),cs=ca++cb->V E a ca->V E b cb->(loc a p).eval=some (n,o)->((qw a p v).bind λa'=>Out.ok (xE a' b)).eval=some c'->
    n+vs.length<=cs.length/\VO E c' (dD cs n vs)/\c'.iI=false:=by
   intro a b ca cb e ha hb hl hh
   obtain⟨a',h1,h2⟩:=ak.1 hh
   obtain rfl:=ao.1 h2
   obtain⟨h3,h4,h5⟩:=mI p a ca n o v a' vs (VO.of ha) hl hv h1
   subst e
   refine⟨by simp only[ae];omega,?_,zr _ _⟩
   rw[sh h3]
   have V2:a'.iI=false:=h5.oF ha.oF
   exact VO.of (HC (h4.to V2) hb)
  have right:∀(a b:av) (ca cb:List Value),cs=ca++cb->ca.length=a.size->V E a ca->V E b cb->((loc b p).bind λ(n,v)=>Out.ok (a.size+n,v)).eval=some (n,o)->
    ((qw b p v).bind λb'=>Out.ok (xE a b')).eval=some c'->n+vs.length<=cs.length/\VO E c' (dD cs n vs)/\c'.iI=false:=by
   intro a b ca cb e ME ha hb hl hh
   obtain⟨⟨n',v'⟩,h1,h2⟩:=ak.1 hl
   simp only[ao,cR]at h2
   obtain⟨rfl,rfl⟩:=h2
   obtain⟨b',h3,h4⟩:=ak.1 hh
   obtain rfl:=ao.1 h4
   obtain⟨h5,h6,h7⟩:=mI p b cb n' v' v b' vs (VO.of hb) h1 hv h3
   subst e
   refine⟨by simp only[ae];omega,?_,zr _ _⟩
   rw[<-ME,yf]
   have V2:b'.iI=false:=h7.oF hb.oF
   exact VO.of (HC ha (h6.to V2))
  have elem:∀(t:Ty) (l:List t.den) (i:Nat) (mk:List t.den->av),bj (dm E t) cs l->(Out.oO (decide (i < l.length)) ((loc (.d t (nth t l i)) p).bind λ(n,v)=>Out.ok (i*t.size+n,v))).eval=some (n,o)->
    (Out.oO (decide (i < l.length)) ((qw (.d t (nth t l i)) p v).bind fun
     | .d t' y=>(Out.opt (oY t' t y)).bind λy=> .ok (mk (l.set i y))
     |_=> .fail)).eval=some c'->
    n+vs.length<=cs.length/\∃l',c'=mk l'/\l'.length=l.length/\bj (dm E t) (dD cs n vs) l':=by
   intro t l i mk pt hl hh
   obtain⟨hi,hl⟩:=bO.1 hl
   have hi:i < l.length:=by simpa using hi
   obtain⟨⟨n',v'⟩,h1,h2⟩:=ak.1 hl
   simp only[ao,cR]at h2
   obtain⟨rfl,rfl⟩:=h2
   obtain⟨_,hh⟩:=bO.1 hh
   obtain⟨w,h3,h4⟩:=ak.1 hh
   obtain⟨hp,hle⟩:=xU pt hi
   rw[BI hi]at h1 h3
   have Rz:V E (.d t l[i]) ((cs.drop (i*t.size)).take t.size):=by simpa only[V]using hp
   have hlen:((cs.drop (i*t.size)).take t.size).length=t.size:=hp.size
   obtain⟨h5,h6,h7⟩:=mI p _ _ n' v' v w vs (VO.of Rz) h1 hv h3
   cases w with
   |d t' y=>
    simp only at h4
    obtain⟨y',h8,h9⟩:=ak.1 h4
    obtain⟨rfl,h8⟩:=jB (jM.1 h8)
    simp only at h8
    subst h8
    obtain rfl:=ao.1 h9
    refine⟨by omega,_,rfl,by simp,?_⟩
    have hy:dm E t' (dD ((cs.drop (i*t'.size)).take t'.size) n' vs) y:=by simpa only[VO,V]using h6
    have:=bj.set (λc x hx=>dm.size hx) pt i hi hy
    rw[IV (by omega:i*t'.size+t'.size<=cs.length) (by omega)]
    rwa[hy.size]at this
   |_=>simp only[ai]at h4
  cases c with
  |pr a b=>
   simp only[VO,V]at hc
   obtain⟨ca,cb,e,ha,hb⟩:=hc
   cases st with
   |arr=>exact absurd rfl lZ
   |fst=>
    simp only[loc]at hl;simp only[qw]at h
    obtain⟨r1,r2,r3⟩:=left a b ca cb e ha hb hl h
    exact⟨r1,r2,kG.of rfl r3⟩
   |snd=>
    simp only[loc]at hl;simp only[qw]at h
    obtain⟨r1,r2,r3⟩:=right a b ca cb e ha.size ha hb hl h
    exact⟨r1,r2,kG.of rfl r3⟩
   |idx i=>simp only[loc,ai]at hl
  |d t x=>
   simp only[VO,V]at hc
   cases t with
   |pair ta tb=>
    simp only[dm]at hc
    obtain⟨ca,cb,e,ha,hb⟩:=hc
    have ha':V E (.d ta x.1) ca:=by simpa only[V]using ha
    have hb':V E (.d tb x.2) cb:=by simpa only[V]using hb
    cases st with
    |arr=>exact absurd rfl lZ
    |fst=>
     simp only[loc]at hl;simp only[qw]at h
     obtain⟨r1,r2,r3⟩:=left _ _ ca cb e ha' hb' hl h
     exact⟨r1,r2,kG.of rfl r3⟩
    |snd=>
     simp only[loc]at hl;simp only[qw]at h
     obtain⟨r1,r2,r3⟩:=right (.d ta x.1) (.d tb x.2) ca cb e ha.size ha' hb' hl h
     exact⟨r1,r2,kG.of rfl r3⟩
    |idx i=>simp only[loc,ai]at hl
   |arr m t=>
    simp only[dm]at hc
    cases st with
    |arr=>exact absurd rfl lZ
    |idx i=>
     simp only[loc]at hl;simp only[qw]at h
     obtain⟨r1,l',e,r2,r3⟩:=elem t x i (λl=> .d (.arr m t) l) hc.2 hl h
     subst e
     refine⟨r1,?_,trivial⟩
     simp only[VO,V,dm]
     exact⟨by rw[r2];exact hc.1,r3⟩
    |fst=>simp only[loc,ai]at hl
    |snd=>simp only[loc,ai]at hl
   |_=>cases st <;> first | exact absurd rfl lZ | (simp only[loc,ai]at hl)
  |vec e t l=>
   simp only[VO]at hc
   cases st with
   |arr=>exact absurd rfl lZ
   |idx i=>
    simp only[loc]at hl;simp only[qw]at h
    obtain⟨r1,l',e',r2,r3⟩:=elem t l i (λl=> .vec e t l) hc hl h
    subst e'
    exact⟨r1,by simpa only[VO]using r3,rfl,rfl,r2⟩
   |fst=>simp only[loc,ai]at hl
   |snd=>simp only[loc,ai]at hl
  |_=>cases st <;> first | exact absurd rfl lZ | (simp only[loc,ai]at hl)
end Go.Ab
namespace Go.Ab
def Td(E:Env)(id:Id)(fr:Bool)(e:TypeId)(t:Ty)(l:List t.den):Prop:=
 0 < t.size/\match E.β id with
  |none=>l=[]
  |some pl=>∃cur k,E.w.heap[pl.b]? =some (.cells cur e (0,0))/\cur.size=pl.cap*t.size/\l.length<=pl.cap/\pl.cap<=maxLen/\E.g pl.b= .own (.id id) k/\
    k<=l.length*t.size/\(fr=false->k=0)/\bj (dm E t) (cur.toList.take (l.length*t.size)) l
def av.uz:av->Pl->Nat->TypeId->Prop
 | .bx e' 0 _,_,_,e=>e=e'
 | .bx e' (z+1) c,pl,n,e=>e=e'/\n=pl.cap*(z+1)/\pl.cap<=maxLen/\c.size<=n
 |_,_,_,_=>True
def av.qd:av->Nat->Nat
 | .bx _ (_+1) c,_=>c.size
 |_,n=>n
def av.CL:av->Bool | .bx .. =>true | _=>false
theorem V.rq{E:Env}{a:av}{cs:List Value}(h:V E a cs):a.CL=false:=by
 cases a <;> first | rfl | (simp only[V]at h)
theorem y5{c:av}(h:c.CL=false):c.strip=c:=by
 cases c <;> first | rfl | (simp[av.CL]at h)
theorem yz{c:av}(h:c.CL=false)(pl:Pl)(n:Nat)(e:TypeId):c.uz pl n e:=by
 cases c <;> first | trivial | (simp[av.CL]at h)
theorem Aw{c:av}(h:c.CL=false)(n:Nat):c.qd n=n:=by
 cases c <;> first | rfl | (simp[av.CL]at h)
theorem wV(c:av){c':av}(h:c'.CL=false):(c.wrap c').strip=c':=by
 cases c <;> first | rfl | exact y5 h
theorem wo{c c':av}{pl:Pl}{n:Nat}{e:TypeId}(hc:c.uz pl n e)(h:c'.CL=false)(hs:c'.size=c.strip.size):(c.wrap c').uz pl n e:=by
 cases c with
 |bx e' z c=>cases z with
  |zero=>exact hc
  |succ z=>exact⟨hc.1,hc.2.1,hc.2.2.1,by rw[hs];exact hc.2.2.2⟩
 |_=>exact yz h pl n e
theorem yy{c c':av}{n:Nat}(h:c'.CL=false)(hs:c'.size=c.strip.size):(c.wrap c').qd n=c.qd n:=by
 cases c with
 |bx e' z c=>cases z with
  |zero=>rfl
  |succ z=>exact hs
 |_=>exact Aw h n
theorem z6{c:av}{pl:Pl}{n:Nat}{e:TypeId}(h:c.uz pl n e):c.qd n<=n:=by
 cases c with
 |bx e' z c=>cases z with
  |zero=>exact aw _
  |succ z=>exact h.2.2.2
 |_=>exact aw _
def HK(id:Id)(fr:Bool):kY:=match fr with | true=> .free | false=> .own (.id id) 0
def yp(E:Env)(id:Id)(fr:Bool)(c:av):Prop:=
 ∃pl cur e,E.β id=some pl/\E.w.heap[pl.b]? =some (.cells cur e (0,0))/\E.g pl.b=HK id fr/\c.uz pl cur.size e/\V E c.strip (cur.toList.take (c.qd cur.size))
def Alike{α β:Type}(R:α->β->Prop):List α->List β->Prop
 |[],[]=>True
 |x::xs,y::ys=>R x y/\Alike R xs ys
 |_,_=>False
theorem Alike.mono{α β:Type}{R R':α->β->Prop}(h:∀x y,R x y->R' x y):∀ {xs:List α} {ys:List β},Alike R xs ys->Alike R' xs ys
 |[],[],_=>trivial
 |_::_,_::_,⟨h1,h2⟩=>⟨h _ _ h1,Alike.mono h h2⟩
 |[],_::_,h=>h.elim
 |_::_,[],h=>h.elim
def sF(E:Env)(t:Ty)(v:Value)(x:t.den):Prop:=∃cs,dm E t cs x/\fV t.agg cs v
def s9(E:Env)(kt vt:Ty)(e:MapEntry)(x:kt.den×vt.den):Prop:=sF E kt e.key x.1/\sF E vt e.val x.2
theorem s9.mono{E E':Env}(h:oe E E'){kt vt:Ty}{e:MapEntry}{x:kt.den×vt.den}(he:s9 E kt vt e x):s9 E' kt vt e x:=
 let⟨⟨c1,a1,b1⟩,c2,a2,b2⟩:=he
 ⟨⟨c1,a1.mono h,b1⟩,c2,a2.mono h,b2⟩
def D8(E:Env)(kt vt:Ty)(es:List MapEntry)(l:List (kt.den×vt.den)):Prop:=∃l',Alike (s9 E kt vt) es l'/\l'.Perm l
theorem D8.mono{E E':Env}(h:oe E E'){kt vt:Ty}{es:List MapEntry}{l:List (kt.den×vt.den)}(hm:D8 E kt vt es l):D8 E' kt vt es l:=
 let⟨l',h1,h2⟩:=hm
 ⟨l',h1.mono λ_ _ he=>he.mono h,h2⟩
def l6(es:List MapEntry)(clock:Nat):Prop:=(es.map (·.born)).Nodup/\∀e∈es,e.born < clock
theorem l6.nil(n:Nat):l6 [] n:=⟨ja,λ_ h=>(by cases h)⟩
theorem l6.push{es:List MapEntry}{clock:Nat}(h:l6 es clock){e:MapEntry}(he:e.born=clock):l6 (es++ [e]) (clock+1):=by
 refine⟨?_,λx hx=> ?_⟩
 ·rw[List.map_append,List.nodup_append]
  refine⟨h.1,by simp,λa ha b hb=> ?_⟩
  obtain⟨x,hx,rfl⟩:=eJ.1 ha
  have:=h.2 x hx
  simp only[bX,ij,bI]at hb
  omega
 ·rcases bt.1 hx with hx | hx
  ·have:=h.2 x hx;omega
  ·rw[bI]at hx;subst hx;omega
theorem l6.erase{es:List MapEntry}{clock:Nat}(h:l6 es clock)(j:Nat):l6 (es.eraseIdx j) clock:=
 ⟨h.1.sublist ((List.eraseIdx_sublist es j).map _),λx hx=>h.2 x ((List.eraseIdx_sublist es j).subset hx)⟩
theorem l6.set{es:List MapEntry}{clock:Nat}(h:l6 es clock){j:Nat}{e x:MapEntry}(hj:es[j]? =some e)(hx:x.born=e.born):l6 (es.set j x) clock:=by
 have iv:=(dL.1 hj).1
 have XX:=(dL.1 hj).2
 have e1:(es.set j x).map (·.born)=es.map (·.born):=by
  rw[List.map_set,hx,<-XX]
  have:es[j].born=(es.map (·.born))[j]'(by simpa using iv):=by simp
  rw[this,gB]
 refine⟨by rw[e1];exact h.1,λy hy=> ?_⟩
 rcases List.mem_or_eq_of_mem_set hy with hy | hy
 ·exact h.2 y hy
 ·rw[hy,hx,<-XX]
  exact h.2 _ (aL iv)
def VE(E:Env)(id:Id)(kt vt:Ty)(l:List (kt.den×vt.den)):Prop:=
 ∃pl es clock,E.β id=some pl/\E.w.heap[pl.b]? =some (.map es clock)/\E.g pl.b= .own (.id id) 0/\(D8 E kt vt es.toList l/\(l.map (·.1)).Nodup)/\l6 es.toList clock
def Sv(E:Env)(i q:Id)(ver:Nat)(kt vt:Ty)(rest:List (kt.den×vt.den))(cur:Option (kt.den×vt.den)):Prop:=
 ∃pl mb since seen c0,E.β i=some pl/\E.w.heap[pl.b]? =some (.mapIter (some mb) since seen c0)/\E.g pl.b= .own (.id i) 0/\∀vr,ver=vr+1->E.tT q vr/\
  (E.cur q vr->(∃k v l,E.s q=some (.obj vr true (.mp k v l)))/\∃plq es clock,E.β q=some plq/\plq.b=mb/\E.w.heap[plq.b]? =some (.map es clock)/\E.g plq.b= .own (.id q) 0/\
   (∀x∈es.toList,x.born < since)/\(since<=c0/\since<=clock)/\(es.toList.map (·.born)).Nodup/\D8 E kt vt (es.toList.filter λe=> !seen.contains e.born) rest/\
   ∀x,cur=some x->∃(e:MapEntry) (seen':Array Nat),e∈es.toList/\seen=seen'.push e.born/\c0=clock/\s9 E kt vt e x)
def GW:Nat->LoopState->Option Code->Prop
 | 0,st,pe=>st= .ready/\pe=none
 | 1,st,_=>st= .busy
 | 2,st,pe=>st= .done/\pe=some .ret
 |n+3,st,pe=>st= .done/\pe=some (.exit n)
def tc(E:Env)(f:av)(tmps:Array Value):Prop:=f.list.length=tmps.size/\∀i,VS E (f.list.getD i .undef) (tmps.getD i undef)
def VF(E:Env)(id:Id)(c:oX)(f:av)(p:Nat):Prop:=
 ∃pl r,E.β id=some pl/\E.w.heap[pl.b]? =some (.loop r)/\E.g pl.b= .own (.id id) 0/\(r.params=c.ps/\r.assign=c.as/\r.body=c.b)/\tc E f r.tmps/\GW p r.state r.pending
def pE(E:Env)(id:Id)(fr:Bool):av->Prop
 | .mr c f p=>VF E id c f p
 | .vec e t l=>Td E id fr e t l
 | .mp kt vt l=>VE E id kt vt l
 | .nH q ver kt vt rest cur=>Sv E id q ver kt vt rest cur
 |c=>yp E id fr c
theorem pE.box{E:Env}{id:Id}{fr:Bool}{c:av}(h:pE E id fr c)(hn:c.iI=false):yp E id fr c:=by
 cases c <;> first | exact h | (simp[av.iI]at hn)
theorem yp.obj{E:Env}{id:Id}{fr:Bool}{c:av}(h:yp E id fr c):pE E id fr c:=by
 cases c <;> first | exact h | (obtain⟨_,_,_,_,_,_,_,hv⟩:=h;simp only[av.strip,V]at hv)
def jc(E:Env):Prop:=∀id ver fr c,E.s id=some (.obj ver fr c)->pE E id fr c
structure Trans(w w':World)(g g':Nat->kY):Prop where
 os:w'.os=w.os
 tape:w'.tape=w.tape
 output:w'.output=w.output/\w.drawn<=w'.drawn
 size:w.heap.size<=w'.heap.size
 yu:∀b,b < w.heap.size->match g b with
  | .free=>g' b= .free/\w'.heap[b]? =w.heap[b]?
  | .own .eL k=>g' b= .own .eL k/\w'.heap[b]? =w.heap[b]?
  | .own (.id _) k=>(g' b= .free\/∃i k',g' b= .own (.id i) k'/\k<=k')/\∀off v,off < k->w.cell? ⟨b,off,none⟩=some v->w'.cell? ⟨b,off,none⟩=some v
theorem Trans.refl(w:World)(g:Nat->kY):Trans w w g g:=
 ⟨rfl,rfl,⟨rfl,aw _⟩,aw _,λb _=>by
  cases g b with
  |free=>exact⟨rfl,rfl⟩
  |own o k=>cases o with
   |eL=>exact⟨rfl,rfl⟩
   |id i=>exact⟨.inr ⟨i,k,rfl,aw _⟩,λ_ _ _ h=>h⟩⟩
theorem Trans.trans{w w' w'':World}{g g' g'':Nat->kY}(h:Trans w w' g g')(h':Trans w' w'' g' g''):Trans w w'' g g'':=by
 refine⟨h'.os.trans h.os,h'.tape.trans h.tape,⟨h'.output.1.trans h.output.1,j6 h.output.2 h'.output.2⟩,j6 h.size h'.size,λb hb=> ?_⟩
 have h1:=h.yu b hb
 have h2:=h'.yu b (nu hb h.size)
 cases hg:g b with
 |free=>
  rw[hg]at h1;simp only at h1 ⊢
  rw[h1.1]at h2;simp only at h2
  exact⟨h2.1,h2.2.trans h1.2⟩
 |own o k=>
  cases o with
  |eL=>
   rw[hg]at h1;simp only at h1 ⊢
   rw[h1.1]at h2;simp only at h2
   exact⟨h2.1,h2.2.trans h1.2⟩
  |id i=>
   rw[hg]at h1;simp only at h1 ⊢
   obtain⟨Tt,XI⟩:=h1
   rcases Tt with Tt | ⟨i',k',Tt,hk⟩
   ·rw[Tt]at h2;simp only at h2
    exact⟨.inl h2.1,λoff v ho hv=>by
     have:=XI off v ho hv
     simpa only[World.cell?,h2.2]using this⟩
   ·rw[Tt]at h2;simp only at h2
    refine⟨?_,λoff v ho hv=>h2.2 off v (by omega) (XI off v ho hv)⟩
    rcases h2.1 with VX | ⟨i'',k'',VX,hk'⟩
    ·exact .inl VX
    ·exact .inr ⟨i'',k'',VX,by omega⟩
theorem Trans.mem{E E':Env}(h:Trans E.w E'.w E.g E'.g):oe E E':=by
 refine⟨?_,λb ob hf ho=>by
  have h1:=h.yu b (bJ.1 ho).1
  rw[hf]at h1
  exact⟨h1.1,h1.2.trans ho⟩⟩
 intro b off v ⟨hc,ho⟩
 have hb:b < E.w.heap.size:=World.block_lt_of_cell? _ _ hc
 have h1:=h.yu b hb
 unfold Env.has oT at*
 cases hg:E.g b with
 |free=>
  rw[hg]at h1;simp only at h1
  refine⟨?_,by rw[h1.1];trivial⟩
  simpa only[World.cell?,h1.2]using hc
 |own o k=>
  rw[hg]at ho;simp only at ho
  cases o with
  |eL=>
   rw[hg]at h1;simp only at h1
   refine⟨?_,by rw[h1.1];exact ho⟩
   simpa only[World.cell?,h1.2]using hc
  |id i=>
   rw[hg]at h1;simp only at h1
   refine⟨h1.2 off v ho hc,?_⟩
   rcases h1.1 with h2 | ⟨i',k',h2,hk⟩
   ·rw[h2];trivial
   ·rw[h2];show off < k';omega
theorem tc.mono{E E':Env}(h:cP E E'){f:av}{tmps:Array Value}(hs:tc E f tmps):tc E' f tmps:=⟨hs.1,λi=>(hs.2 i).mono h⟩
theorem pE.Qf{E E':Env}(h:cP E E'){id:Id}{fr:Bool}{c:av}(ho:pE E id fr c)(hβ:E'.β id=E.β id)
    (hb:∀pl,E.β id=some pl->E'.w.heap[pl.b]? =E.w.heap[pl.b]? /\E'.g pl.b=E.g pl.b)
    (hq:∀q ver k v l,(∃kt vt rest cu,c= .nH q (ver+1) kt vt rest cu)->E.s q=some (.obj ver true (.mp k v l))->E'.cur q ver->(∃k v l,E'.s q=some (.obj ver true (.mp k v l)))/\∀pl,E.β q=some pl->E'.w.heap[pl.b]? =E.w.heap[pl.b]? /\E'.g pl.b=E.g pl.b):pE E' id fr c:=by
  by_cases hn:c.iI=false
  · obtain⟨pl,cur,e,h1,h2,h3,h5,h4⟩:=ho.box hn
    obtain⟨b1,b2⟩:=hb pl h1
    exact yp.obj ⟨pl,cur,e,by rw[hβ,h1],by rw[b1,h2],by rw[b2,h3],h5,h4.mono h⟩
  · cases c <;> first
      | (exact absurd rfl hn)
      | (obtain⟨pl,r,h1,h2,h3,h4,h5,h6⟩:=ho
         obtain⟨b1,b2⟩:=hb pl h1
         exact⟨pl,r,by rw[hβ,h1],by rw[b1,h2],by rw[b2,h3],h4,h5.mono h,h6⟩)
      | (obtain⟨pl,es,clock,h1,h2,h3,h4⟩:=ho
         obtain⟨b1,b2⟩:=hb pl h1
         exact⟨pl,es,clock,by rw[hβ,h1],by rw[b1,h2],by rw[b2,h3],⟨h4.1.1.mono h.mem,h4.1.2⟩,h4.2⟩)
      | (obtain⟨pl,mb,since,seen,c0,h1,h2,h3,hv⟩:=ho
         obtain⟨b1,b2⟩:=hb pl h1
         refine⟨pl,mb,since,seen,c0,by rw[hβ,h1],by rw[b1,h2],by rw[b2,h3],λvr Ic=> ?_⟩
         obtain⟨h4,h5⟩:=hv vr Ic
         refine⟨h.tT _ _ h4,λhc=> ?_⟩
         obtain⟨c1,e1⟩:=h.cur _ _ h4 hc
         obtain⟨⟨k,v,l,hk⟩,plq,es,clock,g1,g2,g3,g4,g5,g6,g7,g8,g9⟩:=h5 c1
         obtain⟨q1,q2⟩:=hq _ _ _ _ _ ⟨_,_,_,_,by rw[Ic]⟩ hk hc
         obtain⟨q3,q4⟩:=q2 plq g1
         exact⟨q1,plq,es,clock,by rw[e1,g1],g2,by rw[q3,g3],by rw[q4,g4],g5,g6,g7,g8.mono h.mem,λx hx=>
           let⟨e,se,a1,a2,a3,a4⟩:=g9 x hx
           ⟨e,se,a1,a2,a3,a4.mono h.mem⟩⟩)
      |skip
    rename_i e t l
    obtain⟨hz,ho⟩:=ho
    refine⟨hz,?_⟩
    rw[hβ]
    cases hp:E.β id with
    |none=>rw[hp]at ho;exact ho
    |some pl=>
      rw[hp]at ho
      simp only at ho ⊢
      obtain⟨b1,b2⟩:=hb pl hp
      obtain⟨cur,k,h1,h2,h3,h4,h5,h6,h7,h8⟩:=ho
      exact⟨cur,k,by rw[b1,h1],h2,h3,h4,by rw[b2,h5],h6,h7,h8.mono λc x hx=>hx.mono h.mem⟩
theorem pE.mono{E E':Env}(h:cP E E'){id:Id}{fr:Bool}{c:av}(ho:pE E id fr c)(hβ:E'.β id=E.β id)
  (hb:∀pl,E.β id=some pl->E'.w.heap[pl.b]? =E.w.heap[pl.b]? /\E'.g pl.b=E.g pl.b)
  (hq:∀q ver k v l,E.s q=some (.obj ver true (.mp k v l))->E'.cur q ver->(∃k v l,E'.s q=some (.obj ver true (.mp k v l)))/\∀pl,E.β q=some pl->E'.w.heap[pl.b]? =E.w.heap[pl.b]? /\E'.g pl.b=E.g pl.b):pE E' id fr c:=
 ho.Qf h hβ hb λq ver k v l _=>hq q ver k v l
def AS.env(s:AS)(w:World)(g:Nat->kY)(β:Id->Option Pl):Env:= {w,g,β,s:=s.bZ}
structure Ctx where
 E:Env
def Ctx.ok(C:Ctx):Prop:=(∀i j,C.E.s (.new i j)=none)/\∀k v fr c,C.E.s (.aV k)=some (.obj v fr c)->v=0
def pc(D:Nat):Deferred:= {target:= .collected D,args:= #[]}
def I9(n:Nat)(ds:List Deferred)(w:World)(g:Nat->kY):Prop:=
 ds.Nodup/\∀d∈ds,∃D,d=pc D/\n<=D/\w.heap[D]? =some (.deferred (some []))/\g D= .own .eL 0
theorem I9.mono{n:Nat}{ds:List Deferred}{w w':World}{g g':Nat->kY}(h:I9 n ds w g)(ht:Trans w w' g g'):I9 n ds w' g':=
 ⟨h.1,λd hd=>by
  obtain⟨D,h1,h2,h3,h4⟩:=h.2 d hd
  have:=ht.yu D (bJ.1 h3).1
  rw[h4]at this
  exact⟨D,h1,h2,this.2.trans h3,this.1⟩⟩
structure Inv(C:Ctx)(g:Nat->kY)(β:Id->Option Pl)(s:AS)(a:Act)(w:World):Prop where
 defers:I9 C.E.w.heap.size a.defers w g
 size:a.tmps.size=s.cr.length
 cr:∀i,VS (s.env w g β) (s.slot i) (a.tmps.getD i undef)
 bK:jc (s.env w g β)
 trans:Trans C.E.w w C.E.g g
 le:cP C.E (s.env w g β)
def iE(C:Ctx)(s:AS)(a:Act)(w:World):Prop:=∃g β,Inv C g β s a w
theorem B9(s:AS)(d:Nat)(v:av)(i:Nat):(s.put (some d) v).slot i=if i=d/\d < s.cr.length then v else s.slot i:=by
 simp only[AS.put,AS.slot,aA,List.getElem?_set]
 by_cases h:d=i
 ·subst h
  by_cases hl:d < s.cr.length
  ·simp[hl]
  ·simp[hl]
 ·simp[h,Ne.symm h]
@[simp] theorem vk(s:AS)(d:Option Tmp)(v:av):(s.put d v).bZ=s.bZ:=by
 cases d <;> rfl
@[simp] theorem Em(s:AS)(d:Option Tmp)(v:av)(w:World)(g:Nat->kY)(β:Id->Option Pl):(s.put d v).env w g β=s.env w g β:=by
 simp[AS.env]
theorem Hh(a:Act)(d:Nat)(v:Value)(i:Nat):(a.put (some d) v).tmps.getD i undef=if i=d/\d < a.tmps.size then v else a.tmps.getD i undef:=by
 simp only[Act.put,cJ,ea]
 by_cases h:d=i
 ·subst h
  by_cases hl:d < a.tmps.size
  ·simp[hl]
  ·simp[hl]
 ·simp[h,Ne.symm h]
theorem Inv.put{C:Ctx}{g:Nat->kY}{β:Id->Option Pl}{s:AS}{a:Act}{w:World}(h:Inv C g β s a w)(d:Option Tmp){v:av}{x:Value}(hv:VS (s.env w g β) v x):
  Inv C g β (s.put d v) (a.put d x) w:=by
 cases d with
 |none=>exact h
 |some d=>
  refine⟨h.defers,by simpa[Act.put,AS.put]using h.size,λi=> ?_,by simpa using h.bK,h.trans,by simpa using h.le⟩
  rw[Em,B9,Hh,h.size]
  split
  ·exact hv
  ·exact h.cr i
theorem Inv.step{C:Ctx}{g g':Nat->kY}{β β':Id->Option Pl}{s s':AS}{a:Act}{w w':World}(h:Inv C g β s a w)(hs:s'.cr=s.cr)
  (ht:Trans w w' g g') (he:cP (s.env w g β) (s'.env w' g' β')) (ho:jc (s'.env w' g' β')):Inv C g' β' s' a w':=
 ⟨h.defers.mono ht,by rw[hs];exact h.size,λi=>by
  have:s'.slot i=s.slot i:=by simp[AS.slot,hs]
  rw[this]
  exact(h.cr i).mono he,ho,h.trans.trans ht,h.le.trans he⟩
theorem L4{E:Env}(v:Value):VS E (ofConst v) v:=by
 cases v with
 |bool b=>exact⟨_,by simp[ofConst,V,dm],rfl⟩
 |int k n=>exact⟨_,by simp[ofConst,V,dm],rfl⟩
 |string s=>exact⟨_,by simp[ofConst,V,dm],rfl⟩
 |slice a l c=>cases a with
  |none=>
   cases l with
   |zero=>cases c with
    |zero=>exact⟨_,by simp[ofConst,V],rfl⟩
    |succ _=>trivial
   |succ _=>trivial
  |some _=>trivial
 |pointer a=>cases a with
  |none=>exact⟨_,by simp[ofConst,V],rfl⟩
  |some _=>trivial
 |map r=>cases r with
  |none=>exact⟨_,by simp[ofConst,V],rfl⟩
  |some _=>trivial
 |nilFunc=>exact⟨_,by simp[ofConst,V],rfl⟩
 |_=>trivial
theorem Inv.ev{C:Ctx}{g:Nat->kY}{β:Id->Option Pl}{s:AS}{a:Act}{w:World}(h:Inv C g β s a w)(x:Operand):VS (s.env w g β) (s.ev x) (a.eval x):=by
 cases x with
 |tmp t=>exact h.cr t
 |const v=>exact L4 v
 |func f=>exact⟨_,by simp only[AS.ev,V];exact⟨[],rfl,by simp[VC]⟩,rfl⟩
 |global _=>trivial
theorem eS(s:AS)(id:Id)(e:dS)(h:s.bZ id≠none):(s.aO id e).bZ id=some e:=by
 cases id with
 |aV k=>
  simp only[AS.bZ,AS.aO]at*
  have hk:k < s.cz.length:=by
   rcases mC k s.cz.length with h' | h'
   ·exact h'
   ·exact absurd (dM h') h
  simp[hk]
 |new i j=>
  simp only[AS.bZ,AS.aO]at*
  have hj:j < (s.news.getD i []).length:=by
   rcases mC j (s.news.getD i []).length with h' | h'
   ·exact h'
   ·exact absurd (dM h') h
  have hi:i < s.news.length:=by
   rcases mC i s.news.length with h' | h'
   ·exact h'
   ·simp[dM h']at hj
  have:((s.news.set i ((s.news.getD i []).set j e)).getD i [])=(s.news.getD i []).set j e:=by
   simp[aA,hi]
  rw[this]
  simp only[List.getElem?_set,hj,if_true]
theorem da(s:AS)(id id':Id)(e:dS)(h:id'≠id):(s.aO id e).bZ id'=s.bZ id':=by
 cases id with
 |aV k=>
  cases id' with
  |aV k'=>
   simp only[AS.bZ,AS.aO]
   rw[eW (λe=>h (by rw[e]))]
  |new i j=>rfl
 |new i j=>
  cases id' with
  |aV k'=>rfl
  |new i' j'=>
   simp only[AS.bZ,AS.aO]
   by_cases hi:i'=i
   ·subst hi
    have hj:j≠j':=λe=>h (by rw[e])
    by_cases hl:i' < s.news.length
    ·have:((s.news.set i' ((s.news.getD i' []).set j e)).getD i' [])=(s.news.getD i' []).set j e:=by
      simp[aA,hl]
     rw[this,eW hj]
    ·rw[List.set_eq_of_length_le (by omega)]
   ·have:(s.news.set i ((s.news.getD i []).set j e)).getD i' []=s.news.getD i' []:=by
     simp only[aA]
     rw[eW (Ne.symm hi)]
    rw[this]
@[simp] theorem du(s:AS)(id:Id)(e:dS):(s.aO id e).cr=s.cr:=by cases id <;> rfl
@[simp] theorem R3(s:AS)(i:Nat)(es:List dS):(s.born i es).cr=s.cr:=rfl
theorem eH{s:AS}{id:Id}{v:Nat}{fr:Bool}{c:av}(h:s.obj id=some (v,fr,c)):s.bZ id=some (.obj v fr c):=by
 unfold AS.obj at h
 split at h
 ·rename_i h';simp at h;obtain⟨rfl,rfl,rfl⟩:=h;exact h'
 ·cases h
theorem cP.aO{s:AS}{w w':World}{g g':Nat->kY}{β β':Id->Option Pl}{id:Id}{v v':Nat}{fr fr':Bool}{c c':av}(hs:s.bZ id=some (.obj v fr c))(hv:v<=v')
  (ht:Trans w w' g g') (hβ:∀i,i≠id->β' i=β i) (hβ':v'=v->β' id=β id):cP (s.env w g β) ((s.aO id (.obj v' fr' c')).env w' g' β'):=by
 have kW:=eS s id (.obj v' fr' c') (by rw[hs];simp)
 refine⟨Trans.mem ht,λi ver hb=> ?_,λi ver hb hc=> ?_⟩
 ·by_cases hi:i=id
  ·subst hi
   obtain⟨_,h2⟩:=hb
   refine⟨by show(s.aO i (.obj v' fr' c')).bZ i≠none;rw[kW];simp,λv'' fr'' c'' he=> ?_⟩
   have he':(s.aO i (.obj v' fr' c')).bZ i=some (.obj v'' fr'' c''):=he
   rw[kW]at he'
   simp only[aq,dS.obj.injEq]at he'
   have:=h2 v fr c hs
   omega
  ·have:=da s id i (.obj v' fr' c') hi
   obtain⟨h1,h2⟩:=hb
   exact⟨by show(s.aO id (.obj v' fr' c')).bZ i≠none;rw[this];exact h1,λv'' fr'' c'' he=>h2 v'' fr'' c'' (this.symm.trans he)⟩
 ·obtain⟨fr'',c'',hc⟩:=hc
  by_cases hi:i=id
  ·subst hi
   have hc':(s.aO i (.obj v' fr' c')).bZ i=some (.obj ver fr'' c''):=hc
   rw[kW]at hc'
   simp only[aq,dS.obj.injEq]at hc'
   have h2:=hb.2 v fr c hs
   have e:v'=v:=by omega
   refine⟨⟨fr,c,?_⟩,hβ' e⟩
   rw[<-hc'.1,e];exact hs
  ·have hc':(s.aO id (.obj v' fr' c')).bZ i=some (.obj ver fr'' c''):=hc
   rw[da s id i _ hi]at hc'
   exact⟨⟨fr'',c'',hc'⟩,hβ i hi⟩
theorem jc.aO{s:AS}{w w':World}{g g':Nat->kY}{β β':Id->Option Pl}{id:Id}{v':Nat}{fr':Bool}{c':av}(h:jc (s.env w g β))(fL:s.bZ id≠none)
  (he:cP (s.env w g β) ((s.aO id (.obj v' fr' c')).env w' g' β')) (hβ:∀i,i≠id->β' i=β i)
  (hb:∀i ver fr c pl,i≠id->s.bZ i=some (.obj ver fr c)->β i=some pl->w'.heap[pl.b]? =w.heap[pl.b]? /\g' pl.b=g pl.b)
  (ho:pE ((s.aO id (.obj v' fr' c')).env w' g' β') id fr' c')
  (Fc:∀ver k v l,s.bZ id=some (.obj ver true (.mp k v l))->v'=ver/\fr'=true/\(∃k v l,c'= .mp k v l)/\∀pl,β id=some pl->w'.heap[pl.b]? =w.heap[pl.b]? /\g' pl.b=g pl.b):jc ((s.aO id (.obj v' fr' c')).env w' g' β'):=by
 intro i ver fr c hi
 by_cases dq:i=id
 ·subst dq
  have hi':(s.aO i (.obj v' fr' c')).bZ i=some (.obj ver fr c):=hi
  rw[eS s i _ fL]at hi'
  simp only[aq,dS.obj.injEq]at hi'
  obtain⟨rfl,rfl,rfl⟩:=hi'
  exact ho
 ·have hi':(s.aO id (.obj v' fr' c')).bZ i=some (.obj ver fr c):=hi
  rw[da s id i _ dq]at hi'
  refine(h i ver fr c hi').mono he (hβ i dq) (λpl hp=>hb i ver fr c pl dq hi' hp) λq vq k v l hq hc=> ?_
  have hq:s.bZ q=some (.obj vq true (.mp k v l)):=hq
  by_cases WA:q=id
  ·subst WA
   obtain⟨rfl,rfl,⟨k',v',l',rfl⟩,SI⟩:=Fc _ _ _ _ hq
   exact⟨⟨k',v',l',eS s q _ fL⟩,SI⟩
  ·exact⟨⟨k,v,l,by show(s.aO id _).bZ q=_;rw[da s id q _ WA];exact hq⟩,λpl hp=>hb q vq true _ pl WA hq hp⟩
theorem Ag{s:AS}{w:World}{g:Nat->kY}{β:Id->Option Pl}{id:Id}{v:Nat}{fr:Bool}{c:av}(hs:s.bZ id=some (.obj v fr c)):
  ∀ver k v1 l,s.bZ id=some (.obj ver true (.mp k v1 l))->v=ver/\true=true/\(∃k v l,c= .mp k v l)/\∀pl,β id=some pl->w.heap[pl.b]? =w.heap[pl.b]? /\g pl.b=g pl.b:=λver k v1 l hl=>by
 rw[hs]at hl
 cases hl
 exact⟨rfl,rfl,⟨_,_,_,rfl⟩,λ_ _=>⟨rfl,rfl⟩⟩
theorem mG{s:AS}{id:Id}{v:Nat}{fr:Bool}{c:av}(hs:s.bZ id=some (.obj v fr c))(hc:∀k v1 l,c≠ .mp k v1 l){Q:Nat->Prop}:
  ∀ver k v1 l,s.bZ id=some (.obj ver true (.mp k v1 l))->Q ver:=λver k v1 l hl=>by
 rw[hs]at hl
 cases hl
 exact absurd rfl (hc _ _ _)
theorem xB{s:AS}{id:Id}{v:Nat}{c:av}(hs:s.bZ id=some (.obj v false c)){Q:Nat->Prop}:
  ∀ver k v1 l,s.bZ id=some (.obj ver true (.mp k v1 l))->Q ver:=λver k v1 l hl=>by
 rw[hs]at hl
 cases hl
theorem vc{s:AS}{id:Id}{v:Nat}{fr:Bool}{c:av}(hs:s.bZ id=some (.obj v fr c))(h:s.oL id=true):fr=false:=by
 have e:s.obj id=some (v,fr,c):=by simp[AS.obj,hs]
 unfold AS.oL at h
 rw[e]at h
 simpa using h
theorem pE.label{E:Env}{id:Id}{fr:Bool}{c:av}(h:pE E id fr c){pl:Pl}(hp:E.β id=some pl):
    pl.b < E.w.heap.size/\((∃k,E.g pl.b= .own (.id id) k)\/(fr=true/\E.g pl.b= .free)):=by
  by_cases hn:c.iI=false
  · obtain⟨pl',cur,e,h1,h2,h3,h4⟩:=h.box hn
    rw[hp]at h1
    obtain rfl:pl=pl':=by simpa using h1
    refine⟨(bJ.1 h2).1,?_⟩
    cases fr with
    |true=>exact .inr ⟨rfl,h3⟩
    |false=>exact .inl ⟨0,h3⟩
  · cases c <;> first
      | (exact absurd rfl hn)
      | (obtain⟨pl',r,h1,h2,h3,_,_,_⟩:=h
         rw[hp]at h1
         obtain rfl:pl=pl':=by simpa using h1
         exact⟨(bJ.1 h2).1,.inl ⟨0,h3⟩⟩)
      | (obtain⟨pl',es,clock,h1,h2,h3,_⟩:=h
         rw[hp]at h1
         obtain rfl:pl=pl':=by simpa using h1
         exact⟨(bJ.1 h2).1,.inl ⟨0,h3⟩⟩)
      | (obtain⟨pl',mb,since,seen,c0,h1,h2,h3,_⟩:=h
         rw[hp]at h1
         obtain rfl:pl=pl':=by simpa using h1
         exact⟨(bJ.1 h2).1,.inl ⟨0,h3⟩⟩)
      |skip
    obtain⟨_,h⟩:=h
    rw[hp]at h
    obtain⟨cur,k,h1,_,_,_,h5,_⟩:=h
    exact⟨(bJ.1 h1).1,.inl ⟨k,h5⟩⟩
def lp{α:Type}(f:Nat->α)(b:Nat)(x:α):Nat->α:=λb'=>if b'=b then x else f b'
@[simp] theorem fJ{α:Type}(f:Nat->α)(b:Nat)(x:α):lp f b x b=x:=by simp[lp]
theorem fA{α:Type}(f:Nat->α)(b:Nat)(x:α){b':Nat}(h:b'≠b):lp f b x b'=f b':=by simp[lp,h]
def AZ:av->Nat->Prop
 | .vec _ t l,j=>j < l.length*t.size
 |_,_=>True
theorem AZ.of{c:av}(h:c.iI=false)(j:Nat):AZ c j:=by
 cases c <;> first | trivial | (simp[av.iI]at h)
theorem Ml{w:World}{b:Nat}{es:Array MapEntry}{clock:Nat}(h:w.heap[b]? =some (.map es clock))(j:Nat):w.cell? ⟨b,j,none⟩=none:=by
 simp[World.cell?,h]
theorem Eu{C:Ctx}{g:Nat->kY}{β:Id->Option Pl}{s:AS}{a:Act}{w:World}(h:Inv C g β s a w)(id:Id):
    ∃g',Inv C g' β (s.freeze id) a w/\cP (s.env w g β) ((s.freeze id).env w g' β)/\Trans w w g g'/\
      (∀v fr c,s.bZ id=some (.obj v fr c)->∀pl,β id=some pl->∀j x,w.cell? ⟨pl.b,j,none⟩=some x->
        AZ c j->oT g' pl.b j):=by
  unfold AS.freeze
  cases hs:s.bZ id with
  |none=>exact⟨g,h,cP.refl _,Trans.refl _ _,λ_ _ _ hh=>by cases hh⟩
  |some e=>
    cases e with
    |dead=>exact⟨g,h,cP.refl _,Trans.refl _ _,λ_ _ _ hh=>by cases hh⟩
    |obj v fr c=>
      simp only
      have kr:pE (s.env w g β) id fr c:=h.bK id v fr c hs
      cases hp:β id with
      |none=>
        have ht:=Trans.refl w g
        have he:cP (s.env w g β) ((s.aO id (.obj v true c)).env w g β):=cP.aO hs (aw _) ht (λ_ _=>rfl) (λ_=>rfl)
        refine⟨g,h.step (du _ _ _) ht he ?_,he,ht,λ_ _ _ _ pl zO=>by cases zO⟩
        refine jc.aO h.bK (by rw[hs];simp) he (λ_ _=>rfl) (λ_ _ _ _ _ _ _ _=>⟨rfl,rfl⟩) ?_ (Ag hs)
        by_cases hn:c.iI=false
        · obtain⟨pl,_,_,h1,_⟩:=kr.box hn
          have h1':β id=some pl:=h1
          rw[hp]at h1';cases h1'
        · cases c <;> first
            | (exact absurd rfl hn)
            | (obtain⟨pl,_,h1,_⟩:=kr
               have h1':β id=some pl:=h1
               rw[hp]at h1';cases h1')
            | (obtain⟨pl,_,_,h1,_⟩:=kr
               have h1':β id=some pl:=h1
               rw[hp]at h1';cases h1')
            | (obtain⟨pl,_,_,_,_,h1,_⟩:=kr
               have h1':β id=some pl:=h1
               rw[hp]at h1';cases h1')
            |skip
          obtain⟨hz,ho⟩:=kr
          have ho':(match β id with
            |none=>_
            |some pl=>_):=ho
          refine⟨hz,?_⟩
          show(match β id with
            |none=>_
            |some pl=>_)
          rw[hp]at ho' ⊢
          exact ho'
      |some pl=>
        have TZ:=kr.label (pl:=pl) hp
        by_cases hn:c.iI=false
        · obtain⟨pl',cur,e,h1,h2,h3,h5,h4⟩:=kr.box hn
          have h1':β id=some pl':=h1
          rw[hp]at h1'
          obtain rfl:pl=pl':=by simpa using h1'
          have h3':g pl.b=HK id fr:=h3
          have ht:Trans w w g (lp g pl.b .free):=by
            refine⟨rfl,rfl,⟨rfl,aw _⟩,aw _,λb hb=> ?_⟩
            by_cases Ew:b=pl.b
            · subst Ew
              rw[h3',fJ]
              cases fr with
              |true=>exact⟨rfl,rfl⟩
              |false=>exact⟨.inl rfl,λ_ _ _ hh=>hh⟩
            · rw[fA _ _ _ Ew]
              exact(Trans.refl w g).yu b hb
          have he:cP (s.env w g β) ((s.aO id (.obj v true c)).env w (lp g pl.b .free) β):=cP.aO hs (aw _) ht (λ_ _=>rfl) (λ_=>rfl)
          refine⟨lp g pl.b .free,h.step (du _ _ _) ht he ?_,he,ht,?_⟩
          · refine jc.aO h.bK (by rw[hs];simp) he (λ_ _=>rfl) (λi ver fr' c' pl' hi cV zO=>⟨rfl,?_⟩) ?_ (mG hs λk v1 l e=>by rw[e]at hn;simp[av.iI]at hn)
            · by_cases Ew:pl'.b=pl.b
              · rw[Ew,fJ]
                have hl:=(h.bK i ver fr' c' cV).label (pl:=pl') zO
                have H9:(∃k,g pl'.b= .own (.id i) k)\/(fr'=true/\g pl'.b= .free):=hl.2
                rw[Ew,h3']at H9
                cases fr with
                |true=>exact h3'.symm▸rfl
                |false=>
                  exfalso
                  rcases H9 with⟨k,hk⟩ | ⟨_,hk⟩
                  · simp only[HK,kY.own.injEq,Own.id.injEq]at hk
                    exact hi hk.1.symm
                  · cases hk
              · rw[fA _ _ _ Ew]
            · exact yp.obj ⟨pl,cur,e,hp,h2,fJ _ _ _,h5,V.mono he h4⟩
          · intro v1 fr1 c1 hh pl1 EA j x hx hj
            obtain rfl:pl=pl1:=by simpa using EA
            unfold oT;rw[fJ];trivial
        · cases c <;> first | (exact absurd rfl hn) | skip
          rotate_left
          rotate_left
          · rename_i q vq kt vt rest cu
            have ht:=Trans.refl w g
            have he:cP (s.env w g β) ((s.aO id (.obj v true (.nH q vq kt vt rest cu))).env w g β):=cP.aO hs (aw _) ht (λ_ _=>rfl) (λ_=>rfl)
            have hob':=kr
            obtain⟨pl',mb,since,seen,c0,h1,h2,_⟩:=kr
            have h1':β id=some pl':=h1
            rw[hp]at h1'
            obtain rfl:pl=pl':=by simpa using h1'
            refine⟨g,h.step (du _ _ _) ht he ?_,he,ht,λ_ _ _ _ pl1 EA j x hx _=> ?_⟩
            · refine jc.aO h.bK (by rw[hs];simp) he (λ_ _=>rfl) (λ_ _ _ _ _ _ _ _=>⟨rfl,rfl⟩) ?_ (Ag hs)
              exact pE.mono he (fr:=true) hob' rfl (λ_ _=>⟨rfl,rfl⟩) λq2 v2 k2 v3 l2 yL _=>⟨⟨k2,v3,l2,by
                have yL:s.bZ q2=some (.obj v2 true (.mp k2 v3 l2)):=yL
                have fL:q2≠id:=λe=>by rw[e,hs]at yL;cases yL
                show(s.aO id _).bZ q2=_
                rw[da s id q2 _ fL];exact yL⟩,λ_ _=>⟨rfl,rfl⟩⟩
            · obtain rfl:pl=pl1:=by simpa using EA
              have h2:w.heap[pl.b]? =some (.mapIter (some mb) since seen c0):=h2
              simp[World.cell?,h2]at hx
          · rename_i k f p
            have ht:=Trans.refl w g
            have he:cP (s.env w g β) ((s.aO id (.obj v true (.mr k f p))).env w g β):=cP.aO hs (aw _) ht (λ_ _=>rfl) (λ_=>rfl)
            obtain⟨pl',r,h1,h2,h3,h4,h5,h6⟩:=kr
            have h1':β id=some pl':=h1
            rw[hp]at h1'
            obtain rfl:pl=pl':=by simpa using h1'
            refine⟨g,h.step (du _ _ _) ht he ?_,he,ht,λ_ _ _ _ pl1 EA j x hx _=> ?_⟩
            · exact jc.aO h.bK (by rw[hs];simp) he (λ_ _=>rfl) (λ_ _ _ _ _ _ _ _=>⟨rfl,rfl⟩) ⟨pl,r,hp,h2,h3,h4,h5.mono he,h6⟩ (Ag hs)
            · obtain rfl:pl=pl1:=by simpa using EA
              have h2:w.heap[pl.b]? =some (.loop r):=h2
              simp[World.cell?,h2]at hx
          rotate_left
          · obtain⟨pl',es,clock,h1,h2,h3,h4⟩:=kr
            have h1':β id=some pl':=h1
            rw[hp]at h1'
            obtain rfl:pl=pl':=by simpa using h1'
            have ht:=Trans.refl w g
            rename_i kt vt l
            have he:cP (s.env w g β) ((s.aO id (.obj v true (.mp kt vt l))).env w g β):=cP.aO hs (aw _) ht (λ_ _=>rfl) (λ_=>rfl)
            refine⟨g,h.step (du _ _ _) ht he ?_,he,ht,λ_ _ _ _ pl1 EA j x hx _=> ?_⟩
            · exact jc.aO h.bK (by rw[hs];simp) he (λ_ _=>rfl) (λ_ _ _ _ _ _ _ _=>⟨rfl,rfl⟩) ⟨pl,es,clock,hp,h2,h3,⟨h4.1.1.mono he.mem,h4.1.2⟩,h4.2⟩ (Ag hs)
            · obtain rfl:pl=pl1:=by simpa using EA
              have h2:w.heap[pl.b]? =some (.map es clock):=h2
              rw[Ml h2]at hx
              cases hx
          rename_i e t l
          obtain⟨hz,ho⟩:=kr
          have ho':(match β id with
            |none=>l=[]
            |some pl=>∃cur k,w.heap[pl.b]? =some (.cells cur e (0,0))/\cur.size=pl.cap*t.size/\l.length<=pl.cap/\pl.cap<=maxLen/\g pl.b= .own (.id id) k/\
                k<=l.length*t.size/\(fr=false->k=0)/\bj (dm (s.env w g β) t) (cur.toList.take (l.length*t.size)) l):=ho
          rw[hp]at ho'
          obtain⟨cur,k,h1,h2,h3,h4,h5,h6,h7,h8⟩:=ho'
          have ht:Trans w w g (lp g pl.b (.own (.id id) (l.length*t.size))):=by
            refine⟨rfl,rfl,⟨rfl,aw _⟩,aw _,λb hb=> ?_⟩
            by_cases Ew:b=pl.b
            · subst Ew
              rw[h5,fJ]
              exact⟨.inr ⟨id,_,rfl,h6⟩,λ_ _ _ hh=>hh⟩
            · rw[fA _ _ _ Ew]
              exact(Trans.refl w g).yu b hb
          have he:cP (s.env w g β) ((s.aO id (.obj v true (.vec e t l))).env w (lp g pl.b (.own (.id id) (l.length*t.size))) β):=cP.aO hs (aw _) ht (λ_ _=>rfl) (λ_=>rfl)
          refine⟨_,h.step (du _ _ _) ht he ?_,he,ht,?_⟩
          · refine jc.aO h.bK (by rw[hs];simp) he (λ_ _=>rfl) (λi ver fr' c' pl' hi cV zO=>⟨rfl,?_⟩) ?_ (mG hs λk v1 l e=>by cases e)
            · by_cases Ew:pl'.b=pl.b
              · exfalso
                have hl:=(h.bK i ver fr' c' cV).label (pl:=pl') zO
                have H9:(∃k,g pl'.b= .own (.id i) k)\/(fr'=true/\g pl'.b= .free):=hl.2
                rw[Ew,h5]at H9
                rcases H9 with⟨k,hk⟩ | ⟨_,hk⟩
                · simp only[kY.own.injEq,Own.id.injEq]at hk
                  exact hi hk.1.symm
                · cases hk
              · rw[fA _ _ _ Ew]
            · refine⟨hz,?_⟩
              show(match β id with
                |none=>l=[]
                |some pl=>_)
              rw[hp]
              exact⟨cur,_,h1,h2,h3,h4,fJ _ _ _,aw _,(by intro hh;cases hh),h8.mono λc x hx=>hx.mono he.mem⟩
          · intro v1 fr1 c1 hh pl1 EA j x hx hj
            obtain rfl:pl=pl1:=by simpa using EA
            simp only[aq,dS.obj.injEq]at hh
            obtain⟨_,_,rfl⟩:=hh
            unfold oT;rw[fJ];exact hj
end Go.Ab
namespace Go.Ab
def Ta(E E':Env)(ids:List Id):Prop:=
 ∀id∈ids,∀v fr c,E.s id=some (.obj v fr c)->∀pl,E.β id=some pl->∀j x,E.w.cell? ⟨pl.b,j,none⟩=some x->
  AZ c j->E'.has pl.b j x
theorem AB{s:AS}{id i:Id}{v:Nat}{fr:Bool}{c:av}(h:s.bZ i=some (.obj v fr c)):∃fr',(s.freeze id).bZ i=some (.obj v fr' c):=by
 unfold AS.freeze
 by_cases hi:i=id
 ·subst hi
  rw[h]
  exact⟨true,eS s i _ (by rw[h];simp)⟩
 ·split
  ·exact⟨fr,by rw[da s id i _ hi];exact h⟩
  ·exact⟨fr,h⟩
theorem gf{C:Ctx}{β:Id->Option Pl}{a:Act}{w:World}:∀(ids:List Id) {g:Nat->kY} {s:AS},Inv C g β s a w->
  ∃g',Inv C g' β (s.bl ids) a w/\cP (s.env w g β) ((s.bl ids).env w g' β)/\Trans w w g g'/\Ta (s.env w g β) ((s.bl ids).env w g' β) ids
 |[],g,s,h=>⟨g,h,cP.refl _,Trans.refl _ _,λ_ hi=>by cases hi⟩
 |id::ids,g,s,h=>by
  obtain⟨g1,h1,e1,t1,f1⟩:=Eu h id
  obtain⟨g2,h2,e2,t2,f2⟩:=gf ids h1
  refine⟨g2,h2,e1.trans e2,t1.trans t2,λi hi v fr c hs pl hp j x hx hj=> ?_⟩
  rcases cX.1 hi with rfl | hi
  ·exact e2.mem.has _ _ _ ⟨hx,f1 v fr c hs pl hp j x hx hj⟩
  ·obtain⟨fr',hs'⟩:=AB (id:=id) hs
   exact f2 i hi v fr' c hs' pl hp j x hx hj
theorem E0(s:AS)(id:Id):(s.freeze id).cr=s.cr:=by unfold AS.freeze;split <;> simp
theorem lC:∀(ids:List Id) (s:AS),(s.bl ids).cr=s.cr
 |[],_=>rfl
 |id::ids,s=>by rw[AS.bl,lC ids,E0]
theorem GA(s:AS)(id:Id)(q:Nat):(s.freeze id).ek q=s.ek q:=by
 unfold AS.freeze
 split
 ·rename_i v b c h
  cases id with
  |aV k=>rfl
  |new i j=>
   simp only[AS.aO,AS.ek]
   by_cases hq:i=q
   ·subst hq
    simp only[AS.bZ]at h
    by_cases hl:i < s.news.length
    ·rw[List.getElem?_set_self hl,cj hl]
     rw[aA,cj hl]at h ⊢
     simp only[dW]at h ⊢
     cases hh:s.news[i]with
     |nil=>rw[hh]at h;simp at h
     |cons x xs=>cases j <;> simp[List.set]
    ·rw[List.set_eq_of_length_le (by omega)]
   ·rw[eW hq]
 ·rfl
theorem pj:∀(ids:List Id) (s:AS) (q:Nat),(s.bl ids).ek q=s.ek q
 |[],_,_=>rfl
 |id::ids,s,q=>by rw[AS.bl,pj ids,GA]
theorem Be{e:TypeId}{t:Ty}:∀ {p:List vI} {n:Nat} {v:av},(loc (.vec e t []) p).eval=some (n,v)->n=0/\v= .vec e t []
 |[],n,v,h=>by
  simp only[loc,ao,cR]at h
  exact⟨h.1.symm,h.2.symm⟩
 | .arr::p,n,v,h=>by
  simp only[loc]at h
  exact Be h
 | .idx i::p,n,v,h=>by simp[loc,bO]at h
 | .fst::p,n,v,h=>by simp only[loc,ai]at h
 | .snd::p,n,v,h=>by simp only[loc,ai]at h
theorem Aj{k:oX}{f:av}{m:Nat}:∀ {p:List vI} {n:Nat} {v:av},(loc (.mr k f m) p).eval=some (n,v)->n=0/\v= .mr k f m
 |[],n,v,h=>by
  simp only[loc,ao,cR]at h
  exact⟨h.1.symm,h.2.symm⟩
 | .arr::p,n,v,h=>by
  simp only[loc]at h
  exact Aj h
 | .idx i::p,n,v,h=>by simp only[loc,ai]at h
 | .fst::p,n,v,h=>by simp only[loc,ai]at h
 | .snd::p,n,v,h=>by simp only[loc,ai]at h
theorem EJ{k t:Ty}{l:List (k.den×t.den)}:∀ {p:List vI} {n:Nat} {v:av},(loc (.mp k t l) p).eval=some (n,v)->n=0/\v= .mp k t l
 |[],n,v,h=>by
  simp only[loc,ao,cR]at h
  exact⟨h.1.symm,h.2.symm⟩
 | .arr::p,n,v,h=>by
  simp only[loc]at h
  exact EJ h
 | .idx i::p,n,v,h=>by simp only[loc,ai]at h
 | .fst::p,n,v,h=>by simp only[loc,ai]at h
 | .snd::p,n,v,h=>by simp only[loc,ai]at h
theorem Ai{q:Id}{ver:Nat}{k t:Ty}{l:List (k.den×t.den)}{cu:Option (k.den×t.den)}:∀ {p:List vI} {n:Nat} {v:av},(loc (.nH q ver k t l cu) p).eval=some (n,v)->n=0/\v= .nH q ver k t l cu
 |[],n,v,h=>by
  simp only[loc,ao,cR]at h
  exact⟨h.1.symm,h.2.symm⟩
 | .arr::p,n,v,h=>by
  simp only[loc]at h
  exact Ai h
 | .idx i::p,n,v,h=>by simp only[loc,ai]at h
 | .fst::p,n,v,h=>by simp only[loc,ai]at h
 | .snd::p,n,v,h=>by simp only[loc,ai]at h
theorem yY{E:Env}{s:AS}(hs:E.s=s.bZ)(ho:jc E){id:Id}{ver:Nat}{p:List vI}{n:Nat}{t:Ty}{l:List t.den}(h:(s.row id ver p).eval=some (n,⟨t,l⟩)):
    ∃fr c,E.s id=some (.obj ver fr c)/\((E.β id=none/\l=[]/\n=0)\/∃pl cur e,E.β id=some pl/\E.w.heap[pl.b]? =some (.cells cur e (0,0))/\n+l.length*t.size<=cur.size/\
      bj (dm E t) ((cur.toList.drop n).take (l.length*t.size)) l/\
      ∀j,j < n+l.length*t.size->AZ c j):=by
  unfold AS.row at h
  cases kr:s.obj id with
  |none=>rw[kr]at h;simp only[ai]at h
  |some r=>
    obtain⟨v,fr,c⟩:=r
    rw[kr]at h
    obtain⟨h1,h2⟩:=ay.1 h
    obtain⟨⟨n',v'⟩,h3,h4⟩:=ak.1 h2
    have hv:v=ver:=by simpa using h1
    subst hv
    have cV:E.s id=some (.obj v fr c):=by rw[hs];exact eH kr
    refine⟨fr,c,cV,?_⟩
    have hO:=ho id v fr c cV
    have H5:∀(pl:Pl) (cur:Array Value) (e:TypeId) (m:Nat) (t':Ty) (l':List t'.den) (n':Nat),E.β id=some pl->E.w.heap[pl.b]? =some (.cells cur e (0,0))->c.iI=false->
        V E (.d (.arr m t') l') ((cur.toList.drop n').take (av.d (.arr m t') l').size)->n'+(av.d (.arr m t') l').size<=cur.toList.length->(Out.ok (n',(⟨t',l'⟩:(t:Ty)×List t.den))).eval=some (n,⟨t,l⟩)->
        ∃pl cur e,E.β id=some pl/\E.w.heap[pl.b]? =some (.cells cur e (0,0))/\n+l.length*t.size<=cur.size/\bj (dm E t) ((cur.toList.drop n).take (l.length*t.size)) l/\
          ∀j,j < n+l.length*t.size->AZ c j:=by
      intro pl cur e m t' l' n' hp hh hn hv hl he
      simp only[ao,cR]at he
      obtain⟨rfl,he⟩:=he
      obtain⟨rfl,he⟩:=he
      simp only[V,dm]at hv
      obtain⟨Rx,zh⟩:=hv
      have ou:∀(t:Ty) (l:List t.den),l.length=m->(av.d (.arr m t) l).size=l.length*t.size:=λt l hh=>by simp[av.size,Ty.size,hh]
      rw[ou _ _ Rx]at zh hl
      exact⟨pl,cur,e,hp,hh,by simpa using hl,zh,λj _=>AZ.of hn j⟩
    by_cases hn:c.iI=false
    · right
      obtain⟨pl,cur,e,hp,hh,hg,hk,hV⟩:=hO.box hn
      have hN:=z6 hk
      generalize c.qd cur.size=N at hN hV
      have hNl:(cur.toList.take N).length=N:=by rw[bQ,cO];omega
      obtain⟨u,hu⟩:∃u,c.strip=u:=⟨_,rfl⟩
      rw[hu]at hV h3
      have OP:∀m k:Nat,m+k<=(cur.toList.take N).length->((cur.toList.take N).drop m).take k=(cur.toList.drop m).take k/\m+k<=cur.toList.length:=λm k OT=>by
        rw[hNl]at OT
        refine⟨?_,by rw[cO];omega⟩
        rw[od,kE,gH (by omega)]
      rcases nR p u (cur.toList.take N) n' v' (VO.of hV) h3 with⟨rfl,rfl⟩ | ⟨hV',hle⟩
      · cases v' with
        |d t' x=>cases t' with
          |arr m t'=>
            have hs:=hV.size
            have hc:=OP 0 (av.d (.arr m t') x).size (by omega)
            refine H5 pl cur e m t' x 0 hp hh hn ?_ hc.2 (by simpa only using h4)
            rw[<-hc.1,aJ,bk (by omega)]
            exact hV
          |_=>simp only[ai]at h4
        |vec=>simp only[V]at hV
        |_=>simp only[ai]at h4
      · cases v' with
        |d t' x=>cases t' with
          |arr m t'=>
            have hc:=OP _ _ hle
            exact H5 pl cur e m t' x n' hp hh hn (by rw[<-hc.1];exact hV') hc.2 (by simpa only using h4)
          |_=>simp only[ai]at h4
        |vec=>simp only[V]at hV'
        |_=>simp only[ai]at h4
    · cases c <;> first
        | (exact absurd rfl hn)
        | (obtain⟨rfl,rfl⟩:=EJ h3
           simp only[ai]at h4)
        | (obtain⟨rfl,rfl⟩:=Ai h3
           simp only[ai]at h4)
        | (obtain⟨rfl,rfl⟩:=Aj h3
           simp only[ai]at h4)
        |skip
      rename_i e t0 l0
      obtain⟨hz,hO⟩:=hO
      cases hp:E.β id with
      |none=>
        rw[hp]at hO
        have TY:l0=[]:=hO
        subst TY
        obtain⟨rfl,rfl⟩:=Be h3
        simp only[ao,cR]at h4
        obtain⟨rfl,he⟩:=h4
        obtain⟨rfl,he⟩:=he
        exact .inl ⟨rfl,rfl,rfl⟩
      |some pl=>
        rw[hp]at hO
        obtain⟨cur,k,q1,q2,q3,q4,q5,q6,q7,q8⟩:=hO
        right
        have hlen:(cur.toList.take (l0.length*t0.size)).length=l0.length*t0.size:=bj.length (λc x hx=>dm.size hx) q8
        have MO:l0.length*t0.size<=cur.size:=by rw[q2];exact cY _ q3
        rcases nR (E:=E) p (.vec e t0 l0) (cur.toList.take (l0.length*t0.size)) n' v' q8 h3 with⟨rfl,rfl⟩ | ⟨hV',hle⟩
        · simp only[ao,cR]at h4
          obtain⟨rfl,he⟩:=h4
          obtain⟨rfl,he⟩:=he
          exact⟨pl,cur,e,rfl,q1,by omega,by simpa using q8,λj hj=>by show j < l.length*t.size;omega⟩
        · have hle':=hle
          rw[hlen]at hle'
          rw[od,kE,gH (by omega)]at hV'
          cases v' with
          |d t' x=>cases t' with
            |arr m t'=>
              simp only[ao,cR]at h4
              obtain⟨rfl,he⟩:=h4
              obtain⟨rfl,he⟩:=he
              simp only[V,dm]at hV'
              obtain⟨Rx,zh⟩:=hV'
              have ou:∀(t:Ty) (l:List t.den),l.length=m->(av.d (.arr m t) l).size=l.length*t.size:=λt l hh=>by simp[av.size,Ty.size,hh]
              rw[ou _ _ Rx]at zh hle'
              refine⟨pl,cur,e,rfl,q1,by omega,zh,λj hj=> ?_⟩
              show j < l0.length*t0.size
              omega
            |_=>simp only[ai]at h4
          |vec=>simp only[V]at hV'
          |_=>simp only[ai]at h4
theorem wq{E:Env}{t:Ty}{cs:List Value}{l:List t.den}(h:bj (dm E t) cs l)(i len:Nat):bj (dm E t) ((cs.drop (i*t.size)).take (len*t.size)) (cut l i len):=
 bj.take (λ_ _ hx=>hx.size) len (bj.drop (λ_ _ hx=>hx.size) i h)
theorem tj{α:Type}{l:List α}{i len:Nat}(h:i+len<=l.length):(cut l i len).length=len:=by
 simp[cut];omega
theorem Ha{E E':Env}{s:AS}(hs:E.s=s.bZ)(ho:jc E)(he:cP E E'){id:Id}{ver c i len n:Nat}{p:List vI}{t':Ty}{l:List t'.den}{cs:List Value}
  (h1:(s.row id ver p).eval=some (n,⟨t',l⟩)) (h3:decide (n+i*t'.size=c/\i+len<=l.length)=true) (hv:V E (.aS id ver p c i len) cs) (hf:Ta E E' (av.aS id ver p c i len).shared):dm E' (.slice t') cs (cut l i len):=by
 simp only[decide_eq_true_eq]at h3
 obtain⟨hc,hlen⟩:=h3
 obtain⟨fr,c0,cV,nC⟩:=yY hs ho h1
 simp only[V]at hv
 obtain⟨a,cap,KC,hle,mJ,hb,fB⟩:=hv
 have fB:=fB ⟨fr,c0,cV⟩
 have Oc:(cut l i len).length=len:=tj hlen
 simp only[dm]
 refine⟨a,cap,?_⟩
 rcases nC with⟨hp,hl,_⟩ | ⟨pl,cur,e,hp,hh,ou,pt,hbound⟩
 ·rw[hp]at fB
  simp only at fB
  obtain⟨rfl,rfl,rfl⟩:=fB
  refine⟨[],?_,by omega,by omega,λ_ _ hh=>by simp at hh,?_⟩
  ·rw[Oc];exact KC
  ·have:cut l i 0=[]:=by simp[cut]
   rw[this];rfl
 ·rw[hp]at fB
  simp only at fB
  refine⟨((((cur.toList.drop n).take (l.length*t'.size)).drop (i*t'.size)).take (len*t'.size)),by rw[Oc];exact KC,by omega,by rw[Oc];exact mJ,?_,(wq pt i len).mono λ_ _ hx=>hx.mono he.mem⟩
  have hmul:(i+len)*t'.size<=l.length*t'.size:=cY _ hlen
  rw[eM]at hmul
  rw[BQ _ _ _ _ _ hmul]
  intro j v hj
  rw[dp]at hj
  split at hj
  ·rename_i Rj
   rw[fW,hc]at hj
   have Wm:0 < len:=by
    rcases iK len with h0 | h0
    ·subst h0;simp at Rj
    ·exact h0
   refine⟨pl.b,c,fB.1 (.inl Wm),?_⟩
   refine hf id (by simp[av.shared]) ver fr c0 cV pl hp (c+j) v ?_ (hbound _ (by omega))
   rw[cell_of_row E.w pl.b (c+j) cur e (0,0) hh]
   simpa using hj
  ·cases hj
theorem pZ{E E':Env}{s:AS}(hs:E.s=s.bZ)(ho:jc E)(he:cP E E'):∀(v:av) (t:Ty) (x:t.den) (cs:List Value),V E v cs->(s.ji t v).eval=some x->Ta E E' v.shared->dm E' t cs x
 | .d t' x',t,x,cs,hv,h,_=>by
  have h':(Out.opt (uB t' t x')).eval=some x:=by cases t <;> simpa only[AS.ji]using h
  simp only[V]at hv
  exact th (jM.1 h') (hv.mono he.mem)
 | .di,.slice t,x,cs,hv,h,_=>by
  simp only[AS.ji,ao]at h
  subst h
  simp only[V]at hv
  simp only[dm]
  exact⟨none,0,[],by simpa using hv,by simp,by simp,λi v hh=>by simp at hh,rfl⟩
 | .di,.im t,x,cs,hv,h,_=>by
  simp only[AS.ji,ao]at h
  subst h
  simp only[V]at hv
  simp only[dm]
  exact⟨λ_=>hv,λl hl=>(by cases hl)⟩
 | .aS id ver p c i len,.im t,x,cs,hv,h,hf=>by
  simp only[AS.ji]at h
  obtain⟨⟨n,t',l⟩,h1,h2⟩:=ak.1 h
  obtain⟨h3,h4⟩:=bO.1 h2
  exact th (jM.1 h4) (Ha hs ho he h1 h3 hv hf)
 | .aS id ver p c i len,.slice t,x,cs,hv,h,hf=>by
  simp only[AS.ji]at h
  obtain⟨⟨n,t',l⟩,h1,h2⟩:=ak.1 h
  obtain⟨h3,h4⟩:=bO.1 h2
  exact th (jM.1 h4) (Ha hs ho he h1 h3 hv hf)
 | .pr a b,.pair ta tb,x,cs,hv,h,hf=>by
  simp only[AS.ji]at h
  obtain⟨x1,h1,h2⟩:=ak.1 h
  obtain⟨x2,h3,h4⟩:=ak.1 h2
  obtain rfl:=ao.1 h4
  simp only[V]at hv
  obtain⟨ca,cb,e,ha,hb⟩:=hv
  simp only[dm]
  exact⟨ca,cb,e,pZ hs ho he a ta x1 ca ha h1 (λi hi=>hf i (by simp[av.shared,hi])),pZ hs ho he b tb x2 cb hb h3 (λi hi=>hf i (by simp[av.shared,hi]))⟩
 | .di,.int _,_,_,_,h,_ | .di,.bool,_,_,_,h,_ | .di,.str,_,_,_,h,_ | .di,.unit,_,_,_,h,_ | .di,.pair _ _,_,_,_,h,_ | .di,.arr _ _,_,_,_,h,_ | .di,.oq _,_,_,_,h,_=>by simp only[AS.ji,ai]at h
 | .aS ..,.int _,_,_,_,h,_ | .aS ..,.bool,_,_,_,h,_ | .aS ..,.str,_,_,_,h,_ | .aS ..,.unit,_,_,_,h,_ | .aS ..,.pair _ _,_,_,_,h,_ | .aS ..,.arr _ _,_,_,_,h,_ | .aS ..,.oq _,_,_,_,h,_=>by simp only[AS.ji,ai]at h
 | .pr _ _,.int _,_,_,_,h,_ | .pr _ _,.bool,_,_,_,h,_ | .pr _ _,.str,_,_,_,h,_ | .pr _ _,.unit,_,_,_,h,_ | .pr _ _,.slice _,_,_,_,h,_ | .pr _ _,.arr _ _,_,_,_,h,_ | .pr _ _,.im _,_,_,_,h,_ | .pr _ _,.oq _,_,_,_,h,_=>by simp only[AS.ji,ai]at h
 | .undef,t,_,_,_,h,_=>by cases t <;> simp only[AS.ji,ai]at h
 | .gone,t,_,_,_,h,_=>by cases t <;> simp only[AS.ji,ai]at h
 | .mO,t,_,_,_,h,_=>by cases t <;> simp only[AS.ji,ai]at h
 | .pL,t,_,_,_,h,_=>by cases t <;> simp only[AS.ji,ai]at h
 | .yl ..,t,_,_,_,h,_ | .mr ..,t,_,_,_,h,_=>by cases t <;> simp only[AS.ji,ai]at h
 | .sx,t,_,_,_,h,_=>by cases t <;> simp only[AS.ji,ai]at h
 | .sb _,t,_,_,_,h,_=>by cases t <;> simp only[AS.ji,ai]at h
 | .ptr ..,t,_,_,_,h,_=>by cases t <;> simp only[AS.ji,ai]at h
 | .eD ..,t,_,_,_,h,_=>by cases t <;> simp only[AS.ji,ai]at h
 | .fn ..,t,_,_,_,h,_=>by cases t <;> simp only[AS.ji,ai]at h
 | .cons ..,t,_,_,_,h,_=>by cases t <;> simp only[AS.ji,ai]at h
 | .nil,t,_,_,_,h,_=>by cases t <;> simp only[AS.ji,ai]at h
 | .vec ..,t,_,_,_,h,_=>by cases t <;> simp only[AS.ji,ai]at h
 | .bx ..,t,_,_,_,h,_ | .db ..,t,_,_,_,h,_ | .mp ..,t,_,_,_,h,_ | .nH ..,t,_,_,_,h,_=>by cases t <;> simp only[AS.ji,ai]at h
theorem si{s:AS}{t:Ty}{v:av}{x:t.den}(h:(s.ji t v).eval=some x):v.eX=true:=by
 cases v <;> first
  |rfl
  | (cases t <;> simp only[AS.ji,ai]at h)
theorem Cm{s:AS}{t:Ty}{v:av}{x:t.den}(h:(s.ji t v).eval=some x):v.agg=t.agg:=by
 cases v with
 |d t' x'=>
  have h':(Out.opt (uB t' t x')).eval=some x:=by cases t <;> simpa only[AS.ji]using h
  exact De (jM.1 h')
 |_=>cases t <;> first | rfl | (simp only[AS.ji,ai]at h)
theorem rG{C:Ctx}{g:Nat->kY}{β:Id->Option Pl}{s:AS}{a:Act}{w:World}(h:Inv C g β s a w){v:av}{y:Value}(hv:VS (s.env w g β) v y){t:Ty}{x:t.den}(ht:(s.ji t v).eval=some x):
  ∃g',Inv C g' β (s.bl v.shared) a w/\cP (s.env w g β) ((s.bl v.shared).env w g' β)/\Trans w w g g'/\
   ∃cs,dm ((s.bl v.shared).env w g' β) t cs x/\fV t.agg cs y:=by
 obtain⟨g',h1,h2,h3,h4⟩:=gf v.shared h
 obtain⟨cs,hV,hO⟩:=hv.eX (si ht)
 exact⟨g',h1,h2,h3,cs,pZ rfl h.bK h2 v t x cs hV ht h4,by rw[<-Cm ht];exact hO⟩
theorem AA{α:Type}{R:List Value->α->Prop}{f:α->List Value->Option (List Value)}(hf:∀x cs r,f x cs=some r->∃c,cs=c++r/\R c x):
  ∀(l:List α) (cs r:List Value),Mt f l cs=some r->∃c,cs=c++r/\bj R c l
 |[],cs,r,h=>by
  simp only[Mt,aq]at h
  exact⟨[],by simp[h],rfl⟩
 |x::xs,cs,r,h=>by
  simp only[Mt]at h
  cases hx:f x cs with
  |none=>rw[hx]at h;cases h
  |some r1=>
   rw[hx]at h
   obtain⟨c1,e1,h1⟩:=hf x cs r1 hx
   obtain⟨c2,e2,h2⟩:=AA hf xs r1 r h
   exact⟨c1++c2,by rw[e1,e2,aD],c1,c2,rfl,h1,h2⟩
theorem tl(E:Env):∀(t:Ty) (x:t.den) (cs r:List Value),qE t x cs=some r->∃c,cs=c++r/\dm E t c x
 | .int k,x,cs,r,h=>by
  cases cs with
  |nil=>simp[qE]at h
  |cons v r'=>
   cases v <;> simp only[qE]at h <;> try (cases h;done)
   rename_i k' n
   split at h
   ·rename_i h1 h2
    simp at h1 h2 h
    subst h1 h2 h
    exact⟨[.int k n],rfl,by simp[dm]⟩
   ·cases h
 | .bool,x,cs,r,h=>by
  cases cs with
  |nil=>simp[qE]at h
  |cons v r'=>
   cases v <;> simp only[qE]at h <;> try (cases h;done)
   rename_i b
   split at h
   ·rename_i h1
    simp at h1 h
    subst h1 h
    exact⟨[.bool b],rfl,by simp[dm]⟩
   ·cases h
 | .str,x,cs,r,h=>by
  cases cs with
  |nil=>simp[qE]at h
  |cons v r'=>
   cases v <;> simp only[qE]at h <;> try (cases h;done)
   rename_i b
   split at h
   ·rename_i h1
    simp at h1 h
    subst h1 h
    exact⟨[.string b],rfl,by simp[dm]⟩
   ·cases h
 | .slice t,x,cs,r,h=>by
  cases x with
  |cons _ _=>simp[qE]at h
  |nil=>
   cases cs with
   |nil=>simp[qE]at h
   |cons v r'=>
    unfold qE at h
    split at h <;> try (cases h;done)
    all_goals simp_all
    exact⟨[.slice none 0 0],rfl,by simp only[dm];exact⟨none,0,[],rfl,by simp,by simp,λi v hh=>by simp at hh,rfl⟩⟩
 | .im t,x,cs,r,h=>by
  cases x with
  |some _=>simp[qE]at h
  |none=>
   cases cs with
   |nil=>simp[qE]at h
   |cons v r'=>
    unfold qE at h
    split at h <;> try (cases h;done)
    all_goals simp_all
    exact⟨[.slice none 0 0],rfl,by simp[dm]⟩
 | .oq t,x,cs,r,h=>by
  cases x with
  |some _=>simp[qE]at h
  |none=>
   cases cs with
   |nil=>simp[qE]at h
   |cons v r'=>
    unfold qE at h
    split at h <;> try (cases h;done)
    all_goals simp_all
    exact⟨[.pointer none],rfl,by simp[dm]⟩
 | .unit,x,cs,r,h=>by
  simp only[qE,aq]at h
  exact⟨[],by simp[h],by simp[dm]⟩
 | .pair a b,x,cs,r,h=>by
  simp only[qE]at h
  cases hx:qE a x.1 cs with
  |none=>rw[hx]at h;cases h
  |some r1=>
   rw[hx]at h
   obtain⟨c1,e1,h1⟩:=tl E a x.1 cs r1 hx
   obtain⟨c2,e2,h2⟩:=tl E b x.2 r1 r h
   exact⟨c1++c2,by rw[e1,e2,aD],by simp only[dm];exact⟨c1,c2,rfl,h1,h2⟩⟩
 | .arr n t,x,cs,r,h=>by
  simp only[qE]at h
  split at h
  ·rename_i h1
   obtain⟨c,e,hc⟩:=AA (λx cs r hh=>tl E t x cs r hh) _ _ _ h
   exact⟨c,e,by simp only[dm];exact⟨by simpa using h1,hc⟩⟩
  ·cases h
theorem HU(E:Env):∀(a:av) (cs r:List Value),zM a cs=some r->∃c,cs=c++r/\V E a c:=by
 intro a
 induction a with
 |d t x=>
  intro cs r h
  simp only[zM]at h
  obtain⟨c,e,hc⟩:=tl E t x cs r h
  exact⟨c,e,by simpa only[V]using hc⟩
 |pr a b iha ihb=>
  intro cs r h
  simp only[zM]at h
  cases hx:zM a cs with
  |none=>rw[hx]at h;cases h
  |some r1=>
   rw[hx]at h
   obtain⟨c1,e1,h1⟩:=iha cs r1 hx
   obtain⟨c2,e2,h2⟩:=ihb r1 r h
   exact⟨c1++c2,by rw[e1,e2,aD],by simp only[V];exact⟨c1,c2,rfl,h1,h2⟩⟩
 |di=>intro cs r h;unfold zM at h;split at h <;> simp_all <;> exact⟨[.slice none 0 0],rfl,by simp[V]⟩
 |mO=>intro cs r h;unfold zM at h;split at h <;> simp_all <;> exact⟨[.pointer none],rfl,by simp[V]⟩
 |pL=>intro cs r h;unfold zM at h;split at h <;> simp_all <;> exact⟨[.nilFunc],rfl,by simp[V]⟩
 |sx=>intro cs r h;unfold zM at h;split at h <;> simp_all <;> exact⟨[.map none],rfl,by simp[V]⟩
 |_=>intro cs r h;simp[zM]at h
theorem pn{P:Program}{T:TypeId}{z:av}(h:Fa P T z=true)(E:Env):
  ∃i zv,P.info? T=some i/\i.zero=some zv/\V E z zv.cells.toList/\fV z.agg zv.cells.toList zv:=by
 unfold Fa at h
 split at h <;> try (cases h;done)
 rename_i i hi
 split at h <;> try (cases h;done)
 rename_i zv hz
 simp only[aj,beq_iff_eq]at h
 obtain⟨h1,h2⟩:=h
 split at h1 <;> try (cases h1;done)
 rename_i he
 obtain⟨c,e,hV⟩:=HU E z _ _ he
 rw[bS]at e
 rw[<-e]at hV
 refine⟨i,zv,hi,hz,hV,?_⟩
 cases F6:z.agg with
 |true=>
  rw[F6]at h2
  cases zv <;> simp[nG]at h2
  simp[fV,Value.cells]
 |false=>
  rw[F6]at h2
  cases zv <;> first | (simp[nG]at h2;done) | simp[fV,Value.cells]
end Go.Ab
namespace Go.Ab
def Fr(r:Option Nat):Fence:= {Fence.wide with round:=r}
def fM(P:Program)(o:Oper)(a:Act)(w:World)(K:Act->World->Prop):Prop:=
 (∃x w',(execOp a.eval o).run P w= .ok (.value x) w'/\K (a.put o.dst x) w')\/
 (∃w',(execOp a.eval o).run P w= .ok .skip w'/\K (a.put o.dst undef) w')\/
 (∃f args w',(execOp a.eval o).run P w= .ok (.enter f args) w'/\Calls P f args w' λe w''=>∃x,e= .returned x/\K (a.put o.dst x) w'')\/
 (∃l f tmps as b w',(execOp a.eval o).run P w= .ok (.round l f tmps as b) w'/\∀r n,RoundIn (Fr r) n P l f tmps as b w' λe w''=>∃x,e= .returned x/\K (a.put o.dst x) w'')
theorem fM.plain{P:Program}{o:Oper}{a:Act}{w:World}{K:Act->World->Prop}(h:fM P o a w K)(c:Call):o.op≠ .defer c:=λho=>by
 have hd:∀x w',(execOp a.eval o).run P w= .ok x w'->∃d,x= .defer d:=λx w' hx=>by
  simp only[execOp,ho,Sem.run_bind]at hx
  cases hr:(resolve a.eval c o.type).run P w with
  |ok d w1=>
   rw[hr]at hx
   simp only[Result.andThen_ok,Sem.run_pure,Result.ok.injEq]at hx
   exact⟨d,hx.1.symm⟩
  |halt _ _=>rw[hr]at hx;simp[Result.andThen]at hx
 rcases h with⟨x,w',hr,_⟩ | ⟨w',hr,_⟩ | ⟨f,args,w',hr,_⟩ | ⟨l,f,tmps,as,b,w',hr,_⟩
 ·obtain⟨d,e⟩:=hd _ _ hr;cases e
 ·obtain⟨d,e⟩:=hd _ _ hr;cases e
 ·obtain⟨d,e⟩:=hd _ _ hr;cases e
 ·obtain⟨d,e⟩:=hd _ _ hr;cases e
theorem fM.wpIn{r:Option Nat}{n:Nat}{P:Program}{o:Oper}{a:Act}{w:World}{K:Act->World->Prop}{Q:Exit->Act->World->Prop}(h:fM P o a w K):o.wpIn (Fr r) n P a w K Q:=by
 have hp:=h.plain
 refine⟨λ_ _=>trivial,?_⟩
 rw[Oper.semAt_eq _ _ _ hp]
 rcases h with⟨x,w',hr,hk⟩ | ⟨w',hr,hk⟩ | ⟨f,args,w',hr,hk⟩ | ⟨l,f,tmps,as,b,w',hr,hk⟩
 rotate_left 3
 ·rw[hr,Oper.uponIn_round]
  refine⟨λh=>(by cases h),(hk r (n - 1)).mono λe w'' ⟨x,he,hx⟩=> ?_⟩
  subst he
  exact hx
 ·rw[hr,Oper.uponIn_value];exact hk
 ·rw[hr,Oper.uponIn_skip];exact hk
 ·rw[hr,Oper.uponIn_enter]
  refine⟨λh=>(by cases h),?_⟩
  have h1:CallsIn (Fr r) (n - 1) P f args w' _:=callsIn_wide.2 hk
  refine h1.mono λe w'' ⟨x,he,hx⟩=> ?_
  subst he
  exact hx
theorem fM.mono{P:Program}{o:Oper}{a:Act}{w:World}{K K':Act->World->Prop}(h:fM P o a w K)(hk:∀a w,K a w->K' a w):fM P o a w K':=by
 rcases h with⟨x,w',hr,h⟩ | ⟨w',hr,h⟩ | ⟨f,args,w',hr,h⟩ | ⟨l,f,tmps,as,b,w',hr,h⟩
 ·exact .inl ⟨x,w',hr,hk _ _ h⟩
 ·exact .inr (.inl ⟨w',hr,hk _ _ h⟩)
 ·exact .inr (.inr (.inl ⟨f,args,w',hr,h.mono λe w'' ⟨x,he,hx⟩=>⟨x,he,hk _ _ hx⟩⟩))
 ·exact .inr (.inr (.inr ⟨l,f,tmps,as,b,w',hr,λr n=>(h r n).mono λe w'' ⟨x,he,hx⟩=>⟨x,he,hk _ _ hx⟩⟩))
section
variable {P:Program} {C:Ctx} {g:Nat->kY} {β:Id->Option Pl} {s:AS} {a:Act} {w:World} {o:Oper}
theorem Inv.value(h:Inv C g β s a w){v:av}{x:Value}(hv:VS (s.env w g β) v x)(hr:(execOp a.eval o).run P w= .ok (.value x) w):fM P o a w (iE C (s.put o.dst v)):=
 .inl ⟨x,w,hr,g,β,h.put o.dst hv⟩
theorem eg{f:Sem Value}{x:Value}{w':World}(he:execOp a.eval o=(do pure (.value (<-f))))(hf:f.run P w= .ok x w'):(execOp a.eval o).run P w= .ok (.value x) w':=by
 rw[he,Sem.run_bind,hf];rfl
theorem Di{f:Sem Unit}{w':World}(he:execOp a.eval o=(do f;pure .skip))(hf:f.run P w= .ok () w'):(execOp a.eval o).run P w= .ok .skip w':=by
 rw[he,Sem.run_bind,hf];rfl
theorem oZ{E:Env}{k:IntKind}{n:Int}{y:Value}(h:VS E (.d (.int k) n) y):y= .int k n:=by
 obtain⟨cs,hv,ho⟩:=h
 simp only[V,dm]at hv
 have ho':cs=[y]:=ho
 rw[hv]at ho'
 simpa using ho'.symm
theorem zZ{E:Env}{b:Bool}{y:Value}(h:VS E (.d .bool b) y):y= .bool b:=by
 obtain⟨cs,hv,ho⟩:=h
 simp only[V,dm]at hv
 have ho':cs=[y]:=ho
 rw[hv]at ho'
 simpa using ho'.symm
theorem u7{E:Env}{b:ByteArray}{y:Value}(h:VS E (.d .str b) y):y= .string b:=by
 obtain⟨cs,hv,ho⟩:=h
 simp only[V,dm]at hv
 have ho':cs=[y]:=ho
 rw[hv]at ho'
 simpa using ho'.symm
theorem kj{E:Env}(k:IntKind)(n:Int):VS E (.d (.int k) n) (.int k n):=⟨[.int k n],by simp[V,dm],rfl⟩
theorem po{E:Env}(b:Bool):VS E (.d .bool b) (.bool b):=⟨[.bool b],by simp[V,dm],rfl⟩
theorem D9{E:Env}(b:ByteArray):VS E (.d .str b) (.string b):=⟨[.string b],by simp[V,dm],rfl⟩
theorem JC{T:TypeId}{d:TypeDesc}(h:P.underlying T=some d):∃i,P.info? T=some i:=by
 unfold Program.underlying at h
 split at h
 ·rename_i h';exact⟨_,h'⟩
 ·rename_i i _ h';exact⟨_,h'⟩
 ·cases h
theorem run_sizeOf{T:TypeId}{i:TypeInfo}(h:P.info? T=some i)(w:World):(sizeOf T).run P w= .ok i.size w:=by
 simp[sizeOf,typeInfo,h]
theorem lg{T:TypeId}{i:TypeInfo}(h:P.info? T=some i):P.cellsOf T=i.size:=by simp[Program.cellsOf,h]
theorem nB{T:TypeId}{v:av}(h:fits P T v=true):v.eX=true/\∃i,P.info? T=some i/\i.size=v.size/\∀w,(isAgg T).run P w= .ok v.agg w:=by
 unfold fits at h
 simp only[aj,beq_iff_eq]at h
 obtain⟨⟨h1,h2⟩,h3⟩:=h
 cases hu:P.underlying T with
 |none=>rw[hu]at h3;cases h3
 |some d=>
  obtain⟨i,hi⟩:=JC hu
  refine⟨h1,i,hi,by rw[lg hi]at h2;exact h2,λw=> ?_⟩
  rw[hu]at h3
  unfold isAgg
  rw[Sem.run_bind,run_underlying hu w]
  cases d <;> simp at h3 <;> simp[h3]
theorem rA{T:TypeId}{v:av}(hf:fits P T v=true){b off:Nat}{cs:List Value}(hl:cs.length=v.size)(hc:∀j x,cs[j]? =some x->w.cell? ⟨b,off+j,none⟩=some x):
  ∃y,(loadVar T ⟨b,off,none⟩).run P w= .ok y w/\fV v.agg cs y:=by
 obtain⟨_,i,hi,hs,F6⟩:=nB hf
 unfold loadVar
 rw[Sem.run_bind,F6 w]
 simp only[Result.andThen_ok]
 have sN:∀j x,cs[j]? =some x->w.cell? ((⟨b,off,none⟩:Addr).add j)=some x:=λj x hj=>by
  rw[Addr.add_lit];exact hc j x hj
 cases ha:v.agg with
 |true=>
  refine⟨.agg cs.toArray,?_,rfl⟩
  simp only[if_true,Sem.run_bind,run_sizeOf hi,Result.andThen_ok,hs,<-hl,run_loadCells_list w _ cs sN]
  rfl
 |false=>
  have h1:v.size=1:=av.G5 ha
  obtain⟨y,rfl⟩:∃y,cs=[y]:=by
   match cs,hl with
   |[y],_=>exact⟨y,rfl⟩
   |[],hh=>simp[h1]at hh
   |_::_::_,hh=>simp[h1]at hh
  refine⟨y,?_,rfl⟩
  have:=hc 0 y rfl
  rw[cF]at this
  simp[this]
theorem uf{T:TypeId}{v:av}{E:Env}(hf:fits P T v=true){cs:List Value}{y:Value}(hV:V E v cs)(ho:fV v.agg cs y){b off:Nat}{cur:Array Value}{e:TypeId}
  (hh:w.heap[b]? =some (.cells cur e (0,0))) (hle:off+cs.length<=cur.size):
  (storeVar T ⟨b,off,none⟩ y).run P w= .ok () (w.setRow b (dD cur.toList off cs).toArray):=by
 obtain⟨_,i,hi,hs,_⟩:=nB hf
 have KC:y.cells=cs.toArray:=ho.cells hV.one
 have hl:=hV.size
 have lZ:=run_storeCells_at P b off e cs 0 cur w hh (by simpa using hle) hV.one
 simp only[cF]at lZ
 unfold storeVar
 simp only[KC,Sem.run_bind,run_sizeOf hi,Result.andThen_ok,ik,hl,hs,ne_eq,not_true_eq_false,if_false]
 simpa[dD]using lZ
theorem mW(w:World)(ob:Obj){b:Nat}(h:b < w.heap.size):(w.alloc ob).heap[b]? =w.heap[b]? :=by
 show(w.heap.push ob)[b]? =w.heap[b]?
 rw[Array.getElem?_push,if_neg (Nat.ne_of_lt h)]
theorem oh(w:World)(ob:Obj):(w.alloc ob).heap[w.heap.size]? =some ob:=by
 show(w.heap.push ob)[w.heap.size]? =some ob
 simp
theorem Trans.alloc(w:World)(g:Nat->kY)(ob:Obj)(l:kY):Trans w (w.alloc ob) g (lp g w.heap.size l):=by
 refine⟨rfl,rfl,⟨rfl,aw _⟩,by simp,λb hb=> ?_⟩
 rw[fA _ _ _ (by omega),mW w ob hb]
 cases g b with
 |free=>exact⟨rfl,rfl⟩
 |own o k=>cases o with
  |eL=>exact⟨rfl,rfl⟩
  |id i=>exact⟨.inr ⟨i,k,rfl,aw _⟩,λoff v _ hv=>by rw[World.cell?_alloc_lt w ob _ hb];exact hv⟩
theorem Trans.drew(w:World)(g:Nat->kY):Trans w w.drew g g:=Trans.refl w g |> λh=>⟨h.os,h.tape,⟨h.output.1,Nat.le_succ _⟩,h.size,h.yu⟩
theorem jc.same{w':World}{g':Nat->kY}(h:jc (s.env w g β))(he:cP (s.env w g β) (s.env w' g' β))
  (hb:∀i ver fr c pl,s.bZ i=some (.obj ver fr c)->β i=some pl->w'.heap[pl.b]? =w.heap[pl.b]? /\g' pl.b=g pl.b):jc (s.env w' g' β):=
 λi ver fr c hi=>(h i ver fr c hi).mono he rfl (λpl hp=>hb i ver fr c pl hi hp) λq vq k v l hq _=>⟨⟨k,v,l,hq⟩,λpl hp=>hb q vq true _ pl hq hp⟩
theorem cP.same{w':World}{g':Nat->kY}(ht:Trans w w' g g'):cP (s.env w g β) (s.env w' g' β):=
 ⟨Trans.mem ht,λ_ _ h=>h,λ_ _ _ h=>⟨h,rfl⟩⟩
theorem Inv.vh(h:Inv C g β s a w)(ob:Obj):Inv C (lp g w.heap.size .free) β s a (w.alloc ob):=by
 have ht:=Trans.alloc w g ob .free
 have he:cP (s.env w g β) (s.env (w.alloc ob) (lp g w.heap.size .free) β):=cP.same ht
 refine h.step rfl ht he (jc.same h.bK he λi ver fr c pl hi hp=> ?_)
 have hl:=((h.bK i ver fr c hi).label (pl:=pl) hp).1
 have hl':pl.b < w.heap.size:=hl
 exact⟨mW w ob hl',fA _ _ _ (by omega)⟩
theorem Inv.drew(h:Inv C g β s a w):Inv C g β s a w.drew:=by
 have ht:=Trans.drew w g
 have he:cP (s.env w g β) (s.env w.drew g β):=cP.same ht
 exact h.step rfl ht he (jc.same h.bK he λ_ _ _ _ _ _ _=>⟨rfl,rfl⟩)
theorem jQ{q:Nat}(h:s.ek q=true):(∀j,s.bZ (.new q j)=none)/\q < s.news.length:=by
 unfold AS.ek at h
 split at h
 ·rename_i hn
  refine⟨λj=> ?_,(dL.1 hn).1⟩
  simp[AS.bZ,aA,hn]
 ·cases h
theorem qG{q:Nat}(hq:q < s.news.length)(es:List dS)(j:Nat):(s.born q es).bZ (.new q j)=es[j]? :=by
 simp[AS.bZ,AS.born,aA,hq]
theorem je{q:Nat}(es:List dS){id:Id}(h:∀j,id≠ .new q j):(s.born q es).bZ id=s.bZ id:=by
 cases id with
 |aV k=>rfl
 |new i j=>
  have:i≠q:=λe=>h j (by rw[e])
  simp only[AS.bZ,AS.born,aA]
  rw[eW (Ne.symm this)]
def vd(β:Id->Option Pl)(id:Id)(p:Option Pl):Id->Option Pl:=λi=>if i=id then p else β i
@[simp] theorem jI(β:Id->Option Pl)(id:Id)(p:Option Pl):vd β id p id=p:=by simp[vd]
theorem rH(β:Id->Option Pl)(id:Id)(p:Option Pl){i:Id}(h:i≠id):vd β id p i=β i:=by simp[vd,h]
theorem Inv.yw(h:Inv C g β s a w){q:Nat}(hq:s.ek q=true){w':World}{g':Nat->kY}{c:av}{p:Option Pl}(ht:Trans w w' g g')
  (hb:∀b,b < w.heap.size->w'.heap[b]? =w.heap[b]? /\g' b=g b)
  (ho:cP (s.env w g β) ((s.born q [.obj 0 false c]).env w' g' (vd β (.new q 0) p))->pE ((s.born q [.obj 0 false c]).env w' g' (vd β (.new q 0) p)) (.new q 0) false c):
  Inv C g' (vd β (.new q 0) p) (s.born q [.obj 0 false c]) a w'/\cP (s.env w g β) ((s.born q [.obj 0 false c]).env w' g' (vd β (.new q 0) p)):=by
 obtain⟨hv,hl⟩:=jQ hq
 have fL:∀id,s.bZ id≠none->∀j,id≠ .new q j:=λid dq j e=>dq (by rw[e];exact hv j)
 have he:cP (s.env w g β) ((s.born q [.obj 0 false c]).env w' g' (vd β (.new q 0) p)):=by
  refine⟨Trans.mem ht,λid ver H6=> ?_,λid ver H6 hc=> ?_⟩
  ·have dq:=fL id H6.1
   have e:=je (s:=s) [.obj 0 false c] dq
   exact⟨by show(s.born q _).bZ id≠none;rw[e];exact H6.1,λv fr c' hh=>H6.2 v fr c' (e.symm.trans hh)⟩
  ·have dq:=fL id H6.1
   have e:=je (s:=s) [.obj 0 false c] dq
   obtain⟨fr,c',hc⟩:=hc
   exact⟨⟨fr,c',e.symm.trans hc⟩,rH _ _ _ (dq 0)⟩
 refine⟨h.step rfl ht he λid ver fr c' dq=> ?_,he⟩
 have hid':(s.born q [.obj 0 false c]).bZ id=some (.obj ver fr c'):=dq
 by_cases hi:∃j,id= .new q j
 ·obtain⟨j,rfl⟩:=hi
  rw[qG hl]at hid'
  cases j with
  |zero=>
   simp only[fS,aq,dS.obj.injEq]at hid'
   obtain⟨rfl,rfl,rfl⟩:=hid'
   exact ho he
  |succ j=>simp at hid'
 ·have hi':∀j,id≠ .new q j:=λj e=>hi ⟨j,e⟩
  rw[je _ hi']at hid'
  refine(h.bK id ver fr c' hid').mono he (rH _ _ _ (hi' 0)) (λpl hp=> ?_) λq2 vq k v l yL _=> ?_
  ·exact hb pl.b ((h.bK id ver fr c' hid').label (pl:=pl) hp).1
  ·have Wz:s.bZ q2=some (.obj vq true (.mp k v l)):=yL
   refine⟨⟨k,v,l,by show(s.born q _).bZ q2=_;rw[je _ (fL q2 (by rw[Wz];simp))];exact Wz⟩,λpl hp=>hb pl.b ((h.bK q2 vq true _ Wz).label (pl:=pl) hp).1⟩
theorem mE{q:Nat}(hq:s.ek q=true)(c:av)(w':World)(g':Nat->kY)(β':Id->Option Pl):((s.born q [.obj 0 false c]).env w' g' β').tT (.new q 0) 0:=by
 have e:=qG (s:=s) (jQ hq).2 [.obj 0 false c] 0
 refine⟨by show(s.born q [.obj 0 false c]).bZ (.new q 0)≠none;rw[e];simp,λv fr c' _=>aK _⟩
theorem Inv.JL(h:Inv C g β s a w){q:Nat}(hq:s.ek q=true){v:av}{cs:List Value}{e:TypeId}(hk:∀pl n,v.uz pl n e)(hN:∀n,v.qd n=n)(hv:V (s.env w g β) v.strip cs):
  ∃g' β',Inv C g' β' (s.born q [.obj 0 false v]) a (w.alloc (.cells cs.toArray e))/\
   VS ((s.born q [.obj 0 false v]).env (w.alloc (.cells cs.toArray e)) g' β') (.ptr (.new q 0) 0 [] 0) (.pointer (some ⟨w.heap.size,0,none⟩)):=by
 have ht:=Trans.alloc w g (.cells cs.toArray e) (.own (.id (.new q 0)) 0)
 obtain⟨h1,h2⟩:=h.yw hq (c:=v) (p:=some ⟨w.heap.size,0⟩) ht (λb hb=>⟨mW w _ hb,fA _ _ _ (by omega)⟩) (λhe=>
  yp.obj ⟨⟨w.heap.size,0⟩,cs.toArray,e,jI _ _ _,oh w _,fJ _ _ _,hk _ _,by rw[hN,show cs.toArray.toList.take cs.toArray.size=cs by simp];exact hv.mono he⟩)
 refine⟨_,_,h1,?_⟩
 refine⟨[.pointer (some ⟨w.heap.size,0,none⟩)],?_,rfl⟩
 simp only[V]
 exact⟨_,rfl,mE hq _ _ _ _,λ_=>⟨_,jI _ _ _,rfl⟩⟩
theorem Inv.RM(h:Inv C g β s a w){q:Nat}(hq:s.ek q=true){v:av}{cs:List Value}(hv:V (s.env w g β) v cs)(e:TypeId):
  ∃g' β',Inv C g' β' (s.born q [.obj 0 false v]) a (w.alloc (.cells cs.toArray e))/\
   VS ((s.born q [.obj 0 false v]).env (w.alloc (.cells cs.toArray e)) g' β') (.ptr (.new q 0) 0 [] 0) (.pointer (some ⟨w.heap.size,0,none⟩)):=
 h.JL hq (λpl n=>yz hv.rq pl n e) (λn=>Aw hv.rq n) (by rw[y5 hv.rq];exact hv)
theorem Me(P:Program)(T:TypeId){z:av}{E:Env}{cs:List Value}(hv:V E z cs):(∀pl n,(boxed P T z).uz pl n T)/\(∀n,(boxed P T z).qd n=n)/\V E (boxed P T z).strip cs:=by
 unfold boxed
 split
 ·exact⟨λ_ _=>rfl,λ_=>rfl,hv⟩
 ·exact⟨λpl n=>yz hv.rq pl n T,λn=>Aw hv.rq n,by rw[y5 hv.rq];exact hv⟩
theorem Inv.Pc(h:Inv C g β s a w){t:Ty}{x:t.den}{cs:List Value}(hv:dm (s.env w g β) t cs x)(e:TypeId):
  ∃g',Inv C g' β s a (w.alloc (.cells cs.toArray e))/\cP (s.env w g β) (s.env (w.alloc (.cells cs.toArray e)) g' β)/\
   VS (s.env (w.alloc (.cells cs.toArray e)) g' β) (.eD t x) (.pointer (some ⟨w.heap.size,0,none⟩)):=by
 have ht:=Trans.alloc w g (.cells cs.toArray e) .free
 have he:cP (s.env w g β) (s.env (w.alloc (.cells cs.toArray e)) (lp g w.heap.size .free) β):=cP.same ht
 refine⟨_,h.vh _,he,[.pointer (some ⟨w.heap.size,0,none⟩)],?_,rfl⟩
 simp only[V]
 refine⟨w.heap.size,0,cs,rfl,λi v hi=>⟨_,_,rfl,?_,?_⟩,hv.mono he.mem⟩
 ·show(w.alloc (.cells cs.toArray e)).cell? ⟨w.heap.size,0+i,none⟩=some v
  rw[World.cell?_alloc_new,aI];simpa using hi
 ·show oT (lp g w.heap.size .free) w.heap.size (0+i)
  unfold oT;rw[fJ];trivial
theorem B4(T:TypeId)(y:Value)(w:World):(newVar T y).run P w= .ok ⟨w.heap.size,0,none⟩ (w.alloc (.cells y.cells T)):=by
 simp[newVar,newRow]
theorem HE(h:Inv C g β s a w){T:TypeId}(ho:o.op= .alloc T){z:av}{q:Nat}(hq:s.ek q=true)(hz:Fa P T z=true):
  fM P o a w (iE C ((s.born q [.obj 0 false (boxed P T z)]).put o.dst (.ptr (.new q 0) 0 [] 0))):=by
 obtain⟨i,zv,hi,Ht,hV,hO⟩:=pn hz (s.env w g β)
 obtain⟨hk,hN,hV⟩:=Me P T hV
 obtain⟨g',β',h1,h2⟩:=h.JL hq hk hN hV
 refine .inl ⟨.pointer (some ⟨w.heap.size,0,none⟩),w.alloc (.cells zv.cells T),?_,g',β',?_⟩
 ·refine eg (f:=Instr.alloc T true (.tuple #[])) (by simp only[execOp,ho]) ?_
  simp[Instr.alloc,zeroValue,typeInfo,hi,Ht,B4]
 ·have:=h1.put o.dst h2
  simpa using this
theorem VS.Un{E:Env}{t:Ty}{x:t.den}{y:Value}(h:VS E (.eD t x) y)(dt:Bool):VS E (QG dt t x) y:=by
 cases dt with
 |false=>exact h
 |true=>
  obtain⟨cs,hv,ho⟩:=h
  simp only[V]at hv
  refine⟨cs,?_,ho⟩
  simp only[QG,V,dm]
  simpa using hv
theorem Dv{E:Env}{t:Ty}{y:Value}(h:VS E (.d (.oq t) none) y):y= .pointer none:=by
 obtain⟨cs,hv,ho⟩:=h
 simp only[V,dm]at hv
 have ho':cs=[y]:=ho
 have e:=hv.1 trivial
 rw[e]at ho'
 simpa using ho'.symm
theorem xo{E:Env}{t:Ty}{x:t.den}{y:Value}(h:VS E (.d (.oq t) (some x)) y):VS E (.eD t x) y:=by
 obtain⟨cs,hv,ho⟩:=h
 simp only[V,dm]at hv
 refine⟨cs,?_,ho⟩
 simp only[V]
 simpa using hv
theorem Md(h:Inv C g β s a w){T:TypeId}{x:Operand}{obj dt:Bool}(ho:o.op= .box T x){s':AS}(he:(FA P s obj dt o.dst T (s.ev x)).eval=some s'):fM P o a w (iE C s'):=by
 unfold FA at he
 cases hd:o.dst with
 |none=>rw[hd]at he;simp only[ai]at he
 |some q=>
  rw[hd]at he
  have KD:=h.ev x
  have mF:∀cs:List Value,(a.eval x).cells=cs.toArray->(execOp a.eval o).run P w= .ok (.value (.pointer (some ⟨w.heap.size,0,none⟩))) (w.alloc (.cells cs.toArray T)):=by
   intro cs KC
   refine eg (f:=Instr.box T (a.eval x)) (by simp only[execOp,ho]) ?_
   simp[Instr.box,B4,KC]
  cases obj with
  |true=>
   obtain⟨hg,jU⟩:=ay.1 he
   obtain rfl:=ao.1 jU
   simp only[aj]at hg
   obtain⟨hq,hf⟩:=hg
   obtain⟨hc,_⟩:=nB hf
   obtain⟨cs,hV,hO⟩:=KD.eX hc
   obtain⟨g',β',h1,h2⟩:=h.RM hq hV T
   refine .inl ⟨_,_,mF cs (hO.cells hV.one),g',β',?_⟩
   rw[hd]
   exact h1.put (some q) h2
  |false=>
   simp only at he
   cases ht:Hk P depth T with
   |none=>rw[ht]at he;simp only[ai]at he
   |some t=>
    rw[ht]at he
    obtain⟨_,he⟩:=ay.1 he
    obtain⟨y,h1,h2⟩:=ak.1 he
    obtain rfl:=ao.1 h2
    obtain⟨g1,i1,e1,t1,cs,hR,hO⟩:=rG h KD h1
    obtain⟨g2,i2,e2,hv⟩:=i1.Pc hR T
    refine .inl ⟨_,_,mF cs (hO.cells hR.one),g2,β,?_⟩
    rw[hd]
    exact i2.put (some q) (hv.Un dt)
theorem pB{E:Env}{t:Ty}{x:t.den}{y:Value}(h:VS E (.eD t x) y):∃b off vs,y= .pointer (some ⟨b,off,none⟩)/\tS E (some ⟨b,off,none⟩) vs/\dm E t vs x:=by
 obtain⟨cs,hv,ho⟩:=h
 simp only[V]at hv
 obtain⟨b,off,vs,e,hr,hx⟩:=hv
 have ho':cs=[y]:=ho
 rw[e]at ho'
 exact⟨b,off,vs,by simpa using ho'.symm,hr,hx⟩
theorem pd{E:Env}{id:Id}{ver n:Nat}{p:List vI}{y:Value}(h:VS E (.ptr id ver p n) y):
  ∃a,y= .pointer (some a)/\E.tT id ver/\(E.cur id ver->∃pl,E.β id=some pl/\a=⟨pl.b,n,none⟩):=by
 obtain⟨cs,hv,ho⟩:=h
 simp only[V]at hv
 obtain⟨a,e,hb,hc⟩:=hv
 have ho':cs=[y]:=ho
 rw[e]at ho'
 exact⟨a,by simpa using ho'.symm,hb,hc⟩
theorem np{E:Env}{id:Id}{ver c i len:Nat}{p:List vI}{y:Value}(h:VS E (.aS id ver p c i len) y):
  ∃a cap,y= .slice a len cap/\len<=cap/\(0 < len->a.isSome=true)/\E.tT id ver/\
   (E.cur id ver->match E.β id with
    |some pl=>(0 < len\/i=0->a=some ⟨pl.b,c,none⟩)/\(p=[]->i=0->cap=pl.cap)
    |none=>a=none/\len=0/\cap=0):=by
 obtain⟨cs,hv,ho⟩:=h
 simp only[V]at hv
 obtain⟨a,cap,e,rest⟩:=hv
 have ho':cs=[y]:=ho
 rw[e]at ho'
 exact⟨a,cap,by simpa using ho'.symm,rest⟩
theorem oJ{E:Env}{t:Ty}{l:List t.den}{y:Value}(h:VS E (.d (.slice t) l) y):
  ∃a cap vs,y= .slice a l.length cap/\l.length<=cap/\(0 < l.length->a.isSome=true)/\tS E a vs/\bj (dm E t) vs l:=by
 obtain⟨cs,hv,ho⟩:=h
 simp only[V,dm]at hv
 obtain⟨a,cap,vs,e,rest⟩:=hv
 have ho':cs=[y]:=ho
 rw[e]at ho'
 exact⟨a,cap,vs,by simpa using ho'.symm,rest⟩
theorem kg{E:Env}{y:Value}(h:VS E .di y):y= .slice none 0 0:=by
 obtain⟨cs,hv,ho⟩:=h
 simp only[V]at hv
 have ho':cs=[y]:=ho
 rw[hv]at ho'
 simpa using ho'.symm
theorem La{E:Env}{id:Id}{fr:Bool}{c:av}(h:pE E id fr c){p:List vI}{n:Nat}{v:av}(hl:(loc c.strip p).eval=some (n,v))(hf:v.eX=true):
  ∃pl cur e,E.β id=some pl/\E.w.heap[pl.b]? =some (.cells cur e (0,0))/\V E v ((cur.toList.drop n).take v.size)/\n+v.size<=cur.size:=by
 by_cases hn:c.iI=false
 ·obtain⟨pl,cur,e,hp,hh,hg,hk,hV⟩:=h.box hn
  have hN:=z6 hk
  generalize c.qd cur.size=N at hN hV
  have hNl:(cur.toList.take N).length=N:=by rw[bQ,cO];omega
  obtain⟨u,hu⟩:∃u,c.strip=u:=⟨_,rfl⟩
  rw[hu]at hV hl
  rcases nR p u (cur.toList.take N) n v (VO.of hV) hl with⟨rfl,rfl⟩ | ⟨h1,h2⟩
  ·have hs:=hV.size
   rw[hNl]at hs
   refine⟨pl,cur,e,hp,hh,?_,by omega⟩
   rw[aJ,<-hs]
   exact hV
  ·rw[hNl]at h2
   rw[od,kE,gH (by omega)]at h1
   exact⟨pl,cur,e,hp,hh,h1,by omega⟩
 ·cases c <;> first | (exact absurd rfl hn) | skip
  rotate_left
  ·have hl:(loc (.mp _ _ _) p).eval=_:=hl
   obtain⟨_,rfl⟩:=EJ hl
   simp[av.eX]at hf
  ·have hl:(loc (.nH _ _ _ _ _ _) p).eval=_:=hl
   obtain⟨_,rfl⟩:=Ai hl
   simp[av.eX]at hf
  ·have hl:(loc (.mr _ _ _) p).eval=_:=hl
   obtain⟨_,rfl⟩:=Aj hl
   simp[av.eX]at hf
  rename_i e t l
  obtain⟨hz,h⟩:=h
  cases hp:E.β id with
  |none=>
   rw[hp]at h
   have:l=[]:=h
   subst this
   obtain⟨_,rfl⟩:=Be hl
   simp[av.eX]at hf
  |some pl=>
   rw[hp]at h
   obtain⟨cur,k,q1,q2,q3,q4,q5,q6,q7,q8⟩:=h
   have hlen:=bj.length (λc x hx=>dm.size hx) q8
   have ou:l.length*t.size<=cur.size:=by rw[q2];exact cY _ q3
   rcases nR (E:=E) p (.vec e t l) _ n v q8 hl with⟨rfl,rfl⟩ | ⟨h1,h2⟩
   ·simp[av.eX]at hf
   ·rw[hlen]at h2
    rw[od,kE,gH (by omega)]at h1
    exact⟨pl,cur,e,rfl,q1,h1,by omega⟩
theorem K8{E:Env}{v v':av}(h:(RO v).eval=some v'):(∀cs,V E v cs->V E v' cs)/\v'.agg=v.agg:=by
 unfold RO at h
 split at h
 ·rename_i t l
  obtain⟨h1,h2⟩:=bO.1 h
  obtain rfl:=ao.1 h2
  refine⟨λcs hv=> ?_,rfl⟩
  simp only[V,dm]at hv ⊢
  exact hv.1 (Option.isNone_iff_eq_none.1 h1)
 ·obtain rfl:=ao.1 h
  exact⟨λ_ h=>h,rfl⟩
theorem Bd(h:Inv C g β s a w){T:TypeId}{x:av}{y:Value}(hx:VS (s.env w g β) x y){v:av}(he:(xC P s T x).eval=some v):
  ∃ad z,y= .pointer (some ad)/\(loadVar T ad).run P w= .ok z w/\VS (s.env w g β) v z:=by
 unfold xC at he
 split at he
 ·rename_i id ver p n
  cases kr:s.obj id with
  |none=>rw[kr]at he;simp only[ai]at he
  |some r=>
   obtain⟨v0,fr,c⟩:=r
   rw[kr]at he
   obtain⟨h1,h2⟩:=ay.1 he
   obtain⟨⟨n',v'⟩,h3,h4⟩:=ak.1 h2
   obtain⟨h5,h6⟩:=ay.1 h4
   obtain⟨h7,h8⟩:=bO.1 h6
   obtain⟨n1,n2⟩:=K8 (E:=s.env w g β) h8
   simp only[decide_eq_true_eq]at h7
   have SU:v0=ver:=by simpa using h1
   subst SU h7
   have cV:=eH kr
   obtain⟨ad,rfl,hb,hc⟩:=pd hx
   obtain⟨pl,hp,rfl⟩:=hc ⟨fr,c,cV⟩
   obtain⟨H7,_⟩:=nB h5
   obtain⟨pl',cur,e,hp',hh,hV,hle⟩:=La (h.bK id v0 fr c cV) h3 H7
   rw[hp]at hp'
   obtain rfl:pl=pl':=by simpa using hp'
   obtain⟨z,zk,yM⟩:=rA (P:=P) (w:=w) h5 (b:=pl.b) (off:=n') hV.size (λj x hj=>by
    rw[cell_of_row w pl.b (n'+j) cur e (0,0) hh]
    rw[dp]at hj
    split at hj
    ·rw[fW]at hj;simpa using hj
    ·cases hj)
   exact⟨_,z,rfl,zk,VS.of (n1 _ hV) (by rw[n2];exact yM)⟩
 ·rename_i t x'
  obtain⟨h1,h2⟩:=ay.1 he
  obtain rfl:=ao.1 h2
  obtain⟨b,off,vs,rfl,hr,hR⟩:=pB hx
  obtain⟨z,zk,yM⟩:=rA (P:=P) (w:=w) h1 (b:=b) (off:=off) hR.size (λj x hj=>by
   obtain⟨b',off',e,hh⟩:=hr j x hj
   simp only[aq,Addr.mk.injEq,and_true]at e
   obtain⟨rfl,rfl⟩:=e
   exact hh.1)
  exact⟨_,z,rfl,zk,VS.of (by simpa only[V]using hR) yM⟩
 ·rename_i t x'
  obtain⟨u,e,he⟩:=pI.1 he
  subst e
  have hx:=xo hx
  obtain⟨h1,h2⟩:=ay.1 he
  obtain rfl:=ao.1 h2
  obtain⟨b,off,vs,rfl,hr,hR⟩:=pB hx
  obtain⟨z,zk,yM⟩:=rA (P:=P) (w:=w) h1 (b:=b) (off:=off) hR.size (λj x hj=>by
   obtain⟨b',off',e,hh⟩:=hr j x hj
   simp only[aq,Addr.mk.injEq,and_true]at e
   obtain⟨rfl,rfl⟩:=e
   exact hh.1)
  exact⟨_,z,rfl,zk,VS.of (by simpa only[V]using hR) yM⟩
 ·simp only[ai]at he
theorem KT(h:Inv C g β s a w){T:TypeId}{x:Operand}(ho:o.op= .load T x){v:av}(he:(xC P s T (s.ev x)).eval=some v):fM P o a w (iE C (s.put o.dst v)):=by
 obtain⟨ad,z,hy,hr,hv⟩:=Bd h (h.ev x) he
 refine h.value hv (eg (f:=Instr.loadAt T (a.eval x)) (by simp only[execOp,ho]) ?_)
 simp[Instr.loadAt,Instr.sureAddr,hy,hr]
theorem Trans.setRow(w:World){b:Nat}{i:Id}(hg:g b= .own (.id i) 0)(cur:Array Value):Trans w (w.setRow b cur) g g:=by
 refine⟨by simp,by simp,by simp,by simp,λb' hb=> ?_⟩
 by_cases he:b'=b
 ·subst he
  rw[hg]
  exact⟨.inr ⟨i,0,rfl,aw _⟩,λ_ _ hh=>by omega⟩
 ·rw[setRow_other w b b' cur he]
  cases zN:g b' with
  |free=>exact⟨rfl,rfl⟩
  |own o' k=>cases o' with
   |eL=>exact⟨rfl,rfl⟩
   |id i'=>exact⟨.inr ⟨i',k,rfl,aw _⟩,λoff v _ hv=>by rw[cell_setRow_other w b cur _ he];exact hv⟩
theorem Inv.apart(h:Inv C g β s a w){id:Id}{k:Nat}{b:Nat}(hg:g b= .own (.id id) k){i:Id}{ver:Nat}{fr:Bool}{c:av}{pl:Pl}(hi:i≠id)(hs:s.bZ i=some (.obj ver fr c))(hp:β i=some pl):pl.b≠b:=by
 intro hb
 have hl:(∃k,g pl.b= .own (.id i) k)\/(fr=true/\g pl.b= .free):=((h.bK i ver fr c hs).label (pl:=pl) hp).2
 rw[hb,hg]at hl
 rcases hl with⟨k',hk⟩ | ⟨_,hk⟩
 ·simp only[kY.own.injEq,Own.id.injEq]at hk
  exact hi hk.1.symm
 ·cases hk
theorem Hb(h:Inv C g β s a w){T:TypeId}{x v:av}{y z:Value}(hx:VS (s.env w g β) x y)(hz:VS (s.env w g β) v z){s':AS}(he:(u6 P s T x v).eval=some s'):
  ∃ad w',y= .pointer (some ad)/\(storeVar T ad z).run P w= .ok () w'/\∃g' β',Inv C g' β' s' a w':=by
 unfold u6 at he
 split at he
 ·rename_i id ver p n
  cases kr:s.obj id with
  |none=>rw[kr]at he;simp only[ai]at he
  |some r=>
   obtain⟨v0,fr,c⟩:=r
   rw[kr]at he
   obtain⟨h1,h2⟩:=ay.1 he
   obtain⟨⟨n',o'⟩,h3,h4⟩:=ak.1 h2
   obtain⟨h5,h6⟩:=ay.1 h4
   obtain⟨h7,h8⟩:=bO.1 h6
   obtain⟨c',h9,Tr⟩:=ak.1 h8
   obtain rfl:=ao.1 Tr
   simp only[decide_eq_true_eq]at h7
   simp only[aj,beq_iff_eq,cC]at h1
   obtain⟨⟨SU,Re⟩,AQ⟩:=h1
   subst SU h7 Re
   have cV:=eH kr
   obtain⟨ad,rfl,hb,hc⟩:=pd hx
   obtain⟨pl,hp,rfl⟩:=hc ⟨false,c,cV⟩
   have hp:β id=some pl:=hp
   obtain⟨H7,_⟩:=nB AQ
   obtain⟨cs,hV,hO⟩:=hz.eX H7
   have hOb:=h.bK id v0 false c cV
   obtain⟨hcel',_⟩:=nB h5
   have WT:c.iI=false\/c.iI=true:=by cases c.iI <;> simp
   rcases WT with hn | hn
   ·obtain⟨pl',cur,e,hp',hh,hg,hk,hVc⟩:=hOb.box hn
    have hp':β id=some pl':=hp'
    rw[hp]at hp'
    obtain rfl:pl=pl':=by simpa using hp'
    have hg:g pl.b= .own (.id id) 0:=hg
    have hh:w.heap[pl.b]? =some (.cells cur e (0,0)):=hh
    have hN:=z6 hk
    have hNl:(cur.toList.take (c.qd cur.size)).length=c.qd cur.size:=by rw[bQ,cO];omega
    obtain⟨u1,u2,u3⟩:=mI p c.strip (cur.toList.take (c.qd cur.size)) n' o' v c' cs (VO.of hVc) h3 hV h9
    have u4:=u2.to (u3.oF hVc.oF)
    have ou:c'.size=c.strip.size:=by
     have e1:=u4.size
     have e2:=hVc.size
     rw[jE u1]at e1
     omega
    rw[hNl]at u1
    have MQ:(dD cur.toList n' cs).length=cur.toList.length:=jE (by have e1:cur.toList.length=cur.size:=cO;omega)
    have WI:(dD cur.toList n' cs).take (c.qd cur.size)=dD (cur.toList.take (c.qd cur.size)) n' cs:=by
     conv=>lhs;rw[<-dO (c.qd cur.size) cur.toList]
     rw[sh (by rw[hNl];exact u1),jb (by rw[jE (by rw[hNl];exact u1),hNl];exact aw _)]
     exact bk (by rw[jE (by rw[hNl];exact u1),hNl];exact aw _)
    have mF:=uf (P:=P) (w:=w) AQ hV hO (b:=pl.b) (off:=n') hh (by have e1:cur.toList.length=cur.size:=cO;have e2:cs.toArray.size=cs.length:=ik;omega)
    have ht:=Trans.setRow w hg (dD cur.toList n' cs).toArray
    have hle:cP (s.env w g β) ((s.aO id (.obj v0 false (c.wrap c'))).env (w.setRow pl.b (dD cur.toList n' cs).toArray) g β):=cP.aO cV (aw _) ht (λ_ _=>rfl) (λ_=>rfl)
    refine⟨_,_,rfl,mF,g,β,h.step (du _ _ _) ht hle (jc.aO h.bK (by rw[cV];simp) hle (λ_ _=>rfl) (λi ver fr c pl2 hi AR Dx=>⟨setRow_other w pl.b pl2.b _ (h.apart hg hi AR Dx),rfl⟩) ?_ (mG cV λk v1 l e=>by rw[e]at hn;simp[av.iI]at hn))⟩
    exact yp.obj ⟨pl,_,e,hp,setRow_heap w pl.b cur _ e (0,0) hh,hg,by rw[ik,MQ,cO];exact wo hk u4.rq ou,by
     rw[wV c u4.rq,ik,MQ,cO,yy u4.rq ou,show(dD cur.toList n' cs).toArray.toList=dD cur.toList n' cs from rfl,WI]
     exact V.mono hle u4⟩
   ·cases c <;> first | (simp[av.iI]at hn;done) | skip
    rotate_left
    ·have h3:(loc (.mp _ _ _) p).eval=_:=h3
     obtain⟨_,rfl⟩:=EJ h3
     simp[av.eX]at hcel'
    ·have h3:(loc (.nH _ _ _ _ _ _) p).eval=_:=h3
     obtain⟨_,rfl⟩:=Ai h3
     simp[av.eX]at hcel'
    ·have h3:(loc (.mr _ _ _) p).eval=_:=h3
     obtain⟨_,rfl⟩:=Aj h3
     simp[av.eX]at hcel'
    rename_i e t l
    obtain⟨Hu,hOb⟩:=hOb
    have hOb:(match β id with
     |none=>l=[]
     |some pl=>∃cur k,w.heap[pl.b]? =some (.cells cur e (0,0))/\cur.size=pl.cap*t.size/\l.length<=pl.cap/\pl.cap<=maxLen/\g pl.b= .own (.id id) k/\
       k<=l.length*t.size/\(false=false->k=0)/\bj (dm (s.env w g β) t) (cur.toList.take (l.length*t.size)) l):=hOb
    rw[hp]at hOb
    obtain⟨cur,k,q1,q2,q3,q4,q5,q6,q7,q8⟩:=hOb
    have hk:=q7 rfl
    subst hk
    have hlen:=bj.length (λc x hx=>dm.size hx) q8
    have ou:l.length*t.size<=cur.size:=by rw[q2];exact cY _ q3
    obtain⟨u1,u2,u3⟩:=mI (E:=s.env w g β) p (.vec e t l) _ n' o' v c' cs q8 h3 hV h9
    rw[hlen]at u1
    have mF:=uf (P:=P) (w:=w) AQ hV hO (b:=pl.b) (off:=n') q1 (by omega)
    cases c' <;> first | (exact u3.elim) | skip
    rename_i e' t' l'
    obtain⟨rfl,rfl,hl'⟩:=u3
    have ht:=Trans.setRow w q5 (dD cur.toList n' cs).toArray
    have hle:cP (s.env w g β) ((s.aO id (.obj v0 false (.vec e' t' l'))).env (w.setRow pl.b (dD cur.toList n' cs).toArray) g β):=cP.aO cV (aw _) ht (λ_ _=>rfl) (λ_=>rfl)
    refine⟨_,_,rfl,mF,g,β,h.step (du _ _ _) ht hle (jc.aO h.bK (by rw[cV];simp) hle (λ_ _=>rfl) (λi ver fr c pl2 hi AR Dx=>⟨setRow_other w pl.b pl2.b _ (h.apart q5 hi AR Dx),rfl⟩) ?_ (mG cV λk v1 l e=>by cases e))⟩
    refine⟨Hu,?_⟩
    show(match β id with
     |none=>l'=[]
     |some pl=>_)
    rw[hp]
    have MQ:(dD cur.toList n' cs).length=cur.toList.length:=jE (by simp;omega)
    refine⟨_,0,setRow_heap w pl.b cur _ e' (0,0) q1,by rw[ik,MQ];simpa using q2,by omega,q4,q5,by omega,λ_=>rfl,?_⟩
    have e2:(dD cur.toList n' cs).take (l'.length*t'.size)=dD (cur.toList.take (l.length*t'.size)) n' cs:=by
     rw[hl']
     conv=>lhs;rw[<-dO (l.length*t'.size) cur.toList]
     rw[sh (by rw[hlen];exact u1),jb (by rw[jE (by rw[hlen];exact u1),hlen];exact aw _)]
     exact bk (by rw[jE (by rw[hlen];exact u1),hlen];exact aw _)
    rw[show(dD cur.toList n' cs).toArray.toList=dD cur.toList n' cs from rfl,e2]
    exact bj.mono (λ_ _ hx=>hx.mono hle.mem) u2
 ·simp only[ai]at he
theorem IY(h:Inv C g β s a w){T:TypeId}{x v:Operand}(ho:o.op= .store T x v){s':AS}(he:(u6 P s T (s.ev x) (s.ev v)).eval=some s'):fM P o a w (iE C (s'.put o.dst .undef)):=by
 obtain⟨ad,w',hy,hr,g',β',hi⟩:=Hb h (h.ev x) (h.ev v) he
 refine .inr (.inl ⟨w',Di (f:=Instr.storeAt T (a.eval x) (a.eval v)) (by simp only[execOp,ho]) ?_,g',β',hi.put o.dst VS.undef⟩)
 simp[Instr.storeAt,Instr.sureAddr,hy,hr]
end
end Go.Ab
namespace Go.Ab
section
variable {P:Program} {C:Ctx} {g:Nat->kY} {β:Id->Option Pl} {s:AS} {a:Act} {w:World} {o:Oper}
theorem DB(h:Inv C g β s a w){x:Operand}(ho:o.op= .move x\/o.op= .assign x):fM P o a w (iE C (s.put o.dst (s.ev x))):=by
 refine h.value (h.ev x) ?_
 rcases ho with ho | ho <;> simp[execOp,ho]
theorem Le(h:Inv C g β s a w){c x y:Operand}(ho:o.op= .pick c x y){v:av}(he:(JP (s.ev c) (s.ev x) (s.ev y)).eval=some v):fM P o a w (iE C (s.put o.dst v)):=by
 have hc:=h.ev c
 have hx:=h.ev x
 have hy:=h.ev y
 unfold JP at he
 split at he
 ·rename_i b hb
  rw[hb]at hc
  have YE:=zZ hc
  have hr:(execOp a.eval o).run P w= .ok (.value (if b then a.eval x else a.eval y)) w:=by
   simp[execOp,ho,YE,asBool]
  split at he
  ·rename_i bx by' YA YB
   obtain rfl:=ao.1 he
   rw[YA]at hx
   rw[YB]at hy
   refine h.value ?_ hr
   cases b
   ·simpa using hy
   ·simpa using hx
  ·cases b with
   |true=>
    simp only[Out.eval,aq]at he
    subst he
    exact h.value (by simpa using hx) hr
   |false=>
    simp only[Out.eval,aq]at he
    subst he
    exact h.value (by simpa using hy) hr
 ·simp only[ai]at he
theorem CS(h:Inv C g β s a w){x:Operand}(ho:o.op= .nilCheck x){s':AS}(he:(match s.ev x with
  | .ptr id v p n=>Out.ok (s.put o.dst (.ptr id v p n))
  | .eD t y=> .ok (s.put o.dst (.eD t y))
  | .d (.oq t) y=> .get (y:Option t.den) λy=> .ok (s.put o.dst (.eD t y))
  | .fn f c=> .ok (s.put o.dst (.fn f c))
  |_=> .fail).eval=some s'):fM P o a w (iE C s'):=by
 have hx:=h.ev x
 split at he
 ·rename_i id v p n hv
  obtain rfl:=ao.1 he
  rw[hv]at hx
  obtain⟨ad,hy,_⟩:=pd hx
  exact h.value hx (by simp[execOp,ho,hy])
 ·rename_i t y hv
  obtain rfl:=ao.1 he
  rw[hv]at hx
  obtain⟨b,off,vs,hy,_⟩:=pB hx
  exact h.value hx (by simp[execOp,ho,hy])
 ·rename_i t y hv
  obtain⟨z,e,he⟩:=pI.1 he
  subst e
  obtain rfl:=ao.1 he
  rw[hv]at hx
  have hx:=xo hx
  obtain⟨b,off,vs,hy,_⟩:=pB hx
  exact h.value hx (by simp[execOp,ho,hy])
 ·rename_i f c hv
  obtain rfl:=ao.1 he
  rw[hv]at hx
  obtain⟨cs,hV,hO⟩:=hx.eX rfl
  simp only[V]at hV
  obtain⟨vs,e,hc⟩:=hV
  have hO':cs=[a.eval x]:=hO
  rw[e]at hO'
  have hy:a.eval x= .func (.func f) #[] vs.toArray:=by simpa using hO'.symm
  refine h.value (v:= .fn f c) ⟨cs,by simp only[V];exact⟨vs,e,hc⟩,hO⟩ (by simp[execOp,ho,hy])
 ·simp only[ai]at he
theorem Gf{op:BinOp}{k k':IntKind}{x y:Int}{v:av}(he:(MU op k x k' y).eval=some v)(T:TypeId)(E:Env):
  ∃z,(binOp op T (.int k x) (.int k' y)).run P w= .ok z w/\VS E v z:=by
 unfold MU at he
 have same:∀(hk:decide (k=k')=true),k=k':=λhk=>by simpa using hk
 cases op with
 |shl=>
  obtain⟨h1,h2⟩:=bO.1 he
  obtain rfl:=ao.1 h2
  have h1:¬y < 0:=by simpa using h1
  exact⟨_,by simp[binOp,Op.shift,h1],kj _ _⟩
 |shr=>
  obtain⟨h1,h2⟩:=bO.1 he
  obtain rfl:=ao.1 h2
  have h1:¬y < 0:=by simpa using h1
  exact⟨_,by simp[binOp,Op.shift,h1],kj _ _⟩
 |quo=>
  obtain⟨h1,h2⟩:=ay.1 he
  obtain rfl:=same h1
  obtain⟨h3,h4⟩:=bO.1 h2
  obtain rfl:=ao.1 h4
  have h3:y≠0:=by simpa using h3
  exact⟨_,by simp[binOp,Op.intDiv,h3],kj _ _⟩
 |rem=>
  obtain⟨h1,h2⟩:=ay.1 he
  obtain rfl:=same h1
  obtain⟨h3,h4⟩:=bO.1 h2
  obtain rfl:=ao.1 h4
  have h3:y≠0:=by simpa using h3
  exact⟨_,by simp[binOp,Op.intDiv,h3],kj _ _⟩
 |add | sub | mul=>
  obtain⟨h1,h2⟩:=ay.1 he
  obtain rfl:=same h1
  obtain rfl:=ao.1 h2
  exact⟨_,by simp[binOp,Op.intArith],kj _ _⟩
 |and | or | xor | andNot=>
  obtain⟨h1,h2⟩:=ay.1 he
  obtain rfl:=same h1
  obtain rfl:=ao.1 h2
  refine⟨_,?_,kj _ _⟩
  unfold binOp Op.intBits
  simp[dY]
 |eql | neq | lss | leq | gtr | geq=>
  obtain⟨h1,h2⟩:=ay.1 he
  obtain rfl:=same h1
  obtain rfl:=ao.1 h2
  refine⟨_,?_,po _⟩
  simp[binOp,Op.intCmp]
theorem Hc{op:BinOp}{x y:ByteArray}{v:av}(he:(NP op x y).eval=some v)(T:TypeId)(E:Env):
  ∃z,(binOp op T (.string x) (.string y)).run P w= .ok z w/\VS E v z:=by
 unfold NP at he
 cases op <;> simp only[ai]at he
 case add=>
  obtain⟨h1,h2⟩:=bO.1 he
  obtain rfl:=ao.1 h2
  have h1:¬((x.size+y.size:Nat):Int) > IntKind.i64.max:=by simpa using h1
  refine⟨.string (x++y),?_,D9 _⟩
  show(Op.stringOp .add x y).run P w=_
  unfold Op.stringOp
  simp only[h1,if_false]
  rfl
 all_goals
  obtain rfl:=ao.1 he
  exact⟨_,by simp[binOp,Op.stringOp],po _⟩
theorem lF{op:BinOp}{T:TypeId}{x y:Operand}{u v:Value}(h1:u≠ .nilIface)(h2:nG u=false):(eqGuard op T x y u v).run P w= .ok () w:=by
 unfold eqGuard
 cases op <;> simp
 all_goals (cases u <;> simp_all [nG])
theorem qK{T:TypeId}{b:Bool}(h:wI P T b=true):∃i,P.info? T=some i/\∀w,(isAgg T).run P w= .ok b w:=by
 unfold wI at h
 cases hu:P.underlying T with
 |none=>rw[hu]at h;cases h
 |some d=>
  obtain⟨i,hi⟩:=JC hu
  refine⟨i,hi,λw=> ?_⟩
  rw[hu]at h
  unfold isAgg
  rw[Sem.run_bind,run_underlying hu w]
  cases d <;> simp at h <;> simp[h]
theorem pV{T:TypeId}{b:Bool}(h:wI P T b=true){cs:List Value}{off n:Nat}(hn:P.cellsOf T=n)(hb:b=false->n=1)(hl:off+n<=cs.length):
  ∃y,(part T cs.toArray off).run P w= .ok y w/\fV b ((cs.drop off).take n) y:=by
 obtain⟨i,hi,F6⟩:=qK h
 rw[lg hi]at hn
 unfold part
 rw[Sem.run_bind,F6 w]
 simp only[Result.andThen_ok]
 cases b with
 |true=>
  refine⟨.agg ((cs.drop off).take n).toArray,?_,rfl⟩
  simp only[if_true,Sem.run_bind,run_sizeOf hi,Result.andThen_ok,hn,Sem.run_pure]
  simp[List.extract_eq_take_drop]
 |false=>
  have h1:=hb rfl
  subst h1
  have iv:off < cs.length:=by omega
  refine⟨cs[off],?_,?_⟩
  ·simp[iv]
  ·show(cs.drop off).take 1=[cs[off]]
   rw[ax iv,List.take_succ_cons,eF]
theorem pW{t:Ty}(h:t.agg=false):t.size=1:=by
 cases t <;> first | rfl | (simp[Ty.agg]at h)
theorem Ba{α:Type}(f:α->α->Bool)(x y:α)(xs ys:List α):lj f (x::xs) (y::ys)=(f x y && lj f xs ys):=rfl
theorem pq(E:Env):∀(n:Nat) (T:TypeId) (t:Ty),nO P n T t=true->∀(d:Nat),n<=d->∀(cx cy:List Value) (x y:t.den) (u v:Value),dm E t cx x->dm E t cy y->fV t.agg cx u->fV t.agg cy v->
  (Op.equalIn d T u v).run P w= .ok (t.beq x y) w
 | 0,T,t,h,_,_,_,_,_,_,_,_,_,_,_,_=>by simp[nO]at h
 |n+1,T,t,h,0,hd,_,_,_,_,_,_,_,_,_,_=>by omega
 |n+1,T,t,h,d+1,hd,cx,cy,x,y,u,v,hx,hy,hu,hv=>by
  simp only[nO]at h
  split at h
  ·rename_i k k' hT
   simp only[dm]at hx hy
   have e1:cx=[u]:=hu
   have e2:cy=[v]:=hv
   rw[hx]at e1;rw[hy]at e2
   simp only[ed,and_true]at e1 e2
   subst e1 e2
   rw[run_equalIn_int w d T _ _ _ _ hT];rfl
  ·rename_i hT
   simp only[dm]at hx hy
   have e1:cx=[u]:=hu
   have e2:cy=[v]:=hv
   rw[hx]at e1;rw[hy]at e2
   simp only[ed,and_true]at e1 e2
   subst e1 e2
   rw[run_equalIn_bool' w d T _ _ hT];rfl
  ·rename_i hT
   simp only[dm]at hx hy
   have e1:cx=[u]:=hu
   have e2:cy=[v]:=hv
   rw[hx]at e1;rw[hy]at e2
   simp only[ed,and_true]at e1 e2
   subst e1 e2
   rw[run_equalIn_string w d T _ _ hT];rfl
  ·rename_i m e m' t' hT
   simp only[aj,beq_iff_eq]at h
   obtain⟨⟨⟨⟨rfl,RA⟩,ou⟩,w7⟩,pt⟩:=h
   simp only[dm]at hx hy
   obtain⟨Wn,Wa⟩:=hx
   obtain⟨YV,YF⟩:=hy
   have e1:u= .agg cx.toArray:=hu
   have e2:v= .agg cy.toArray:=hv
   subst e1 e2
   obtain⟨i,hi,F6⟩:=qK w7
   have hsz':=ou
   rw[lg hi]at hsz'
   simp only[Op.equalIn,Sem.run_bind,run_underlying hT,Result.andThen_ok,run_sizeOf hi,hsz']
   simp only[Std.Legacy.Range.forIn_eq_forIn_range']
   have hm:([:m]:Std.Legacy.Range).size=m:=by simp[Std.Legacy.Range.size]
   rw[hm]
   have Hu:∀c z,dm E t' c z->c.length=t'.size:=λc z hz=>hz.size
   have bx:t'.agg=false->t'.size=1:=pW
   have key:∀(k:Nat) (x y:List t'.den) (j:Nat),x.length=k->y.length=k->bj (dm E t') (cx.drop (j*t'.size)) x->bj (dm E t') (cy.drop (j*t'.size)) y->
     (forIn (List.range' j k) ((none,()):Option Bool×Unit) λi __s=>(do
      let __do_lift <-part e cx.toArray (i*t'.size)
      let __do_lift_1 <-part e cy.toArray (i*t'.size)
      let __do_lift <-Op.equalIn d e __do_lift __do_lift_1
      if(!__do_lift)=true then pure (ForInStep.done (some false,())) else pure (ForInStep.yield (none,())):Sem (ForInStep (Option Bool×Unit)))).run P w= .ok (if lj t'.beq x y then none else some false,()) w:=by
    intro k
    induction k with
    |zero=>
     intro x y j hx hy _ _
     rw[List.length_eq_zero_iff.1 hx,List.length_eq_zero_iff.1 hy]
     rfl
    |succ k ih=>
     intro x y j hx hy hcx' hcy'
     cases x with
     |nil=>simp at hx
     |cons x0 xs=>
      cases y with
      |nil=>simp at hy
      |cons y0 ys=>
       have gx:=bj.get Hu hcx' 0 (by simp)
       have gy:=bj.get Hu hcy' 0 (by simp)
       simp only[lf,aJ,List.getElem_cons_zero]at gx gy
       have lenx:((cx.drop (j*t'.size)).take t'.size).length=t'.size:=gx.size
       have leny:((cy.drop (j*t'.size)).take t'.size).length=t'.size:=gy.size
       have zk:t'.size≠0:=by simpa using RA
       have Wk:j*t'.size+t'.size<=cx.length:=by simp only[bQ,dy]at lenx;omega
       have YR:j*t'.size+t'.size<=cy.length:=by simp only[bQ,dy]at leny;omega
       obtain⟨ux,h1,o1⟩:=pV (w:=w) w7 ou bx (cs:=cx) (off:=j*t'.size) Wk
       obtain⟨uy,h2,o2⟩:=pV (w:=w) w7 ou bx (cs:=cy) (off:=j*t'.size) YR
       have h3:=pq E n e t' pt d (by omega) _ _ x0 y0 ux uy gx gy o1 o2
       have nx:bj (dm E t') (cx.drop ((j+1)*t'.size)) xs:=by
        have:=bj.drop Hu 1 hcx'
        rw[gD]at this
        simpa[eM]using this
       have ny:bj (dm E t') (cy.drop ((j+1)*t'.size)) ys:=by
        have:=bj.drop Hu 1 hcy'
        rw[gD]at this
        simpa[eM]using this
       have:=ih xs ys (j+1) (by simpa using hx) (by simpa using hy) nx ny
       rw[List.range'_succ,List.forIn_cons]
       simp only[Sem.run_bind,h1,h2,h3,Result.andThen_ok,Ba]
       rcases iV (t'.beq x0 y0) with hb | hb
       ·simp only[hb,dj,cv,if_false,Sem.run_pure,Result.andThen_ok,ez]
        exact this
       ·simp only[hb,ia,if_true,Sem.run_pure,Result.andThen_ok,kB,cv,if_false]
   have:=key m x y 0 Wn YV (by simpa using Wa) (by simpa using YF)
   rw[this]
   show _=Result.ok (lj t'.beq x y) w
   cases lj t'.beq x y <;> rfl
  ·rename_i t0 _ _ fs hT
   simp only[aj,cC]at h
   obtain⟨lZ,Rf⟩:=h
   have hF:P.fieldsOf T=fs:=by simp[Program.fieldsOf,hT]
   have hT':P.underlying T=some (.struct (P.fieldsOf T)):=by rw[hF];exact hT
   have key:∀(fl:List Field) (t:Ty) (off:Nat),wB P (nO P n) fl t off=true->∀(x y:t.den),dm E t (cx.drop off) x->dm E t (cy.drop off) y->
     (Op.eqFields d cx.toArray cy.toArray fl).run P w= .ok (t.beq x y) w:=by
    intro fl
    induction fl with
    |nil=>
     intro t off hc x y _ _
     cases t <;> first | (simp[wB]at hc;done) | rfl
    |cons f fl ih=>
     intro t off hc x y hx hy
     cases t <;> first | (simp[wB]at hc;done) | skip
     rename_i ta tb
     simp only[wB,aj,cC,beq_iff_eq,beq_eq_false_iff_ne]at hc
     obtain⟨⟨⟨⟨⟨⟨Wt,OW⟩,hz⟩,ou⟩,w7⟩,pt⟩,MM⟩:=hc
     simp only[dm]at hx hy
     obtain⟨xa,xb,ex,Ul,WU⟩:=hx
     obtain⟨ya,yb,ey,Yb,Zk⟩:=hy
     have bx:ta.agg=false->ta.size=1:=pW
     have lx:xa.length=ta.size:=Ul.size
     have ly:ya.length=ta.size:=Yb.size
     have split:∀(cs xa xb:List Value),cs.drop off=xa++xb->xa.length=ta.size->(cs.drop off).take ta.size=xa/\cs.drop (off+ta.size)=xb/\off+ta.size<=cs.length:=by
      intro cs xa xb e l
      refine⟨by rw[e];exact j2 l,by rw[<-gD,e];exact jZ l,?_⟩
      have:=congrArg List.length e
      simp only[dy,ae]at this
      omega
     obtain⟨sx1,sx2,sx3⟩:=split cx xa xb ex lx
     obtain⟨sy1,sy2,sy3⟩:=split cy ya yb ey ly
     obtain⟨ux,h1,o1⟩:=pV (w:=w) w7 ou bx (cs:=cx) (off:=off) sx3
     obtain⟨uy,h2,o2⟩:=pV (w:=w) w7 ou bx (cs:=cy) (off:=off) sy3
     rw[sx1]at o1
     rw[sy1]at o2
     have h3:=pq E n f.type ta pt d (by omega) _ _ x.1 y.1 ux uy Ul Yb o1 o2
     have h4:=ih tb (off+ta.size) MM x.2 y.2 (by rw[sx2];exact WU) (by rw[sy2];exact Zk)
     simp only[Op.eqFields,ne_eq,Wt,not_false_eq_true,if_true,Sem.run_bind,OW,h1,h2,h3,Result.andThen_ok]
     show _=Result.ok (ta.beq x.1 y.1 && tb.beq x.2 y.2) w
     rcases iV (ta.beq x.1 y.1) with hb | hb
     ·simp only[hb,dj,cv,if_false,ez]
      exact h4
     ·simp[hb]
   have w7:t0.agg=true:=by
    cases hl:fs.toList <;> rw[hl]at Rf <;> cases t0 <;> first | rfl | (simp[wB]at Rf;done)
   rw[w7]at hu hv
   have e1:u= .agg cx.toArray:=hu
   have e2:v= .agg cy.toArray:=hv
   subst e1 e2
   rw[run_equalIn_struct w d T _ _ hT' lZ,hF]
   exact key fs.toList t0 0 Rf x y (by simpa using hx) (by simpa using hy)
  ·cases h
end
end Go.Ab
namespace Go.Ab
section
variable {P:Program} {C:Ctx} {g:Nat->kY} {β:Id->Option Pl} {s:AS} {a:Act} {w:World} {o:Oper}
theorem No{E:Env}{v:av}{y c:Value}(h:VS E v y)(hc:v.eX=true)(ha:v.agg=false)(hV:∀cs,V E v cs->cs=[c]):y=c:=by
 have:=h.single hc ha
 simpa using hV _ this
theorem vu{E:Env}{y:Value}(h:VS E .mO y):y= .pointer none:=No h rfl rfl λcs hv=>by simpa only[V]using hv
theorem Ak{E:Env}{y:Value}(h:VS E .pL y):y= .nilFunc:=No h rfl rfl λcs hv=>by simpa only[V]using hv
theorem Dm{E:Env}{f:FuncId}{c:av}{y:Value}(h:VS E (.fn f c) y):∃vs,y= .func (.func f) #[] vs.toArray/\VC E c vs:=by
 have h1:=h.single rfl rfl
 simp only[V]at h1
 obtain⟨vs,e,hc⟩:=h1
 exact⟨vs,by simpa using e,hc⟩
theorem fu{T:TypeId}{u v:Value}{b:Bool}(h:∀d,(Op.equalIn (d+1) T u v).run P w= .ok b w):(Op.equal T u v).run P w= .ok b w:=h 9999
theorem AD{T:TypeId}{x y:av}{u v:Value}{E:Env}(hx:VS E x u)(hy:VS E y v){b:Bool}(he:(rP P T x y).eval=some b):
  (Op.equal T u v).run P w= .ok b w/\u≠ .nilIface/\(nG u=false\/(nG v=true/\P.eqGuardType P.depth T=false))/\
   (∀op,binOp op T u v=(match op with | .eql=>do pure (.bool (<-Op.equal T u v)) | .neq=>do pure (.bool (!(<-Op.equal T u v))) | _=>binOp op T u v)):=by
 unfold rP at he
 split at he
 ·rename_i t x' t' y'
  obtain⟨y'',h1,h2⟩:=ak.1 he
  obtain⟨rfl,h1⟩:=jB (jM.1 h1)
  simp only at h1
  subst h1
  obtain⟨h3,h4⟩:=ay.1 h2
  obtain rfl:=ao.1 h4
  simp only[aj,ix,cC,decide_eq_true_eq]at h3
  obtain⟨h3,h5⟩:=h3
  obtain⟨cx,hVx,hOx⟩:=hx.eX rfl
  obtain⟨cy,hVy,hOy⟩:=hy.eX rfl
  simp only[V]at hVx hVy
  have hr:=pq (w:=w) E depth T t' h5 10000 (by decide) cx cy x' y' u v hVx hVy hOx hOy
  refine⟨hr,?_⟩
  rcases h3 with⟨w7,YM⟩ | rfl
  ·have hOx':fV t'.agg cx u:=hOx
   have hOy':fV t'.agg cy v:=hOy
   rw[w7]at hOx' hOy'
   have e1:u= .agg cx.toArray:=hOx'
   have e2:v= .agg cy.toArray:=hOy'
   subst e1 e2
   exact⟨by simp,.inr ⟨rfl,YM⟩,λop=>by cases op <;> rfl⟩
  ·simp only[dm]at hVx hVy
   have e1:cx=[u]:=hOx
   have e2:cy=[v]:=hOy
   rw[hVx]at e1;rw[hVy]at e2
   simp only[ed,and_true]at e1 e2
   subst e1 e2
   exact⟨by simp,.inl rfl,λop=>by cases op <;> rfl⟩
 ·obtain⟨h1,h2⟩:=ay.1 he
  obtain rfl:=ao.1 h2
  rw[kg hx,kg hy]
  unfold rP.isSl at h1
  split at h1 <;> try (cases h1;done)
  rename_i e hT
  exact⟨fu λd=>by simp[Op.equalIn,run_underlying hT],by simp,.inl rfl,λop=>by cases op <;> rfl⟩
 ·obtain⟨h1,h2⟩:=ay.1 he
  obtain⟨h3,h4⟩:=bO.1 h2
  obtain rfl:=ao.1 h4
  obtain⟨ad,cap,vs,rfl,_,hs,_⟩:=oJ hx
  rw[kg hy]
  have hs:=hs (by simpa using h3)
  obtain⟨ad',rfl⟩:=bY.1 hs
  unfold rP.isSl at h1
  split at h1 <;> try (cases h1;done)
  rename_i e hT
  exact⟨fu λd=>by simp[Op.equalIn,run_underlying hT],by simp,.inl rfl,λop=>by cases op <;> rfl⟩
 ·obtain⟨h1,h2⟩:=ay.1 he
  obtain⟨h3,h4⟩:=bO.1 h2
  obtain rfl:=ao.1 h4
  obtain⟨ad,cap,vs,rfl,_,hs,_⟩:=oJ hy
  rw[kg hx]
  have hs:=hs (by simpa using h3)
  obtain⟨ad',rfl⟩:=bY.1 hs
  unfold rP.isSl at h1
  split at h1 <;> try (cases h1;done)
  rename_i e hT
  exact⟨fu λd=>by simp[Op.equalIn,run_underlying hT],by simp,.inl rfl,λop=>by cases op <;> rfl⟩
 ·obtain⟨h1,h2⟩:=ay.1 he
  obtain⟨h3,h4⟩:=bO.1 h2
  obtain rfl:=ao.1 h4
  obtain⟨ad,cap,rfl,_,hs,_⟩:=np hx
  rw[kg hy]
  have hs:=hs (by simpa using h3)
  obtain⟨ad',rfl⟩:=bY.1 hs
  unfold rP.isSl at h1
  split at h1 <;> try (cases h1;done)
  rename_i e hT
  exact⟨fu λd=>by simp[Op.equalIn,run_underlying hT],by simp,.inl rfl,λop=>by cases op <;> rfl⟩
 ·obtain⟨h1,h2⟩:=ay.1 he
  obtain⟨h3,h4⟩:=bO.1 h2
  obtain rfl:=ao.1 h4
  obtain⟨ad,cap,rfl,_,hs,_⟩:=np hy
  rw[kg hx]
  have hs:=hs (by simpa using h3)
  obtain⟨ad',rfl⟩:=bY.1 hs
  unfold rP.isSl at h1
  split at h1 <;> try (cases h1;done)
  rename_i e hT
  exact⟨fu λd=>by simp[Op.equalIn,run_underlying hT],by simp,.inl rfl,λop=>by cases op <;> rfl⟩
 ·obtain⟨h1,h2⟩:=ay.1 he
  obtain rfl:=ao.1 h2
  rw[vu hx,vu hy]
  unfold rP.isPt at h1
  split at h1 <;> try (cases h1;done)
  rename_i e hT
  exact⟨fu λd=>by simp[Op.equalIn,run_underlying hT],by simp,.inl rfl,λop=>by cases op <;> rfl⟩
 ·obtain⟨h1,h2⟩:=ay.1 he
  obtain rfl:=ao.1 h2
  obtain⟨ad,rfl,_⟩:=pd hx
  rw[vu hy]
  unfold rP.isPt at h1
  split at h1 <;> try (cases h1;done)
  rename_i e hT
  exact⟨fu λd=>by simp[Op.equalIn,run_underlying hT],by simp,.inl rfl,λop=>by cases op <;> rfl⟩
 ·obtain⟨h1,h2⟩:=ay.1 he
  obtain rfl:=ao.1 h2
  obtain⟨ad,rfl,_⟩:=pd hy
  rw[vu hx]
  unfold rP.isPt at h1
  split at h1 <;> try (cases h1;done)
  rename_i e hT
  exact⟨fu λd=>by simp[Op.equalIn,run_underlying hT],by simp,.inl rfl,λop=>by cases op <;> rfl⟩
 ·rename_i t q
  obtain⟨h1,h2⟩:=ay.1 he
  obtain rfl:=ao.1 h2
  unfold rP.isPt at h1
  split at h1 <;> try (cases h1;done)
  rename_i e hT
  rw[vu hy]
  cases q with
  |none=>
   rw[Dv hx]
   exact⟨fu λd=>by simp[Op.equalIn,run_underlying hT],by simp,.inl rfl,λop=>by cases op <;> rfl⟩
  |some z=>
   obtain⟨b,off,vs,rfl,_⟩:=pB (xo hx)
   exact⟨fu λd=>by simp[Op.equalIn,run_underlying hT],by simp,.inl rfl,λop=>by cases op <;> rfl⟩
 ·rename_i t q
  obtain⟨h1,h2⟩:=ay.1 he
  obtain rfl:=ao.1 h2
  unfold rP.isPt at h1
  split at h1 <;> try (cases h1;done)
  rename_i e hT
  rw[vu hx]
  cases q with
  |none=>
   rw[Dv hy]
   exact⟨fu λd=>by simp[Op.equalIn,run_underlying hT],by simp,.inl rfl,λop=>by cases op <;> rfl⟩
  |some z=>
   obtain⟨b,off,vs,rfl,_⟩:=pB (xo hy)
   exact⟨fu λd=>by simp[Op.equalIn,run_underlying hT],by simp,.inl rfl,λop=>by cases op <;> rfl⟩
 ·obtain⟨h1,h2⟩:=ay.1 he
  obtain rfl:=ao.1 h2
  rw[Ak hx,Ak hy]
  unfold rP.isFn at h1
  split at h1 <;> try (cases h1;done)
  rename_i hT
  exact⟨fu λd=>by simp[Op.equalIn,run_underlying hT],by simp,.inl rfl,λop=>by cases op <;> rfl⟩
 ·obtain⟨h1,h2⟩:=ay.1 he
  obtain rfl:=ao.1 h2
  obtain⟨vs,rfl,_⟩:=Dm hx
  rw[Ak hy]
  unfold rP.isFn at h1
  split at h1 <;> try (cases h1;done)
  rename_i hT
  exact⟨fu λd=>by simp[Op.equalIn,run_underlying hT],by simp,.inl rfl,λop=>by cases op <;> rfl⟩
 ·obtain⟨h1,h2⟩:=ay.1 he
  obtain rfl:=ao.1 h2
  obtain⟨vs,rfl,_⟩:=Dm hy
  rw[Ak hx]
  unfold rP.isFn at h1
  split at h1 <;> try (cases h1;done)
  rename_i hT
  exact⟨fu λd=>by simp[Op.equalIn,run_underlying hT],by simp,.inl rfl,λop=>by cases op <;> rfl⟩
 ·simp only[ai]at he
theorem FU{op:BinOp}{T:TypeId}{x y:Operand}{u v:Value}(hu:nG u=true)(hv:nG v=true)(hm:P.eqGuardType P.depth T=false):(eqGuard op T x y u v).run P w= .ok () w:=by
 cases u <;> first | (simp[nG]at hu;done) | skip
 cases v <;> first | (simp[nG]at hv;done) | skip
 exact run_eqGuard_agg w op T x y _ _ hm
theorem HH(h:Inv C g β s a w){op:BinOp}{T U:TypeId}{x y:Operand}(ho:o.op= .binOp op T x y U){v:av}(he:(QF P T op (s.ev x) (s.ev y)).eval=some v):fM P o a w (iE C (s.put o.dst v)):=by
 have hx:=h.ev x
 have hy:=h.ev y
 have fin:∀z,(binOp op T (a.eval x) (a.eval y)).run P w= .ok z w->(eqGuard op T x y (a.eval x) (a.eval y)).run P w= .ok () w->VS (s.env w g β) v z->fM P o a w (iE C (s.put o.dst v)):=by
  intro z h1 h2 h3
  refine h.value h3 ?_
  simp[execOp,ho,h1,h2]
 unfold QF at he
 split at he
 ·rename_i k n k' m hn hm
  rw[hn]at hx;rw[hm]at hy
  have e1:=oZ hx
  have e2:=oZ hy
  obtain⟨z,h1,h2⟩:=Gf (P:=P) (w:=w) he T (s.env w g β)
  exact fin z (by rw[e1,e2];exact h1) (by rw[e1,e2];exact lF (by simp) rfl) h2
 ·rename_i n m hn hm
  rw[hn]at hx;rw[hm]at hy
  have e1:=u7 hx
  have e2:=u7 hy
  obtain⟨z,h1,h2⟩:=Hc (P:=P) (w:=w) he T (s.env w g β)
  exact fin z (by rw[e1,e2];exact h1) (by rw[e1,e2];exact lF (by simp) rfl) h2
 ·have grd:(nG (a.eval x)=false\/(nG (a.eval y)=true/\P.eqGuardType P.depth T=false))->a.eval x≠ .nilIface->(eqGuard op T x y (a.eval x) (a.eval y)).run P w= .ok () w:=by
   intro hh fL
   rcases hh with hh | ⟨hh,hm⟩
   ·exact lF fL hh
   ·rcases iV (nG (a.eval x)) with hx | hx
    ·exact FU hx hh hm
    ·exact lF fL hx
  split at he
  ·obtain⟨b,h1,h2⟩:=ak.1 he
   obtain rfl:=ao.1 h2
   obtain⟨q1,q2,q3,q4⟩:=AD (w:=w) hx hy h1
   refine fin (.bool b) ?_ (grd q3 q2) (po b)
   rw[q4 .eql]
   simp[q1]
  ·obtain⟨b,h1,h2⟩:=ak.1 he
   obtain rfl:=ao.1 h2
   obtain⟨q1,q2,q3,q4⟩:=AD (w:=w) hx hy h1
   refine fin (.bool (!b)) ?_ (grd q3 q2) (po (!b))
   rw[q4 .neq]
   simp[q1]
  ·simp only[ai]at he
theorem Lz(h:Inv C g β s a w){op:UnOp}{T:TypeId}{x:Operand}(ho:o.op= .unOp op T x){v:av}(he:(VA op (s.ev x)).eval=some v):fM P o a w (iE C (s.put o.dst v)):=by
 have hx:=h.ev x
 unfold VA at he
 split at he
 ·rename_i b hb
  rw[hb]at hx
  obtain rfl:=ao.1 he
  exact h.value (po _) (by simp[execOp,ho,zZ hx,Op.unary])
 ·rename_i k n hb
  rw[hb]at hx
  obtain rfl:=ao.1 he
  exact h.value (kj _ _) (by simp[execOp,ho,oZ hx,Op.unary,Op.intArith])
 ·rename_i k n hb
  rw[hb]at hx
  obtain rfl:=ao.1 he
  refine h.value (kj _ _) ?_
  simp only[execOp,ho,oZ hx,Op.unary,Op.intBits]
  simp[dY]
 ·simp only[ai]at he
end
end Go.Ab
namespace Go.Ab
section
variable {P:Program} {C:Ctx} {g:Nat->kY} {β:Id->Option Pl} {s:AS} {a:Act} {w:World} {o:Oper}
theorem qW{E:Env}{v:av}{y:Value}(h:VS E v y){n:Int}(he:(asInt v).eval=some n):∃k,y= .int k n:=by
 unfold asInt at he
 split at he
 ·rename_i k m
  obtain rfl:=ao.1 he
  exact⟨k,oZ h⟩
 ·simp only[ai]at he
theorem qU{k:IntKind}{i:Int}{y:Nat}(code:BoundsCode)(h:0<=i/\i<=(y:Int)):(Instr.sliceBound (.int k i) y code).run P w= .ok i.toNat w:=
 run_sliceBound w k i y code h.1 h.2
theorem qC(h:Inv C g β s a w){n cap:Nat}(hn:n<=cap){lo hi:Option Operand}{r:Nat×Nat}(he:(bounds s n lo hi).eval=some r)(isS:Bool){mx:Option Value}{cap':Nat}
  (hm:(mx=none/\cap'=cap)\/∃k mv,hi.isSome=true/\mx=some (.int k mv)/\(r.2:Int)<=mv/\mv<=n/\cap'=mv.toNat):
  (Instr.sliceBounds isS n cap (lo.map a.eval) (hi.map a.eval) mx).run P w= .ok (r.1,r.2,cap') w/\r.1<=r.2/\r.2<=n:=by
 unfold bounds at he
 obtain⟨hh,h1,h2⟩:=ak.1 he
 obtain⟨ll,h3,h4⟩:=ak.1 h2
 obtain rfl:=ao.1 h4
 have PY:hh<=n/\∀y,hi.map a.eval=some y->∃k i,y= .int k i/\0<=i/\i<=(n:Int)/\hh=i.toNat:=by
  cases hi with
  |none=>
   simp only at h1
   obtain rfl:=ao.1 h1
   exact⟨aw _,λy hy=>by cases hy⟩
  |some x=>
   simp only at h1
   obtain⟨i,q1,q2⟩:=ak.1 h1
   obtain⟨q3,q4⟩:=bO.1 q2
   obtain rfl:=ao.1 q4
   simp only[decide_eq_true_eq]at q3
   obtain⟨k,hk⟩:=qW (h.ev x) q1
   refine⟨by omega,λy hy=> ?_⟩
   simp only[ee,aq]at hy
   exact⟨k,i,by rw[<-hy];exact hk,q3.1,q3.2,rfl⟩
 have OQ:hi.map a.eval=none->hh=n:=by
  intro hy
  cases hi with
  |none=>simp only at h1;exact(ao.1 h1).symm
  |some x=>cases hy
 have lo1:ll<=hh/\∀y,lo.map a.eval=some y->∃k i,y= .int k i/\0<=i/\i<=(hh:Int)/\ll=i.toNat:=by
  cases lo with
  |none=>
   simp only at h3
   obtain rfl:=ao.1 h3
   exact⟨aK _,λy hy=>by cases hy⟩
  |some x=>
   simp only at h3
   obtain⟨i,q1,q2⟩:=ak.1 h3
   obtain⟨q3,q4⟩:=bO.1 q2
   obtain rfl:=ao.1 q4
   simp only[decide_eq_true_eq]at q3
   obtain⟨k,hk⟩:=qW (h.ev x) q1
   refine⟨by omega,λy hy=> ?_⟩
   simp only[ee,aq]at hy
   exact⟨k,i,by rw[<-hy];exact hk,q3.1,q3.2,rfl⟩
 have lo0:lo.map a.eval=none->ll=0:=by
  intro hy
  cases lo with
  |none=>simp only at h3;exact(ao.1 h3).symm
  |some x=>cases hy
 refine⟨?_,lo1.1,PY.1⟩
 unfold Instr.sliceBounds
 rcases hm with⟨rfl,rfl⟩ | ⟨k2,mv,hs,rfl,X2,ZS,rfl⟩
 ·cases Ve:hi.map a.eval with
  |none=>
   obtain rfl:=OQ Ve
   cases Ad:lo.map a.eval with
   |none=>
    obtain rfl:=lo0 Ad
    rfl
   |some y=>
    obtain⟨k,i,rfl,q1,q2,rfl⟩:=lo1.2 y Ad
    simp only[Sem.run_bind,Sem.run_pure,Result.andThen_ok,qU _ ⟨q1,q2⟩]
  |some z=>
   obtain⟨k',i',rfl,p1,p2,rfl⟩:=PY.2 z Ve
   have hb:∀code,(Instr.sliceBound (.int k' i') cap' code).run P w= .ok i'.toNat w:=λcode=>qU code ⟨p1,by omega⟩
   cases Ad:lo.map a.eval with
   |none=>
    obtain rfl:=lo0 Ad
    simp only[Sem.run_bind,Sem.run_pure,Result.andThen_ok,hb]
   |some y=>
    obtain⟨k,i,rfl,q1,q2,rfl⟩:=lo1.2 y Ad
    simp only[Sem.run_bind,Sem.run_pure,Result.andThen_ok,hb,qU _ ⟨q1,q2⟩]
 ·cases Ve:hi.map a.eval with
  |none=>cases hi <;> simp_all
  |some z=>
   obtain⟨k',i',rfl,p1,p2,rfl⟩:=PY.2 z Ve
   have X2:((i'.toNat:Nat):Int)<=mv:=X2
   have h0:∀code,(Instr.sliceBound (.int k2 mv) cap code).run P w= .ok mv.toNat w:=λcode=>qU code ⟨by omega,by omega⟩
   have hb:∀code,(Instr.sliceBound (.int k' i') mv.toNat code).run P w= .ok i'.toNat w:=λcode=>qU code ⟨p1,by omega⟩
   cases Ad:lo.map a.eval with
   |none=>
    obtain rfl:=lo0 Ad
    simp only[Sem.run_bind,Sem.run_pure,Result.andThen_ok,hb,h0]
   |some y=>
    obtain⟨k,i,rfl,q1,q2,rfl⟩:=lo1.2 y Ad
    simp only[Sem.run_bind,Sem.run_pure,Result.andThen_ok,hb,h0,qU _ ⟨q1,q2⟩]
theorem me{T:TypeId}{z:Nat}(h1:kc P T=some z)(h2:qu P T=none):∃e,P.underlying T=some (.slice e)/\P.cellsOf e=z/\0 < z:=by
 unfold kc at h1
 unfold qu at h2
 split at h1
 ·rename_i n e hT;rw[hT]at h2;cases h2
 ·rename_i e hT
  cases hc:P.cellsOf e with
  |zero=>rw[hc]at h1;cases h1
  |succ k=>
   rw[hc]at h1
   simp only[aq]at h1
   exact⟨e,hT,by omega,by omega⟩
 ·cases h1
theorem qF{T:TypeId}{z n:Nat}(h1:kc P T=some z)(h2:qu P T=some n):∃e,P.underlying T=some (.array n e)/\P.cellsOf e=z/\0 < z:=by
 unfold kc at h1
 unfold qu at h2
 split at h1
 ·rename_i n e hT
  rw[hT]at h2
  simp only[aq]at h2
  subst h2
  cases hc:P.cellsOf e with
  |zero=>rw[hc]at h1;cases h1
  |succ k=>
   rw[hc]at h1
   simp only[aq]at h1
   exact⟨e,hT,by omega,by omega⟩
 ·rename_i e hT;rw[hT]at h2;cases h2
 ·cases h1
theorem ml{e:TypeId}{z:Nat}(h:P.cellsOf e=z)(hz:0 < z)(w:World):(sizeOf e).run P w= .ok z w:=by
 unfold Program.cellsOf at h
 cases hi:P.info? e with
 |none=>rw[hi]at h;simp at h;omega
 |some i=>rw[hi]at h;rw[run_sizeOf hi];simpa using h
set_option maxHeartbeats 1000000 in
theorem B8(h:Inv C g β s a w){T:TypeId}{x:Operand}{lo hi mx:Option Operand}(ho:o.op= .slice T x lo hi mx)
  (hm:mx=none\/∃m y hv mv,mx=some m/\hi=some y/\(asInt (s.ev y)).eval=some hv/\(asInt (s.ev m)).eval=some mv/\0<=hv/\hv<=mv/\mv<=O4 (s.ev x))
  {v:av} (he:(u5 P s T (s.ev x) lo hi).eval=some v):fM P o a w (iE C (s.put o.dst (FN mx v))):=by
 have hx:=h.ev x
 have fin:∀z,(Instr.sliceAt T (a.eval x) (lo.map a.eval) (hi.map a.eval) (mx.map a.eval)).run P w= .ok z w->VS (s.env w g β) (FN mx v) z->fM P o a w (iE C (s.put o.dst (FN mx v))):=by
  intro z h1 h2
  exact h.value h2 (eg (f:=Instr.sliceAt T (a.eval x) (lo.map a.eval) (hi.map a.eval) (mx.map a.eval)) (by simp only[execOp,ho]) h1)
 have no:∀ {q:Prop},O4 (s.ev x)= -1->(mx=none->q)->q:=by
  intro q h1 h2
  rcases hm with h3 | ⟨_,_,hv,mv,_,_,_,_,h3,h4,h5⟩
  ·exact h2 h3
  ·omega
 have sl:∀(e:TypeId) (z:Nat) (ad:Option Addr) (len cap:Nat) (b:Nat×Nat),O4 (s.ev x)=(len:Int)->P.underlying T=some (.slice e)->P.cellsOf e=z->0 < z->a.eval x= .slice ad len cap->len<=cap->(bounds s len lo hi).eval=some b->
   ∃cap',(Instr.sliceAt T (a.eval x) (lo.map a.eval) (hi.map a.eval) (mx.map a.eval)).run P w= .ok (.slice (if cap'=b.1 then ad else ad.map (·.add (b.1*z))) (b.2 - b.1) (cap' - b.1)) w/\b.1<=b.2/\b.2<=len/\b.2<=cap'/\cap'<=cap/\(mx=none->cap'=cap):=by
  intro e z ad len cap b hL hT hz ot hy LK hb
  rcases hm with rfl | ⟨m,y,hv,mv,rfl,rfl,q1,q2,q3,q4,q5⟩
  ·obtain⟨h1,h2,h3⟩:=qC (P:=P) h LK hb true (.inl ⟨rfl,rfl⟩)
   refine⟨cap,?_,h2,h3,by omega,aw _,λ_=>rfl⟩
   rw[hy]
   simp[Instr.sliceAt,Instr.slice,run_underlying hT,h1,ml hz ot]
  ·obtain⟨k,hk⟩:=qW (h.ev m) q2
   have Aa:(b.2:Int)<=mv:=by
    obtain⟨hh,h1,h2⟩:=ak.1 hb
    obtain⟨i,r1,r2⟩:=ak.1 h1
    obtain⟨r3,r4⟩:=bO.1 r2
    obtain rfl:=ao.1 r4
    obtain⟨ll,_,h4⟩:=ak.1 h2
    obtain rfl:=ao.1 h4
    rw[q1]at r1
    obtain rfl:=ba r1
    show((hv.toNat:Nat):Int)<=mv
    omega
   obtain⟨h1,h2,h3⟩:=qC (P:=P) h LK hb true (mx:=some (.int k mv)) (cap':=mv.toNat) (.inr ⟨k,mv,rfl,rfl,Aa,by omega,rfl⟩)
   refine⟨mv.toNat,?_,h2,h3,by omega,by omega,λh=>by cases h⟩
   rw[hy,ee (a:=m),hk]
   simp[Instr.sliceAt,Instr.slice,run_underlying hT,ml hz ot]
   simp only[ee]at h1
   simp[h1]
 have ar:∀(e:TypeId) (z n:Nat) (ad:Addr) (b:Nat×Nat),mx=none->P.underlying T=some (.array n e)->P.cellsOf e=z->0 < z->a.eval x= .pointer (some ad)->(bounds s n lo hi).eval=some b->
   (Instr.sliceAt T (a.eval x) (lo.map a.eval) (hi.map a.eval) (mx.map a.eval)).run P w= .ok (.slice (some (if n=b.1 then ad else ad.add (b.1*z))) (b.2 - b.1) (n - b.1)) w/\b.1<=b.2/\b.2<=n:=by
  intro e z n ad b hN hT hz ot hy hb
  obtain⟨h1,h2,h3⟩:=qC (P:=P) h (aw n) hb false (.inl ⟨rfl,rfl⟩)
  refine⟨?_,h2,h3⟩
  rw[hy,hN]
  simp[Instr.sliceAt,Instr.sureAddr,run_underlying hT,h1,ml hz ot]
 have cutR:∀(t:Ty) (z:Nat) (ad ad':Option Addr) (len' cap':Nat) (vs:List Value) (l:List t.den) (b:Nat×Nat),z=t.size->tS (s.env w g β) ad vs->bj (dm (s.env w g β) t) vs l->b.1<=b.2->b.2<=l.length->
   (∀bb off,ad=some ⟨bb,off,none⟩->b.1 < b.2->ad'=some ⟨bb,off+b.1*z,none⟩)->(b.1 < b.2->ad'.isSome=true)->len'=b.2 - b.1->len'<=cap'->VS (s.env w g β) (.d (.slice t) (cut l b.1 (b.2 - b.1))) (.slice ad' len' cap'):=by
  intro t z ad ad' len' cap' vs l b hz hr hc h1 h2 V1 mJ hlen hle
  subst hz hlen
  have LI:(cut l b.1 (b.2 - b.1)).length=b.2 - b.1:=tj (by omega)
  refine⟨_,?_,rfl⟩
  simp only[V,dm]
  refine⟨ad',cap',(vs.drop (b.1*t.size)).take ((b.2 - b.1)*t.size),by rw[LI],by omega,by rw[LI];intro hp;exact mJ (by omega),?_,wq hc b.1 _⟩
  intro i v hi
  rw[dp]at hi
  split at hi
  ·rename_i YO
   rw[fW]at hi
   obtain⟨bb,off,e,hh⟩:=hr _ v hi
   have iv:b.1 < b.2:=by
    rcases mC b.1 b.2 with h' | h'
    ·exact h'
    ·rw[jT h',lf]at YO;omega
   exact⟨bb,_,V1 bb off e iv,by rw[gb];exact hh⟩
  ·cases hi
 unfold u5 at he
 split at he
 ·rename_i st lZ
  rw[lZ]at hx
  have e1:=u7 hx
  obtain⟨h1,h2⟩:=ay.1 he
  obtain⟨b,h3,h4⟩:=ak.1 h2
  obtain rfl:=ao.1 h4
  split at h1 <;> try (cases h1;done)
  rename_i hT
  obtain⟨q1,q2,q3⟩:=qC (P:=P) h (aw _) h3 false (.inl ⟨rfl,rfl⟩)
  refine no (by rw[lZ];rfl) λhN=> ?_
  subst hN
  refine fin (.string (st.extract b.1 b.2)) ?_ (D9 _)
  rw[e1]
  simp[Instr.sliceAt,Instr.slice,run_underlying hT,q1]
 ·rename_i t l hl
  rw[hl]at hx
  obtain⟨ad,cap,vs,hy,LK,mJ,nC,pt⟩:=oJ hx
  obtain⟨h1,h2⟩:=ay.1 he
  obtain⟨b,h3,h4⟩:=ak.1 h2
  obtain rfl:=ao.1 h4
  split at h1 <;> try (cases h1;done)
  rename_i z zk yM
  obtain⟨e,hT,hz,ot⟩:=me zk yM
  have KK:z=t.size:=by simpa using h1
  obtain⟨cap',q1,q2,q3,q4,_,_⟩:=sl e z ad _ cap b (by rw[hl];rfl) hT hz ot hy LK h3
  refine fin _ q1 ?_
  rw[show FN mx (.d (.slice t) (cut l b.1 (b.2 - b.1)))= .d (.slice t) (cut l b.1 (b.2 - b.1)) by cases mx <;> rfl]
  refine cutR t z ad _ _ _ vs l b KK nC pt q2 q3 ?_ ?_ rfl (by omega)
  ·intro bb off e1 iv
   rw[if_neg (by omega),e1]
   simp[Addr.add_lit]
  ·intro iv
   rw[if_neg (by omega)]
   have:=mJ (by omega)
   cases ad <;> simp_all
 ·rename_i hl
  rw[hl]at hx
  have hy:=kg hx
  obtain⟨h1,h2⟩:=ay.1 he
  obtain⟨b,h3,h4⟩:=ak.1 h2
  obtain rfl:=ao.1 h4
  split at h1 <;> try (cases h1;done)
  rename_i z zk yM
  obtain⟨e,hT,hz,ot⟩:=me zk yM
  obtain⟨cap',q1,q2,q3,q4,q6,q5⟩:=sl e z none 0 0 b (by rw[hl];rfl) hT hz ot hy (aw _) h3
  have yn:b.1=0:=by omega
  have Aa:b.2=0:=by omega
  have Ac:cap'=0:=by omega
  refine fin _ q1 ?_
  rw[show FN mx .di= .di by cases mx <;> rfl,yn,Aa,Ac]
  exact⟨_,by simp[V],rfl⟩
 ·rename_i id ver p c i len hl
  rw[hl]at hx
  obtain⟨ad,cap,hy,LK,mJ,AO,fB⟩:=np hx
  obtain⟨r,Rs,he⟩:=ak.1 he
  obtain⟨h1,h2⟩:=ay.1 he
  obtain⟨b,h3,h4⟩:=ak.1 h2
  obtain rfl:=ao.1 h4
  split at h1 <;> try (cases h1;done)
  rename_i z zk yM
  obtain⟨e,hT,hz,ot⟩:=me zk yM
  have KK:z=r.2.1.size:=by simpa using h1
  obtain⟨cap',q1,q2,q3,q4,q6,q5⟩:=sl e z ad _ cap b (by rw[hl];rfl) hT hz ot hy LK h3
  obtain⟨p',SQ,Dx⟩:∃p',FN mx (.aS id ver p (c+b.1*r.2.1.size) (i+b.1) (b.2 - b.1))= .aS id ver p' (c+b.1*r.2.1.size) (i+b.1) (b.2 - b.1)/\(p'=[]->p=[]/\mx=none):=by
   cases mx with
   |none=>exact⟨p,rfl,λh=>⟨h,rfl⟩⟩
   |some m=>exact⟨p++ [.arr],rfl,λh=>by simp at h⟩
  refine fin _ q1 ?_
  rw[SQ]
  refine⟨_,?_,rfl⟩
  simp only[V]
  refine⟨_,_,rfl,by omega,?_,AO,λhc=> ?_⟩
  ·intro iv
   rw[if_neg (by omega)]
   have:=mJ (by omega)
   cases ad <;> simp_all
  ·have fB:=fB hc
   cases hp:β id with
   |none=>
    have hp':(s.env w g β).β id=none:=hp
    rw[hp']at fB ⊢
    simp only at fB ⊢
    obtain⟨rfl,rfl,rfl⟩:=fB
    have Ac:cap'=0:=by omega
    refine⟨by simp,by omega,by omega⟩
   |some pl=>
    have hp':(s.env w g β).β id=some pl:=hp
    rw[hp']at fB ⊢
    simp only at fB ⊢
    refine⟨λhh=> ?_,λWy OQ=> ?_⟩
    ·by_cases Q9:cap'=b.1
     ·rw[if_pos Q9]
      have U8:b.1=0:=by omega
      rw[U8,lf,cF]
      exact fB.1 (.inr (by omega))
     ·rw[if_neg Q9,fB.1 (by omega),<-KK]
      simp[Addr.add_lit]
    ·obtain⟨e1,e2⟩:=Dx Wy
     have:=fB.2 e1 (by omega)
     have:=q5 e2
     omega
 ·rename_i id ver p n hl
  rw[hl]at hx
  obtain⟨ad,hy,AO,fB⟩:=pd hx
  obtain⟨r,Rs,he⟩:=ak.1 he
  obtain⟨h1,h2⟩:=ay.1 he
  obtain⟨h5,h6⟩:=bO.1 h2
  obtain⟨b,h3,h4⟩:=ak.1 h6
  obtain rfl:=ao.1 h4
  split at h1 <;> try (cases h1;done)
  rename_i z m zk yM
  obtain⟨e,hT,hz,ot⟩:=qF zk yM
  have KK:z=r.2.1.size:=by simpa using h1
  rw[yM,dW]at h3
  refine no (by rw[hl];rfl) λhN=> ?_
  obtain⟨q1,q2,q3⟩:=ar e z m ad b hN hT hz ot hy h3
  subst hN
  obtain⟨fr,c0,cV,_⟩:=yY rfl h.bK Rs
  obtain⟨pl,hp,Kz⟩:=fB ⟨fr,c0,cV⟩
  refine fin _ q1 ⟨_,?_,rfl⟩
  simp only[FN,V]
  refine⟨_,_,rfl,by omega,λ_=>rfl,AO,λ_=> ?_⟩
  rw[hp]
  simp only
  refine⟨λhh=> ?_,λWy=>by simp at Wy⟩
  rw[Kz]
  by_cases Q9:m=b.1
  ·have U8:b.1=0:=by omega
   rw[if_pos Q9,U8,lf,cF]
  ·rw[if_neg Q9,<-KK,Addr.add_lit]
 ·rename_i n t l hl
  rw[hl]at hx
  obtain⟨bb,off,vs,hy,nC,hR⟩:=pB hx
  obtain⟨h1,h2⟩:=ay.1 he
  obtain⟨b,h3,h4⟩:=ak.1 h2
  obtain rfl:=ao.1 h4
  split at h1 <;> try (cases h1;done)
  rename_i z m zk yM
  obtain⟨e,hT,hz,ot⟩:=qF zk yM
  simp only[aj,beq_iff_eq]at h1
  obtain⟨KK,rfl⟩:=h1
  refine no (by rw[hl];rfl) λhN=> ?_
  obtain⟨q1,q2,q3⟩:=ar e z m _ b hN hT hz ot hy h3
  subst hN
  simp only[dm]at hR
  obtain⟨hlen,pt⟩:=hR
  refine fin _ q1 (cutR t z (some ⟨bb,off,none⟩) _ _ _ vs l b KK nC pt q2 (by omega) ?_ (λ_=>rfl) rfl (by omega))
  intro bb' off' e1 iv
  simp only[aq,Addr.mk.injEq,and_true]at e1
  obtain⟨rfl,rfl⟩:=e1
  rw[if_neg (by omega),Addr.add_lit]
 ·simp only[ai]at he
end
end Go.Ab
namespace Go.Ab
section
variable {P:Program} {C:Ctx} {g:Nat->kY} {β:Id->Option Pl} {s:AS} {a:Act} {w:World} {o:Oper}
theorem A0(h:Inv C g β s a w){T:TypeId}{x y:Operand}(ho:o.op= .indexAddr T x y){i:Int}(hi:(asInt (s.ev y)).eval=some i){v:av}(he:(nF P s T (s.ev x) i).eval=some v):fM P o a w (iE C (s.put o.dst v)):=by
 have hx:=h.ev x
 obtain⟨k,hy⟩:=qW (h.ev y) hi
 have fin:∀z,(Instr.indexAt T (a.eval x) (a.eval y)).run P w= .ok z w->VS (s.env w g β) v z->fM P o a w (iE C (s.put o.dst v)):=by
  intro z h1 h2
  exact h.value h2 (eg (f:=Instr.indexAt T (a.eval x) (a.eval y)) (by simp only[execOp,ho]) h1)
 have sl:∀(e:TypeId) (z:Nat) (ad:Addr) (len cap:Nat),P.underlying T=some (.slice e)->P.cellsOf e=z->0 < z->a.eval x= .slice (some ad) len cap->0<=i/\i < (len:Int)->
   (Instr.indexAt T (a.eval x) (a.eval y)).run P w= .ok (.pointer (some (ad.add (i.toNat*z)))) w:=by
  intro e z ad len cap hT hz ot hv hb
  rw[hv,hy]
  simp[Instr.indexAt,asIntOf,run_underlying hT,hb,ml hz ot]
 have ar:∀(e:TypeId) (z n:Nat) (ad:Addr),P.underlying T=some (.array n e)->P.cellsOf e=z->0 < z->a.eval x= .pointer (some ad)->0<=i/\i < (n:Int)->
   (Instr.indexAt T (a.eval x) (a.eval y)).run P w= .ok (.pointer (some (ad.add (i.toNat*z)))) w:=by
  intro e z n ad hT hz ot hv hb
  rw[hv,hy]
  simp[Instr.indexAt,Instr.sureAddr,asIntOf,run_underlying hT,hb,ml hz ot]
 have elt:∀(t:Ty) (z:Nat) (bb off:Nat) (vs:List Value) (l:List t.den),z=t.size->tS (s.env w g β) (some ⟨bb,off,none⟩) vs->bj (dm (s.env w g β) t) vs l->0<=i/\i < (l.length:Int)->
   VS (s.env w g β) (.eD t (nth t l i.toNat)) (.pointer (some ⟨bb,off+i.toNat*z,none⟩)):=by
  intro t z bb off vs l hz hr hc hb
  subst hz
  have iv:i.toNat < l.length:=by omega
  rw[BI iv]
  obtain⟨hp,_⟩:=xU hc iv
  refine⟨_,?_,rfl⟩
  simp only[V]
  refine⟨_,_,_,rfl,λj v hj=> ?_,hp⟩
  rw[dp]at hj
  split at hj
  ·rw[fW]at hj
   obtain⟨b',o',e,hh⟩:=hr _ v hj
   simp only[aq,Addr.mk.injEq,and_true]at e
   obtain⟨rfl,rfl⟩:=e
   exact⟨_,_,rfl,by rw[gb];exact hh⟩
  ·cases hj
 unfold nF at he
 split at he
 ·rename_i t l hl
  rw[hl]at hx
  obtain⟨ad,cap,vs,hv,LK,mJ,nC,pt⟩:=oJ hx
  obtain⟨h1,h2⟩:=ay.1 he
  obtain⟨h3,h4⟩:=bO.1 h2
  obtain rfl:=ao.1 h4
  simp only[decide_eq_true_eq]at h3
  split at h1 <;> try (cases h1;done)
  rename_i z zk yM
  obtain⟨e,hT,hz,ot⟩:=me zk yM
  have KK:z=t.size:=by simpa using h1
  have hlen:=bj.length (λc x hx=>dm.size hx) pt
  have iv:i.toNat < l.length:=by omega
  have h0:0 < vs.length:=by rw[hlen];exact Nat.mul_pos (by omega) (by omega)
  obtain⟨bb,off,e1,_⟩:=nC 0 vs[0] (by simp[h0])
  subst e1
  have:=sl e z _ _ cap hT hz ot hv h3
  rw[Addr.add_lit]at this
  exact fin _ this (elt t z bb off vs l KK nC pt h3)
 ·rename_i n t l hl
  rw[hl]at hx
  obtain⟨bb,off,vs,hv,nC,hR⟩:=pB hx
  obtain⟨h1,h2⟩:=ay.1 he
  obtain⟨h3,h4⟩:=bO.1 h2
  obtain rfl:=ao.1 h4
  simp only[decide_eq_true_eq]at h3
  split at h1 <;> try (cases h1;done)
  rename_i z m zk yM
  obtain⟨e,hT,hz,ot⟩:=qF zk yM
  simp only[aj,beq_iff_eq]at h1
  obtain⟨KK,rfl⟩:=h1
  simp only[dm]at hR
  have:=ar e z m _ hT hz ot hv h3
  rw[Addr.add_lit]at this
  exact fin _ this (elt t z bb off vs l KK nC hR.2 (by rw[hR.1];exact h3))
 ·rename_i id ver p c j len hl
  rw[hl]at hx
  obtain⟨ad,cap,hv,LK,mJ,AO,fB⟩:=np hx
  obtain⟨r,Rs,he⟩:=ak.1 he
  obtain⟨h1,h2⟩:=ay.1 he
  obtain⟨h3,h4⟩:=bO.1 h2
  obtain rfl:=ao.1 h4
  simp only[decide_eq_true_eq]at h3
  split at h1 <;> try (cases h1;done)
  rename_i z zk yM
  obtain⟨e,hT,hz,ot⟩:=me zk yM
  have KK:z=r.2.1.size:=by simpa using h1
  have hs:=mJ (by omega)
  obtain⟨ad',rfl⟩:=bY.1 hs
  refine fin _ (sl e z ad' len cap hT hz ot hv h3) ⟨_,?_,rfl⟩
  simp only[V]
  refine⟨_,rfl,AO,λhc=> ?_⟩
  have fB:=fB hc
  cases hp:β id with
  |none=>
   have hp':(s.env w g β).β id=none:=hp
   rw[hp']at fB
   exact absurd fB.1 (by simp)
  |some pl=>
   have hp':(s.env w g β).β id=some pl:=hp
   rw[hp']at fB
   have e1:=fB.1 (.inl (by omega))
   simp only[aq]at e1
   exact⟨pl,hp,by rw[e1,Addr.add_lit,KK]⟩
 ·rename_i id ver p n hl
  rw[hl]at hx
  obtain⟨ad,hv,AO,fB⟩:=pd hx
  obtain⟨h1,h2⟩:=ay.1 he
  obtain⟨h3,h4⟩:=bO.1 h2
  obtain rfl:=ao.1 h4
  simp only[decide_eq_true_eq]at h3
  split at h1 <;> try (cases h1;done)
  rename_i z m zk yM
  obtain⟨e,hT,hz,ot⟩:=qF zk yM
  rw[yM,dW]at h3
  refine fin _ (ar e z m ad hT hz ot hv h3) ⟨_,?_,rfl⟩
  simp only[V]
  refine⟨_,rfl,AO,λhc=> ?_⟩
  obtain⟨pl,hp,Kz⟩:=fB hc
  exact⟨pl,hp,by rw[Kz,Addr.add_lit,zk,dW]⟩
 ·simp only[ai]at he
theorem tX{T:TypeId}{f off:Nat}{ft:TypeId}(h:fieldInfo P T f=some (off,ft)):∃fs fd,P.underlying T=some (.struct fs)/\fs[f]? =some fd/\fd.offset=off/\fd.type=ft:=by
 unfold fieldInfo at h
 split at h
 ·rename_i fs hT
  split at h
  ·rename_i fd hf
   simp only[aq,cR]at h
   exact⟨fs,fd,hT,hf,h.1,h.2⟩
  ·cases h
 ·cases h
theorem tD{E:Env}:∀(x:av) (f off:Nat) (v:av) (cs:List Value),V E x cs->partOf x f=some (off,v)->V E v ((cs.drop off).take v.size)/\off+v.size<=cs.length:=by
 intro x f
 induction f generalizing x with
 |zero=>
  intro off v cs hx h
  cases x with
  |d t y=>
   cases t <;> simp only[partOf,reduceCtorEq]at h
   rename_i ta tb
   simp only[aq,cR]at h
   obtain⟨rfl,rfl⟩:=h
   simp only[V,dm]at hx ⊢
   obtain⟨ca,cb,rfl,ha,hb⟩:=hx
   have:=ha.size
   simp only[av.size,aJ,ae,aI]
   rw[j2 this]
   exact⟨ha,by omega⟩
  |pr b c=>
   simp only[partOf,aq,cR]at h
   obtain⟨rfl,rfl⟩:=h
   simp only[V]at hx
   obtain⟨ca,cb,rfl,ha,hb⟩:=hx
   have:=ha.size
   simp only[aJ,ae,aI]
   rw[j2 this]
   exact⟨ha,by omega⟩
  |_=>simp only[partOf,reduceCtorEq]at h
 |succ f ih=>
  intro off v cs hx h
  have second:∀(ca cb:List Value) (n:Nat) (b:av),cs=ca++cb->ca.length=n->V E b cb->(match partOf b f with | some (o,v)=>some (n+o,v) | none=>none)=some (off,v)->V E v ((cs.drop off).take v.size)/\off+v.size<=cs.length:=by
   intro ca cb n b e hl hb hh
   cases hp:partOf b f with
   |none=>rw[hp]at hh;cases hh
   |some r=>
    obtain⟨o',v'⟩:=r
    rw[hp]at hh
    simp only[aq,cR]at hh
    obtain⟨rfl,rfl⟩:=hh
    obtain⟨h1,h2⟩:=ih b o' v' cb hb hp
    subst e
    rw[<-hl,jF,gh (by omega),aR,Nat.add_sub_cancel_left]
    exact⟨h1,by simp only[ae];omega⟩
  cases x with
  |d t y=>
   cases t with
   |pair ta tb=>
    simp only[partOf]at h
    simp only[V,dm]at hx
    obtain⟨ca,cb,e,ha,hb⟩:=hx
    exact second ca cb ta.size (.d tb y.2) e ha.size (by simpa only[V]using hb) h
   |_=>simp only[partOf,reduceCtorEq]at h
  |pr b c=>
   simp only[partOf]at h
   simp only[V]at hx
   obtain⟨ca,cb,e,ha,hb⟩:=hx
   exact second ca cb b.size c e ha.size hb h
  |_=>simp only[partOf,reduceCtorEq]at h
theorem AF(h:Inv C g β s a w){T:TypeId}{x:Operand}{f:Nat}(ho:o.op= .fieldAddr T x f){v:av}(he:(tn P T (s.ev x) f).eval=some v):fM P o a w (iE C (s.put o.dst v)):=by
 have hx:=h.ev x
 unfold tn at he
 split at he
 ·rename_i off ft hf
  obtain⟨fs,fd,hT,Vb,rfl,rfl⟩:=tX hf
  obtain⟨h1,h2⟩:=ay.1 he
  have hz:P.cellsOf fd.type≠0:=by simpa using h1
  have run:∀bb n,a.eval x= .pointer (some ⟨bb,n,none⟩)->(Instr.fieldAt T (a.eval x) f).run P w= .ok (.pointer (some ⟨bb,n+fd.offset,none⟩)) w:=by
   intro bb n hy
   rw[hy]
   simp[Instr.fieldAt,run_underlying hT,Vb,Instr.sureAddr,fieldPlace,ml (P:=P) (e:=fd.type) rfl (by omega),hz,Addr.add_lit]
  have runS:∀ad,a.eval x= .pointer (some ad)->(Instr.fieldAt T (a.eval x) f).run P w= .ok (.pointer (some (ad.add fd.offset))) w:=by
   intro ad hy
   rw[hy]
   simp[Instr.fieldAt,run_underlying hT,Vb,Instr.sureAddr,fieldPlace,ml (P:=P) (e:=fd.type) rfl (by omega),hz]
  have fin:∀z,(Instr.fieldAt T (a.eval x) f).run P w= .ok z w->VS (s.env w g β) v z->fM P o a w (iE C (s.put o.dst v)):=by
   intro z h1 h2
   exact h.value h2 (eg (f:=Instr.fieldAt T (a.eval x) f) (by simp only[execOp,ho]) h1)
  split at h2
  ·rename_i id ver p n hl
   rw[hl]at hx
   obtain rfl:=ao.1 h2
   obtain⟨ad,hy,AO,fB⟩:=pd hx
   refine fin _ (runS ad hy) ⟨_,?_,rfl⟩
   simp only[V]
   refine⟨_,rfl,AO,λhc=> ?_⟩
   obtain⟨pl,hp,Kz⟩:=fB hc
   exact⟨pl,hp,by rw[Kz,Addr.add_lit]⟩
  ·rename_i t y hl
   rw[hl]at hx
   obtain⟨bb,off,vs,hy,nC,hR⟩:=pB hx
   split at h2
   ·rename_i o' t' y' hp
    obtain⟨h3,h4⟩:=ay.1 h2
    obtain rfl:=ao.1 h4
    have h3:fd.offset=o':=by simpa using h3
    obtain⟨hV,hle⟩:=tD (.d t y) f o' (.d t' y') vs (by simpa only[V]using hR) hp
    refine fin _ (run bb off hy) ⟨_,?_,rfl⟩
    simp only[V]at hV ⊢
    refine⟨_,_,_,rfl,λj u hj=> ?_,hV⟩
    rw[dp]at hj
    split at hj
    ·rw[fW]at hj
     obtain⟨b',o'',e,hh⟩:=nC _ u hj
     simp only[aq,Addr.mk.injEq,and_true]at e
     obtain⟨rfl,rfl⟩:=e
     exact⟨_,_,rfl,by rw[h3,gb];exact hh⟩
    ·cases hj
   ·simp only[ai]at h2
  ·rename_i t q hl
   obtain⟨y,e,h5⟩:=pI.1 h2
   subst e
   rw[hl]at hx
   have hx:=xo hx
   obtain⟨bb,off,vs,hy,nC,hR⟩:=pB hx
   split at h5
   ·rename_i o' t' y' hp
    obtain⟨h3,h4⟩:=ay.1 h5
    obtain rfl:=ao.1 h4
    have h3:fd.offset=o':=by simpa using h3
    obtain⟨hV,hle⟩:=tD (.d t y) f o' (.d t' y') vs (by simpa only[V]using hR) hp
    refine fin _ (run bb off hy) ⟨_,?_,rfl⟩
    simp only[V]at hV ⊢
    refine⟨_,_,_,rfl,λj u hj=> ?_,hV⟩
    rw[dp]at hj
    split at hj
    ·rw[fW]at hj
     obtain⟨b',o'',e,hh⟩:=nC _ u hj
     simp only[aq,Addr.mk.injEq,and_true]at e
     obtain⟨rfl,rfl⟩:=e
     exact⟨_,_,rfl,by rw[h3,gb];exact hh⟩
    ·cases hj
   ·simp only[ai]at h5
  ·simp only[ai]at h2
 ·simp only[ai]at he
theorem CF{x:av}{f:Nat}{r:Nat×av}(h:partOf x f=some r):x.agg=true/\x.eX=true:=by
 cases x with
 |d t y=>cases t <;> cases f <;> simp[partOf]at h <;> exact⟨rfl,rfl⟩
 |pr b c=>exact⟨rfl,rfl⟩
 |_=>cases f <;> simp[partOf]at h
theorem uF{T:TypeId}{v:av}(h:fits P T v=true):wI P T v.agg=true/\P.cellsOf T=v.size/\v.eX=true:=by
 unfold fits at h
 simp only[aj,beq_iff_eq]at h
 exact⟨h.2,h.1.2,h.1.1⟩
theorem HZ(h:Inv C g β s a w){T:TypeId}{x:Operand}{f:Nat}(ho:o.op= .field T x f){v:av}(he:(Er P T (s.ev x) f).eval=some v):fM P o a w (iE C (s.put o.dst v)):=by
 have hx:=h.ev x
 unfold Er at he
 split at he
 ·rename_i off ft o' v' hf hp
  obtain⟨fs,fd,hT,Vb,rfl,rfl⟩:=tX hf
  obtain⟨h1,h2⟩:=ay.1 he
  obtain rfl:=ao.1 h2
  simp only[aj,beq_iff_eq]at h1
  obtain⟨rfl,AQ⟩:=h1
  obtain⟨w7,H7⟩:=CF hp
  obtain⟨cs,hV,hO⟩:=hx.eX H7
  rw[w7]at hO
  have hy:a.eval x= .agg cs.toArray:=hO
  obtain⟨hVp,hle⟩:=tD _ _ _ _ cs hV hp
  obtain⟨q1,q2,q3⟩:=uF AQ
  obtain⟨y,hr,hOy⟩:=pV (w:=w) q1 q2 (λhh=>av.G5 hh) hle
  refine h.value (VS.of hVp hOy) (eg (f:=Instr.field T (a.eval x) f) (by simp only[execOp,ho]) ?_)
  rw[hy]
  simp[Instr.field,run_underlying hT,Vb,asAgg,hr]
 ·simp only[ai]at he
theorem Ie(h:Inv C g β s a w){T:TypeId}{x y:Operand}(ho:o.op= .index T x y){i:Int}(hi:(asInt (s.ev y)).eval=some i){v:av}(he:(EF P T (s.ev x) i).eval=some v):fM P o a w (iE C (s.put o.dst v)):=by
 have hx:=h.ev x
 obtain⟨k,hy⟩:=qW (h.ev y) hi
 have fin:∀z,(Instr.index T (a.eval x) (a.eval y)).run P w= .ok z w->VS (s.env w g β) v z->fM P o a w (iE C (s.put o.dst v)):=by
  intro z h1 h2
  exact h.value h2 (eg (f:=Instr.index T (a.eval x) (a.eval y)) (by simp only[execOp,ho]) h1)
 unfold EF at he
 split at he
 ·rename_i n t l m e hl hT
  rw[hl]at hx
  obtain⟨h1,h2⟩:=ay.1 he
  obtain⟨h3,h4⟩:=bO.1 h2
  obtain rfl:=ao.1 h4
  simp only[aj,beq_iff_eq,decide_eq_true_eq]at h1 h3
  obtain⟨rfl,AQ⟩:=h1
  obtain⟨q1,q2,q3⟩:=uF AQ
  obtain⟨cs,hV,hO⟩:=hx.eX rfl
  have Zl:a.eval x= .agg cs.toArray:=hO
  simp only[V,dm]at hV
  obtain⟨hlen,pt⟩:=hV
  have iv:i.toNat < l.length:=by omega
  obtain⟨hp,hle⟩:=xU pt iv
  have q2':P.cellsOf e=t.size:=q2
  have q1':wI P e t.agg=true:=q1
  obtain⟨y',hr,hOy⟩:=pV (w:=w) q1' q2' pW hle
  obtain⟨j,hj,_⟩:=qK q1'
  rw[<-BI iv]at hp
  refine fin y' ?_ (VS.of (by simpa only[V]using hp) hOy)
  rw[Zl,hy]
  have ou:=run_sizeOf hj w
  rw[<-lg hj,q2']at ou
  simp[Instr.index,asIntOf,run_underlying hT,h3,ou,hr]
 ·rename_i st hl hT
  rw[hl]at hx
  obtain⟨h3,h4⟩:=bO.1 he
  obtain rfl:=ao.1 h4
  simp only[decide_eq_true_eq]at h3
  have e1:=u7 hx
  have iv:i.toNat < st.data.toList.length:=by
   have:st.size=st.data.toList.length:=by rw[cO];rfl
   omega
  have Wd:st[i.toNat]? =some (st.data.toList[i.toNat]):=by
   have hlt':i.toNat < st.size:=by omega
   rw[getElem?_pos st i.toNat hlt']
   rfl
  refine fin (.int .u8 ((st.data.toList.getD i.toNat 0).toNat:Int)) ?_ (kj _ _)
  rw[e1,hy]
  simp[Instr.index,asIntOf,run_underlying hT,h3.1,Wd,aA,cj iv]
 ·simp only[ai]at he
theorem Qy{E:Env}:∀(c:av) (vs:List Value) (i:Nat) (v:av),VC E c vs->c.list[i]? =some v->∃y,vs[i]? =some y/\VS E v y:=by
 intro c
 induction c with
 |cons x y _ ih=>
  intro vs i v hc hi
  simp only[VC]at hc
  obtain⟨u,vs',cs,rfl,hV,hO,hc⟩:=hc
  cases i with
  |zero=>
   simp only[av.list,fS,aq]at hi
   subst hi
   exact⟨u,rfl,VS.of hV hO⟩
  |succ i=>
   simp only[av.list,kD]at hi ⊢
   exact ih vs' i v hc hi
 |_=>intro vs i v hc hi;simp[av.list]at hi
theorem Eo(h:Inv C g β s a w){x:Operand}{i:Nat}(ho:o.op= .extract x i){v:av}(he:(Out.opt ((s.ev x).list[i]?)).eval=some v):fM P o a w (iE C (s.put o.dst v)):=by
 have hx:=h.ev x
 have he:=jM.1 he
 cases hc:s.ev x with
 |cons p q=>
  rw[hc]at hx he
  obtain⟨vs,hy,hVC⟩:=hx
  obtain⟨y,hv,hVS⟩:=Qy _ vs i v hVC he
  refine h.value hVS (eg (f:=Instr.extract (a.eval x) i) (by simp only[execOp,ho]) ?_)
  rw[hy]
  simp[Instr.extract,hv]
 |_=>rw[hc]at he;simp[av.list]at he
theorem Jc(h:Inv C g β s a w):∀(l:List Operand),qY (nw s l)=true->VC (s.env w g β) (nw s l) (l.map a.eval)
 |[],_=>by simp[nw,VC]
 |x::xs,hc=>by
  simp only[nw,qY,aj]at hc
  obtain⟨cs,hV,hO⟩:=(h.ev x).eX hc.1
  simp only[nw,VC,bX]
  exact⟨_,_,cs,rfl,hV,hO,Jc h xs hc.2⟩
theorem CN(h:Inv C g β s a w){f:FuncId}{first caps:Array Operand}(ho:o.op= .makeFunc (.func f) first caps)(h1:first.isEmpty=true)(h2:qY (nw s caps.toList)=true):
  fM P o a w (iE C (s.put o.dst (.fn f (nw s caps.toList)))):=by
 have hf:first= #[]:=by simpa using h1
 refine h.value (x:= .func (.func f) #[] (caps.toList.map a.eval).toArray) ⟨_,?_,rfl⟩ (eg (f:=Instr.makeFunc (.func f) (first.map a.eval) (caps.map a.eval)) (by simp only[execOp,ho]) ?_)
 ·simp only[V]
  exact⟨_,rfl,Jc h _ h2⟩
 ·subst hf
  have:caps.map a.eval=(caps.toList.map a.eval).toArray:=by apply gq;simp
  simp[Instr.makeFunc,this]
theorem I0(h:Inv C g β s a w){T:TypeId}{x:Operand}(ho:o.op= .sliceToArrayPointer T x){s':AS}(he:(wW P s o.dst T (s.ev x)).eval=some s'):fM P o a w (iE C s'):=by
 have hx:=h.ev x
 unfold wW at he
 split at he
 ·rename_i n e hT
  split at he
  ·rename_i t ht
   obtain⟨h1,h2⟩:=ay.1 he
   obtain⟨l,h3,h4⟩:=ak.1 h2
   obtain⟨h5,h6⟩:=bO.1 h4
   obtain rfl:=ao.1 h6
   simp only[aj,cC,beq_iff_eq,beq_eq_false_iff_ne,decide_eq_true_eq]at h1 h5
   obtain⟨⟨hz,hn⟩,RA⟩:=h1
   obtain⟨g1,i1,e1,t1,cs,hR,hO⟩:=rG h hx h3
   simp only[dm]at hR
   obtain⟨ad,cap,vs,rfl,LK,mJ,nC,pt⟩:=hR
   have hO': [Value.slice ad (List.length l) cap]=[a.eval x]:=hO
   have hy:a.eval x= .slice ad (List.length l) cap:=by simpa using hO'.symm
   have hlen:=bj.length (λc x hx=>dm.size hx) pt
   have h0:0 < vs.length:=by rw[hlen];exact Nat.mul_pos (by omega) (by omega)
   obtain⟨bb,off,e2,_⟩:=nC 0 vs[0] (by simp[h0])
   subst e2
   refine .inl ⟨.pointer (some ⟨bb,off,none⟩),w,?_,g1,β,i1.put o.dst ⟨_,?_,rfl⟩⟩
   ·refine eg (f:=Instr.arrayAt T (a.eval x)) (by simp only[execOp,ho]) ?_
    rw[hy]
    have:¬List.length l < n:=by omega
    simp[Instr.arrayAt,run_underlying hT,this]
   ·simp only[V]
    refine⟨bb,off,vs.take (n*t.size),rfl,λj u hj=> ?_,?_⟩
    ·rw[dp]at hj
     split at hj
     ·exact nC j u hj
     ·cases hj
    ·simp only[dm]
     exact⟨by simp;omega,bj.take (λ_ _ hx=>hx.size) n pt⟩
  ·simp only[ai]at he
 ·simp only[ai]at he
end
end Go.Ab
namespace Go.Ab
theorem Bb{α:Type}{f:α->α->Bool}(hf:∀x y,f x y=true->x=y):∀ {xs ys:List α},lj f xs ys=true->xs=ys
 |[],[],_=>rfl
 |x::xs,y::ys,h=>by
  simp only[lj,aj]at h
  rw[hf _ _ h.1,Bb hf h.2]
 |[],_::_,h=>by simp[lj]at h
 |_::_,[],h=>by simp[lj]at h
theorem beq_eq:∀(t:Ty) (x y:t.den),t.comp=true->t.beq x y=true->x=y
 | .int _,x,y,_,h=>by simpa[Ty.beq]using h
 | .bool,x,y,_,h=>by simpa[Ty.beq]using h
 | .str,x,y,_,h=>by
  have h:(x:ByteArray).toList=(y:ByteArray).toList:=by simpa[Ty.beq]using h
  rw[Go.ByteArray.toList_eq,Go.ByteArray.toList_eq]at h
  exact ByteArray.ext (Array.toList_inj.1 h)
 | .slice _,_,_,h,_=>by simp[Ty.comp]at h
 | .unit,_,_,_,_=>rfl
 | .pair a b,x,y,hc,h=>by
  simp only[Ty.comp,aj]at hc
  simp only[Ty.beq,aj]at h
  exact Prod.ext (beq_eq a _ _ hc.1 h.1) (beq_eq b _ _ hc.2 h.2)
 | .arr _ t,x,y,hc,h=>Bb (λx y=>beq_eq t x y hc) h
def Plain(c:Value):Prop:=∀n,Instr.sameBits n c c=true
theorem dm.plain{E:Env}:∀ {t:Ty} {cs:List Value} {x:t.den},t.comp=true->dm E t cs x->∀c∈cs,Plain c
 | .int _,_,_,_,h,c,hc,n=>by simp only[dm]at h;rw[h,bI]at hc;subst hc;cases n <;> simp[Instr.sameBits]
 | .bool,_,_,_,h,c,hc,n=>by simp only[dm]at h;rw[h,bI]at hc;subst hc;cases n <;> simp[Instr.sameBits]
 | .str,_,_,_,h,c,hc,n=>by simp only[dm]at h;rw[h,bI]at hc;subst hc;cases n <;> exact(Go.MapKept.bytes_beq _ _).2 rfl
 | .slice _,_,_,hc,_,_,_,_=>by simp[Ty.comp]at hc
 | .unit,_,_,_,h,c,hc,_=>by simp only[dm]at h;rw[h]at hc;cases hc
 | .pair a b,_,_,hp,h,c,hc,n=>by
  simp only[Ty.comp,aj]at hp
  simp only[dm]at h
  obtain⟨ca,cb,rfl,ha,hb⟩:=h
  rcases bt.1 hc with hc | hc
  ·exact dm.plain hp.1 ha c hc n
  ·exact dm.plain hp.2 hb c hc n
 | .arr _ t,_,_,hp,h,c,hc,n=>by
  simp only[dm]at h
  exact bj.all (p:=Plain) (λc x hx v hv=>dm.plain (t:=t) hp hx v hv) h.2 c hc n
theorem dm.QQ{E:Env}:∀ {t:Ty} {cs cs':List Value} {x:t.den},t.comp=true->dm E t cs x->dm E t cs' x->cs=cs'
 | .int _,_,_,_,_,h,h'=>by simp only[dm]at h h';rw[h,h']
 | .bool,_,_,_,_,h,h'=>by simp only[dm]at h h';rw[h,h']
 | .str,_,_,_,_,h,h'=>by simp only[dm]at h h';rw[h,h']
 | .slice _,_,_,_,hc,_,_=>by simp[Ty.comp]at hc
 | .unit,_,_,_,_,h,h'=>by simp only[dm]at h h';rw[h,h']
 | .pair a b,_,_,_,hp,h,h'=>by
  simp only[Ty.comp,aj]at hp
  simp only[dm]at h h'
  obtain⟨ca,cb,rfl,ha,hb⟩:=h
  obtain⟨ca',cb',rfl,ha',hb'⟩:=h'
  rw[dm.QQ hp.1 ha ha',dm.QQ hp.2 hb hb']
 | .arr _ t,cs,cs',x,hp,h,h'=>by
  simp only[dm]at h h'
  have key:∀(l:List t.den) (cs cs':List Value),bj (dm E t) cs l->bj (dm E t) cs' l->cs=cs':=by
   intro l
   induction l with
   |nil=>intro cs cs' h h';have h:cs=[]:=h;have h':cs'=[]:=h';rw[h,h']
   |cons x l ih=>
    intro cs cs' h h'
    obtain⟨c,r,rfl,hx,hr⟩:=h
    obtain⟨c',r',rfl,hx',hr'⟩:=h'
    rw[dm.QQ (t:=t) hp hx hx',ih _ _ hr hr']
  exact key _ _ _ h.2 h'.2
theorem sF.QQ{E:Env}{t:Ty}{v v':Value}{x:t.den}(hc:t.comp=true)(h:sF E t v x)(h':sF E t v' x):v=v':=by
 obtain⟨cs,h1,h2⟩:=h
 obtain⟨cs',h1',h2'⟩:=h'
 have e:=dm.QQ hc h1 h1'
 subst e
 unfold fV at h2 h2'
 cases ha:t.agg with
 |true=>rw[ha]at h2 h2';rw[h2,h2']
 |false=>
  rw[ha]at h2 h2'
  have h2:cs=[v]:=h2
  have h2':cs=[v']:=h2'
  rw[h2]at h2'
  simpa using h2'
theorem sF.same{E:Env}{t:Ty}{v:Value}{x:t.den}(hc:t.comp=true)(h:sF E t v x):Instr.sameBits 10000 v v=true:=by
 obtain⟨cs,h1,h2⟩:=h
 have hp:=dm.plain hc h1
 unfold fV at h2
 cases ha:t.agg with
 |true=>
  rw[ha]at h2
  have h2:v= .agg cs.toArray:=h2
  subst h2
  simp only[Instr.sameBits,beq_self_eq_true,ez,dv]
  intro p hp'
  obtain⟨a,b⟩:=p
  have:∀(l:List Value),(a,b)∈l.zip l->a∈l/\a=b:=by
   intro l
   induction l with
   |nil=>intro h;simp at h
   |cons y l ih=>
    intro h
    simp only[List.zip_cons_cons,cX,cR]at h
    rcases h with⟨rfl,rfl⟩ | h
    ·exact⟨aH,rfl⟩
    ·exact⟨aF _ (ih h).1,(ih h).2⟩
  obtain⟨hm,rfl⟩:=this _ hp'
  exact hp a (by simpa using hm) _
 |false=>
  rw[ha]at h2
  have h2:cs=[v]:=h2
  subst h2
  exact hp v (by simp) _
theorem Ll{P:Program}{w:World}{E:Env}{t:Ty}{v:Value}{x:t.den}(hc:t.comp=true)(h:sF E t v x):(Instr.keyThatStays v v).run P w= .ok v w:=by
 unfold Instr.keyThatStays
 rw[if_pos (h.same hc)]
 rfl
section
variable {P:Program} {w:World} {E:Env}
theorem ra:∀(n:Nat) (T:TypeId) (t:Ty),nO P n T t=true->t.comp=true
 | 0,T,t,h=>by simp[nO]at h
 |n+1,T,t,h=>by
  simp only[nO]at h
  split at h
  ·rfl
  ·rfl
  ·rfl
  ·rename_i m e m' t' hT
   simp only[aj]at h
   exact ra n e t' h.2
  ·rename_i t0 _ _ fs hT
   simp only[aj]at h
   have key:∀(fl:List Field) (t:Ty) (off:Nat),wB P (nO P n) fl t off=true->t.comp=true:=by
    intro fl
    induction fl with
    |nil=>intro t off hc;cases t <;> first | rfl | (simp[wB]at hc;done)
    |cons f fl ih=>
     intro t off hc
     cases t <;> first | (simp[wB]at hc;done) | skip
     rename_i ta tb
     simp only[wB,aj]at hc
     simp only[Ty.comp,aj]
     exact⟨ra n _ _ hc.1.2,ih tb _ hc.2⟩
   exact key _ _ _ h.2
  ·cases h
theorem mc(em:Bool):∀(n:Nat) (T:TypeId) (t:Ty),nO P n T t=true->∀(d:Nat),n<=d->∀(v:Value) (x:t.den),sF E t v x->(Instr.checkKey em d T v).run P w= .ok () w
 | 0,T,t,h,_,_,_,_,_=>by simp[nO]at h
 |n+1,T,t,h,0,hd,_,_,_=>by omega
 |n+1,T,t,h,d+1,hd,v,x,⟨cs,hx,hv⟩=>by
  simp only[nO]at h
  split at h
  ·rename_i hT
   simp only[dm]at hx
   have e1:cs=[v]:=hv
   rw[hx]at e1
   simp only[ed,and_true]at e1
   subst e1
   simp[Instr.checkKey,run_underlying hT]
  ·rename_i hT
   simp only[dm]at hx
   have e1:cs=[v]:=hv
   rw[hx]at e1
   simp only[ed,and_true]at e1
   subst e1
   simp[Instr.checkKey,run_underlying hT]
  ·rename_i hT
   simp only[dm]at hx
   have e1:cs=[v]:=hv
   rw[hx]at e1
   simp only[ed,and_true]at e1
   subst e1
   simp[Instr.checkKey,run_underlying hT]
  ·rename_i m e m' t' hT
   simp only[aj,beq_iff_eq]at h
   obtain⟨⟨⟨⟨rfl,RA⟩,ou⟩,w7⟩,pt⟩:=h
   simp only[dm]at hx
   obtain⟨Wn,Wa⟩:=hx
   have e1:v= .agg cs.toArray:=hv
   subst e1
   obtain⟨i,hi,F6⟩:=qK w7
   have hsz':=ou
   rw[lg hi]at hsz'
   simp only[Instr.checkKey,Sem.run_bind,run_underlying hT,Result.andThen_ok]
   simp only[Std.Legacy.Range.forIn_eq_forIn_range']
   have hm:([:m]:Std.Legacy.Range).size=m:=by simp[Std.Legacy.Range.size]
   rw[hm]
   have Hu:∀c z,dm E t' c z->c.length=t'.size:=λc z hz=>hz.size
   have bx:t'.agg=false->t'.size=1:=pW
   have key:∀(k:Nat) (x:List t'.den) (j:Nat),x.length=k->bj (dm E t') (cs.drop (j*t'.size)) x->
     (forIn (List.range' j k) () λi __s=>(do
      let __do_lift <-sizeOf e
      let __do_lift <-part e cs.toArray (i*__do_lift)
      Instr.checkKey em d e __do_lift
      pure (ForInStep.yield ()):Sem (ForInStep Unit))).run P w= .ok () w:=by
    intro k
    induction k with
    |zero=>intro x j _ _;rfl
    |succ k ih=>
     intro x j hx hcx'
     cases x with
     |nil=>simp at hx
     |cons x0 xs=>
      have gx:=bj.get Hu hcx' 0 (by simp)
      simp only[lf,aJ,List.getElem_cons_zero]at gx
      have lenx:((cs.drop (j*t'.size)).take t'.size).length=t'.size:=gx.size
      have zk:t'.size≠0:=by simpa using RA
      have Wk:j*t'.size+t'.size<=cs.length:=by simp only[bQ,dy]at lenx;omega
      obtain⟨ux,h1,o1⟩:=pV (w:=w) w7 ou bx (cs:=cs) (off:=j*t'.size) Wk
      have h3:=mc em n e t' pt d (by omega) ux x0 ⟨_,gx,o1⟩
      have nx:bj (dm E t') (cs.drop ((j+1)*t'.size)) xs:=by
       have:=bj.drop Hu 1 hcx'
       rw[gD]at this
       simpa[eM]using this
      have:=ih xs (j+1) (by simpa using hx) nx
      rw[List.range'_succ,List.forIn_cons]
      simp only[Sem.run_bind,run_sizeOf hi,hsz',h1,h3,Result.andThen_ok,Sem.run_pure]
      exact this
   exact(congrArg (λr:Result Unit=>r.andThen λ_ w'=>Sem.run P (pure ()) w') (key m x 0 Wn (by simpa using Wa))).trans rfl
  ·rename_i t0 _ _ fs hT
   simp only[aj,cC]at h
   obtain⟨lZ,Rf⟩:=h
   have w7:t0.agg=true:=by
    cases hl:fs.toList <;> rw[hl]at Rf <;> cases t0 <;> first | rfl | (simp[wB]at Rf;done)
   rw[w7]at hv
   have e1:v= .agg cs.toArray:=hv
   subst e1
   have key:∀(fl:List Field) (t:Ty) (off:Nat),wB P (nO P n) fl t off=true->∀(x:t.den),dm E t (cs.drop off) x->
     (forIn fl () λf __s=>(do
      if f.name≠ "_" then
       let __do_lift <-part f.type cs.toArray f.offset
       Instr.checkKey em d f.type __do_lift
       pure (ForInStep.yield ())
      else pure (ForInStep.yield ()):Sem (ForInStep Unit))).run P w= .ok () w:=by
    intro fl
    induction fl with
    |nil=>intro t off _ x _;rfl
    |cons f fl ih=>
     intro t off hc x hx
     cases t <;> first | (simp[wB]at hc;done) | skip
     rename_i ta tb
     simp only[wB,aj,cC,beq_iff_eq,beq_eq_false_iff_ne]at hc
     obtain⟨⟨⟨⟨⟨⟨Wt,OW⟩,hz⟩,ou⟩,w7⟩,pt⟩,MM⟩:=hc
     simp only[dm]at hx
     obtain⟨xa,xb,ex,Ul,WU⟩:=hx
     have bx:ta.agg=false->ta.size=1:=pW
     have lx:xa.length=ta.size:=Ul.size
     have sx1:(cs.drop off).take ta.size=xa:=by rw[ex];exact j2 lx
     have sx2:cs.drop (off+ta.size)=xb:=by rw[<-gD,ex];exact jZ lx
     have sx3:off+ta.size<=cs.length:=by
      have:=congrArg List.length ex
      simp only[dy,ae]at this
      omega
     obtain⟨ux,h1,o1⟩:=pV (w:=w) w7 ou bx (cs:=cs) (off:=off) sx3
     rw[sx1]at o1
     have h3:=mc em n f.type ta pt d (by omega) ux x.1 ⟨_,Ul,o1⟩
     have h4:=ih tb (off+ta.size) MM x.2 (by rw[sx2];exact WU)
     rw[List.forIn_cons]
     simp only[ne_eq,Wt,not_false_eq_true,if_true,Sem.run_bind,OW,h1,h3,Result.andThen_ok,Sem.run_pure]
     exact h4
   have:=key fs.toList t0 0 Rf x (by simpa using hx)
   simp only[Instr.checkKey,Sem.run_bind,run_underlying hT,Result.andThen_ok,Array.forIn_toList]at this ⊢
   exact(congrArg (λr:Result Unit=>r.andThen λ_ w'=>Sem.run P (pure ()) w') this).trans rfl
  ·cases h
theorem xg{K:TypeId}{kt vt:Ty}(hK:nO P depth K kt=true){v:Value}{x:kt.den}(hx:sF E kt v x):∀(es:List MapEntry) (l:List (kt.den×vt.den)) (i:Nat),Alike (s9 E kt vt) es l->
  ∃r,(Instr.findAsking K v es i).run P w= .ok r w/\match r with | none=>iS kt x l=none | some (j,u)=>∃n e,iS kt x l=some n/\j=i+n/\es[n]? =some e/\u=e.val
 |[],[],i,_=>⟨none,by simp[Instr.findAsking],rfl⟩
 |e::es,p::l,i,⟨he,hr⟩=>by
  have hx':=hx
  obtain⟨c1,r1,o1⟩:=hx'
  obtain⟨c2,r2,o2⟩:=he.1
  have heq:(Op.equal K v e.key).run P w= .ok (kt.beq x p.1) w:=pq E depth K kt hK 10000 (by decide) c1 c2 x p.1 v e.key r1 r2 o1 o2
  cases hb:kt.beq x p.1 with
  |true=>
   rw[hb]at heq
   refine⟨some (i,e.val),by simp[Instr.findAsking,heq],0,e,by simp[iS,hb],rfl,rfl,rfl⟩
  |false=>
   rw[hb]at heq
   obtain⟨r,h1,h2⟩:=xg hK hx es l (i+1) hr
   refine⟨r,by simp[Instr.findAsking,heq,h1],?_⟩
   cases r with
   |none=>simp only at h2 ⊢;simp[iS,hb,h2]
   |some u=>
    obtain⟨j,u⟩:=u
    obtain⟨n,e',g1,g2,g3,g4⟩:=h2
    exact⟨n+1,e',by simp[iS,hb,g1],by omega,by simpa using g3,g4⟩
 |[],_::_,_,h=>h.elim
 |_::_,[],_,h=>h.elim
theorem DL{d:TypeDesc}{kt vt:Ty}{v:Value}{x:kt.den}(hd:∀u y,sF E kt u y->Instr.sameNow d v u=some (kt.beq x y)):∀(es:List MapEntry) (l:List (kt.den×vt.den)) (i:Nat),Alike (s9 E kt vt) es l->
  ∃r,Instr.findNow d v es i=some r/\match r with | none=>iS kt x l=none | some (j,u)=>∃n e,iS kt x l=some n/\j=i+n/\es[n]? =some e/\u=e.val
 |[],[],i,_=>⟨none,rfl,rfl⟩
 |e::es,p::l,i,⟨he,hr⟩=>by
  have h0:=hd e.key p.1 he.1
  cases hb:kt.beq x p.1 with
  |true=>
   rw[hb]at h0
   exact⟨some (i,e.val),by simp[Instr.findNow,h0],0,e,by simp[iS,hb],rfl,rfl,rfl⟩
  |false=>
   rw[hb]at h0
   obtain⟨r,h1,h2⟩:=DL hd es l (i+1) hr
   refine⟨r,by simp[Instr.findNow,h0,h1],?_⟩
   cases r with
   |none=>simp only at h2 ⊢;simp[iS,hb,h2]
   |some u=>
    obtain⟨j,u⟩:=u
    obtain⟨n,e',g1,g2,g3,g4⟩:=h2
    exact⟨n+1,e',by simp[iS,hb,g1],by omega,by simpa using g3,g4⟩
 |[],_::_,_,h=>h.elim
 |_::_,[],_,h=>h.elim
theorem wE{K:TypeId}{kt vt:Ty}(hK:nO P depth K kt=true){v:Value}{x:kt.den}(hx:sF E kt v x){es:List MapEntry}{l:List (kt.den×vt.den)}(h:Alike (s9 E kt vt) es l):
  ∃r,(Instr.findKey K v es).run P w= .ok r w/\match r with | none=>iS kt x l=none | some (j,u)=>∃e,iS kt x l=some j/\es[j]? =some e/\u=e.val:=by
 have fin:∀r:Option (Nat×Value),(match r with | none=>iS kt x l=none | some (j,u)=>∃n e,iS kt x l=some n/\j=0+n/\es[n]? =some e/\u=e.val)->match r with | none=>iS kt x l=none | some (j,u)=>∃e,iS kt x l=some j/\es[j]? =some e/\u=e.val:=by
  intro r hr
  cases r with
  |none=>exact hr
  |some u=>
   obtain⟨j,u⟩:=u
   obtain⟨n,e,g1,g2,g3,g4⟩:=hr
   obtain rfl:j=n:=by omega
   exact⟨e,g1,g3,g4⟩
 have scalar:∀d,P.underlying K=some d->(∀u y,sF E kt u y->Instr.sameNow d v u=some (kt.beq x y))->∃r,(Instr.findKey K v es).run P w= .ok r w/\match r with | none=>iS kt x l=none | some (j,u)=>∃e,iS kt x l=some j/\es[j]? =some e/\u=e.val:=by
  intro d hd hs
  obtain⟨r,h1,h2⟩:=DL hs es l 0 h
  exact⟨r,by simp[Instr.findKey,run_underlying hd,h1],fin r h2⟩
 have agg:∀d,P.underlying K=some d->(∀u y,sF E kt u y->Instr.sameNow d v u=none)->∃r,(Instr.findKey K v es).run P w= .ok r w/\match r with | none=>iS kt x l=none | some (j,u)=>∃e,iS kt x l=some j/\es[j]? =some e/\u=e.val:=by
  intro d hd hs
  cases es with
  |nil=>
   cases l with
   |nil=>exact⟨none,by simp[Instr.findKey,run_underlying hd,Instr.findNow],rfl⟩
   |cons _ _=>exact h.elim
  |cons e es=>
   cases l with
   |nil=>exact h.elim
   |cons p l=>
    have hn:Instr.findNow d v (e::es) 0=none:=by simp[Instr.findNow,hs e.key p.1 h.1.1]
    obtain⟨r,h1,h2⟩:=xg (w:=w) (vt:=vt) hK hx (e::es) (p::l) 0 h
    exact⟨r,by simp[Instr.findKey,run_underlying hd,hn,h1],fin r h2⟩
 have hK0:=hK
 unfold depth at hK0
 simp only[nO]at hK0
 obtain⟨cx,rx,ox⟩:=hx
 split at hK0
 ·rename_i k k' hT
  refine scalar _ hT λu y ⟨cy,ry,oy⟩=> ?_
  simp only[dm]at rx ry
  have e1:cx=[v]:=ox
  have e2:cy=[u]:=oy
  rw[rx]at e1;rw[ry]at e2
  simp only[ed,and_true]at e1 e2
  subst e1 e2
  simp[Instr.sameNow,Ty.beq]
 ·rename_i hT
  refine scalar _ hT λu y ⟨cy,ry,oy⟩=> ?_
  simp only[dm]at rx ry
  have e1:cx=[v]:=ox
  have e2:cy=[u]:=oy
  rw[rx]at e1;rw[ry]at e2
  simp only[ed,and_true]at e1 e2
  subst e1 e2
  simp[Instr.sameNow,Ty.beq]
 ·rename_i hT
  refine scalar _ hT λu y ⟨cy,ry,oy⟩=> ?_
  simp only[dm]at rx ry
  have e1:cx=[v]:=ox
  have e2:cy=[u]:=oy
  rw[rx]at e1;rw[ry]at e2
  simp only[ed,and_true]at e1 e2
  subst e1 e2
  have hs:∀a b:ByteArray,(a==b)=(a.toList==b.toList):=λa b=>by
   by_cases PQ:a=b
   ·subst PQ
    rw[(Go.MapKept.bytes_beq a a).2 rfl];simp
   ·have h1:(a==b)=false:=by
     cases h:(a==b) with
     |false=>rfl
     |true=>exact absurd ((Go.MapKept.bytes_beq a b).1 h) PQ
    have h2:(a.toList==b.toList)=false:=by
     cases h:(a.toList==b.toList) with
     |false=>rfl
     |true=>exact absurd (beq_eq .str a b rfl h) PQ
    rw[h1,h2]
  simp[Instr.sameNow,Ty.beq,hs]
 ·rename_i m e m' t' hT
  exact agg _ hT λu y _=>by simp[Instr.sameNow]
 ·rename_i t0 _ _ fs hT
  exact agg _ hT λu y _=>by simp[Instr.sameNow]
 ·cases hK0
end
section
variable {α β:Type} {R:α->β->Prop}
theorem Alike.get:∀ {xs:List α} {ys:List β} {i:Nat} {x:α},Alike R xs ys->xs[i]? =some x->∃y,ys[i]? =some y/\R x y
 |[],_,_,_,_,h=>by simp at h
 |_::_,[],_,_,h,_=>h.elim
 |x::xs,y::ys,0,z,⟨h1,_⟩,h=>by simp at h;subst h;exact⟨y,rfl,h1⟩
 |x::xs,y::ys,i+1,z,⟨_,h2⟩,h=>by simp at h;simpa using Alike.get h2 h
theorem Alike.set{x:α}{y:β}(hx:R x y):∀ {xs:List α} {ys:List β} (i:Nat),Alike R xs ys->Alike R (xs.set i x) (ys.set i y)
 |[],[],_,_=>trivial
 |[],_::_,_,h=>h.elim
 |_::_,[],_,h=>h.elim
 |_::_,_::_,0,⟨_,h2⟩=>⟨hx,h2⟩
 |_::_,_::_,i+1,⟨h1,h2⟩=>⟨h1,Alike.set hx i h2⟩
theorem Alike.push{x:α}{y:β}(hx:R x y):∀ {xs:List α} {ys:List β},Alike R xs ys->Alike R (xs++ [x]) (ys++ [y])
 |[],[],_=>⟨hx,trivial⟩
 |[],_::_,h=>h.elim
 |_::_,[],h=>h.elim
 |_::_,_::_,⟨h1,h2⟩=>⟨h1,Alike.push hx h2⟩
theorem Alike.erase:∀ {xs:List α} {ys:List β} (i:Nat),Alike R xs ys->Alike R (xs.eraseIdx i) (ys.eraseIdx i)
 |[],[],_,_=>by simp[Alike]
 |[],_::_,_,h=>h.elim
 |_::_,[],_,h=>h.elim
 |_::_,_::_,0,⟨_,h2⟩=>h2
 |_::_,_::_,i+1,⟨h1,h2⟩=>⟨h1,Alike.erase i h2⟩
end
theorem xz{α:Type}{f:α->α->Bool}(hf:∀x,f x x=true):∀xs:List α,lj f xs xs=true
 |[]=>rfl
 |x::xs=>by simp[lj,hf x,xz hf xs]
theorem beq_refl:∀(t:Ty) (x:t.den),t.comp=true->t.beq x x=true
 | .int _,x,_=>by simp[Ty.beq]
 | .bool,x,_=>by simp[Ty.beq]
 | .str,x,_=>by simp[Ty.beq]
 | .slice _,_,h=>by simp[Ty.comp]at h
 | .im _,_,h | .oq _,_,h=>by simp[Ty.comp]at h
 | .unit,_,_=>rfl
 | .pair a b,x,h=>by
  simp only[Ty.comp,aj]at h
  simp only[Ty.beq,beq_refl a _ h.1,beq_refl b _ h.2,Bool.and_self]
 | .arr _ t,x,h=>by
  simp only[Ty.comp]at h
  exact xz (λy=>beq_refl t y h) x
section
variable {β:Type} {kt:Ty}
theorem sQ{x:kt.den}:dG kt x ([]:List (kt.den×β))=none:=rfl
theorem iN{x:kt.den}{p:kt.den×β}{l:List (kt.den×β)}:dG kt x (p::l)=if kt.beq x p.1=true then some p.2 else dG kt x l:=by
 unfold dG
 cases h:kt.beq x p.1 with
 |true=>simp[iS,h]
 |false=>
  simp only[iS,h]
  cases iS kt x l <;> simp
theorem K4{x:kt.den}{v:β}:iT kt x v []=[(x,v)]:=rfl
theorem wK{x:kt.den}{v:β}{p:kt.den×β}{l:List (kt.den×β)}:iT kt x v (p::l)=if kt.beq x p.1=true then(x,v)::l else p::iT kt x v l:=by
 unfold iT
 cases h:kt.beq x p.1 with
 |true=>simp[iS,h]
 |false=>
  simp only[iS,h]
  cases iS kt x l <;> simp
theorem KZ{x:kt.den}:kf kt x ([]:List (kt.den×β))=[]:=rfl
theorem tz{x:kt.den}{p:kt.den×β}{l:List (kt.den×β)}:kf kt x (p::l)=if kt.beq x p.1=true then l else p::kf kt x l:=by
 unfold kf
 cases h:kt.beq x p.1 with
 |true=>simp[iS,h]
 |false=>
  simp only[iS,h]
  cases iS kt x l <;> simp
theorem vp{x:kt.den}{v:β}:∀l:List (kt.den×β),(iT kt x v l).Perm ((x,v)::kf kt x l)
 |[]=>l9 _
 |p::l=>by
  rw[wK,tz]
  split
  ·exact l9 _
  ·exact((vp l).cons p).trans (List.Perm.swap _ _ _)
theorem oC(hc:kt.comp=true){x:kt.den}:∀ {l:List (kt.den×β)},(l.map (·.1)).Nodup->kf kt x l=l.filter λp=> !kt.beq x p.1
 |[],_=>rfl
 |p::l,hn=>by
  rw[bX,dI]at hn
  rw[tz,List.filter_cons]
  by_cases h:kt.beq x p.1=true
  ·rw[if_pos h]
   simp only[h,dj,cv,if_false]
   have hx:=beq_eq kt _ _ hc h
   exact(jq.2 λq hq=>by
    simp only[cC]
    rw[Bool.eq_false_iff]
    intro hb
    have:=beq_eq kt _ _ hc hb
    exact hn.1 (by rw[<-hx,this];exact eJ.2 ⟨q,hq,rfl⟩)).symm
  ·have h':kt.beq x p.1=false:=by simpa using h
   rw[if_neg h]
   simp only[h',ia,if_true]
   rw[oC hc hn.2]
theorem kJ(hc:kt.comp=true){x:kt.den}{v:β}:∀ {l:List (kt.den×β)},(l.map (·.1)).Nodup->(dG kt x l=some v↔(x,v)∈l)
 |[],_=>by simp[sQ]
 |p::l,hn=>by
  rw[bX,dI]at hn
  rw[iN,cX]
  by_cases h:kt.beq x p.1=true
  ·rw[if_pos h]
   have hx:=beq_eq kt _ _ hc h
   constructor
   ·intro e;left;rw[hx,<-ba e]
   ·rintro(e | e)
    ·rw[<-e]
    ·exact absurd (eJ.2 ⟨_,e,rfl⟩) (by rw[<-hx]at hn;exact hn.1)
  ·rw[if_neg h,kJ hc hn.2]
   constructor
   ·exact .inr
   ·rintro(e | e)
    ·exact absurd (by rw[<-e];exact beq_refl kt x hc) h
    ·exact e
theorem Ip(hc:kt.comp=true){x:kt.den}{l l':List (kt.den×β)}(hn:(l.map (·.1)).Nodup)(hp:l'.Perm l):dG kt x l'=dG kt x l:=by
 apply Option.ext
 intro v
 rw[kJ hc ((hp.map _).nodup_iff.2 hn),kJ hc hn,hp.mem_iff]
theorem Bj(hc:kt.comp=true){x:kt.den}{l l':List (kt.den×β)}(hn:(l.map (·.1)).Nodup)(hp:l'.Perm l):(kf kt x l').Perm (kf kt x l):=by
 rw[oC hc ((hp.map _).nodup_iff.2 hn),oC hc hn]
 exact hp.filter _
theorem Iq(hc:kt.comp=true){x:kt.den}{v:β}{l l':List (kt.den×β)}(hn:(l.map (·.1)).Nodup)(hp:l'.Perm l):(iT kt x v l').Perm (iT kt x v l):=
 (vp l').trans (((Bj hc hn hp).cons _).trans (vp l).symm)
theorem uR(hc:kt.comp=true){x:kt.den}{l:List (kt.den×β)}(hn:(l.map (·.1)).Nodup):((kf kt x l).map (·.1)).Nodup:=by
 rw[oC hc hn]
 exact hn.sublist (List.filter_sublist.map _)
theorem zu(hc:kt.comp=true){x:kt.den}{v:β}{l:List (kt.den×β)}(hn:(l.map (·.1)).Nodup):((iT kt x v l).map (·.1)).Nodup:=by
 rw[((vp l).map _).nodup_iff,bX,dI]
 refine⟨λh=> ?_,uR hc hn⟩
 obtain⟨p,hp,he⟩:=eJ.1 h
 rw[oC hc hn,nh]at hp
 have:=hp.2
 have he:p.1=x:=he
 rw[he,beq_refl kt x hc]at this
 cases this
end
theorem wU{E:Env}:∀(v:av) (t:Ty) (x:t.den) (cs:List Value),V E v cs->(mQ t v).eval=some x->dm E t cs x/\v.agg=t.agg/\v.eX=true
 | .d t' x',t,x,cs,hv,h=>by
  have h':(Out.opt (oY t' t x')).eval=some x:=by cases t <;> simpa only[mQ]using h
  obtain⟨rfl,h'⟩:=jB (jM.1 h')
  simp only at h'
  subst h'
  simp only[V]at hv
  exact⟨hv,rfl,rfl⟩
 | .di,.slice t,x,cs,hv,h=>by
  simp only[mQ,ao]at h
  subst h
  simp only[V]at hv
  simp only[dm]
  exact⟨⟨none,0,[],by simpa using hv,by simp,by simp,λi v hh=>by simp at hh,rfl⟩,rfl,rfl⟩
 | .pr a b,.pair ta tb,x,cs,hv,h=>by
  simp only[mQ]at h
  obtain⟨x1,h1,h2⟩:=ak.1 h
  obtain⟨x2,h3,h4⟩:=ak.1 h2
  obtain rfl:=ao.1 h4
  simp only[V]at hv
  obtain⟨ca,cb,rfl,ha,hb⟩:=hv
  simp only[dm]
  exact⟨⟨ca,cb,rfl,(wU a ta x1 ca ha h1).1,(wU b tb x2 cb hb h3).1⟩,rfl,rfl⟩
 | .di,.int _,_,_,_,h | .di,.bool,_,_,_,h | .di,.str,_,_,_,h | .di,.unit,_,_,_,h | .di,.pair _ _,_,_,_,h | .di,.arr _ _,_,_,_,h=>by simp only[mQ,ai]at h
 | .pr _ _,.int _,_,_,_,h | .pr _ _,.bool,_,_,_,h | .pr _ _,.str,_,_,_,h | .pr _ _,.unit,_,_,_,h | .pr _ _,.slice _,_,_,_,h | .pr _ _,.arr _ _,_,_,_,h=>by simp only[mQ,ai]at h
 | .undef,t,_,_,_,h | .gone,t,_,_,_,h | .mO,t,_,_,_,h | .pL,t,_,_,_,h | .yl ..,t,_,_,_,h | .sx,t,_,_,_,h | .ptr ..,t,_,_,_,h | .eD ..,t,_,_,_,h | .aS ..,t,_,_,_,h | .fn ..,t,_,_,_,h
 | .cons ..,t,_,_,_,h | .nil,t,_,_,_,h | .vec ..,t,_,_,_,h | .sb _,t,_,_,_,h | .bx ..,t,_,_,_,h | .db ..,t,_,_,_,h | .mp ..,t,_,_,_,h | .nH ..,t,_,_,_,h | .mr ..,t,_,_,_,h=>by cases t <;> simp only[mQ,ai]at h
theorem CV{v:av}{t:Ty}{x:t.den}(h:(mQ t v).eval=some x):v.eX=true:=by
 cases v <;> first | rfl | (cases t <;> simp only[mQ,ai]at h)
theorem tF{E:Env}{v:av}{y:Value}(hv:VS E v y){t:Ty}{x:t.den}(h:(mQ t v).eval=some x):sF E t y x:=by
 obtain⟨cs,h1,h2⟩:=hv.eX (CV h)
 obtain⟨h3,h4,_⟩:=wU v t x cs h1 h
 exact⟨cs,h3,by rw[<-h4];exact h2⟩
theorem rX{P:Program}{T K V':TypeId}{kt vt:Ty}(h:mapOf P T=some (K,V',kt,vt)):P.underlying T=some (.map K V')/\nO P depth K kt=true/\Fa P V' (.d vt vt.zero)=true:=by
 unfold mapOf at h
 split at h
 ·rename_i K0 V0 hT
  split at h
  ·split at h
   ·rename_i hc
    simp only[aq,cR]at h
    obtain⟨rfl,rfl,rfl,rfl⟩:=h
    rw[aj]at hc
    exact⟨hT,hc.1,hc.2⟩
   ·cases h
  ·cases h
 ·cases h
theorem FH{k v k' v':Ty}{l:List (k.den×v.den)}{l':List (k'.den×v'.den)}(h:HO k v k' v' l=some l'):∃(e1:k=k') (e2:v=v'),(e1▸e2▸l)=l':=by
 unfold HO at h
 split at h
 ·rename_i e;exact⟨e.1,e.2,by simpa using h⟩
 ·cases h
section
variable {P:Program} {C:Ctx} {g:Nat->kY} {β:Id->Option Pl} {s:AS} {a:Act} {w:World} {o:Oper}
theorem qM(h:Inv C g β s a w){id:Id}{ver:Nat}{kt vt:Ty}{l:List (kt.den×vt.den)}(ho:(s.oB id ver kt vt).eval=some l){y:Value}(hv:VS (s.env w g β) (.db id ver) y):
  ∃fr pl es clock,s.bZ id=some (.obj ver fr (.mp kt vt l))/\β id=some pl/\y= .map (some pl.b)/\w.heap[pl.b]? =some (.map es clock)/\g pl.b= .own (.id id) 0/\D8 (s.env w g β) kt vt es.toList l/\l6 es.toList clock/\(l.map (·.1)).Nodup:=by
 unfold AS.oB at ho
 split at ho
 ·rename_i v fr k' v' l' kr
  obtain⟨Ry,Y4⟩:=ay.1 ho
  have Ry:v=ver:=by simpa using Ry
  obtain⟨rfl,rfl,rfl⟩:=FH (jM.1 Y4)
  subst Ry
  have cV:=eH kr
  obtain⟨pl,es,clock,h1,h2,h3,h4⟩:=h.bK id v fr _ cV
  have hs:=hv.single rfl rfl
  simp only[V]at hs
  obtain⟨b,hb,_,hc⟩:=hs
  obtain⟨pl',h5,h6⟩:=hc ⟨fr,_,cV⟩
  have h1:β id=some pl:=h1
  have h5:β id=some pl':=h5
  rw[h1]at h5
  obtain rfl:pl=pl':=by simpa using h5
  refine⟨fr,pl,es,clock,cV,h1,?_,h2,h3,h4.1.1,h4.2,h4.1.2⟩
  have hb:y= .map (some b):=by simpa using hb
  rw[hb,h6]
 ·simp only[ai]at ho
theorem EM(h:Inv C g β s a w){T:TypeId}(dr:o.op= .makeMap T none){s':AS}(he:(uP P s o.dst T).eval=some s'):fM P o a w (iE C s'):=by
 unfold uP at he
 split at he
 ·rename_i K V' kt vt q hm hd
  obtain⟨hq,he⟩:=ay.1 he
  obtain rfl:=ao.1 he
  have ht:=Trans.alloc w g (.map #[] 0) (.own (.id (.new q 0)) 0)
  obtain⟨h1,h2⟩:=h.yw hq (c:= .mp kt vt []) (p:=some ⟨w.heap.size,0⟩) ht (λb hb=>⟨mW w _ hb,fA _ _ _ (by omega)⟩) (λ_=>
   ⟨⟨w.heap.size,0⟩,#[],0,jI _ _ _,oh w _,fJ _ _ _,⟨⟨[],trivial,l9 _⟩,ja⟩,l6.nil _⟩)
  refine .inl ⟨.map (some w.heap.size),w.alloc (.map #[] 0),?_,_,_,h1.put o.dst (v:= .db (.new q 0) 0) ⟨[.map (some w.heap.size)],?_,rfl⟩⟩
  ·refine eg (f:=Instr.makeMap T none) (by simp only[execOp,dr];rfl) ?_
   simp[Instr.makeMap,run_newObj_alloc]
  ·simp only[V]
   exact⟨_,rfl,mE hq _ _ _ _,λ_=>⟨_,jI _ _ _,rfl⟩⟩
 ·simp only[ai]at he
theorem sF.vs{E:Env}{t:Ty}{v:Value}{x:t.den}(h:sF E t v x):VS E (.d t x) v:=by
 obtain⟨cs,h1,h2⟩:=h
 exact⟨cs,by simpa only[V]using h1,h2⟩
theorem Gp(h:Inv C g β s a w){T:TypeId}{x i:Operand}{ok:Bool}(dr:o.op= .lookup T x i ok){v:av}(he:(tt P s T (s.ev x) (s.ev i) ok).eval=some v):fM P o a w (iE C (s.put o.dst v)):=by
 unfold tt at he
 split at he
 ·rename_i K V' kt vt id ver hm hx
  obtain⟨l,h1,he⟩:=ak.1 he
  obtain⟨k,h2,he⟩:=ak.1 he
  obtain rfl:=ao.1 he
  obtain⟨hT,hK,hz⟩:=rX hm
  have AU:=h.ev x
  rw[hx]at AU
  obtain⟨fr,pl,es,clock,g1,g2,g3,g4,g5,g6,g7,gn⟩:=qM h h1 AU
  have vW:=ra depth K kt hK
  obtain⟨l0,g6,gp⟩:=g6
  rw[<-Ip vW gn gp]
  clear gn h1
  generalize l0=l at g6
  have hk:=tF (h.ev i) h2
  have PS:=mc (P:=P) (w:=w) es.isEmpty depth K kt hK 10000 (by decide) _ _ hk
  obtain⟨r,hf,hr⟩:=wE (P:=P) (w:=w) hK hk g6
  obtain⟨iz,zv,z1,z2,z3,z4⟩:=pn hz (s.env w g β)
  have KJ:sF (s.env w g β) vt zv vt.zero:=⟨_,by simpa only[V]using z3,z4⟩
  have hzero:(zeroValue V').run P w= .ok zv w:=by simp[zeroValue,typeInfo,z1,z2]
  obtain⟨val,mF,ri⟩:∃val:Value×Bool,(Instr.lookup T (a.eval x) (a.eval i) ok).run P w= .ok (if ok then .tuple #[val.1,.bool val.2] else val.1) w/\sF (s.env w g β) vt val.1 ((dG kt k l).getD vt.zero)/\val.2=(dG kt k l).isSome:=by
   cases r with
   |none=>
    simp only at hr
    have hg:dG kt k l=none:=by simp[dG,hr]
    refine⟨(zv,false),?_,by rw[hg];exact KJ,by rw[hg];rfl⟩
    simp[Instr.lookup,run_underlying hT,g3,Go.MapKept.run_getObj_map g4,PS,hf,hzero]
   |some u=>
    obtain⟨j,u⟩:=u
    obtain⟨e,m1,m2,rfl⟩:=hr
    obtain⟨p,m3,m4⟩:=g6.get m2
    have hg:dG kt k l=some p.2:=by simp[dG,m1,m3]
    refine⟨(e.val,true),?_,by rw[hg];exact m4.2,by rw[hg];rfl⟩
    simp[Instr.lookup,run_underlying hT,g3,Go.MapKept.run_getObj_map g4,PS,hf]
  refine h.value (x:=if ok then .tuple #[val.1,.bool val.2] else val.1) ?_ (eg (f:=Instr.lookup T (a.eval x) (a.eval i) ok) (by simp only[execOp,dr]) mF)
  unfold Qe
  cases ok with
  |true=>
   obtain⟨cs,c1,c2⟩:=ri.1
   refine⟨[val.1,.bool val.2],rfl,?_⟩
   simp only[VC]
   refine⟨_,_,cs,rfl,by simpa only[V]using c1,c2,_,_,[.bool val.2],rfl,?_,rfl,rfl⟩
   simp only[V,dm,ri.2]
  |false=>exact ri.1.vs
 ·simp only[ai]at he
theorem Inv.NC(h:Inv C g β s a w){id:Id}{ver:Nat}{fr:Bool}{kt vt:Ty}{l l':List (kt.den×vt.den)}{pl:Pl}{es es':Array MapEntry}{clock clock':Nat}(cV:s.bZ id=some (.obj ver fr (.mp kt vt l)))(hp:β id=some pl)
  (hb:w.heap[pl.b]? =some (.map es clock)) (hg:g pl.b= .own (.id id) 0) (hr:D8 (s.env w g β) kt vt es'.toList l') (YY:(l'.map (·.1)).Nodup) (TD:l6 es'.toList clock') (Rw:s.oL id=true):
  Inv C g β (s.aO id (.obj ver false (.mp kt vt l'))) a {w with heap:=w.heap.setIfInBounds pl.b (.map es' clock')}:=by
 have iv:pl.b < w.heap.size:=(bJ.1 hb).1
 have hother:∀b',b'≠pl.b->({w with heap:=w.heap.setIfInBounds pl.b (.map es' clock')}:World).heap[b']? =w.heap[b']? :=λb' fL=>by
  show(w.heap.setIfInBounds pl.b _)[b']? =_
  rw[ea,if_neg (λe=>fL e.symm)]
 have ht:Trans w {w with heap:=w.heap.setIfInBounds pl.b (.map es' clock')} g g:=by
  refine⟨rfl,rfl,⟨rfl,aw _⟩,by simp,λb' _=> ?_⟩
  by_cases he:b'=pl.b
  ·subst he
   rw[hg]
   exact⟨.inr ⟨id,0,rfl,aw _⟩,λ_ _ hh=>by omega⟩
  ·rw[hother b' he]
   cases zN:g b' with
   |free=>exact⟨rfl,rfl⟩
   |own o' k=>cases o' with
    |eL=>exact⟨rfl,rfl⟩
    |id i'=>exact⟨.inr ⟨i',k,rfl,aw _⟩,λoff v _ hv=>by simpa only[World.cell?,hother b' he]using hv⟩
 have hle:cP (s.env w g β) ((s.aO id (.obj ver false (.mp kt vt l'))).env {w with heap:=w.heap.setIfInBounds pl.b (.map es' clock')} g β):=cP.aO cV (aw _) ht (λ_ _=>rfl) (λ_=>rfl)
 refine h.step (du _ _ _) ht hle (jc.aO h.bK (by rw[cV];simp) hle (λ_ _=>rfl) (λi ver fr c pl2 hi AR Dx=>⟨hother _ (h.apart hg hi AR Dx),rfl⟩) ?_ (by obtain rfl:=vc cV Rw;exact xB cV))
 refine⟨pl,es',clock',hp,?_,hg,⟨hr.mono hle.mem,YY⟩,TD⟩
 show(w.heap.setIfInBounds pl.b _)[pl.b]? =_
 rw[ea,if_pos rfl,if_pos iv]
theorem Gt(h:Inv C g β s a w){T:TypeId}{m k x:Operand}(dr:o.op= .mapUpdate T m k x){s':AS}(he:(tx P s T (s.ev m) (s.ev k) (s.ev x)).eval=some s'):fM P o a w (iE C (s'.put o.dst .undef)):=by
 unfold tx at he
 split at he
 ·rename_i K V' kt vt id ver hm hx
  obtain⟨l,h1,he⟩:=ak.1 he
  obtain⟨kx,h2,he⟩:=ak.1 he
  obtain⟨vx,h3,he⟩:=ak.1 he
  obtain⟨Rw,he⟩:=ay.1 he
  obtain rfl:=ao.1 he
  obtain⟨hT,hK,_⟩:=rX hm
  have AU:=h.ev m
  rw[hx]at AU
  obtain⟨fr,pl,es,clock,g1,g2,g3,g4,g5,g6,g7,gn⟩:=qM h h1 AU
  obtain⟨l0,g6,gp⟩:=g6
  have hk:=tF (h.ev k) h2
  have hv:=tF (h.ev x) h3
  have PS:=mc (P:=P) (w:=w) false depth K kt hK 10000 (by decide) _ _ hk
  obtain⟨r,hf,hr⟩:=wE (P:=P) (w:=w) hK hk g6
  have vW:=ra depth K kt hK
  have fin:∀(es':Array MapEntry) (clock':Nat),(Instr.mapUpdate T (a.eval m) (a.eval k) (a.eval x)).run P w= .ok () {w with heap:=w.heap.setIfInBounds pl.b (.map es' clock')}->Alike (s9 (s.env w g β) kt vt) es'.toList (iT kt kx vx l0)->l6 es'.toList clock'->
    fM P o a w (iE C ((s.aO id (.obj ver false (.mp kt vt (iT kt kx vx l)))).put o.dst .undef)):=λes' clock' mF ME TD=>
   .inr (.inl ⟨_,Di (f:=Instr.mapUpdate T (a.eval m) (a.eval k) (a.eval x)) (by simp only[execOp,dr]) mF,g,β,(h.NC g1 g2 g4 g5 ⟨_,ME,Iq vW gn gp⟩ (zu vW gn) TD Rw).put o.dst VS.undef⟩)
  cases r with
  |none=>
   simp only at hr
   refine fin (es.push {key:=a.eval k,val:=a.eval x,born:=clock}) (clock+1) ?_ ?_ (by rw[Array.toList_push];exact g7.push rfl)
   ·simp[Instr.mapUpdate,run_underlying hT,g3,Go.MapKept.run_getObj_map g4,PS,hf,Go.MapKept.run_setObj_map _ g4]
   ·simp only[iT,hr,Array.toList_push]
    exact g6.push ⟨hk,hv⟩
  |some u=>
   obtain⟨j,u⟩:=u
   obtain⟨e,m1,m2,rfl⟩:=hr
   obtain⟨p,m3,m4⟩:=g6.get m2
   have V4:kt.beq kx p.1=true:=by
    have:∀(l:List (kt.den×vt.den)) (j:Nat),iS kt kx l=some j->∀p,l[j]? =some p->kt.beq kx p.1=true:=by
     intro l
     induction l with
     |nil=>intro j hj;simp[iS]at hj
     |cons q l ih=>
      intro j hj p hp
      simp only[iS]at hj
      cases hb:kt.beq kx q.1 with
      |true=>
       rw[hb]at hj
       simp only[aq]at hj
       subst hj
       simp at hp
       subst hp
       exact hb
      |false=>
       rw[hb]at hj
       simp only[fv]at hj
       obtain⟨j',hj',rfl⟩:=hj
       exact ih j' hj' p (by simpa using hp)
    exact this l0 j m1 p m3
   have WV:=beq_eq kt kx p.1 vW V4
   have Rl:e.key=a.eval k:=sF.QQ vW (WV▸m4.1) hk
   have m2':es[j]? =some e:=by simpa using m2
   refine fin (es.modify j λe=> {e with key:=a.eval k,val:=a.eval x}) clock ?_ ?_ (by rw[Array.toList_modify,Go.ChangeMaps.modify_eq_set _ _ _ _ m2];exact g7.set m2 rfl)
   ·simp[Instr.mapUpdate,run_underlying hT,g3,Go.MapKept.run_getObj_map g4,PS,hf,m2',Rl,Ll vW hk,Go.MapKept.run_setObj_map _ g4]
   ·simp only[iT,m1,Array.toList_modify]
    rw[Go.ChangeMaps.modify_eq_set _ _ _ _ m2]
    exact Alike.set (R:=s9 (s.env w g β) kt vt) ⟨hk,hv⟩ j g6
 ·simp only[ai]at he
end
end Go.Ab
end
