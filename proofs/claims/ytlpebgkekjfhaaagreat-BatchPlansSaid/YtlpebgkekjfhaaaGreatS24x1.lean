/-
  Made short by a program of mine (wip/tools/mini.py).
-/
import Derived.WalkKit
import Derived.KernelRfl
import Derived.OrdersIn
import Derived.LoopNIn
import Derived.TacticsIn
import Derived.RangeFuncCalls
import Derived.RangeFuncLeaves
import Derived.RangeFuncRecord
import Derived.MapKept
import Derived.ChangeMaps3
set_option linter.unusedVariables false
set_option linter.unusedSimpArgs false
set_option maxRecDepth 100000
set_option synthInstance.maxSize 5000
noncomputable section
namespace Go.Ab
theorem fo:type_of% @Array.ext':= @Array.ext'
theorem lM:type_of% @Array.ext_getElem?:= @Array.ext_getElem?
theorem cv:type_of% @Array.getD_eq_getD_getElem?:= @Array.getD_eq_getD_getElem?
theorem iT:type_of% @Array.getElem?_append:= @Array.getElem?_append
theorem eC:type_of% @Array.getElem?_eq_getElem:= @Array.getElem?_eq_getElem
theorem bB:type_of% @Array.getElem?_eq_some_iff:= @Array.getElem?_eq_some_iff
theorem fu:type_of% @Array.getElem?_modify:= @Array.getElem?_modify
theorem dy:type_of% @Array.getElem?_setIfInBounds:= @Array.getElem?_setIfInBounds
theorem gl:type_of% @Array.getElem?_toList:= @Array.getElem?_toList
theorem cz:type_of% @Array.length_toList:= @Array.length_toList
theorem bK:type_of% @Array.toList_append:= @Array.toList_append
theorem kz:type_of% @BitVec.ofInt_natCast:= @BitVec.ofInt_natCast
theorem lN:type_of% @BitVec.toNat_ofInt:= @BitVec.toNat_ofInt
theorem lO:type_of% @BitVec.toNat_ofNat:= @BitVec.toNat_ofNat
theorem ah:type_of% @Bool.and_eq_true:= @Bool.and_eq_true
theorem ln:type_of% @Bool.and_true:= @Bool.and_true
theorem gG:type_of% @Bool.eq_false_or_eq_true:= @Bool.eq_false_or_eq_true
theorem eM:type_of% @Bool.false_and:= @Bool.false_and
theorem bN:type_of% @Bool.false_eq_true:= @Bool.false_eq_true
theorem bC:type_of% @Bool.not_eq_true':= @Bool.not_eq_true'
theorem dm:type_of% @Bool.not_false:= @Bool.not_false
theorem bM:type_of% @Bool.not_true:= @Bool.not_true
theorem fD:type_of% @Bool.or_eq_true:= @Bool.or_eq_true
theorem bW:type_of% @Bool.true_and:= @Bool.true_and
theorem iJ:type_of% @Int.emod_lt_of_pos:= @Int.emod_lt_of_pos
theorem jb:type_of% @Int.emod_nonneg:= @Int.emod_nonneg
theorem eY:type_of% @Int.le_refl:= @Int.le_refl
theorem mn:type_of% @Int.mul_nonneg:= @Int.mul_nonneg
theorem iK:type_of% @Int.tdiv_eq_ediv_of_nonneg:= @Int.tdiv_eq_ediv_of_nonneg
theorem fT:type_of% @Int.tmod_eq_emod_of_nonneg:= @Int.tmod_eq_emod_of_nonneg
theorem aa:type_of% @Int.toNat_natCast:= @Int.toNat_natCast
theorem b5:type_of% @Int.toNat_zero:= @Int.toNat_zero
theorem mo:type_of% @Int.zero_add:= @Int.zero_add
theorem jB:type_of% @List.Perm.refl:= @List.Perm.refl
theorem gH:type_of% @List.all_cons:= @List.all_cons
theorem cY:type_of% @List.all_eq_true:= @List.all_eq_true
theorem jc:type_of% @List.any_eq_false:= @List.any_eq_false
theorem kN:type_of% @List.any_eq_true:= @List.any_eq_true
theorem bw:type_of% @List.append_assoc:= @List.append_assoc
theorem cM:type_of% @List.append_nil:= @List.append_nil
theorem du:type_of% @List.cons.injEq:= @List.cons.injEq
theorem kO:type_of% @List.cons_append:= @List.cons_append
theorem iG:type_of% @List.drop_append:= @List.drop_append
theorem eN:type_of% @List.drop_drop:= @List.drop_drop
theorem ax:type_of% @List.drop_eq_getElem_cons:= @List.drop_eq_getElem_cons
theorem fU:type_of% @List.drop_eq_nil_of_le:= @List.drop_eq_nil_of_le
theorem aY:type_of% @List.drop_length:= @List.drop_length
theorem fV:type_of% @List.drop_of_length_le:= @List.drop_of_length_le
theorem lf:type_of% @List.drop_set_of_lt:= @List.drop_set_of_lt
theorem mq:type_of% @List.drop_take:= @List.drop_take
theorem aI:type_of% @List.drop_zero:= @List.drop_zero
theorem aQ:type_of% @List.eq_nil_of_length_eq_zero:= @List.eq_nil_of_length_eq_zero
theorem jd:type_of% @List.ext_getElem?:= @List.ext_getElem?
theorem jC:type_of% @List.filter_cons:= @List.filter_cons
theorem jD:type_of% @List.filter_cons_of_neg:= @List.filter_cons_of_neg
theorem gY:type_of% @List.filter_eq_self:= @List.filter_eq_self
theorem lQ:type_of% @List.filter_filter:= @List.filter_filter
theorem fW:type_of% @List.flatten_cons:= @List.flatten_cons
theorem jE:type_of% @List.flatten_nil:= @List.flatten_nil
theorem cG:type_of% @List.foldl_cons:= @List.foldl_cons
theorem fy:type_of% @List.foldl_nil:= @List.foldl_nil
theorem jx:type_of% @List.getD_cons_zero:= @List.getD_cons_zero
theorem aC:type_of% @List.getD_eq_getElem?_getD:= @List.getD_eq_getElem?_getD
theorem eE:type_of% @List.getElem?_append_left:= @List.getElem?_append_left
theorem jF:type_of% @List.getElem?_cons_succ:= @List.getElem?_cons_succ
theorem eV:type_of% @List.getElem?_cons_zero:= @List.getElem?_cons_zero
theorem eZ:type_of% @List.getElem?_drop:= @List.getElem?_drop
theorem cd:type_of% @List.getElem?_eq_getElem:= @List.getElem?_eq_getElem
theorem dn:type_of% @List.getElem?_eq_none:= @List.getElem?_eq_none
theorem dj:type_of% @List.getElem?_eq_some_iff:= @List.getElem?_eq_some_iff
theorem ez:type_of% @List.getElem?_map:= @List.getElem?_map
theorem dV:type_of% @List.getElem?_set_ne:= @List.getElem?_set_ne
theorem cV:type_of% @List.getElem?_take:= @List.getElem?_take
theorem bH:type_of% @List.getElem_mem:= @List.getElem_mem
theorem av:type_of% @List.length_append:= @List.length_append
theorem aG:type_of% @List.length_cons:= @List.length_cons
theorem cq:type_of% @List.length_drop:= @List.length_drop
theorem fv:type_of% @List.length_filter_le:= @List.length_filter_le
theorem cg:type_of% @List.length_map:= @List.length_map
theorem aZ:type_of% @List.length_nil:= @List.length_nil
theorem cJ:type_of% @List.length_replicate:= @List.length_replicate
theorem gW:type_of% @List.length_set:= @List.length_set
theorem bI:type_of% @List.length_take:= @List.length_take
theorem lG:type_of% @List.map_append:= @List.map_append
theorem ga:type_of% @List.map_congr_left:= @List.map_congr_left
theorem bJ:type_of% @List.map_cons:= @List.map_cons
theorem fE:type_of% @List.map_nil:= @List.map_nil
theorem bp:type_of% @List.mem_append:= @List.mem_append
theorem kB:type_of% @List.mem_append_left:= @List.mem_append_left
theorem bY:type_of% @List.mem_cons:= @List.mem_cons
theorem aH:type_of% @List.mem_cons_of_mem:= @List.mem_cons_of_mem
theorem aK:type_of% @List.mem_cons_self:= @List.mem_cons_self
theorem dP:type_of% @List.mem_filter:= @List.mem_filter
theorem iU:type_of% @List.mem_iff_getElem?:= @List.mem_iff_getElem?
theorem c7:type_of% @List.mem_map:= @List.mem_map
theorem gZ:type_of% @List.mem_map_of_mem:= @List.mem_map_of_mem
theorem cR:type_of% @List.mem_of_getElem?:= @List.mem_of_getElem?
theorem bO:type_of% @List.mem_singleton:= @List.mem_singleton
theorem bh:type_of% @List.nil_append:= @List.nil_append
theorem c8:type_of% @List.nodup_cons:= @List.nodup_cons
theorem iL:type_of% @List.nodup_nil:= @List.nodup_nil
theorem gA:type_of% @List.not_mem_nil:= @List.not_mem_nil
theorem e8:type_of% @List.pairwise_cons:= @List.pairwise_cons
theorem fw:type_of% @List.set_getElem_self:= @List.set_getElem_self
theorem eh:type_of% @List.singleton_append:= @List.singleton_append
theorem fX:type_of% @List.size_toArray:= @List.size_toArray
theorem iH:type_of% @List.take_append:= @List.take_append
theorem cK:type_of% @List.take_append_drop:= @List.take_append_drop
theorem eB:type_of% @List.take_append_of_le_length:= @List.take_append_of_le_length
theorem c9:type_of% @List.take_length:= @List.take_length
theorem bg:type_of% @List.take_of_length_le:= @List.take_of_length_le
theorem lg:type_of% @List.take_succ_cons:= @List.take_succ_cons
theorem iM:type_of% @List.take_take:= @List.take_take
theorem eO:type_of% @List.take_zero:= @List.take_zero
theorem dJ:type_of% @Nat.add_assoc:= @Nat.add_assoc
theorem mu:type_of% @Nat.add_comm:= @Nat.add_comm
theorem dI:type_of% @Nat.add_mul:= @Nat.add_mul
theorem gU:type_of% @Nat.add_sub_cancel_left:= @Nat.add_sub_cancel_left
theorem cn:type_of% @Nat.add_zero:= @Nat.add_zero
theorem ei:type_of% @Nat.eq_of_beq_eq_true:= @Nat.eq_of_beq_eq_true
theorem jX:type_of% @Nat.eq_zero_or_pos:= @Nat.eq_zero_or_pos
theorem fx:type_of% @Nat.le_of_ble_eq_true:= @Nat.le_of_ble_eq_true
theorem az:type_of% @Nat.le_refl:= @Nat.le_refl
theorem kP:type_of% @Nat.le_trans:= @Nat.le_trans
theorem iA:type_of% @Nat.lt_irrefl:= @Nat.lt_irrefl
theorem lR:type_of% @Nat.lt_of_lt_of_le:= @Nat.lt_of_lt_of_le
theorem kQ:type_of% @Nat.lt_or_ge:= @Nat.lt_or_ge
theorem dQ:type_of% @Nat.min_eq_left:= @Nat.min_eq_left
theorem cW:type_of% @Nat.mul_le_mul_right:= @Nat.mul_le_mul_right
theorem nN:type_of% @Nat.mul_one:= @Nat.mul_one
theorem jP:type_of% @Nat.one_mul:= @Nat.one_mul
theorem iV:type_of% @Nat.sub_eq_zero_of_le:= @Nat.sub_eq_zero_of_le
theorem aR:type_of% @Nat.zero_add:= @Nat.zero_add
theorem aP:type_of% @Nat.zero_le:= @Nat.zero_le
theorem kS:type_of% @Nat.zero_mul:= @Nat.zero_mul
theorem eu:type_of% @Option.getD_some:= @Option.getD_some
theorem bS:type_of% @Option.isSome_iff_exists:= @Option.isSome_iff_exists
theorem eG:type_of% @Option.map_eq_some_iff:= @Option.map_eq_some_iff
theorem dE:type_of% @Option.map_some:= @Option.map_some
theorem ba:type_of% @Option.some.inj:= @Option.some.inj
theorem au:type_of% @Option.some.injEq:= @Option.some.injEq
theorem cE:type_of% @Prod.mk.injEq:= @Prod.mk.injEq
theorem je:type_of% @Sum.getRight?_inr:= @Sum.getRight?_inr
theorem kC:type_of% @Sum.isLeft_inr:= @Sum.isLeft_inr
end Go.Ab
namespace Go.Ab
inductive Ty where
 |int (k:IntKind) | bool | str | slice (t:Ty) | unit | pair (a b:Ty) | arr (n:Nat) (t:Ty)
 |gj (t:Ty)
 |mD (t:Ty)
 deriving DecidableEq,Inhabited
@[reducible] def Ty.den:Ty->Type
 | .int _=>Int
 | .bool=>Bool
 | .str=>ByteArray
 | .slice t=>List t.den
 | .unit=>Unit
 | .pair a b=>a.den×b.den
 | .arr _ t=>List t.den
 | .gj t=>Option (List t.den)
 | .mD t=>Option t.den
def Ty.size:Ty->Nat
 | .unit=>0
 | .pair a b=>a.size+b.size
 | .arr n t=>n*t.size
 | .int _ | .bool | .str | .slice _ | .gj _ | .mD _=>1
def Ty.agg:Ty->Bool
 | .unit | .pair _ _ | .arr _ _=>true
 | .int _ | .bool | .str | .slice _ | .gj _ | .mD _=>false
def Ty.zero:(t:Ty)->t.den
 | .int _=>(0:Int)
 | .bool=>false
 | .str=>ByteArray.empty
 | .slice _=> []
 | .unit=>()
 | .pair a b=>(a.zero,b.zero)
 | .arr n t=>List.replicate n t.zero
 | .gj _=>none
 | .mD _=>none
def Ty.comp:Ty->Bool
 | .slice _ | .gj _ | .mD _=>false
 | .pair a b=>a.comp && b.comp
 | .arr _ t=>t.comp
 | .int _ | .bool | .str | .unit=>true
def j1{α:Type}(f:α->α->Bool):List α->List α->Bool
 |[],[]=>true
 |x::xs,y::ys=>f x y && j1 f xs ys
 |_,_=>false
def Ty.beq:(t:Ty)->t.den->t.den->Bool
 | .int _,x,y=>(x:Int)==y
 | .bool,x,y=>(x:Bool)==y
 | .str,x,y=>(x:ByteArray).toList==(y:ByteArray).toList
 | .slice t,x,y=>j1 t.beq x y
 | .unit,_,_=>true
 | .pair a b,x,y=>a.beq x.1 y.1 && b.beq x.2 y.2
 | .arr _ t,x,y=>j1 t.beq x y
 | .gj t,x,y=>j1 t.beq (x.getD []) (y.getD [])
 | .mD _,_,_=>false
def ni(t t':Ty)(x:t.den):Option t'.den:=if h:t=t' then some (h▸x) else none
def AO:(a b:Ty)->Option (a.den->b.den)
 | .gj t,.slice t'=>if h:t=t' then some λo=>cast (congrArg (λt:Ty=>List t.den) h) (o.getD []) else none
 | .slice t,.gj t'=>if h:t=t' then some λl=>some (cast (congrArg (λt:Ty=>List t.den) h) l) else none
 | .pair a b,.pair c d=>match AO a c,AO b d with
  |some f,some k=>some λx=>(f x.1,k x.2)
  |_,_=>none
 | .slice a,.slice b=>match AO a b with
  |some f=>some (List.map f)
  |none=>none
 |a,b=>if h:a=b then some (cast (congrArg Ty.den h)) else none
def Rm(a b:Ty)(x:a.den):b.den:=match AO a b with | some f=>f x | none=>b.zero
def sH(t t':Ty)(x:t.den):Option t'.den:=
 match ni t t' x with
 |some y=>some y
 |none=>match AO t t' with
  |some f=>some (f x)
  |none=>none
def nth(t:Ty)(l:List t.den)(i:Nat):t.den:=l.getD i t.zero
inductive Id where
 |dw (k:Nat)
 |new (site j:Nat)
 deriving DecidableEq,Inhabited
inductive tJ where
 |fst | snd
 |idx (i:Nat)
 |arr
structure nf where
 y:Nat
 ps:Array Tmp
 as:Code
 b:Code
inductive aw where
 |undef
 |gone
 |dp | mi | nX | qN
 |d (t:Ty) (x:t.den)
 |pr (a b:aw)
 |ptr (id:Id) (ver:Nat) (p:List tJ) (n:Nat)
 |eS (t:Ty) (x:t.den)
 |cO (id:Id) (ver:Nat) (p:List tJ) (c i len:Nat)
 |fn (f:FuncId) (caps:aw)
 |cons (a b:aw)
 |nil
 |vec (e:TypeId) (t:Ty) (l:List t.den)
 |sb (l:List Int)
 |bx (e:TypeId) (z:Nat) (c:aw)
 |l9 (id:Id) (ver:Nat)
 |mp (k v:Ty) (l:List (k.den×v.den))
 |ml (q:Id) (ver:Nat) (k v:Ty) (rest:List (k.den×v.den)) (cur:Option (k.den×v.den))
 |yl (id:Id) (ver:Nat)
 |ow (c:nf) (frame:aw) (p:Nat)
inductive dv where
 |dead
 |obj (ver:Nat) (fr:Bool) (c:aw)
structure AS where
 b8:List aw
 cj:List dv
 news:List (List dv)
def bm(n:Nat)(l:List aw):List aw:=List.replicate n .undef++l
def cS(n:Nat)(l:List (List dv)):List (List dv):=List.replicate n []++l
inductive Out(α:Type):Type 1 where
 |ok (a:α)
 |fail
 |mV (c:Bool) (r:Out α)
 |get {β:Type} (x:Option β) (f:β->Out α)
 |br (c:Bool) (a b:Out α)
def Out.eval{α:Type}:Out α->Option α
 | .ok a=>some a
 | .fail=>none
 | .mV c r=>match c with | true=>r.eval | false=>none
 | .get x f=>match x with | some y=>(f y).eval | none=>none
 | .br c a b=>match c with | true=>a.eval | false=>b.eval
def aN{α:Type}(c:Bool)(x y:Option α):Option α:=match c with | true=>x | false=>y
def aB{α β:Type}(x:Option α)(f:α->Option β):Option β:=match x with | some a=>f a | none=>none
def Out.run{α R:Type}:Out α->(α->Option R)->Option R
 | .ok a,k=>k a
 | .fail,_=>none
 | .mV c r,k=>aN c (r.run k) none
 | .get x f,k=>aB x λy=>(f y).run k
 | .br c a b,k=>aN c (a.run k) (b.run k)
def Out.bind{α β:Type}:Out α->(α->Out β)->Out β
 | .ok a,f=>f a
 | .fail,_=> .fail
 | .mV c r,f=> .mV c (r.bind f)
 | .get x g,f=> .get x λy=>(g y).bind f
 | .br c a b,f=> .br c (a.bind f) (b.bind f)
def Out.opt{α:Type}:Option α->Out α
 |some a=> .ok a
 |none=> .fail
def Out.guard{α:Type}(c:Bool)(r:Out α):Out α:=match c with | true=>r | false=> .fail
def aw.size:aw->Nat
 | .d t _=>t.size
 | .pr a b=>a.size+b.size
 |_=>1
def aw.agg:aw->Bool
 | .d t _=>t.agg
 | .pr _ _=>true
 |_=>false
def aw.dZ:aw->Bool
 | .undef | .cons _ _ | .nil | .vec .. | .bx .. | .mp .. | .ml .. | .ow .. =>false
 |_=>true
def aw.strip:aw->aw
 | .bx _ _ c=>c
 |c=>c
def aw.wrap:aw->aw->aw
 | .bx e z _,c=> .bx e z c
 |_,c=>c
def vS:aw->aw->aw
 | .d a x,.d b y=> .d (.pair a b) (x,y)
 |a,b=> .pr a b
def ofConst:Value->aw
 | .bool b=> .d .bool b
 | .int k n=> .d (.int k) n
 | .string s=> .d .str s
 | .slice none 0 0=> .dp
 | .pointer none=> .mi
 | .nilFunc=> .nX
 | .map none=> .qN
 |_=> .undef
def AS.slot(s:AS)(i:Nat):aw:=s.b8.getD i .undef
def AS.ev(s:AS):Operand->aw
 | .tmp t=>s.slot t
 | .const v=>ofConst v
 | .func f=> .fn f .nil
 | .global _=> .undef
def AS.put(s:AS)(dst:Option Tmp)(v:aw):AS:=
 match dst with
 |some t=> {s with b8:=s.b8.set t v}
 |none=>s
def AS.bT(s:AS):Id->Option dv
 | .dw k=>s.cj[k]?
 | .new i j=>(s.news.getD i [])[j]?
def AS.aL(s:AS)(id:Id)(e:dv):AS:=
 match id with
 | .dw k=> {s with cj:=s.cj.set k e}
 | .new i j=> {s with news:=s.news.set i ((s.news.getD i []).set j e)}
def AS.dB(s:AS)(i:Nat):Bool:=match s.news[i]? with | some []=>true | _=>false
def AS.born(s:AS)(i:Nat)(es:List dv):AS:= {s with news:=s.news.set i es}
def AS.obj(s:AS)(id:Id):Option (Nat×Bool×aw):=
 match s.bT id with
 |some (.obj v f c)=>some (v,f,c)
 |_=>none
def Az(P:Program)(nl:Bool):Nat->TypeId->Option Ty
 | 0,_=>none
 |n+1,T=>
  match P.underlying T with
  |some (.int k)=>some (.int k)
  |some .bool=>some .bool
  |some .string=>some .str
  |some (.slice e)=>match Az P false n e with | some t=>some (match nl with | true=> .gj t | false=> .slice t) | none=>none
  |some (.array k e)=>match Az P nl n e with | some t=>some (.arr k t) | none=>none
  |some (.pointer e)=>match Az P false n e with | some t=>some (.mD t) | none=>none
  |some (.struct fs)=>fs.toList.foldr (λf acc=>match Az P nl n f.type,acc with | some a,some b=>some (.pair a b) | _,_=>none) (some .unit)
  |_=>none
def EZ(P:Program):Nat->TypeId->Option Ty:=Az P false
def zeroOf(P:Program):Nat->TypeId->Option aw
 | 0,_=>none
 |n+1,T=>
  match P.underlying T with
  |some (.int k)=>some (.d (.int k) (0:Int))
  |some .bool=>some (.d .bool false)
  |some .string=>some (.d .str ByteArray.empty)
  |some (.slice _)=>some .dp
  |some (.pointer _)=>some .mi
  |some (.map _ _)=>some .qN
  |some (.func _ _ _)=>some .nX
  |some (.array k e)=>match EZ P n e with | some t=>some (.d (.arr k t) (List.replicate k t.zero)) | none=>none
  |some (.struct fs)=>fs.toList.foldr (λf acc=>match zeroOf P n f.type,acc with | some a,some b=>some (vS a b) | _,_=>none) (some (.d .unit ()))
  |_=>none
def depth:Nat:=12
def fits(P:Program)(T:TypeId)(v:aw):Bool:=
 v.dZ && (P.cellsOf T==v.size) &&
 (match P.underlying T with | some (.struct _)=>v.agg | some (.array _ _)=>v.agg | some _=> !v.agg | none=>false)
def kg:Nat->List tJ
 | 0=> [.fst]
 |n+1=> .snd::kg n
def loc:aw->List tJ->Out (Nat×aw)
 |c,[]=> .ok (0,c)
 |c,.arr::p=>loc c p
 | .pr a _,.fst::p=>loc a p
 | .pr a b,.snd::p=>(loc b p).bind λ(n,v)=> .ok (a.size+n,v)
 | .d (.pair a _) x,.fst::p=>loc (.d a x.1) p
 | .d (.pair a b) x,.snd::p=>(loc (.d b x.2) p).bind λ(n,v)=> .ok (a.size+n,v)
 | .d (.arr _ t) l,.idx i::p=> .mV (decide (i < (l:List t.den).length)) ((loc (.d t (nth t l i)) p).bind λ(n,v)=> .ok (i*t.size+n,v))
 | .vec _ t l,.idx i::p=> .mV (decide (i < l.length)) ((loc (.d t (nth t l i)) p).bind λ(n,v)=> .ok (i*t.size+n,v))
 |_,_::_=> .fail
def oQ:aw->List tJ->aw->Out aw
 |c,.arr::p,v=>oQ c p v
 | .vec ..,[],_=> .fail
 | .mp ..,[],_=> .fail
 | .ml ..,[],_=> .fail
 | .ow ..,[],_=> .fail
 |c,[],v=> .guard (v.dZ && (c.size==v.size)) (.ok v)
 | .pr a b,.fst::p,v=>(oQ a p v).bind λa'=> .ok (vS a' b)
 | .pr a b,.snd::p,v=>(oQ b p v).bind λb'=> .ok (vS a b')
 | .d (.pair a b) x,.fst::p,v=>(oQ (.d a x.1) p v).bind λa'=> .ok (vS a' (.d b x.2))
 | .d (.pair a b) x,.snd::p,v=>(oQ (.d b x.2) p v).bind λb'=> .ok (vS (.d a x.1) b')
 | .d (.arr n t) l,.idx i::p,v=> .mV (decide (i < (l:List t.den).length)) ((oQ (.d t (nth t l i)) p v).bind fun
   | .d t' y=>(Out.opt (ni t' t y)).bind λy=> .ok (.d (.arr n t) ((l:List t.den).set i y))
   |_=> .fail)
 | .vec e t l,.idx i::p,v=> .mV (decide (i < l.length)) ((oQ (.d t (nth t l i)) p v).bind fun
   | .d t' y=>(Out.opt (ni t' t y)).bind λy=> .ok (.vec e t (l.set i y))
   |_=> .fail)
 |_,_::_,_=> .fail
def AS.row(s:AS)(id:Id)(ver:Nat)(p:List tJ):Out (Nat×(t:Ty)×List t.den):=
 match s.obj id with
 |some (v,_,c)=> .guard (v==ver) ((loc c.strip p).bind fun
  | (n,.d (.arr _ t) l)=> .ok (n,⟨t,l⟩)
  | (n,.vec _ t l)=> .ok (n,⟨t,l⟩)
  |_=> .fail)
 |none=> .fail
def cut{α:Type}(l:List α)(i len:Nat):List α:=(l.drop i).take len
def AS.gR(s:AS):(t:Ty)->aw->Out t.den
 |t,.d t' x=>Out.opt (sH t' t x)
 | .slice _,.dp=> .ok []
 | .gj _,.dp=> .ok none
 | .slice t,.cO id ver p c i len=>(s.row id ver p).bind λr=> .mV (decide (r.1+i*r.2.1.size=c/\i+len<=r.2.2.length)) (Out.opt (sH (.slice r.2.1) (.slice t) (cut r.2.2 i len)))
 | .gj t,.cO id ver p c i len=>(s.row id ver p).bind λr=> .mV (decide (r.1+i*r.2.1.size=c/\i+len<=r.2.2.length)) (Out.opt (sH (.slice r.2.1) (.gj t) (cut r.2.2 i len)))
 | .pair a b,.pr x y=>(s.gR a x).bind λx=>(s.gR b y).bind λy=> .ok (x,y)
 |_,_=> .fail
def aw.shared:aw->List Id
 | .cO id _ _ _ _ _=> [id]
 | .pr a b=>a.shared++b.shared
 |_=> []
def AS.freeze(s:AS)(id:Id):AS:=
 match s.bT id with
 |some (.obj v _ c)=>s.aL id (.obj v true c)
 |_=>s
def AS.bj(s:AS):List Id->AS
 |[]=>s
 |id::ids=>(s.freeze id).bj ids
end Go.Ab
namespace Go.Ab
def Js{α:Type}(f:α->List Value->Option (List Value)):List α->List Value->Option (List Value)
 |[],cs=>some cs
 |x::xs,cs=>match f x cs with | some r=>Js f xs r | none=>none
def oW:(t:Ty)->t.den->List Value->Option (List Value)
 | .int k,x,.int k' n::r=>match decide (k=k'),decide (n=(x:Int)) with | true,true=>some r | _,_=>none
 | .bool,x,.bool b::r=>match decide (b=(x:Bool)) with | true=>some r | false=>none
 | .str,x,.string s::r=>match decide (s=(x:ByteArray)) with | true=>some r | false=>none
 | .slice _,[],.slice none 0 0::r=>some r
 | .gj _,none,.slice none 0 0::r=>some r
 | .mD _,none,.pointer none::r=>some r
 | .unit,_,r=>some r
 | .pair a b,x,r=>match oW a x.1 r with | some r'=>oW b x.2 r' | none=>none
 | .arr n t,l,r=>match decide ((l:List t.den).length=n) with | true=>Js (oW t) l r | false=>none
 |_,_,_=>none
def yq:aw->List Value->Option (List Value)
 | .d t x,r=>oW t x r
 | .dp,.slice none 0 0::r=>some r
 | .mi,.pointer none::r=>some r
 | .nX,.nilFunc::r=>some r
 | .qN,.map none::r=>some r
 | .pr a b,r=>match yq a r with | some r'=>yq b r' | none=>none
 |_,_=>none
def l5:Value->Bool | .agg _=>true | _=>false
def C1(P:Program)(T:TypeId)(z:aw):Bool:=
 match P.info? T with
 |some i=>match i.zero with
  |some zv=>(match yq z zv.cells.toList with | some []=>true | _=>false) && (l5 zv==z.agg)
  |none=>false
 |none=>false
structure jA where
 val:aw
 cj:List dv
 news:List dv
structure Entry where
 params:List (Option Ty)
 X:Type
 run:List aw->List dv->Option X
 out:List aw->List dv->X->jA
 sp:X->Out X:= .ok
 MY:∀x y,(sp x).eval=some y->y=x:=by exact λx y h=>(ba h).symm
abbrev ov:=FuncId->List aw->Option Entry
def aw.ids:aw->List Id
 | .ptr id _ _ _=> [id]
 | .cO id _ _ _ _ _=> [id]
 | .pr a b=>a.ids++b.ids
 | .cons a b=>a.ids++b.ids
 | .fn _ c=>c.ids
 | .bx _ _ c=>c.ids
 | .l9 id _=> [id]
 | .yl id _=> [id]
 | .ow _ f _=>f.ids
 | .ml id _ _ _ _ _=> [id]
 |_=> []
def dv.ids:dv->List Id
 | .obj _ _ c=>c.ids
 | .dead=> []
def AS.reach(s:AS):Nat->List Id->List Id->List Id
 | 0,_,acc=>acc
 |_+1,[],acc=>acc
 |n+1,id::todo,acc=>if acc.contains id then s.reach n todo acc else s.reach n (((s.bT id).getD .dead).ids++todo) (acc++ [id])
def idxOf(id:Id):List Id->Option Nat
 |[]=>none
 |x::xs=>if x=id then some 0 else(idxOf id xs).map (· +1)
def aw.gJ(ρ:Id->Nat->Option (Id×Nat)):aw->aw
 | .ptr id ver p n=>match ρ id ver with | some r=> .ptr r.1 r.2 p n | none=> .gone
 | .cO id ver p c i len=>match ρ id ver with | some r=> .cO r.1 r.2 p c i len | none=> .gone
 | .pr a b=> .pr (a.gJ ρ) (b.gJ ρ)
 | .cons a b=> .cons (a.gJ ρ) (b.gJ ρ)
 | .fn f c=> .fn f (c.gJ ρ)
 | .bx e z c=> .bx e z (c.gJ ρ)
 | .l9 id ver=>match ρ id ver with | some r=> .l9 r.1 r.2 | none=> .gone
 | .yl id ver=>match ρ id ver with | some r=> .yl r.1 r.2 | none=> .gone
 | .ow k f p=> .ow k (f.gJ ρ) p
 | .ml id _ k v rest cur=> .ml id 0 k v rest cur
 |v=>v
def AS.oh(s:AS)(ids:List Id)(id:Id)(ver:Nat):Option (Id×Nat):=
 match idxOf id ids,s.obj id with
 |some k,some (v,_,_)=>if v=ver then some (.dw k,0) else none
 |_,_=>none
def AS.j5(s:AS)(ids:List Id)(id:Id):dv:=
 match s.bT id with
 |some (.obj _ fr c)=> .obj 0 fr (c.gJ (s.oh ids))
 |_=> .dead
def AS.qD(s:AS)(id:Id):Nat:=match s.obj id with | some (v,_,_)=>v | none=>0
def ML(ids:List Id)(dst:Nat):Id->Id
 | .dw k=>ids.getD k (.dw 0)
 | .new _ j=> .new dst j
def AS.nv(s:AS)(ids:List Id)(dst:Nat):Id->Nat->Option (Id×Nat)
 | .dw k,v=>match ids[k]? with | some id=>some (id,s.qD id+v) | none=>none
 | .new _ j,v=>some (.new dst j,v)
def AS.lU(s:AS)(ids:List Id)(dst:Nat)(ver:Nat):dv->dv
 | .obj v fr c=> .obj (ver+v) fr (c.gJ (s.nv ids dst))
 | .dead=> .dead
def AS.conv(s:AS):List (Option Ty)->List aw->Out (List aw×List Id)
 |[],[]=> .ok ([],[])
 |some t::ps,v::vs=>(s.gR t v).bind λx=>(s.conv ps vs).bind λr=> .ok (.d t x::r.1,v.shared++r.2)
 |none::ps,v::vs=>(s.conv ps vs).bind λr=> .ok (v::r.1,r.2)
 |_,_=> .fail
def AS.iy(s0:AS)(all:List Id)(dst:Nat)(s:AS):List Id->List dv->AS
 |id::ids,e::es=>AS.iy s0 all dst (s.aL id (s0.lU all dst (s0.qD id) e)) ids es
 |_,_=>s
def aw.list:aw->List aw
 | .cons a b=>a::b.list
 |_=> []
def AS.made(s:AS)(ids:List Id)(t:Nat):List dv->AS
 |[]=>s
 |e::es=>s.born t ((e::es).map (s.lU ids t 0))
def AS.back(s:AS)(ids:List Id)(dst:Option Tmp)(g:jA):Out AS:=
 match dst with
 |some t=> .guard ((g.cj.length==ids.length) && (g.news.isEmpty || s.dB t))
   (.ok ((AS.iy s ids t (s.made ids t g.news) ids g.cj).put dst (g.val.gJ (s.nv ids t))))
 |none=> .guard ((g.cj.length==ids.length) && g.news.isEmpty) (.ok (AS.iy s ids 0 s ids g.cj))
def AS.G9(s:AS)(vs:List aw):List Id:=s.reach 64 (vs.flatMap aw.ids) []
def AS.zC(s:AS)(id:Id):Bool:=match s.obj id with | some (_,true,.mp ..)=>false | _=>true
def AS.enter(s:AS)(en:Entry)(dst:Option Tmp)(ids:List Id)(vs:List aw):Out AS:=
 .guard (ids.all λid=>(s.obj id).isSome && s.zC id)
  (.get (en.run (vs.map (aw.gJ (s.oh ids))) (ids.map (s.j5 ids))) λx=>(en.sp x).bind λx=>s.back ids dst (en.out (vs.map (aw.gJ (s.oh ids))) (ids.map (s.j5 ids)) x))
def AS.call(s:AS)(en:Entry)(dst:Option Tmp)(vs:List aw):Out AS:=
 (s.conv en.params vs).bind λr=>(s.bj r.2).enter en dst ((s.bj r.2).G9 r.1) r.1
def dF(op:BinOp)(k:IntKind)(x y:Int):Int:=
 match op with
 | .and=>k.wrap ((BitVec.ofInt k.bits x &&& BitVec.ofInt k.bits y).toNat)
 | .or=>k.wrap ((BitVec.ofInt k.bits x ||| BitVec.ofInt k.bits y).toNat)
 | .xor=>k.wrap ((BitVec.ofInt k.bits x^^^BitVec.ofInt k.bits y).toNat)
 |_=>k.wrap ((BitVec.ofInt k.bits x &&& ~~~BitVec.ofInt k.bits y).toNat)
def JS(op:BinOp)(k:IntKind)(x:Int)(k':IntKind)(y:Int):Out aw:=
 match op with
 | .shl=> .mV (decide (0<=y)) (.ok (.d (.int k) (k.wrap (x*2^(min y.toNat k.bits)))))
 | .shr=> .mV (decide (0<=y)) (.ok (.d (.int k) (x.fdiv (2^(min y.toNat k.bits)))))
 |_=> .guard (decide (k=k')) (match op with
  | .add=> .ok (.d (.int k) (k.wrap (x+y)))
  | .sub=> .ok (.d (.int k) (k.wrap (x - y)))
  | .mul=> .ok (.d (.int k) (k.wrap (x*y)))
  | .quo=> .mV (!(decide (y=0))) (.ok (.d (.int k) (k.wrap (x.tdiv y))))
  | .rem=> .mV (!(decide (y=0))) (.ok (.d (.int k) (x.tmod y)))
  | .eql=> .ok (.d .bool (x==y))
  | .neq=> .ok (.d .bool (x !=y))
  | .lss=> .ok (.d .bool (decide (x < y)))
  | .leq=> .ok (.d .bool (decide (x<=y)))
  | .gtr=> .ok (.d .bool (decide (x > y)))
  | .geq=> .ok (.d .bool (decide (x>=y)))
  |op=> .ok (.d (.int k) (dF op k x y)))
def KC(op:BinOp)(x y:ByteArray):Out aw:=
 match op with
 | .add=> .mV (decide (((x.size+y.size:Nat):Int)<=IntKind.i64.max)) (.ok (.d .str (x++y)))
 | .eql=> .ok (.d .bool (x.toList==y.toList))
 | .neq=> .ok (.d .bool (!(x.toList==y.toList)))
 | .lss=> .ok (.d .bool (Op.bytesLess x.toList y.toList))
 | .geq=> .ok (.d .bool (!(Op.bytesLess x.toList y.toList)))
 |_=> .fail
def uO(P:Program)(T:TypeId)(b:Bool):Bool:=
 match P.underlying T with | some (.struct _)=>b | some (.array _ _)=>b | some _=> !b | none=>false
def uF(P:Program)(mV:TypeId->Ty->Bool):List Field->Ty->Nat->Bool
 |[],.unit,_=>true
 |f::fs,.pair a b,off=> !(f.name== "_") && (f.offset==off) && !(a.size==0) && (P.cellsOf f.type==a.size) && uO P f.type a.agg && mV f.type a && uF P mV fs b (off+a.size)
 |_,_,_=>false
def ma(P:Program):Nat->TypeId->Ty->Bool
 | 0,_,_=>false
 |n+1,T,t=>match P.underlying T,t with
  |some (.int _),.int _=>true
  |some .bool,.bool=>true
  |some .string,.str=>true
  |some (.array m e),.arr m' t'=>(m==m') && !(t'.size==0) && (P.cellsOf e==t'.size) && uO P e t'.agg && ma P n e t'
  |some (.struct fs),t=> !P.stoodInHeld T && uF P (ma P n) fs.toList t 0
  |_,_=>false
def qj(P:Program)(T:TypeId):aw->aw->Out Bool
 | .d t x,.d t' y=>(Out.opt (ni t' t y)).bind λy=> .guard ((t.agg && !P.eqGuardType P.depth T || decide (t= .bool)) && ma P depth T t) (.ok (t.beq x y))
 | .dp,.dp=> .guard (isSl P T) (.ok true)
 | .d (.slice t) l,.dp=> .guard (isSl P T) (.mV (decide (0 < (l:List t.den).length)) (.ok false))
 | .dp,.d (.slice t) l=> .guard (isSl P T) (.mV (decide (0 < (l:List t.den).length)) (.ok false))
 | .cO _ _ _ _ _ len,.dp=> .guard (isSl P T) (.mV (decide (0 < len)) (.ok false))
 | .dp,.cO _ _ _ _ _ len=> .guard (isSl P T) (.mV (decide (0 < len)) (.ok false))
 | .mi,.mi=> .guard (isPt P T) (.ok true)
 | .ptr ..,.mi=> .guard (isPt P T) (.ok false)
 | .mi,.ptr .. => .guard (isPt P T) (.ok false)
 | .d (.mD t) x,.mi=> .guard (isPt P T) (.ok (x:Option t.den).isNone)
 | .mi,.d (.mD t) x=> .guard (isPt P T) (.ok (x:Option t.den).isNone)
 | .nX,.nX=> .guard (isFn P T) (.ok true)
 | .fn ..,.nX=> .guard (isFn P T) (.ok false)
 | .nX,.fn .. => .guard (isFn P T) (.ok false)
 |_,_=> .fail
where
 isSl (P:Program) (T:TypeId):Bool:=match P.underlying T with | some (.slice _)=>true | _=>false
 isPt (P:Program) (T:TypeId):Bool:=match P.underlying T with | some (.pointer _)=>true | _=>false
 isFn (P:Program) (T:TypeId):Bool:=match P.underlying T with | some (.func _ _ _)=>true | _=>false
def Na(P:Program)(T:TypeId)(op:BinOp)(x y:aw):Out aw:=
 match x,y with
 | .d (.int k) a,.d (.int k') b=>JS op k a k' b
 | .d .str a,.d .str b=>KC op a b
 |x,y=>match op with
  | .eql=>(qj P T x y).bind λb=> .ok (.d .bool b)
  | .neq=>(qj P T x y).bind λb=> .ok (.d .bool (!b))
  |_=> .fail
def Q0(op:UnOp)(x:aw):Out aw:=
 match op,x with
 | .not,.d .bool b=> .ok (.d .bool (!b))
 | .neg,.d (.int k) n=> .ok (.d (.int k) (k.wrap (0 - n)))
 | .xor,.d (.int k) n=> .ok (.d (.int k) (dF .xor k (if k.signed then -1 else k.max) n))
 |_,_=> .fail
def cr(s:ByteArray):List Int:=s.data.toList.map λb=>(b.toNat:Int)
def eI(l:List Int):ByteArray:=⟨(l.map λn=>UInt8.ofNat n.toNat).toArray⟩
def AS.Ge(s:AS)(t:Ty)(v:aw):Out t.den:=s.gR t v
def Jo(P:Program)(s:AS)(obj:Bool)(src dst:TypeId)(x:aw):Out aw:=
 match x,P.underlying dst,P.underlying src with
 | .d (.int _) n,some (.int k),some _=> .ok (.d (.int k) (k.wrap n))
 | .d .str a,some .string,some _=> .ok (.d .str a)
 | .d .str a,some (.slice e),some _=>match P.underlying e with
  |some (.int .u8)=>match obj with | true=> .ok (.sb (cr a)) | false=> .ok (.d (.slice (.int .u8)) (cr a))
  |_=> .fail
 |x,some .string,some (.slice e)=>match P.underlying e with
  |some (.int .u8)=>(s.Ge (.slice (.int .u8)) x).bind λl=> .ok (.d .str (eI l))
  |_=> .fail
 |_,_,_=> .fail
def Jp(P:Program)(src dst:TypeId)(l:List Int):Out aw:=
 match P.underlying dst,P.underlying src with
 |some (.slice e),some (.slice _)=>match P.underlying e with
  |some (.int .u8)=> .guard (src==dst) (.ok (.d (.slice (.int .u8)) l))
  |_=> .fail
 |_,_=> .fail
def Bo(P:Program)(s:AS)(obj:Bool)(src dst:TypeId)(x:aw):Out aw:=
 match x with
 | .sb l=>Jp P src dst l
 |x=>Jo P s obj src dst x
def Dv(P:Program)(s:AS)(d:Option Tmp)(src dst:TypeId)(id:Id)(ver len:Nat):Out AS:=
 match s.obj id,P.underlying dst with
 |some (v,false,.vec _ (.int .u8) l),some (.slice e)=>match P.underlying e with
  |some (.int .u8)=> .guard ((v==ver) && (src==dst)) (.mV (decide (0 < len/\len=(l:List Int).length)) (.ok ((s.aL id .dead).put d (.d (.slice (.int .u8)) l))))
  |_=> .fail
 |_,_=> .fail
def Bp(P:Program)(s:AS)(src dst:TypeId)(id:Id)(ver:Nat):Out aw:=
 match s.obj id with
 |some (v,_,.bx e 0 c)=>match P.underlying src,P.underlying dst with
  |some (.pointer t),some .unsafePointer=> .guard ((v==ver) && !(P.cellsOf t==0) && !(c.size==0)) (.ok (.ptr id ver [] 0))
  |some .unsafePointer,some (.pointer u)=> .guard ((v==ver) && !(P.cellsOf u==0) && liesAt P P.depth e (c.size / P.cellsOf e) 0 u 1) (.ok (.ptr id ver [] 0))
  |_,_=> .fail
 |_=> .fail
def Qt(P:Program)(T:TypeId):Bool:=match P.underlying T with | some (.pointer u)=>(P.info? u).isSome | _=>false
def OI(P:Program)(s:AS)(T:TypeId)(op:BinOp)(i:Id)(v:Nat)(j:Id)(w:Nat):Out aw:=
 match s.obj i with
 |some (v',_,_)=> .guard (decide (i=j) && (v==w) && (v==v') && Qt P T) (match op with | .eql=> .ok (.d .bool true) | .neq=> .ok (.d .bool false) | _=> .fail)
 |none=> .fail
def EU(P:Program)(s:AS)(d:Option Tmp)(T:TypeId)(id:Id)(ver:Nat)(n:Int):Out AS:=
 match s.obj id,P.underlying T with
 |some (v,false,.vec e (.int .u8) l),some (.pointer u)=> .guard ((v==ver) && (u==e) && (P.cellsOf e==1))
   (.mV (decide (0 < n/\n<=((l:List Int).length:Int))) (.ok ((s.aL id .dead).put d (.d .str (eI ((l:List Int).take n.toNat))))))
 |_,_=> .fail
def asInt:aw->Out Int
 | .d (.int _) n=> .ok n
 |_=> .fail
def bounds(s:AS)(n:Nat)(lo hi:Option Operand):Out (Nat×Nat):=
 (match hi with
  |some h=>(asInt (s.ev h)).bind λh=> .mV (decide (0<=h/\h<=(n:Int))) (.ok h.toNat)
  |none=> .ok n).bind λh=>
 (match lo with
  |some l=>(asInt (s.ev l)).bind λl=> .mV (decide (0<=l/\l<=(h:Int))) (.ok l.toNat)
  |none=> .ok 0).bind λl=> .ok (l,h)
def jg(P:Program)(T:TypeId):Option Nat:=
 match P.underlying T with
 |some (.array _ e)=>match P.cellsOf e with | 0=>none | z+1=>some (z+1)
 |some (.slice e)=>match P.cellsOf e with | 0=>none | z+1=>some (z+1)
 |_=>none
def oM(P:Program)(T:TypeId):Option Nat:=
 match P.underlying T with
 |some (.array n _)=>some n
 |_=>none
def tc(P:Program)(s:AS)(T:TypeId)(x:aw)(lo hi:Option Operand):Out aw:=
 match x with
 | .d .str a=> .guard (match P.underlying T with | some .string=>true | _=>false) ((bounds s a.size lo hi).bind λb=> .ok (.d .str (a.extract b.1 b.2)))
 | .d (.slice t) l=> .guard (match jg P T,oM P T with | some z,none=>z==t.size | _,_=>false)
   ((bounds s (l:List t.den).length lo hi).bind λb=> .ok (.d (.slice t) (cut l b.1 (b.2 - b.1))))
 | .dp=> .guard (match jg P T,oM P T with | some _,none=>true | _,_=>false) ((bounds s 0 lo hi).bind λ_=> .ok .dp)
 | .cO id ver p c i len=>(s.row id ver p).bind λr=> .guard (match jg P T,oM P T with | some z,none=>z==r.2.1.size | _,_=>false)
   ((bounds s len lo hi).bind λb=> .ok (.cO id ver p (c+b.1*r.2.1.size) (i+b.1) (b.2 - b.1)))
 | .ptr id ver p n=>(s.row id ver p).bind λr=> .guard (match jg P T,oM P T with | some z,some _=>z==r.2.1.size | _,_=>false)
   (.mV (decide (oM P T=some r.2.2.length/\r.1=n)) ((bounds s ((oM P T).getD 0) lo hi).bind λb=> .ok (.cO id ver (p++ [.arr]) (n+b.1*r.2.1.size) b.1 (b.2 - b.1))))
 | .eS (.arr n t) l=> .guard (match jg P T,oM P T with | some z,some m=>(z==t.size) && (m==n) | _,_=>false)
   ((bounds s n lo hi).bind λb=> .ok (.d (.slice t) (cut l b.1 (b.2 - b.1))))
 |_=> .fail
def LF:aw->Int
 | .d (.slice t) l=>((l:List t.den).length:Int)
 | .cO _ _ _ _ _ len=>(len:Int)
 | .dp=>0
 |_=> -1
def Dy:Option Operand->aw->aw
 |some _,.cO id ver p c i len=> .cO id ver (p++ [.arr]) c i len
 |_,v=>v
def wA(P:Program)(s:AS)(T:TypeId)(x:aw)(lo:Option Operand)(h m:Operand):Out aw:=
 (asInt (s.ev h)).bind λhv=>(asInt (s.ev m)).bind λmv=> .mV (decide (0<=hv/\hv<=mv/\mv<=LF x)) ((tc P s T x lo (some h)).bind λv=> .ok (Dy (some m) v))
def lZ(P:Program)(s:AS)(T:TypeId)(x:aw)(i:Int):Out aw:=
 match x with
 | .d (.slice t) l=> .guard (match jg P T,oM P T with | some z,none=>z==t.size | _,_=>false)
   (.mV (decide (0<=i/\i < ((l:List t.den).length:Int))) (.ok (.eS t (nth t l i.toNat))))
 | .eS (.arr n t) l=> .guard (match jg P T,oM P T with | some z,some m=>(z==t.size) && (m==n) | _,_=>false)
   (.mV (decide (0<=i/\i < (n:Int))) (.ok (.eS t (nth t l i.toNat))))
 | .cO id ver p c j len=>(s.row id ver p).bind λr=> .guard (match jg P T,oM P T with | some z,none=>z==r.2.1.size | _,_=>false)
   (.mV (decide (0<=i/\i < (len:Int))) (.ok (.ptr id ver (p++ [.idx (j+i.toNat)]) (c+i.toNat*r.2.1.size))))
 | .ptr id ver p n=> .guard (match jg P T,oM P T with | some _,some _=>true | _,_=>false)
   (.mV (decide (0<=i/\i < (((oM P T).getD 0:Nat):Int))) (.ok (.ptr id ver (p++ [.idx i.toNat]) (n+i.toNat*(jg P T).getD 0))))
 |_=> .fail
def fieldInfo(P:Program)(T:TypeId)(f:Nat):Option (Nat×TypeId):=
 match P.underlying T with
 |some (.struct fs)=>match fs[f]? with | some x=>some (x.offset,x.type) | none=>none
 |_=>none
def partOf:aw->Nat->Option (Nat×aw)
 | .d (.pair a _) x,0=>some (0,.d a x.1)
 | .d (.pair a b) x,n+1=>match partOf (.d b x.2) n with | some (o,v)=>some (a.size+o,v) | none=>none
 | .pr a _,0=>some (0,a)
 | .pr a b,n+1=>match partOf b n with | some (o,v)=>some (a.size+o,v) | none=>none
 |_,_=>none
def rA(P:Program)(T:TypeId)(x:aw)(f:Nat):Out aw:=
 match fieldInfo P T f with
 |some (o,ft)=> .guard (!(P.cellsOf ft==0)) (match x with
  | .ptr id ver p n=> .ok (.ptr id ver (p++kg f) (n+o))
  | .eS t x=>match partOf (.d t x) f with
   |some (o',.d t' y)=> .guard (o==o') (.ok (.eS t' y))
   |_=> .fail
  | .d (.mD t) x=> .get (x:Option t.den) λx=>match partOf (.d t x) f with
   |some (o',.d t' y)=> .guard (o==o') (.ok (.eS t' y))
   |_=> .fail
  |_=> .fail)
 |none=> .fail
def Cr(P:Program)(T:TypeId)(x:aw)(f:Nat):Out aw:=
 match fieldInfo P T f,partOf x f with
 |some (o,ft),some (o',v)=> .guard ((o==o') && fits P ft v) (.ok v)
 |_,_=> .fail
def CC(P:Program)(T:TypeId)(x:aw)(i:Int):Out aw:=
 match x,P.underlying T with
 | .d (.arr n t) l,some (.array m e)=> .guard ((n==m) && fits P e (.d t t.zero)) (.mV (decide (0<=i/\i < (n:Int))) (.ok (.d t (nth t l i.toNat))))
 | .d .str a,some .string=> .mV (decide (0<=i/\i < (a.size:Int))) (.ok (.d (.int .u8) ((a.data.toList.getD i.toNat 0).toNat:Int)))
 |_,_=> .fail
def Og:aw->Out aw
 | .d (.gj t) l=> .mV (l:Option (List t.den)).isNone (.ok .dp)
 |v=> .ok v
def vN(P:Program)(s:AS)(T:TypeId)(x:aw):Out aw:=
 match x with
 | .ptr id ver p n=>match s.obj id with
  |some (v,_,c)=> .guard (v==ver) ((loc c.strip p).bind λr=> .guard (fits P T r.2) (.mV (decide (r.1=n)) (Og r.2)))
  |none=> .fail
 | .eS t y=> .guard (fits P T (.d t y)) (.ok (.d t y))
 | .d (.mD t) y=> .get (y:Option t.den) λy=> .guard (fits P T (.d t y)) (.ok (.d t y))
 |_=> .fail
def td(P:Program)(s:AS)(T:TypeId)(x v:aw):Out AS:=
 match x with
 | .ptr id ver p n=>match s.obj id with
  |some (ve,fr,c)=> .guard ((ve==ver) && !fr && fits P T v) ((loc c.strip p).bind λr=> .guard (fits P T r.2) (.mV (decide (r.1=n)) ((oQ c.strip p v).bind λc'=> .ok (s.aL id (.obj ve fr (c.wrap c'))))))
  |none=> .fail
 |_=> .fail
def LD(P:Program)(T:TypeId)(x:aw):Out aw:=
 match P.underlying T,x with
 |some .string,.d .str a=> .ok (.d (.int .i64) (a.size:Int))
 |some (.slice _),.d (.slice t) l=> .ok (.d (.int .i64) ((l:List t.den).length:Int))
 |some (.slice _),.dp=> .ok (.d (.int .i64) (0:Int))
 |some (.slice _),.cO _ _ _ _ _ len=> .ok (.d (.int .i64) (len:Int))
 |some (.array n _),_=> .ok (.d (.int .i64) (n:Int))
 |_,_=> .fail
def sR(P:Program)(s:AS)(t:Ty)(X:TypeId)(x:aw):Out (List t.den):=
 match x with
 | .d .str a=>match P.underlying X with
  |some .string=>Out.opt (ni (.slice (.int .u8)) (.slice t) (cr a))
  |_=> .fail
 |x=>match P.underlying X with
  |some (.slice _)=>s.Ge (.slice t) x
  |_=> .fail
def dX(n b:Nat):Bool:=decide (n*b<=140737488355328/\n<=9223372036854775807)
def rz(P:Program)(nl:Bool)(T:TypeId):Option (TypeId×Ty×Nat):=
 match P.underlying T with
 |some (.slice e)=>match Az P nl depth e with
  |some t=>match(P.cellsOf e==t.size) && !(t.size==0) && C1 P e (.d t t.zero) with | true=>some (e,t,P.bytesOf e) | false=>none
  |none=>none
 |_=>none
def yJ(P:Program)(T:TypeId):Option (TypeId×Ty×Nat):=rz P false T
def Cn(P:Program)(T:TypeId):Option (TypeId×Ty×Nat):=
 match Nat.ble 100000 T with
 |true=>rz P true (T - 100000)
 |false=>rz P false T
def DQ(P:Program)(s:AS)(dst:Option Tmp)(T X:TypeId)(n:Int):Out AS:=
 match yJ P T,dst,P.underlying X with
 |some (e,t,b),some q,some (.int _)=> .guard (s.dB q) (.mV (decide (0 < n) && dX n.toNat b)
   (.ok ((s.born q [.obj 0 false (.vec e t (List.replicate n.toNat t.zero))]).put dst (.cO (.new q 0) 0 [] 0 0 n.toNat))))
 |_,_,_=> .fail
def Ib(mx:Bool):List aw->Out aw
 |[.d (.int k) x,.d (.int k') y]=> .guard (decide (k=k')) (.ok (.d (.int k) (match mx with | true=>(if x < y then y else x) | false=>(if y < x then y else x))))
 |[.d (.int k) x,.d (.int k') y,.d (.int k2) z]=> .guard (decide (k=k') && decide (k=k2)) (.ok (.d (.int k) (match mx with | true=>(if(if x < y then y else x) < z then z else(if x < y then y else x)) | false=>(if z < (if y < x then y else x) then z else(if y < x then y else x)))))
 |_=> .fail
def oT(P:Program)(s:AS)(nl dt:Bool)(dst:Option Tmp)(T X:TypeId)(x y:aw):Out AS:=
 match rz P nl T,dst with
 |some (e,t,b),some q=>(sR P s t X y).bind λm=>
  match x with
  | .dp=>match dt with
   |true=> .mV (dX m.length b && decide (0 < m.length)) (.ok (s.put dst (.d (.gj t) (some m))))
   |false=> .guard (s.dB q) (.mV (dX m.length b) (.ok ((s.born q [.obj 0 false (.vec e t m)]).put dst (.cO (.new q 0) 0 [] 0 0 m.length))))
  | .cO id ver [] 0 0 len=>match s.obj id with
   |some (v,fr,.vec e' t' l)=> .guard ((v==ver) && (e==e')) ((Out.opt (ni (.slice t') (.slice t) l)).bind λl=>
     .mV (decide (len<=l.length)) <| .mV ((!fr) || decide (len=l.length)) (.mV (dX (len+m.length) b)
      (.ok ((s.aL id (.obj (v+1) fr (.vec e t (l.take len++m)))).put dst (.cO id (v+1) [] 0 0 (len+m.length))))))
   |_=> .fail
  |_=> .fail
 |_,_=> .fail
def y9(P:Program)(s:AS)(dst:Option Tmp)(T X:TypeId)(x y:aw):Out AS:=
 match yJ P T,x with
 |some (_,t,_),.cO id ver [.arr] 0 0 len=>(sR P s t X y).bind λm=>match s.obj id with
  |some (ve,false,.d (.arr n t') l)=> .guard ((ve==ver) && (len==n)) ((Out.opt (ni (.slice t') (.slice t) l)).bind λl=> .mV (decide (m.length<=n))
    (.ok ((s.aL id (.obj ve false (.d (.arr n t) (m++(l:List t.den).drop m.length)))).put dst (.d (.int .i64) (m.length:Int)))))
  |_=> .fail
 |_,_=> .fail
def im(t:Ty)(s:AS):List (Nat×Operand)->List t.den->Out (List t.den×List Id)
 |[],l=> .ok (l,[])
 | (i,x)::ps,l=> .guard (decide (i < l.length)) ((s.gR t (s.ev x)).bind λy=>(im t s ps (l.set i y)).bind λr=> .ok (r.1,(s.ev x).shared++r.2))
def kY(P:Program)(fs:Array Field)(s:AS):List (Nat×Operand)->aw->Out aw
 |[],v=> .ok v
 | (i,x)::ps,v=>match fs[i]?,partOf v i with
  |some f,some (o,dw)=> .guard ((f.offset==o) && fits P f.type dw && fits P f.type (s.ev x)) ((oQ v (kg i) (s.ev x)).bind λv'=>kY P fs s ps v')
  |_,_=> .fail
def sF(P:Program)(s:AS)(dst:Option Tmp)(T:TypeId)(parts:List (Nat×Operand)):Out AS:=
 match P.underlying T with
 |some (.struct fs)=>match zeroOf P depth T with
  |some z=> .guard (C1 P T z && z.agg && fs.toList.all λf=>(P.info? f.type).isSome)
    ((kY P fs s parts z).bind λv=> .ok (s.put dst v))
  |none=> .fail
 |some (.array n e)=>match EZ P depth e with
  |some t=> .guard ((P.cellsOf e==t.size) && C1 P T (.d (.arr n t) (List.replicate n t.zero))) ((im t s parts (List.replicate n t.zero)).bind λr=> .ok ((s.bj r.2).put dst (.d (.arr n t) r.1)))
  |none=> .fail
 |_=> .fail
def jR(P:Program)(s:AS)(nl obj:Bool)(dst:Option Tmp)(T:TypeId)(n:Nat)(parts:List (Nat×Operand)):Out AS:=
 match rz P nl T,dst with
 |some (e,t,_),some q=> .guard (decide (n*t.size<=16777216)) ((im t s parts (List.replicate n t.zero)).bind λr=>
   match obj with
   |true=> .guard (s.dB q) (.ok (((s.bj r.2).born q [.obj 0 false (.vec e t r.1)]).put dst (.cO (.new q 0) 0 [] 0 0 r.1.length)))
   |false=> .ok ((s.bj r.2).put dst (.d (.slice t) r.1)))
 |_,_=> .fail
def l8(P:Program)(s:AS)(dst:Option Tmp)(T:TypeId)(len cap:Int):Out AS:=
 match yJ P T,dst with
 |some (e,t,b),some q=> .guard (s.dB q) (.mV (decide (0<=len/\len<=cap) && dX cap.toNat b)
   (.ok ((s.born q [.obj 0 false (.vec e t (List.replicate len.toNat t.zero))]).put dst (.cO (.new q 0) 0 [] 0 0 len.toNat))))
 |_,_=> .fail
def LY(P:Program)(T:TypeId):Bool:=
 match P.underlying T with
 |some (.struct fs)=>fs.toList.any λf=>match P.underlying f.type with | some (.pointer u)=>decide (u=T) | _=>false
 |_=>false
def boxed(P:Program)(T:TypeId)(z:aw):aw:=match LY P T with | true=> .bx T 0 z | false=>z
def Nc(dt:Bool)(t:Ty)(x:t.den):aw:=match dt with | true=> .d (.mD t) (some x) | false=> .eS t x
def Dj(P:Program)(s:AS)(obj dt:Bool)(dst:Option Tmp)(T:TypeId)(v:aw):Out AS:=
 match dst with
 |some q=>match obj with
  |true=> .guard (s.dB q && fits P T v) (.ok ((s.born q [.obj 0 false v]).put dst (.ptr (.new q 0) 0 [] 0)))
  |false=>match EZ P depth T with
   |some t=> .guard (fits P T (.d t t.zero)) ((s.gR t v).bind λx=> .ok ((s.bj v.shared).put dst (Nc dt t x)))
   |none=> .fail
 |none=> .fail
def vb(P:Program)(s:AS)(dst:Option Tmp)(T:TypeId)(x:aw):Out AS:=
 match P.underlying T with
 |some (.array n e)=>match EZ P depth e with
  |some t=> .guard ((P.cellsOf e==t.size) && !(n==0) && !(t.size==0)) ((s.gR (.slice t) x).bind λl=> .mV (decide (n<=(l:List t.den).length)) (.ok ((s.bj x.shared).put dst (.eS (.arr n t) (l.take n)))))
  |none=> .fail
 |_=> .fail
def lT(s:AS):List Operand->aw
 |[]=> .nil
 |x::xs=> .cons (s.ev x) (lT s xs)
def pC:aw->Bool
 | .cons a b=>a.dZ && pC b
 | .nil=>true
 |_=>false
def Hg(c a b:aw):Out aw:=
 match c with
 | .d .bool c=>match a,b with
  | .d .bool x,.d .bool y=> .ok (.d .bool (bif c then x else y))
  |a,b=> .br c (.ok a) (.ok b)
 |_=> .fail
def isObj(bE:List Nat):Option Tmp->Bool
 |some q=>bE.any λx=>decide (x=q)
 |none=>false
def H5(bE:List Nat)(dst:Option Tmp):Bool:=isObj bE (dst.map (· +100000))
def FZ(bE:List Nat)(dst:Option Tmp):Bool:=isObj bE (dst.map (· +200000))
def lj:(t:Ty)->aw->Out t.den
 |t,.d t' x=>Out.opt (ni t' t x)
 | .slice _,.dp=> .ok []
 | .pair a b,.pr x y=>(lj a x).bind λx=>(lj b y).bind λy=> .ok (x,y)
 |_,_=> .fail
def mapOf(P:Program)(T:TypeId):Option (TypeId×TypeId×Ty×Ty):=
 match P.underlying T with
 |some (.map K V)=>match EZ P depth K,EZ P depth V with
  |some kt,some vt=>match ma P depth K kt && C1 P V (.d vt vt.zero) with | true=>some (K,V,kt,vt) | false=>none
  |_,_=>none
 |_=>none
def gE{β:Type}(kt:Ty)(x:kt.den):List (kt.den×β)->Option Nat
 |[]=>none
 |p::l=>match kt.beq x p.1 with | true=>some 0 | false=>(gE kt x l).map (· +1)
def dO{β:Type}(kt:Ty)(x:kt.den)(l:List (kt.den×β)):Option β:=(gE kt x l).bind λi=>(l[i]?).map (·.2)
def iR{β:Type}(kt:Ty)(x:kt.den)(v:β)(l:List (kt.den×β)):List (kt.den×β):=
 match gE kt x l with | some i=>l.set i (x,v) | none=>l++ [(x,v)]
def ky{β:Type}(kt:Ty)(x:kt.den)(l:List (kt.den×β)):List (kt.den×β):=
 match gE kt x l with | some i=>l.eraseIdx i | none=>l
def Ft(k v k' v':Ty)(l:List (k.den×v.den)):Option (List (k'.den×v'.den)):=if h:k=k'/\v=v' then some (h.1▸h.2▸l) else none
def AS.mH(s:AS)(id:Id)(ver:Nat)(kt vt:Ty):Out (List (kt.den×vt.den)):=
 match s.obj id with
 |some (v,_,.mp k' v' l)=> .guard (v==ver) (Out.opt (Ft k' v' kt vt l))
 |_=> .fail
def AS.mP(s:AS)(id:Id):Bool:=match s.obj id with | some (_,fr,_)=> !fr | none=>false
def MQ(vt:Ty)(ok:Bool)(r:Option vt.den):aw:=
 match ok with
 |true=> .cons (.d vt (r.getD vt.zero)) (.cons (.d .bool r.isSome) .nil)
 |false=> .d vt (r.getD vt.zero)
def sQ(P:Program)(s:AS)(dst:Option Tmp)(T:TypeId):Out AS:=
 match mapOf P T,dst with
 |some (_,_,kt,vt),some q=> .guard (s.dB q) (.ok ((s.born q [.obj 0 false (.mp kt vt [])]).put dst (.l9 (.new q 0) 0)))
 |_,_=> .fail
def rF(P:Program)(s:AS)(T:TypeId)(m k:aw)(ok:Bool):Out aw:=
 match mapOf P T,m with
 |some (_,_,kt,vt),.l9 id ver=>(s.mH id ver kt vt).bind λl=>(lj kt k).bind λk=> .ok (MQ vt ok (dO kt k l))
 |_,_=> .fail
def rJ(P:Program)(s:AS)(T:TypeId)(m k v:aw):Out AS:=
 match mapOf P T,m with
 |some (_,_,kt,vt),.l9 id ver=>(s.mH id ver kt vt).bind λl=>(lj kt k).bind λk=>(lj vt v).bind λv=> .guard (s.mP id) (.ok (s.aL id (.obj ver false (.mp kt vt (iR kt k v l)))))
 |_,_=> .fail
def rI(P:Program)(s:AS)(T:TypeId)(m k:aw):Out AS:=
 match mapOf P T,m with
 |some (_,_,kt,vt),.l9 id ver=>(s.mH id ver kt vt).bind λl=>(lj kt k).bind λk=> .guard (s.mP id) (.ok (s.aL id (.obj ver false (.mp kt vt (ky kt k l)))))
 |_,_=> .fail
def AS.Eb(s:AS)(id:Id)(ver:Nat):Bool:=match s.obj id with | some (v,true,.mp ..)=>v==ver | _=>false
def dv.JU(q:Id):dv->Bool
 | .obj _ _ (.ml q' ver _ _ _ _)=>decide (q'=q) && !(ver==0)
 |_=>false
def AS.z8(s:AS)(q:Id):Bool:=s.cj.any (dv.JU q) || s.news.any λes=>es.any (dv.JU q)
def CM(kt vt:Ty)(l:List (kt.den×vt.den))(j:Nat):kt.den×vt.den:=l.getD j (kt.zero,vt.zero)
def Gl(P:Program)(s:AS)(dst:Option Tmp)(T:TypeId)(m:aw):Out AS:=
 match mapOf P T,m,dst with
 |some (_,_,kt,vt),.l9 id ver,some q=>(s.mH id ver kt vt).bind λl=> .guard (s.mP id && s.dB q)
   (.ok (((s.aL id (.obj ver true (.mp kt vt l))).born q [.obj 0 false (.ml id (ver+1) kt vt l none)]).put dst (.ptr (.new q 0) 0 [] 0)))
 |_,_,_=> .fail
structure Hp where
 i:Id
 v:Nat
 fr:Bool
 q:Id
 vr:Nat
 kt:Ty
 vt:Ty
 rest:List (kt.den×vt.den)
 cur:Option (kt.den×vt.den)
def AS.JT(s:AS)(x:aw):Option Hp:=
 match x with
 | .ptr i ver [] 0=>match s.obj i with
  |some (v,fr,.ml q (vr+1) kt vt rest cur)=>match v==ver,s.Eb q vr with
   |true,true=>some ⟨i,v,fr,q,vr,kt,vt,rest,cur⟩
   |_,_=>none
  |_=>none
 |_=>none
def FC(s:AS)(x:aw):Out aw:=
 match s.JT x with
 |some ⟨_,_,_,_,_,kt,vt,_,some c⟩=> .ok (.cons (.d kt c.1) (.cons (.d vt c.2) .nil))
 |_=> .fail
def AS.drawn(s:AS)(t:Hp)(dst:Option Tmp)(j:Nat):AS:=
 (s.aL t.i (.obj t.v t.fr (.ml t.q (t.vr+1) t.kt t.vt (t.rest.eraseIdx j) (some (CM t.kt t.vt t.rest j))))).put dst
  (.cons (.d .bool true) (.cons (.d t.kt (CM t.kt t.vt t.rest j).1) (.cons (.d t.vt (CM t.kt t.vt t.rest j).2) .nil)))
def AS.unlock(s:AS)(id:Id):AS:=match s.obj id with | some (v,_,c)=>s.aL id (.obj v false c) | none=>s
def AS.LQ(s:AS)(t:Hp)(dst:Option Tmp):Option AS:=
 match(s.aL t.i (.obj t.v t.fr (.ml t.q 0 t.kt t.vt [] none))).z8 t.q with
 |false=>some (((s.aL t.i (.obj t.v t.fr (.ml t.q 0 t.kt t.vt [] none))).unlock t.q).put dst (.cons (.d .bool false) .nil))
 |true=>none
open Classical in
def Rn{R:Type}(n:Nat)(k:Nat->Option R):Option R:=if h:∃r,0 < n/\∀j,j < n->k j=some r then some h.choose else none
open Classical in
def Nk{X R:Type}(S:X->Prop)(k:X->Option R):Option R:=if h:∃r,(∃x,S x)/\∀x,S x->k x=some r then some h.choose else none
def Kd{R:Type}(s:AS)(dst:Option Tmp)(t:Hp)(k:AS->Option R):Option R:=
 aN (decide (0 < t.rest.length)) (Rn t.rest.length λj=>k (s.drawn t dst j)) (match s.LQ t dst with | some s'=>k s' | none=>none)
def yB:Nat:=4294967296
def lh(P:Program)(Γ:ov)(bE:List Nat)(o:Oper)(s:AS):Out AS:=
 match o.op with
 | .move x=> .ok (s.put o.dst (s.ev x))
 | .assign x=> .ok (s.put o.dst (s.ev x))
 | .pick c a b=>(Hg (s.ev c) (s.ev a) (s.ev b)).bind λv=> .ok (s.put o.dst v)
 | .alloc T=>match zeroOf P depth T,o.dst with
  |some z,some q=> .guard (s.dB q && C1 P T z) (.ok ((s.born q [.obj 0 false (boxed P T z)]).put o.dst (.ptr (.new q 0) 0 [] 0)))
  |_,_=> .fail
 | .box T x=>Dj P s (isObj bE o.dst) (FZ bE o.dst) o.dst T (s.ev x)
 | .build T parts=>sF P s o.dst T parts.toList
 | .buildSlice T n parts=>jR P s (H5 bE o.dst) (isObj bE o.dst) o.dst T n parts.toList
 | .load T x=>(vN P s T (s.ev x)).bind λv=> .ok (s.put o.dst v)
 | .store T x v=>(td P s T (s.ev x) (s.ev v)).bind λs'=> .ok (s'.put o.dst .undef)
 | .nilCheck x=>match s.ev x with
  | .ptr id v p n=> .ok (s.put o.dst (.ptr id v p n))
  | .eS t y=> .ok (s.put o.dst (.eS t y))
  | .d (.mD t) y=> .get (y:Option t.den) λy=> .ok (s.put o.dst (.eS t y))
  | .fn f c=> .ok (s.put o.dst (.fn f c))
  |_=> .fail
 | .binOp op T x y _=>match s.ev x,s.ev y with
  | .ptr i v [] 0,.ptr j w [] 0=>(OI P s T op i v j w).bind λv=> .ok (s.put o.dst v)
  |_,_=>(Na P T op (s.ev x) (s.ev y)).bind λv=> .ok (s.put o.dst v)
 | .unOp op _ x=>(Q0 op (s.ev x)).bind λv=> .ok (s.put o.dst v)
 | .convert src dst x=>match src==dst,s.ev x with
  |true,.cO id ver [] 0 0 len=>Dv P s o.dst src dst id ver len
  |_,.ptr id ver [] 0=>(Bp P s src dst id ver).bind λv=> .ok (s.put o.dst v)
  |_,_=>(Bo P s (isObj bE o.dst) src dst (s.ev x)).bind λv=> .ok (s.put o.dst v)
 | .sliceToArrayPointer T x=>vb P s o.dst T (s.ev x)
 | .makeFunc (.func f) first caps=> .guard (first.isEmpty && pC (lT s caps.toList)) (.ok (s.put o.dst (.fn f (lT s caps.toList))))
 | .makeSlice T l c=>(asInt (s.ev l)).bind λl=>(asInt (s.ev c)).bind λc=>l8 P s o.dst T l c
 | .slice T x lo hi none=>(tc P s T (s.ev x) lo hi).bind λv=> .ok (s.put o.dst v)
 | .slice T x lo (some h) (some m)=>(wA P s T (s.ev x) lo h m).bind λv=> .ok (s.put o.dst v)
 | .fieldAddr T x f=>(rA P T (s.ev x) f).bind λv=> .ok (s.put o.dst v)
 | .field T x f=>(Cr P T (s.ev x) f).bind λv=> .ok (s.put o.dst v)
 | .indexAddr T x i=>(asInt (s.ev i)).bind λi=>(lZ P s T (s.ev x) i).bind λv=> .ok (s.put o.dst v)
 | .index T x i=>(asInt (s.ev i)).bind λi=>(CC P T (s.ev x) i).bind λv=> .ok (s.put o.dst v)
 | .extract x i=>(Out.opt ((s.ev x).list[i]?)).bind λv=> .ok (s.put o.dst v)
 | .makeMap T none=>sQ P s o.dst T
 | .lookup T x i ok=>(rF P s T (s.ev x) (s.ev i) ok).bind λv=> .ok (s.put o.dst v)
 | .mapUpdate T m k x=>(rJ P s T (s.ev m) (s.ev k) (s.ev x)).bind λs'=> .ok (s'.put o.dst .undef)
 | .call c=>match c.callee with
  | .builtin .delete=>match c.args.toList,c.argTypes.toList with
   |[m,k],[T,_]=>(rI P s T (s.ev m) (s.ev k)).bind λs'=> .ok (s'.put o.dst .nil)
   |_,_=> .fail
  | .builtin .copy=>match c.args.toList,c.argTypes.toList with
   |[x,y],[T,X]=>y9 P s o.dst T X (s.ev x) (s.ev y)
   |_,_=> .fail
  | .builtin .len=>match c.args.toList,c.argTypes.toList with
   |[x],[T]=>(LD P T (s.ev x)).bind λv=> .ok (s.put o.dst v)
   |_,_=> .fail
  | .builtin .append=>match c.args.toList,c.argTypes.toList with
   |[x,y],[T,X]=>match s.ev x,s.ev y with
    | .dp,.d (.int _) n=>DQ P s o.dst T X n
    |_,_=>oT P s (H5 bE o.dst) (FZ bE o.dst) o.dst T X (s.ev x) (s.ev y)
   |_,_=> .fail
  | .builtin .cap=>match c.args.toList,c.argTypes.toList with
   |[x],[T]=>match s.ev x,P.underlying T with
    | .dp,some (.slice _)=> .ok (s.put o.dst (.d (.int .i64) (0:Int)))
    |_,_=> .fail
   |_,_=> .fail
  | .builtin .max=>(Ib true (c.args.toList.map s.ev)).bind λv=> .ok (s.put o.dst v)
  | .builtin .min=>(Ib false (c.args.toList.map s.ev)).bind λv=> .ok (s.put o.dst v)
  | .builtin .unsafeSliceData=>match c.args.toList with
   |[x]=>match s.ev x with
    | .cO id ver [] 0 0 len=> .mV (decide (0 < len)) (.ok (s.put o.dst (.ptr id ver [.idx 0] 0)))
    |_=> .fail
   |_=> .fail
  | .builtin .unsafeString=>match c.args.toList,c.argTypes.toList with
   |[x,y],[T,_]=>match s.ev x,s.ev y with
    | .ptr id ver [.idx 0] 0,.d (.int .i64) n=>EU P s o.dst T id ver n
    |_,_=> .fail
   |_,_=> .fail
  | .value f=>match s.ev f with
   | .fn f caps=>match Γ f (c.args.toList.map s.ev++caps.list) with
    |some en=> .guard (Nat.blt f yB) (s.call en o.dst (c.args.toList.map s.ev++caps.list))
    |none=> .fail
   |_=> .fail
  |_=> .fail
 |_=> .fail
def yU(xs:Array Operand):List Nat:=xs.toList.filterMap λ | .tmp t=>some t | _=>none
def w7(ops:Array Oper)(o:Oper):List Nat:=
 match o.guard with
 |some (j,_)=>match(ops[j]?).bind (·.dst) with | some t=> [t] | none=> []
 |none=> []
def Ln{R:Type}(P:Program)(Γ:ov)(bE:List Nat)(ops:Array Oper)(o:Oper)(s:AS)(k:AS->Option R):Option R:=
 match o.guard with
 |none=>(lh P Γ bE o s).run k
 |some (j,want)=>match(ops[j]?).bind (·.dst) with
  |some q=>match s.slot q with
   | .d .bool b=>match want with
    |true=>aN b ((lh P Γ bE o (s.put (some q) (.d .bool true))).run k) (k ((s.put (some q) (.d .bool false)).put o.dst .nil))
    |false=>aN b (k ((s.put (some q) (.d .bool true)).put o.dst .nil)) ((lh P Γ bE o (s.put (some q) (.d .bool false))).run k)
   | .nil=>k (s.put o.dst .nil)
   |_=>none
  |none=>none
def zW(s:AS)(x y:Operand):Option Nat:=
 match s.ev x,s.ev y with
 | .d (.slice t) l,.dp=>some (l:List t.den).length
 | .dp,.d (.slice t) l=>some (l:List t.den).length
 | .cO _ _ _ _ _ len,.dp=>some len
 | .dp,.cO _ _ _ _ _ len=>some len
 |_,_=>none
open Classical in
def nd{R:Type}(x y:Option R):Option R:=if x=y then x else none
def yk:Code->List (Array Tmp×Code×Code)
 | .seq a b=>yk a++yk b
 | .cond _ a b=>yk a++yk b
 | .block _ b=>yk b
 | .scope b=>yk b
 | .loop b=>yk b
 | .rangeFunc _ ps as b=> [(ps,as,b)]
 |_=> []
def Sz(fn:Func)(i y:Nat):nf:=match fn.body with
 |some c=>match(yk c)[i]? with
  |some x=>⟨y,x.1,x.2.1,x.2.2⟩
  |none=>⟨y,#[],.skip,.skip⟩
 |none=>⟨y,#[],.skip,.skip⟩
def rV(P:Program)(y:Nat):nf:=match P.funcs[y%yB / 16]? with
 |some fn=>Sz fn (y%16) y
 |none=>⟨y,#[],.skip,.skip⟩
open Classical in
def same{R:Type}(c c':nf)(x:Option R):Option R:=if c=c' then x else none
def AS.yielded(s:AS)(F:aw)(n:Nat):Option (Id×Nat×nf×aw):=
 match F with
 | .yl id ver=>match s.obj id with
  |some (v,false,.ow c f 0)=>match v==ver && n==c.ps.size && Nat.ble yB c.y with
   |true=>some (id,ver,c,f)
   |false=>none
  |_=>none
 |_=>none
def Lo{R:Type}(P:Program)(Γ:ov)(bE:List Nat)(ops:Array Oper)(o:Oper)(s:AS)(k:AS->Option R):Option R:=
 match o.guard,o.op with
 |none,.binOp .eql T x y _=>match zW s x y,qj.isSl P T with
  |some n,true=>aN (decide (0 < n)) (k (s.put o.dst (.d .bool false))) (nd (k (s.put o.dst (.d .bool true))) (k (s.put o.dst (.d .bool false))))
  |_,_=>Ln P Γ bE ops o s k
 |none,.binOp .neq T x y _=>match zW s x y,qj.isSl P T with
  |some n,true=>aN (decide (0 < n)) (k (s.put o.dst (.d .bool true))) (nd (k (s.put o.dst (.d .bool true))) (k (s.put o.dst (.d .bool false))))
  |_,_=>Ln P Γ bE ops o s k
 |none,.range T m=>(Gl P s o.dst T (s.ev m)).run k
 |none,.entry x=>((FC s (s.ev x)).bind λv=> .ok (s.put o.dst v)).run k
 |none,.next x false=>match s.JT (s.ev x) with
  |some t=>Kd s o.dst t k
  |none=>none
 |none,.call c=>match c.callee with
  | .value F=>match s.yielded (s.ev F) c.args.size with
   |some (id,ver,rc,f)=>match Γ rc.y (.yl id ver::(c.args.toList.map s.ev++f.list)) with
    |some en=>same rc (rV P rc.y) ((s.call en o.dst (.yl id ver::(c.args.toList.map s.ev++f.list))).run k)
    |none=>none
   |none=>Ln P Γ bE ops o s k
  |_=>Ln P Γ bE ops o s k
 |_,_=>Ln P Γ bE ops o s k
def seen{α R:Type}(l:List α):(List α->R)->R:=List.rec (motive:=λ_=>(List α->R)->R) (λk=>k []) (λx _ ih k=>ih λl'=>k (x::l')) l
theorem wq{α R:Type}:∀(l:List α) (k:List α->R),seen l k=k l
 |[],_=>rfl
 |_::l,k=>wq l _
def AS.seen{R:Type}(s:AS)(k:AS->R):R:=Go.Ab.seen s.b8 λl=>k ⟨l,s.cj,s.news⟩
theorem AS.wq{R:Type}(s:AS)(k:AS->R):s.seen k=k s:=Go.Ab.wq _ _
def Lp{R:Type}(P:Program)(Γ:ov)(bE:List Nat)(ops:Array Oper):List Oper->AS->(AS->Option R)->Option R
 |[],s,k=>k s
 |o::l,s,k=>Lo P Γ bE ops o s λs'=>s'.seen λs'=>Lp P Γ bE ops l s' k
def Cg(acc:List Nat)(o:Oper):Nat:=(o.after.toList.filter (Region.binds .any)).foldr (λe m=>Nat.lor (Nat.lor (Nat.pow 2 e.on) (acc.getD e.on 0)) m) 0
def De(ops:List Oper):List Nat:=ops.foldl (λacc o=>acc++ [Cg acc o]) []
structure sA where
 dst:Option Tmp
 b8:List Nat
 rs:List Id
 ws:List Id
def BO:Op->Bool
 | .move _=>true
 |_=>false
def Ep(s:AS)(o:Oper):List Id:=match BO o.op with | true=> [] | false=>(yU o.op.operands).flatMap λi=>(s.slot i).ids
def nI:List (Option Ty)->List aw->List Id
 |none::ps,v::vs=>v.ids++nI ps vs
 |some _::ps,_::vs=>nI ps vs
 |_,_=> []
def writes(Γ:ov)(s:AS)(o:Oper):List Id:=
 match o.op with
 | .store _ x _=>(s.ev x).ids
 | .mapUpdate _ m _ _=>(s.ev m).ids
 | .convert src dst x=>match src==dst with | true=>(s.ev x).ids | false=> []
 | .call c=>match c.callee with
  | .builtin .append=>match c.args.toList with | x::_=>(s.ev x).ids | []=> []
  | .builtin .delete=>match c.args.toList with | x::_=>(s.ev x).ids | []=> []
  | .builtin .copy=>match c.args.toList with | x::_=>(s.ev x).ids | []=> []
  | .builtin .unsafeString=>match c.args.toList with | x::_=>(s.ev x).ids | []=> []
  | .value F=>match s.ev F with
   | .fn f caps=>match Γ f (c.args.toList.map s.ev++caps.list) with
    |some en=>s.reach 64 (nI en.params (c.args.toList.map s.ev++caps.list)) []
    |none=> []
   |_=> []
  |_=> []
 |_=> []
def fL(Γ:ov)(ops:Array Oper)(s:AS)(o:Oper):sA:=
 {dst:=o.dst,b8:=yU o.op.operands++w7 ops o,rs:=Ep s o++writes Γ s o,ws:=writes Γ s o}
def meets(xs ys:List Id):Bool:=xs.any λx=>ys.any λy=>decide (x=y)
def sA.PS(f g:sA):Bool:=
 match f.dst with
 |some t=>(g.b8.any λx=>decide (x=t)) || decide (g.dst=some t)
 |none=>false
def Aj(d:Option Tmp)(ids:List Id):Bool:=
 match d with
 |some q=>ids.any λx=>match x with | .new i _=>decide (i=q) | .dw _=>false
 |none=>false
def sA.indep(f g:sA):Bool:= !f.PS g && !g.PS f && !meets f.ws g.rs && !meets g.ws f.rs && !Aj f.dst g.rs && !Aj g.dst f.rs
def BD{R:Type}(P:Program)(Γ:ov)(bE:List Nat)(ops:Array Oper)(anc:List Nat):Nat->List Oper->List (Nat×sA)->AS->(AS->Option R)->Option R
 |_,[],_,s,k=>k s
 |i,o::l,fs,s,k=>
  match fs.all λx=>(anc.getD i 0).testBit x.1 || x.2.indep (fL Γ ops s o) with
  |true=>Ln P Γ bE ops o s λs'=>s'.seen λs'=>BD P Γ bE ops anc (i+1) l ((i,fL Γ ops s o)::fs) s' k
  |false=>none
def Cm(ops:List Oper):Bool:=ops.zipIdx.all λx=>x.1.after.toList.all λe=> !Region.binds .any e || decide (e.on < x.2)
structure K5 where
 j:Nat
 p:List tJ
 q:Nat
 T:TypeId
structure QG where
 j:Nat
 p:List tJ
 t:Ty
structure km where
 bA:List Nat:=[]
 sites:List Nat:=[]
 FI:List Id:=[]
 data:List (Nat×Ty):=[]
 owns:List K5:=[]
 Fz:List QG:=[]
 Th:List Nat:=[]
 Pg:List Id:=[]
 Tq:List Nat:=[]
 Uk:List Nat:=[]
 Nb:List (Nat×Nat):=[]
structure eR where
 X:Type
 run:AS->Option X
 out:X->Out (Exit×AS)
 set:Option (AS->X->Prop):=none
structure vi where
 an:km
 X:Type
 N8:Exit->AS->Option X
 out:X->Out (Exit×AS)
 ok:∀e s x,N8 e s=some x->(out x).eval=some (e,s)
structure tV where
 bE:List Nat:=[]
 loops:Nat->km:=λ_=> {}
 outs:Nat->Bool->km:=λ_ _=> {}
 jl:Nat->Option eR:=λ_=>none
 owns:List K5:=[]
 trim:List Nat:=[]
 res:List (Option Ty):=[]
 Fz:List QG:=[]
 MP:Nat->Option vi:=λ_=>none
 Qm:Nat->Option vi:=λ_=>none
 rf:Nat->Option (Nat×List Nat):=λ_=>none
 mS:Option Nat:=none
 Nb:List (Nat×Nat):=[]
def dD:Code->Nat
 | .region id _ _=>id
 | .seq a _=>dD a
 | .block _ b=>dD b
 | .loop b=>dD b
 | .scope b=>dD b
 |_=>0
def dS(bA:List Nat):Nat->List aw->List aw
 |_,[]=> []
 |i,v::vs=>(match bA.any (λx=>decide (x=i)) with | true=>v | false=> .undef)::dS bA (i+1) vs
def kh(bA:List Nat):Nat->List (List dv)->List (List dv)
 |_,[]=> []
 |i,v::vs=>(match bA.any (λx=>decide (x=i)) with | true=>v | false=> [])::kh bA (i+1) vs
def aw.head:aw->Option (Id×Nat)
 | .cO id ver [] 0 0 _=>some (id,ver)
 | .ptr id ver [] 0=>some (id,ver)
 |_=>none
def wg(es:List dv)(b q:Nat)(i:Id)(ver:Nat):Option (Id×Nat):=
 match i with
 | .dw k=>some (.dw k,ver)
 | .new x j=>match decide (x=b) with
  |true=>(match es[j]? with | some (.obj v _ _)=>(match ver==v with | true=>some (.new q j,0) | false=>none) | _=>none)
  |false=>(match decide (x=q) with | true=>none | false=>some (.new x j,ver))
def dv.LW(ρ:Id->Nat->Option (Id×Nat)):dv->dv
 | .obj _ fr c=> .obj 0 fr (c.gJ ρ)
 | .dead=> .dead
def aw.Oi(ρ:Id->Nat->Option (Id×Nat))(kp:Id->Bool):aw->aw
 | .ml q ver k v rest cur=>match kp q with | true=> .ml q ver k v rest cur | false=> .ml q 0 k v rest cur
 |c=>c.gJ ρ
def dv.A6(ρ:Id->Nat->Option (Id×Nat))(kp:Id->Bool):dv->dv
 | .obj v fr c=> .obj v fr (c.Oi ρ kp)
 | .dead=> .dead
def tC(b q:Nat):Id->Bool | .dw _=>true | .new x _=> !decide (x=b) && !decide (x=q)
def AS.sX(s:AS)(b q:Nat)(es:List dv):AS:=
 {b8:=s.b8.map (aw.gJ (wg es b q)),cj:=s.cj.map (dv.A6 (wg es b q) (tC b q)),
  news:=((s.news.map λes'=>es'.map (dv.A6 (wg es b q) (tC b q))).set b []).set q (es.map (dv.LW (wg es b q)))}
def AS.at(s:AS)(j:Nat):List tJ->Out aw
 |[]=> .ok (s.slot j)
 |p=>match s.slot j with
  | .ptr id ver p0 _=>match s.obj id with
   |some (v,_,c)=> .guard (v==ver) ((loc c.strip (p0++p)).bind λr=> .ok r.2)
   |none=> .fail
  |_=> .fail
def AS.putAt(s:AS)(j:Nat)(v:aw):List tJ->Out AS
 |[]=> .ok (s.put (some j) v)
 |p=>match s.slot j with
  | .ptr id _ p0 _=>match s.obj id with
   |some (ver,fr,c)=>match c.strip with
    | .vec .. => .fail
    |c1=>(oQ c1 (p0++p) v).bind λc'=> .ok (s.aL id (.obj ver fr (c.wrap c')))
   |none=> .fail
  |_=> .fail
def AS.still(s:AS):List Nat->AS
 |[]=>s
 |q::l=>(match s.obj (.new q 0) with | some (v,fr,.ml i ver k t r _)=>s.aL (.new q 0) (.obj v fr (.ml i ver k t r none)) | _=>s).still l
def Kk(α:Type):Setoid (List α):=⟨List.Perm,jB,List.Perm.symm,List.Perm.trans⟩
def Fq{α:Type}(l:List α):List α:=(Quotient.exists_rep (Quotient.mk (Kk α) l)).choose
def AS.canon(s:AS):List Id->AS
 |[]=>s
 |id::l=>(match s.obj id with | some (v,fr,.mp k t r)=>s.aL id (.obj v fr (.mp k t (Fq r))) | _=>s).canon l
def xJ(s:AS):List QG->Out AS
 |[]=> .ok s
 |o::l=>match o.p,s.slot o.j with
  |_::_,.mi=>xJ s l
  |_,_=>(s.at o.j o.p).bind λu=>(s.gR o.t u).bind λx=>((s.bj u.shared).putAt o.j (.d o.t x) o.p).bind λs'=>xJ s' l
def vA:(t:Ty)->t.den->Out aw
 | .gj t,x=> .mV (x:Option (List t.den)).isNone (.ok .dp)
 | .pair a b,x=>(vA a x.1).bind λu=>(vA b x.2).bind λv=> .ok (vS u v)
 |t,x=> .ok (.d t x)
def HL(s:AS):List Nat->Out AS
 |[]=> .ok s
 |j::l=>match s.slot j with
  | .ptr id ver (.idx k::p) n=>match s.obj id with
   |some (v,false,.vec e t r)=> .guard (v==ver) (.mV (decide (k < r.length)) ((vA t (nth t r k)).bind λu=>
     HL ((s.aL id (.obj v false (.bx e t.size (.pr (.d (.arr k t) (r.take k)) (.pr u (.d (.arr (r.drop (k+1)).length t) (r.drop (k+1)))))))).put (some j) (.ptr id ver (.snd:: .fst::p) n)) l))
   |_=> .fail
  | .ptr _ _ (.snd::_) _=>HL s l
  |_=> .fail
def KI(s:AS):List Nat->Out AS
 |[]=> .ok s
 |j::l=>match s.slot j with
  | .ptr id ver (.snd:: .fst::p) n=>match s.obj id with
   |some (v,false,.bx e z (.pr (.d (.arr k t) l1) (.pr u (.d (.arr _ t') l2))))=> .guard ((v==ver) && (z==t.size) && !(z==0) && !(u.shared.any λi=>decide (i=id)))
     ((Out.opt (ni (.slice t') (.slice t) l2)).bind λl2=>(s.gR t u).bind λx=>
      KI (((s.bj u.shared).aL id (.obj v false (.vec e t (l1++x::l2)))).put (some j) (.ptr id ver (.idx k::p) n)) l)
   |_=> .fail
  |_=> .fail
def pf(P:Program)(s:AS):List K5->Out AS
 |[]=> .ok s
 |o::l=>match o.p,s.slot o.j with
  |_::_,.mi=>pf P s l
  |_,_=>(s.at o.j o.p).bind λu=>match u with
  | .dp=>match Cn P o.T,s.dB o.q with
   |some (e,t,_),true=>((s.born o.q [.obj 0 false (.vec e t [])]).putAt o.j (.cO (.new o.q 0) 0 [] 0 0 0) o.p).bind λs'=>pf P s' l
   |_,_=> .fail
  |u=>match u.head with
   |some (.new b j,ver)=>match s.obj (.new b j),decide (o.q < s.news.length) with
    |some (v,_,_),true=>match v==ver with
     |true=>pf P (s.sX b o.q (s.news.getD b [])) l
     |false=> .fail
    |_,_=> .fail
   |_=> .fail
def B6(s:AS):List Nat->Out AS
 |[]=> .ok s
 |j::l=>match s.slot j with
  | .cO id ver [] 0 0 len=>match s.obj id with
   |some (v,false,.vec e t r)=>match v==ver with
    |true=> .mV (decide (len<=r.length)) (B6 (s.aL id (.obj v false (.vec e t (r.take len)))) l)
    |false=> .fail
   |_=> .fail
  |_=> .fail
def asData(s:AS):List (Nat×Ty)->Out AS
 |[]=> .ok s
 | (j,t)::l=>(s.gR t (s.slot j)).bind λx=>asData ((s.bj (s.slot j).shared).put (some j) (.d t x)) l
def aw.there(s:AS):aw->Bool
 | .ptr id _ _ _=>(s.obj id).isSome
 | .cO id _ _ _ _ _=>(s.obj id).isSome
 | .pr a b=>a.there s && b.there s
 | .cons a b=>a.there s && b.there s
 | .fn _ c=>c.there s
 | .bx _ _ c=>c.there s
 | .l9 id _=>(s.obj id).isSome
 | .yl id _=>(s.obj id).isSome
 | .ow _ f _=>f.there s
 | .ml .. =>false
 |_=>true
def dv.there(s:AS):dv->Bool
 | .obj _ _ (.ml id _ _ _ _ _)=>(s.obj id).isSome
 | .obj _ _ c=>c.there s
 | .dead=>true
def vK(an:km)(s:AS):AS:= {b8:=dS an.bA 0 s.b8,cj:=s.cj,news:=kh an.sites 0 s.news}
def AS.Db(s:AS):Bool:=(s.b8.all (aw.there s)) && (s.cj.all (dv.there s)) && (s.news.all λes=>es.all (dv.there s))
def nQ(k v n:Nat)(i:Id)(ver:Nat):Option (Id×Nat):=match i with
 | .dw j=>match Nat.beq j k with
  |true=>match Nat.beq ver v with | true=>some (.dw j,n) | false=>none
  |false=>some (.dw j,ver)
 |i=>some (i,ver)
def dv.Gp(ρ:Id->Nat->Option (Id×Nat)):dv->dv
 | .obj v fr c=> .obj v fr (c.gJ ρ)
 | .dead=> .dead
def AS.Jh(s:AS)(k n:Nat):Out AS:=match s.bT (.dw k) with
 |some (.obj v fr c)=> .guard (Nat.ble v n || Nat.ble 1 n) (.ok {b8:=s.b8.map (aw.gJ (nQ k v n)),cj:=(s.cj.map (dv.Gp (nQ k v n))).set k (.obj n fr (c.gJ (nQ k v n))),news:=s.news.map λes=>es.map (dv.Gp (nQ k v n))})
 |_=> .fail
def Dn(s:AS):List (Nat×Nat)->Out AS
 |[]=> .ok s
 |x::l=>(s.Jh x.1 x.2).bind λs=>Dn s l
def norm(P:Program)(an:km)(s:AS):Out AS:=
 (Dn s an.Nb).bind λs=>(KI (((s.bj an.FI).still an.Th).canon an.Pg) an.Uk).bind λs=>(xJ s an.Fz).bind λs=>(asData s an.data).bind λs=> .guard (vK an s).Db ((HL (vK an s) an.Tq).bind λs=>pf P s an.owns)
def xU{R:Type}(nrm:AS->Out AS)(nrmX:Exit->AS->Out AS)(body:AS->(Exit->AS->Option R)->Option R):Nat->AS->(Exit->AS->Option R)->Option R
 | 0,_,_=>none
 |n+1,s,k=>body s λe s'=>match e with
  | .normal=>(nrm s').run λs1=>xU nrm nrmX body n s1 k
  |e=>(nrmX e s').run (k e)
def D5:Exit->Bool | .ret=>true | _=>false
def KK{R:Type}(le:eR)(s:AS)(k:Exit->AS->Option R):Option R:=
 match le.set with
 |none=>aB (le.run s) λx=>(le.out x).run λr=>k r.1 r.2
 |some S=>Nk (S s) λx=>(le.out x).run λr=>k r.1 r.2
def xf{R:Type}(P:Program)(j:Option vi)(run: {R:Type}->(Exit->AS->Option R)->Option R)(k:Exit->AS->Option R):Option R:=
 match j with
 |none=>run k
 |some j=>aB (run λe s=>(norm P j.an s).run (j.N8 e)) λx=>(j.out x).run λr=>k r.1 r.2
def pF:List aw->aw
 |[]=> .nil
 |a::l=> .cons a (pF l)
def EB(P:Program)(h:FuncId):Bool:=match P.funcs[h]? with
 |some fn=> !(fn.name== "runtime.NumGoroutine") && fn.body.isSome
 |none=>false
def rR{R:Type}(P:Program)(Γ:ov)(an:tV)(s:AS)(f:Operand)(ps:Array Tmp)(as b:Code)(k:Exit->AS->Option R):Option R:=
 match an.mS,an.rf (ps.getD 0 0),s.ev f with
 |none,some (y,bA),.fn h caps=>match EB P h && s.dB (ps.getD 0 0) && Nat.blt (ps.getD 0 0) s.b8.length && Nat.blt h yB,Γ h (.yl (.new (ps.getD 0 0) 0) 0::caps.list) with
  |true,some en=>(((s.born (ps.getD 0 0) [.obj 0 false (.ow ⟨y,ps,as,b⟩ (pF (dS bA 0 s.b8)) 0)]).put (some (ps.getD 0 0)) (.yl (.new (ps.getD 0 0) 0) 0)).call en none (.yl (.new (ps.getD 0 0) 0) 0::caps.list)).run λs3=>
   match s3.bT (.new (ps.getD 0 0) 0),s3.slot (ps.getD 0 0) with
   |some (.obj 0 false (.ow _ _ p)),.yl (.new q' 0) 0=>match Nat.beq q' (ps.getD 0 0),p with
    |true,0=>k .normal ((s3.aL (.new (ps.getD 0 0) 0) .dead).put (some (ps.getD 0 0)) .undef)
    |true,2=>k .ret ((s3.aL (.new (ps.getD 0 0) 0) .dead).put (some (ps.getD 0 0)) .undef)
    |true,i+3=>k (.exit i) ((s3.aL (.new (ps.getD 0 0) 0) .dead).put (some (ps.getD 0 0)) .undef)
    |_,_=>none
   |_,_=>none
  |_,_=>none
 |_,_,_=>none
def ev(P:Program)(Γ:ov)(an:tV)(N:Nat):Code-> {R:Type}->AS->(Exit->AS->Option R)->Option R
 | .skip,_,s,k=>k .normal s
 | .region id ops draw,_,s,k=>xf P (an.MP id) (λk=>match draw with
  |true=>(match Cm ops.toList with
   |true=>BD P Γ an.bE ops (De ops.toList) 0 ops.toList [] s λs'=>k .normal s'
   |false=>none)
  |false=>Lp P Γ an.bE ops ops.toList s λs'=>k .normal s') k
 | .seq a b,_,s,k=>xf P (an.Qm (dD b)) (λk=>ev P Γ an N a s k) λe s'=>match e with | .normal=>ev P Γ an N b s' k | e=>k e s'
 | .cond c x y,_,s,k=>match s.ev c with
  | .d .bool b=>aN b (ev P Γ an N x s k) (ev P Γ an N y s k)
  |_=>none
 | .block id b,_,s,k=>ev P Γ an N b s λe s'=>match e with | .exit i=>(match decide (i=id) with | true=>k .normal s' | false=>k (.exit i) s') | e=>k e s'
 | .loop b,_,s,k=>(norm P (an.loops (dD b)) s).run λs1=>match an.jl (dD b) with
  |some le=>KK le s1 k
  |none=>xU (norm P (an.loops (dD b))) (λe=>norm P (an.outs (dD b) (D5 e))) (ev P Γ an N b) N s1 k
 | .scope b,_,s,k=>ev P Γ an N b s λe s'=>match e with | .goto _=>none | e=>k e s'
 | .label _,_,s,k=>k .normal s
 | .exit id,_,s,k=>k (.exit id) s
 | .ret,_,s,k=>k .ret s
 | .rangeFunc f ps as b,_,s,k=>rR P Γ an s f ps as b k
 |_,_,_,_=>none
def Ae(P:Program)(s:AS):ResultVar->Out aw
 | .tmp t=> .ok (s.slot t)
 | .cell a T=>vN P s T (s.slot a)
def Ad(P:Program)(s:AS)(r:ResultVar):Option Ty->Out (AS×aw)
 |none=>(Ae P s r).bind λv=> .ok (s,v)
 |some t=>(Ae P s r).bind λv=>(s.gR t v).bind λx=> .ok (s.bj v.shared,.d t x)
def wj(P:Program)(s:AS):List ResultVar->List (Option Ty)->Out (AS×aw)
 |[],_=> .ok (s,.nil)
 |r::rs,ts=>(Ad P s r (ts.headD none)).bind λx=> .guard x.2.dZ ((wj P x.1 rs ts.tail).bind λy=> .ok (y.1,.cons x.2 y.2))
def CP(P:Program)(fn:Func)(ts:List (Option Ty))(s:AS):Out (AS×aw):=
 match fn.results.toList with
 |[r]=>Ad P s r (ts.headD none)
 |rs=>wj P s rs ts
def jh:Code->List Code
 | .seq a b=>jh a++jh b
 | .cond _ a b=>jh a++jh b
 | .block _ b=>jh b
 | .scope b=>jh b
 | .loop b=>b::jh b
 |_=> []
def lW(fn:Func)(i:Nat):Code:=match fn.body with | some c=>(jh c).getD i .skip | none=> .skip
def xh(P:Program)(Γ:ov)(an:tV)(N:Nat)(fn:Func)(i:Nat){R:Type}(s:AS)(kn:AS->Option R)(kx:Exit->AS->Option R):Option R:=
 ev P Γ an N (lW fn i) s λe s'=>match e with
  | .normal=>(norm P (an.loops (dD (lW fn i))) s').run kn
  |e=>(norm P (an.outs (dD (lW fn i)) (D5 e)) s').run (kx e)
def Ed(P:Program)(Γ:ov)(an:tV)(N:Nat)(fn:Func)(i:Nat){R:Type}(n:Nat)(s:AS)(k:Exit->AS->Option R):Option R:=
 xU (norm P (an.loops (dD (lW fn i)))) (λe=>norm P (an.outs (dD (lW fn i)) (D5 e))) (ev P Γ an N (lW fn i)) n s k
def Id.MO:Id->Bool | .new _ _=>true | .dw _=>false
def AS.wW(s:AS)(v:aw):List Id:=(s.reach 64 (v.ids++s.cj.flatMap dv.ids) []).filter Id.MO
def uH(ids:List Id):Id->Nat->Option (Id×Nat)
 | .dw k,v=>some (.dw k,v)
 |id,v=>match idxOf id ids with | some j=>some (.new 0 j,v) | none=>none
def dv.fin(ids:List Id):dv->dv
 | .obj v fr c=> .obj v fr (c.gJ (uH ids))
 | .dead=> .dead
def AS.Mr(s:AS)(ids:List Id)(v:aw):jA:=
 {val:=v.gJ (uH ids),cj:=s.cj.map (dv.fin ids),news:=ids.map λid=>((s.bT id).getD .dead).fin ids}
def AS.fin(s:AS)(v:aw):jA:=s.Mr (s.wW v) v
def start(fn:Func)(args:List aw)(cj:List dv):AS:=
 {b8:=args++List.replicate (fn.ntmps - args.length) .undef,cj,news:=List.replicate fn.ntmps []}
def Kq(fn:Func):List Nat:=fn.results.toList.map λr=>match r with | .tmp t=>t | .cell a _=>a
def AS.drop(s:AS)(ks:List Nat):AS:= {b8:=dS ks 0 s.b8,cj:=s.cj,news:=s.news}
def finish(P:Program)(an:tV)(fn:Func)(s:AS):Out jA:=
 (xJ s an.Fz).bind λs=>(pf P (s.drop (Kq fn)) an.owns).bind λs=>(B6 s an.trim).bind λs=>(Dn s an.Nb).bind λs=>(CP P fn an.res s).bind λr=> .ok (r.1.fin r.2)
def M4(P:Program)(y:Nat):Func:= {(default:Func) with body:=some (.seq (rV P y).as (rV P y).b)}
def AS.xq(s:AS)(q p:Nat):Option AS:=match s.bT (.dw 0) with
 |some (.obj 0 false (.ow c f q'))=>(match Nat.beq q q' with | true=>some (s.aL (.dw 0) (.obj 0 false (.ow c f p))) | false=>none)
 |_=>none
def ph:List (Tmp×aw)->List aw->List aw
 |[],l=>l
 |x::xs,l=>ph xs (l.set x.1 x.2)
def Ao(ps:List Tmp)(args:List aw)(cj:List dv):AS:=
 {b8:=ph (ps.zip (args.take ps.length)) (args.drop ps.length),cj,news:=List.replicate (args.drop ps.length).length []}
def Mq:Exit->Option Nat
 | .normal=>some 0
 | .ret=>some 2
 | .exit i=>some (i+3)
 |_=>none
def GU(P:Program)(an:tV)(s:AS)(v:aw):Out jA:=
 (xJ s an.Fz).bind λs=>(pf P (s.drop []) an.owns).bind λs=>(B6 s an.trim).bind λs=>(Dn s an.Nb).bind λs=> .ok (s.fin v)
def dv.first:dv->Bool
 | .obj v _ _=>Nat.beq v 0
 | .dead=>true
def Kt(P:Program)(Γ:ov)(an:tV)(N:Nat)(c:nf)(args:List aw)(cj:List dv){R:Type}(k:jA->Option R):Option R:=
 match args with
 | .yl (.dw 0) 0::args=>match cj.all dv.first with | false=>none | true=>ev P Γ an N c.as (Ao c.ps.toList args cj) λe s=>match e with
  | .normal=>aB (s.xq 0 1) λs=>ev P Γ an N c.b s λe s=>aB (Mq e) λp=>aB (s.xq 1 p) λs=>(GU P an s (.d .bool (Nat.beq p 0))).run k
  |_=>none
 |_=>none
def Ht(P:Program)(Γ:ov)(an:tV)(N:Nat)(fn:Func)(args:List aw)(cj:List dv){R:Type}(k:jA->Option R):Option R:=
 match an.mS with
 |some y=>Kt P Γ an N (rV P y) args cj k
 |none=>match fn.body with
 |some c=>match cj.all dv.first with | false=>none | true=>ev P Γ an N c (start fn args cj) λe s=>match e with
  | .normal=>(finish P an fn s).run k
  | .ret=>(finish P an fn s).run k
  |_=>none
 |none=>none
end Go.Ab
namespace Go.Ab
inductive Own where
 |dH
 |id (i:Id)
inductive jW where
 |free
 |own (o:Own) (k:Nat)
structure Pl where
 b:Nat
 cap:Nat
structure Env where
 w:World
 g:Nat->jW
 β:Id->Option Pl
 s:Id->Option dv
def mY(g:Nat->jW)(b off:Nat):Prop:=match g b with | .free=>True | .own _ k=>off < k
def Env.has(E:Env)(b off:Nat)(v:Value):Prop:=E.w.cell? ⟨b,off,none⟩=some v/\mY E.g b off
def aV{α:Type}(R:List Value->α->Prop):List Value->List α->Prop
 |cs,[]=>cs=[]
 |cs,x::xs=>∃c cs',cs=c++cs'/\R c x/\aV R cs' xs
def rZ(E:Env)(a:Option Addr)(vs:List Value):Prop:=
 ∀i v,vs[i]? =some v->∃b off,a=some ⟨b,off,none⟩/\E.has b (off+i) v
def cT(E:Env):(t:Ty)->List Value->t.den->Prop
 | .int k,cs,x=>cs=[.int k x]
 | .bool,cs,x=>cs=[.bool x]
 | .str,cs,x=>cs=[.string x]
 | .slice t,cs,l=>∃a cap vs,cs=[.slice a (l:List t.den).length cap]/\(l:List t.den).length<=cap/\(0 < (l:List t.den).length->a.isSome=true)/\rZ E a vs/\aV (cT E t) vs l
 | .unit,cs,_=>cs=[]
 | .pair a b,cs,x=>∃ca cb,cs=ca++cb/\cT E a ca x.1/\cT E b cb x.2
 | .arr n t,cs,l=>(l:List t.den).length=n/\aV (cT E t) cs l
 | .gj t,cs,x=>((x:Option (List t.den))=none->cs=[.slice none 0 0])/\∀l:List t.den,(x:Option (List t.den))=some l->
   ∃a cap vs,cs=[.slice a l.length cap]/\l.length<=cap/\(0 < l.length->a.isSome=true)/\rZ E a vs/\aV (cT E t) vs l
 | .mD t,cs,x=>((x:Option t.den)=none->cs=[.pointer none])/\∀y:t.den,(x:Option t.den)=some y->
   ∃b off vs,cs=[.pointer (some ⟨b,off,none⟩)]/\rZ E (some ⟨b,off,none⟩) vs/\cT E t vs y
section
variable {α:Type} {R R':List Value->α->Prop} {z:Nat}
theorem aV.mono(h:∀c x,R c x->R' c x):∀ {cs:List Value} {l:List α},aV R cs l->aV R' cs l
 |_,[],hc=>hc
 |_,_::_,⟨c,cs',e,hx,hr⟩=>⟨c,cs',e,h _ _ hx,aV.mono h hr⟩
theorem aV.length(h:∀c x,R c x->c.length=z):∀ {cs:List Value} {l:List α},aV R cs l->cs.length=l.length*z
 |cs,[],hc=>by
  have:cs=[]:=hc
  simp[this]
 |_,x::xs,⟨c,cs',e,hx,hr⟩=>by
  rw[e,av,h c x hx,aV.length h hr,aG,dI,jP,mu]
theorem aV.all{p:Value->Prop}(h:∀c x,R c x->∀v∈c,p v):∀ {cs:List Value} {l:List α},aV R cs l->∀v∈cs,p v
 |cs,[],hc,v,hv=>by
  have:cs=[]:=hc
  simp[this]at hv
 |_,_::_,⟨c,cs',e,hx,hr⟩,v,hv=>by
  rw[e]at hv
  rcases bp.1 hv with hv | hv
  ·exact h _ _ hx v hv
  ·exact aV.all h hr v hv
theorem aV.append:∀ {cs:List Value} {l:List α} {cs':List Value} {l':List α},aV R cs l->aV R cs' l'->aV R (cs++cs') (l++l')
 |cs,[],_,_,hc,h'=>by
  have:cs=[]:=hc
  simpa[this]using h'
 |_,x::xs,_,_,⟨c,cs1,e,hx,hr⟩,h'=>⟨c,cs1++_,by rw[e,bw],hx,aV.append hr h'⟩
theorem aV.take(h:∀c x,R c x->c.length=z):∀ {cs:List Value} {l:List α} (n:Nat),aV R cs l->aV R (cs.take (n*z)) (l.take n)
 |cs,[],n,hc=>by
  have:cs=[]:=hc
  simp[this,aV]
 |_,x::xs,0,_=>by simp[aV]
 |_,x::xs,n+1,⟨c,cs',e,hx,hr⟩=>by
  refine⟨c,cs'.take (n*z),?_,hx,aV.take h n hr⟩
  rw[e,iH,h c x hx,dI,jP,bg (by rw[h c x hx];omega),Nat.add_sub_cancel]
theorem aV.drop(h:∀c x,R c x->c.length=z):∀ {cs:List Value} {l:List α} (n:Nat),aV R cs l->aV R (cs.drop (n*z)) (l.drop n)
 |cs,[],n,hc=>by
  have:cs=[]:=hc
  simp[this,aV]
 |_,x::xs,0,hc=>by simpa using hc
 |_,x::xs,n+1,⟨c,cs',e,hx,hr⟩=>by
  rw[e,iG,h c x hx,dI,jP,fV (by rw[h c x hx];omega),Nat.add_sub_cancel]
  simpa using aV.drop h n hr
theorem aV.get(h:∀c x,R c x->c.length=z){cs:List Value}{l:List α}(hc:aV R cs l)(i:Nat)(hi:i < l.length):R ((cs.drop (i*z)).take z) l[i]:=by
 have h1:=aV.take h 1 (aV.drop h i hc)
 rw[ax hi]at h1
 simp only[jP,lg,eO]at h1
 obtain⟨c,cs',e,hx,hr⟩:=h1
 have:cs'=[]:=hr
 rw[e,this,cM]
 exact hx
theorem aV.set(h:∀c x,R c x->c.length=z){cs:List Value}{l:List α}(hc:aV R cs l)(i:Nat)(hi:i < l.length){c:List Value}{x:α}(hx:R c x):
  aV R (cs.take (i*z)++c++cs.drop (i*z+c.length)) (l.set i x):=by
 rw[List.set_eq_take_append_cons_drop,if_pos hi,h c x hx]
 have h1:=aV.take h i hc
 have h2:=aV.drop h (i+1) hc
 rw[dI,jP]at h2
 have h3:aV R (c++cs.drop (i*z+z)) (x::l.drop (i+1)):=⟨c,_,rfl,hx,h2⟩
 rw[bw]
 exact aV.append h1 h3
theorem aV.one{c:List Value}{x:α}(h:R c x):aV R c [x]:=⟨c,[],by simp,h,rfl⟩
end
theorem cT.size{E:Env}:∀ {t:Ty} {cs:List Value} {x:t.den},cT E t cs x->cs.length=t.size
 | .int _,_,_,h=>by simp only[cT]at h;simp[h,Ty.size]
 | .bool,_,_,h=>by simp only[cT]at h;simp[h,Ty.size]
 | .str,_,_,h=>by simp only[cT]at h;simp[h,Ty.size]
 | .slice t,_,_,h=>by simp only[cT]at h;obtain⟨a,cap,vs,rfl,_⟩:=h;simp[Ty.size]
 | .unit,_,_,h=>by simp only[cT]at h;simp[h,Ty.size]
 | .pair a b,_,_,h=>by
  simp only[cT]at h
  obtain⟨ca,cb,rfl,ha,hb⟩:=h
  simp[Ty.size,cT.size ha,cT.size hb]
 | .arr n t,_,_,h=>by
  simp only[cT]at h
  rw[aV.length (λc x hx=>cT.size hx) h.2,h.1,Ty.size]
 | .gj t,_,x,h=>by
  simp only[cT]at h
  obtain⟨h1,h2⟩:=h
  cases hx:(x:Option (List t.den)) with
  |none=>rw[h1 hx];rfl
  |some l=>obtain⟨a,cap,vs,rfl,_⟩:=h2 l hx;rfl
 | .mD t,_,x,h=>by
  simp only[cT]at h
  obtain⟨h1,h2⟩:=h
  cases hx:(x:Option t.den) with
  |none=>rw[h1 hx];rfl
  |some l=>obtain⟨b,off,vs,rfl,_⟩:=h2 l hx;rfl
theorem cT.one{E:Env}:∀ {t:Ty} {cs:List Value} {x:t.den},cT E t cs x->∀c∈cs,c.oneCell'=true
 | .int _,_,_,h=>by simp only[cT]at h;simp[h,Value.oneCell']
 | .bool,_,_,h=>by simp only[cT]at h;simp[h,Value.oneCell']
 | .str,_,_,h=>by simp only[cT]at h;simp[h,Value.oneCell']
 | .slice t,_,_,h=>by simp only[cT]at h;obtain⟨a,cap,vs,rfl,_⟩:=h;simp[Value.oneCell']
 | .unit,_,_,h=>by simp only[cT]at h;simp[h]
 | .pair a b,_,_,h=>by
  simp only[cT]at h
  obtain⟨ca,cb,rfl,ha,hb⟩:=h
  intro c hc
  rcases bp.1 hc with hc | hc
  ·exact cT.one ha c hc
  ·exact cT.one hb c hc
 | .arr n t,_,_,h=>by
  simp only[cT]at h
  exact aV.all (λc x hx=>cT.one hx) h.2
 | .gj t,_,x,h=>by
  simp only[cT]at h
  obtain⟨h1,h2⟩:=h
  cases hx:(x:Option (List t.den)) with
  |none=>rw[h1 hx];simp[Value.oneCell']
  |some l=>obtain⟨a,cap,vs,rfl,_⟩:=h2 l hx;simp[Value.oneCell']
 | .mD t,_,x,h=>by
  simp only[cT]at h
  obtain⟨h1,h2⟩:=h
  cases hx:(x:Option t.den) with
  |none=>rw[h1 hx];simp[Value.oneCell']
  |some l=>obtain⟨b,off,vs,rfl,_⟩:=h2 l hx;simp[Value.oneCell']
structure mr(E E':Env):Prop where
 has:∀b off v,E.has b off v->E'.has b off v
 fz:∀b ob,E.g b= .free->E.w.heap[b]? =some ob->E'.g b= .free/\E'.w.heap[b]? =some ob
theorem mr.refl(E:Env):mr E E:=⟨λ_ _ _ h=>h,λ_ _ h h'=>⟨h,h'⟩⟩
theorem mr.trans{E E' E'':Env}(h:mr E E')(h':mr E' E''):mr E E'':=⟨λb o v x=>h'.has b o v (h.has b o v x),λb ob h1 h2=>let⟨h3,h4⟩:=h.fz b ob h1 h2;h'.fz b ob h3 h4⟩
theorem rZ.mono{E E':Env}(h:mr E E'){a:Option Addr}{vs:List Value}(hr:rZ E a vs):rZ E' a vs:=
 λi v hv=>let⟨b,off,ha,hh⟩:=hr i v hv;⟨b,off,ha,h.has _ _ _ hh⟩
theorem cT.mono{E E':Env}(hm:mr E E'):∀ {t:Ty} {cs:List Value} {x:t.den},cT E t cs x->cT E' t cs x
 | .int _,_,_,h=>by simpa only[cT]using h
 | .bool,_,_,h=>by simpa only[cT]using h
 | .str,_,_,h=>by simpa only[cT]using h
 | .slice t,_,_,h=>by
  simp only[cT]at h ⊢
  obtain⟨a,cap,vs,e,hl,hs,hr,hc⟩:=h
  exact⟨a,cap,vs,e,hl,hs,hr.mono hm,hc.mono λc x hx=>cT.mono hm hx⟩
 | .unit,_,_,h=>by simpa only[cT]using h
 | .pair a b,_,_,h=>by
  simp only[cT]at h ⊢
  obtain⟨ca,cb,e,ha,hb⟩:=h
  exact⟨ca,cb,e,cT.mono hm ha,cT.mono hm hb⟩
 | .arr n t,_,_,h=>by
  simp only[cT]at h ⊢
  exact⟨h.1,h.2.mono λc x hx=>cT.mono hm hx⟩
 | .gj t,_,_,h=>by
  simp only[cT]at h ⊢
  refine⟨h.1,λl hx=> ?_⟩
  obtain⟨a,cap,vs,e,hl,hs,hr,hc⟩:=h.2 l hx
  exact⟨a,cap,vs,e,hl,hs,hr.mono hm,hc.mono λc x hx=>cT.mono hm hx⟩
 | .mD t,_,_,h=>by
  simp only[cT]at h ⊢
  refine⟨h.1,λl hx=> ?_⟩
  obtain⟨b,off,vs,e,hr,hc⟩:=h.2 l hx
  exact⟨b,off,vs,e,hr.mono hm,cT.mono hm hc⟩
def Env.cur(E:Env)(id:Id)(ver:Nat):Prop:=∃fr c,E.s id=some (.obj ver fr c)
def Env.r9(E:Env)(id:Id)(ver:Nat):Prop:=E.s id≠none/\∀v fr c,E.s id=some (.obj v fr c)->ver<=v
def eW(agg:Bool)(cs:List Value)(v:Value):Prop:=match agg with | true=>v= .agg cs.toArray | false=>cs=[v]
mutual
def V(E:Env):aw->List Value->Prop
 | .undef,_=>False
 | .gone,cs=>∃v,cs=[v]/\v.oneCell'=true
 | .dp,cs=>cs=[.slice none 0 0]
 | .mi,cs=>cs=[.pointer none]
 | .nX,cs=>cs=[.nilFunc]
 | .qN,cs=>cs=[.map none]
 | .sb l,cs=>∃(b cap:Nat) (arr:Array Value) (e:TypeId),cs=[.slice (some ⟨b,0,none⟩) l.length cap]/\l.length<=cap/\E.g b= .free/\E.w.heap[b]? =some (.cells arr e (arr.size,arr.size+1))/\∀(j:Nat) (v:Value),(l.map (Value.int .u8))[j]? =some v->arr[j]? =some v
 | .d t x,cs=>cT E t cs x
 | .pr a b,cs=>∃ca cb,cs=ca++cb/\V E a ca/\V E b cb
 | .ptr id ver _ n,cs=>∃a,cs=[.pointer (some a)]/\E.r9 id ver/\(E.cur id ver->∃pl,E.β id=some pl/\a=⟨pl.b,n,none⟩)
 | .eS t x,cs=>∃b off vs,cs=[.pointer (some ⟨b,off,none⟩)]/\rZ E (some ⟨b,off,none⟩) vs/\cT E t vs x
 | .cO id ver p c i len,cs=>∃a cap,cs=[.slice a len cap]/\len<=cap/\(0 < len->a.isSome=true)/\E.r9 id ver/\
   (E.cur id ver->match E.β id with
    |some pl=>(0 < len\/i=0->a=some ⟨pl.b,c,none⟩)/\(p=[]->i=0->cap=pl.cap)
    |none=>a=none/\len=0/\cap=0)
 | .fn f c,cs=>∃vs,cs=[.func (.func f) #[] vs.toArray]/\VC E c vs
 | .cons _ _,_=>False
 | .nil,_=>False
 | .vec ..,_=>False
 | .bx ..,_=>False
 | .yl id ver,cs=>∃l,cs=[.func (.yield l) #[] #[]]/\E.r9 id ver/\(E.cur id ver->∃pl,E.β id=some pl/\l=pl.b)
 | .ow ..,_=>False
 | .l9 id ver,cs=>∃b,cs=[.map (some b)]/\E.r9 id ver/\(E.cur id ver->∃pl,E.β id=some pl/\b=pl.b)
 | .mp ..,_ | .ml ..,_=>False
def VC(E:Env):aw->List Value->Prop
 | .nil,vs=>vs=[]
 | .cons a b,vs=>∃v vs' cs,vs=v::vs'/\V E a cs/\eW a.agg cs v/\VC E b vs'
 |_,_=>False
end
structure cD(E E':Env):Prop where
 mem:mr E E'
 r9:∀id ver,E.r9 id ver->E'.r9 id ver
 cur:∀id ver,E.r9 id ver->E'.cur id ver->E.cur id ver/\E'.β id=E.β id
theorem cD.refl(E:Env):cD E E:=⟨mr.refl E,λ_ _ h=>h,λ_ _ _ h=>⟨h,rfl⟩⟩
theorem cD.trans{E E' E'':Env}(h:cD E E')(h':cD E' E''):cD E E'':=
 ⟨h.mem.trans h'.mem,λid v b=>h'.r9 id v (h.r9 id v b),λid v b c=>
  let⟨c1,e1⟩:=h'.cur id v (h.r9 id v b) c
  let⟨c2,e2⟩:=h.cur id v b c1
  ⟨c2,e1.trans e2⟩⟩
mutual
theorem V.mono{E E':Env}(h:cD E E'):∀ {a:aw} {cs:List Value},V E a cs->V E' a cs
 | .undef,_,hv=>by simp only[V]at hv
 | .gone,_,hv=>by simpa only[V]using hv
 | .dp,_,hv=>by simpa only[V]using hv
 | .mi,_,hv=>by simpa only[V]using hv
 | .nX,_,hv=>by simpa only[V]using hv
 | .ow ..,_,hv=>by simp only[V]at hv
 | .qN,_,hv=>by simpa only[V]using hv
 | .sb l,_,hv=>by
  simp only[V]at hv ⊢
  obtain⟨b,cap,arr,e,h1,h2,h3,h4,h5⟩:=hv
  obtain⟨h6,h7⟩:=h.mem.fz b _ h3 h4
  exact⟨b,cap,arr,e,h1,h2,h6,h7,h5⟩
 | .d t x,_,hv=>by simp only[V]at hv ⊢;exact hv.mono h.mem
 | .pr a b,_,hv=>by
  simp only[V]at hv ⊢
  obtain⟨ca,cb,e,ha,hb⟩:=hv
  exact⟨ca,cb,e,V.mono h ha,V.mono h hb⟩
 | .ptr id ver p n,_,hv=>by
  simp only[V]at hv ⊢
  obtain⟨a,e,hb,hc⟩:=hv
  refine⟨a,e,h.r9 _ _ hb,λc=> ?_⟩
  obtain⟨c1,e1⟩:=h.cur _ _ hb c
  rw[e1];exact hc c1
 | .eS t x,_,hv=>by
  simp only[V]at hv ⊢
  obtain⟨b,off,vs,e,hr,hx⟩:=hv
  exact⟨b,off,vs,e,hr.mono h.mem,hx.mono h.mem⟩
 | .cO id ver p c i len,_,hv=>by
  simp only[V]at hv ⊢
  obtain⟨a,cap,e,hl,hs,hb,hc⟩:=hv
  refine⟨a,cap,e,hl,hs,h.r9 _ _ hb,λc=> ?_⟩
  obtain⟨c1,e1⟩:=h.cur _ _ hb c
  rw[e1];exact hc c1
 | .fn f c,_,hv=>by
  simp only[V]at hv ⊢
  obtain⟨vs,e,hc⟩:=hv
  exact⟨vs,e,VC.mono h hc⟩
 | .cons _ _,_,hv=>by simp only[V]at hv
 | .nil,_,hv=>by simp only[V]at hv
 | .vec ..,_,hv=>by simp only[V]at hv
 | .bx ..,_,hv=>by simp only[V]at hv
 | .yl id ver,_,hv=>by
  simp only[V]at hv ⊢
  obtain⟨b,e,hb,hc⟩:=hv
  refine⟨b,e,h.r9 _ _ hb,λc=> ?_⟩
  obtain⟨c1,e1⟩:=h.cur _ _ hb c
  rw[e1];exact hc c1
 | .l9 id ver,_,hv=>by
  simp only[V]at hv ⊢
  obtain⟨b,e,hb,hc⟩:=hv
  refine⟨b,e,h.r9 _ _ hb,λc=> ?_⟩
  obtain⟨c1,e1⟩:=h.cur _ _ hb c
  rw[e1];exact hc c1
 | .mp ..,_,hv | .ml ..,_,hv=>by simp only[V]at hv
theorem VC.mono{E E':Env}(h:cD E E'):∀ {a:aw} {vs:List Value},VC E a vs->VC E' a vs
 | .nil,_,hv=>by simpa only[VC]using hv
 | .cons a b,_,hv=>by
  simp only[VC]at hv ⊢
  obtain⟨v,vs',cs,e,ha,ho,hb⟩:=hv
  exact⟨v,vs',cs,e,V.mono h ha,ho,VC.mono h hb⟩
 | .undef,_,hv=>by simp only[VC]at hv
 | .gone,_,hv=>by simp only[VC]at hv
 | .dp,_,hv=>by simp only[VC]at hv
 | .mi,_,hv=>by simp only[VC]at hv
 | .nX,_,hv=>by simp only[VC]at hv
 | .yl ..,_,hv | .ow ..,_,hv=>by simp only[VC]at hv
 | .qN,_,hv=>by simp only[VC]at hv
 | .sb _,_,hv=>by simp only[VC]at hv
 | .d t x,_,hv=>by simp only[VC]at hv
 | .pr a b,_,hv=>by simp only[VC]at hv
 | .ptr ..,_,hv=>by simp only[VC]at hv
 | .eS ..,_,hv=>by simp only[VC]at hv
 | .cO ..,_,hv=>by simp only[VC]at hv
 | .fn ..,_,hv=>by simp only[VC]at hv
 | .vec ..,_,hv=>by simp only[VC]at hv
 | .bx ..,_,hv=>by simp only[VC]at hv
 | .l9 ..,_,hv=>by simp only[VC]at hv
 | .mp ..,_,hv | .ml ..,_,hv=>by simp only[VC]at hv
end
theorem V.size{E:Env}:∀ {a:aw} {cs:List Value},V E a cs->cs.length=a.size
 | .undef,_,hv=>by simp only[V]at hv
 | .gone,_,hv=>by simp only[V]at hv;obtain⟨v,rfl,_⟩:=hv;rfl
 | .dp,_,hv=>by simp only[V]at hv;rw[hv];rfl
 | .mi,_,hv=>by simp only[V]at hv;rw[hv];rfl
 | .nX,_,hv=>by simp only[V]at hv;rw[hv];rfl
 | .yl ..,_,hv=>by simp only[V]at hv;obtain⟨_,rfl,_⟩:=hv;rfl
 | .ow ..,_,hv=>by simp only[V]at hv
 | .qN,_,hv=>by simp only[V]at hv;rw[hv];rfl
 | .sb _,_,hv=>by simp only[V]at hv;obtain⟨_,_,_,_,rfl,_⟩:=hv;rfl
 | .d t x,_,hv=>by simp only[V]at hv;exact hv.size
 | .pr a b,_,hv=>by
  simp only[V]at hv
  obtain⟨ca,cb,rfl,ha,hb⟩:=hv
  simp[aw.size,V.size ha,V.size hb]
 | .ptr ..,_,hv=>by simp only[V]at hv;obtain⟨a,rfl,_⟩:=hv;rfl
 | .eS ..,_,hv=>by simp only[V]at hv;obtain⟨_,_,_,rfl,_⟩:=hv;rfl
 | .cO ..,_,hv=>by simp only[V]at hv;obtain⟨_,_,rfl,_⟩:=hv;rfl
 | .fn ..,_,hv=>by simp only[V]at hv;obtain⟨_,rfl,_⟩:=hv;rfl
 | .cons _ _,_,hv=>by simp only[V]at hv
 | .nil,_,hv=>by simp only[V]at hv
 | .vec ..,_,hv=>by simp only[V]at hv
 | .bx ..,_,hv=>by simp only[V]at hv
 | .l9 ..,_,hv=>by simp only[V]at hv;obtain⟨_,rfl,_⟩:=hv;rfl
 | .mp ..,_,hv | .ml ..,_,hv=>by simp only[V]at hv
theorem V.one{E:Env}:∀ {a:aw} {cs:List Value},V E a cs->∀c∈cs,c.oneCell'=true
 | .undef,_,hv=>by simp only[V]at hv
 | .gone,_,hv=>by simp only[V]at hv;obtain⟨v,rfl,h⟩:=hv;simp[h]
 | .dp,_,hv=>by simp only[V]at hv;rw[hv];simp[Value.oneCell']
 | .mi,_,hv=>by simp only[V]at hv;rw[hv];simp[Value.oneCell']
 | .nX,_,hv=>by simp only[V]at hv;rw[hv];simp[Value.oneCell']
 | .yl ..,_,hv=>by simp only[V]at hv;obtain⟨_,rfl,_⟩:=hv;simp[Value.oneCell']
 | .ow ..,_,hv=>by simp only[V]at hv
 | .qN,_,hv=>by simp only[V]at hv;rw[hv];simp[Value.oneCell']
 | .sb _,_,hv=>by simp only[V]at hv;obtain⟨_,_,_,_,rfl,_⟩:=hv;simp[Value.oneCell']
 | .d t x,_,hv=>by simp only[V]at hv;exact hv.one
 | .pr a b,_,hv=>by
  simp only[V]at hv
  obtain⟨ca,cb,rfl,ha,hb⟩:=hv
  intro c hc
  rcases bp.1 hc with hc | hc
  ·exact V.one ha c hc
  ·exact V.one hb c hc
 | .ptr ..,_,hv=>by simp only[V]at hv;obtain⟨a,rfl,_⟩:=hv;simp[Value.oneCell']
 | .eS ..,_,hv=>by simp only[V]at hv;obtain⟨_,_,_,rfl,_⟩:=hv;simp[Value.oneCell']
 | .cO ..,_,hv=>by simp only[V]at hv;obtain⟨_,_,rfl,_⟩:=hv;simp[Value.oneCell']
 | .fn ..,_,hv=>by simp only[V]at hv;obtain⟨_,rfl,_⟩:=hv;simp[Value.oneCell']
 | .cons _ _,_,hv=>by simp only[V]at hv
 | .nil,_,hv=>by simp only[V]at hv
 | .vec ..,_,hv=>by simp only[V]at hv
 | .bx ..,_,hv=>by simp only[V]at hv
 | .l9 ..,_,hv=>by simp only[V]at hv;obtain⟨_,rfl,_⟩:=hv;simp[Value.oneCell']
 | .mp ..,_,hv | .ml ..,_,hv=>by simp only[V]at hv
theorem aw.EI:∀ {v:aw},v.agg=false->v.size=1
 | .d (.int _) _,_ | .d .bool _,_ | .d .str _,_ | .d (.slice _) _,_ | .d (.gj _) _,_ | .d (.mD _) _,_=>rfl
 | .d .unit _,h | .d (.pair _ _) _,h | .d (.arr _ _) _,h=>by simp[aw.agg,Ty.agg]at h
 | .pr _ _,h=>by simp[aw.agg]at h
 | .undef,_ | .gone,_ | .dp,_ | .mi,_ | .nX,_ | .qN,_ | .ptr ..,_ | .eS ..,_ | .cO ..,_ | .fn ..,_ | .cons ..,_ | .nil,_ | .vec ..,_ | .sb _,_ | .bx ..,_ | .l9 ..,_ | .mp ..,_ | .ml ..,_ | .yl ..,_ | .ow ..,_=>rfl
def VS(E:Env):aw->Value->Prop
 | .undef,_=>True
 | .cons a b,v=>∃vs,v= .tuple vs.toArray/\VC E (.cons a b) vs
 | .nil,v=>v= .tuple #[]
 |a,v=>∃cs,V E a cs/\eW a.agg cs v
theorem VS.mono{E E':Env}(h:cD E E'):∀ {a:aw} {v:Value},VS E a v->VS E' a v:=by
 intro a v hv
 cases a <;> first
  |trivial
  |exact hv
  | (obtain⟨cs,h1,h2⟩:=hv;exact⟨cs,V.mono h h1,h2⟩)
  | (obtain⟨vs,e,hc⟩:=hv;exact⟨vs,e,VC.mono h hc⟩)
theorem VS.undef{E:Env}{v:Value}:VS E .undef v:=trivial
theorem VS.of{E:Env}{a:aw}{cs:List Value}{v:Value}(h:V E a cs)(ho:eW a.agg cs v):VS E a v:=by
 cases a <;> first
  | (simp only[V]at h;done)
  |exact⟨cs,h,ho⟩
theorem VS.dZ{E:Env}{a:aw}{v:Value}(h:VS E a v)(hc:a.dZ=true):∃cs,V E a cs/\eW a.agg cs v:=by
 cases a <;> first
  | (simp[aw.dZ]at hc;done)
  |exact h
theorem VS.single{E:Env}{a:aw}{v:Value}(h:VS E a v)(hc:a.dZ=true)(ha:a.agg=false):V E a [v]:=by
 obtain⟨cs,hv,ho⟩:=h.dZ hc
 rw[ha]at ho
 have:cs=[v]:=ho
 rw[<-this];exact hv
theorem eW.cells{agg:Bool}{cs:List Value}{v:Value}(h:eW agg cs v)(h1:∀c∈cs,c.oneCell'=true):v.cells=cs.toArray:=by
 cases agg with
 |true=>have:v= .agg cs.toArray:=h;rw[this];rfl
 |false=>
  have e:cs=[v]:=h
  have:=h1 v (by simp[e])
  rw[e]
  cases v <;> first | rfl | (simp[Value.oneCell']at this;done)
end Go.Ab
namespace Go.Ab
section
variable {α β:Type}
theorem aq{a b:α}:(Out.ok a).eval=some b↔a=b:=by simp[Out.eval]
theorem aj{b:α}:(Out.fail:Out α).eval=some b↔False:=by simp[Out.eval]
theorem bF{c:Bool}{r:Out α}{b:α}:(Out.mV c r).eval=some b↔c=true/\r.eval=some b:=by cases c <;> simp[Out.eval]
theorem aA{c:Bool}{r:Out α}{b:α}:(Out.guard c r).eval=some b↔c=true/\r.eval=some b:=by cases c <;> simp[Out.guard,Out.eval]
theorem nS{x:Option β}{f:β->Out α}{b:α}:(Out.get x f).eval=some b↔∃y,x=some y/\(f y).eval=some b:=by
 cases x <;> simp[Out.eval]
theorem iP{x:Option α}{b:α}:(Out.opt x).eval=some b↔x=some b:=by cases x <;> simp[Out.opt,Out.eval]
theorem Cp(o:Out α)(f:α->Out β):(o.bind f).eval=o.eval.bind λa=>(f a).eval:=by
 induction o with
 |ok a=>rfl
 |fail=>rfl
 |mV c r ih=>cases c <;> simp[Out.bind,Out.eval,ih]
 |get x g ih=>cases x <;> simp[Out.bind,Out.eval,ih]
 |br c x y ih1 ih2=>cases c <;> simp[Out.bind,Out.eval,ih1,ih2]
theorem ak{o:Out α}{f:α->Out β}{b:β}:(o.bind f).eval=some b↔∃a,o.eval=some a/\(f a).eval=some b:=by
 rw[Cp];simp[Option.bind_eq_some_iff]
theorem run_eq{R:Type}(o:Out α)(k:α->Option R):o.run k=o.eval.bind k:=by
 induction o with
 |ok a=>rfl
 |fail=>rfl
 |mV c r ih=>cases c <;> simp[Out.run,Out.eval,aN,ih]
 |get x g ih=>cases x <;> simp[Out.run,Out.eval,aB,ih]
 |br c x y ih1 ih2=>cases c <;> simp[Out.run,Out.eval,aN,ih1,ih2]
theorem il{R:Type}{o:Out α}{k:α->Option R}{r:R}:o.run k=some r↔∃a,o.eval=some a/\k a=some r:=by
 rw[run_eq];simp[Option.bind_eq_some_iff]
end
theorem iB{t t':Ty}{x:t.den}{y:t'.den}(h:ni t t' x=some y):∃e:t=t',e▸x=y:=by
 unfold ni at h
 split at h
 ·rename_i e;exact⟨e,by simpa using h⟩
 ·cases h
theorem aV.map{α β:Type}{R:List Value->α->Prop}{R':List Value->β->Prop}{f:α->β}(h:∀c x,R c x->R' c (f x)):∀ {cs:List Value} {l:List α},aV R cs l->aV R' cs (l.map f)
 |_,[],hc=>hc
 |_,x::xs,⟨c,cs',e,hx,hr⟩=>⟨c,cs',e,h c x hx,aV.map h hr⟩
theorem cT.Rm{E:Env}:∀(a b:Ty) (f:a.den->b.den),AO a b=some f->∀(cs:List Value) (x:a.den),cT E a cs x->cT E b cs (f x):=by
 intro a b
 induction a,b using AO.induct with
 |case1 t=>
  intro f hf cs x hx
  unfold AO at hf
  rw[dif_pos rfl]at hf
  obtain rfl:=ba hf
  simp only[cT]at hx
  obtain⟨h1,h2⟩:=hx
  show cT E (.slice t) cs ((x:Option (List t.den)).getD [])
  simp only[cT]
  cases hx:(x:Option (List t.den)) with
  |none=>exact⟨none,0,[],h1 hx,az _,λh=>absurd h (iA 0),λi v hh=>by simp at hh,rfl⟩
  |some l=>exact h2 l hx
 |case2 t t' gS=>
  intro f hf
  unfold AO at hf
  rw[dif_neg gS]at hf
  cases hf
 |case3 t=>
  intro f hf cs x hx
  unfold AO at hf
  rw[dif_pos rfl]at hf
  obtain rfl:=ba hf
  simp only[cT]at hx ⊢
  refine⟨λh=>(by cases h),λl hl=> ?_⟩
  obtain rfl:x=l:=ba hl
  exact hx
 |case4 t t' gS=>
  intro f hf
  unfold AO at hf
  rw[dif_neg gS]at hf
  cases hf
 |case5 a b c d f g h1 h2 ih1 ih2=>
  intro k hk cs x hx
  unfold AO at hk
  rw[h2,h1]at hk
  obtain rfl:=ba hk
  simp only[cT]at hx ⊢
  obtain⟨ca,cb,e,ha,hb⟩:=hx
  exact⟨ca,cb,e,ih1 f h2 ca x.1 ha,ih2 g h1 cb x.2 hb⟩
 |case6 a b c d hn ih1 ih2=>
  intro p hp
  unfold AO at hp
  split at hp
  ·rename_i f k h1 h2
   exact(hn _ _ h1 h2).elim
  ·cases hp
 |case7 a b f h1 ih=>
  intro k hk cs x hx
  unfold AO at hk
  rw[h1]at hk
  obtain rfl:=ba hk
  simp only[cT]at hx ⊢
  obtain⟨ad,cap,vs,e,hl,hs,hr,hc⟩:=hx
  rw[cg]
  exact⟨ad,cap,vs,e,hl,hs,hr,hc.map λc x hx=>ih f h1 c x hx⟩
 |case8 a b h1 ih=>
  intro p hp
  unfold AO at hp
  rw[h1]at hp
  cases hp
 |case9 a h1 h2 h3 h4=>
  intro f hf cs x hx
  rw[AO.eq_5 _ _ h1 h2 h3 h4,dif_pos rfl]at hf
  obtain rfl:=ba hf
  exact hx
 |case10 a b h1 h2 h3 h4 gS=>
  intro f hf
  rw[AO.eq_5 _ _ h1 h2 h3 h4,dif_neg gS]at hf
  cases hf
theorem Lh{t t':Ty}{f:t.den->t'.den}(hp:AO t t'=some f):t.agg=t'.agg:=by
 unfold AO at hp
 split at hp
 ·rfl
 ·rfl
 ·rfl
 ·rfl
 ·split at hp
  ·rename_i e;rw[e]
  ·cases hp
theorem Bn{t t':Ty}{x:t.den}{y:t'.den}(h:sH t t' x=some y):t.agg=t'.agg:=by
 unfold sH at h
 split at h
 ·rename_i z hz
  obtain⟨e,_⟩:=iB hz
  rw[e]
 ·split at h
  ·rename_i f hf
   exact Lh hf
  ·cases h
theorem ru{E:Env}{t t':Ty}{x:t.den}{y:t'.den}(h:sH t t' x=some y){cs:List Value}(hx:cT E t cs x):cT E t' cs y:=by
 unfold sH at h
 split at h
 ·rename_i z hz
  obtain⟨e,hz⟩:=iB hz
  subst e
  obtain rfl:=ba h
  simp only at hz
  rw[<-hz]
  exact hx
 ·split at h
  ·rename_i f hf
   obtain rfl:=ba h
   exact cT.Rm _ _ f hf cs x hx
  ·cases h
theorem HF{E:Env}{t t':Ty}{x:List t.den}{y:List t'.den}(h:sH (.slice t) (.slice t') x=some y):y.length=x.length/\∀vs,aV (cT E t) vs x->aV (cT E t') vs y:=by
 unfold sH at h
 split at h
 ·rename_i z hz
  obtain⟨e,hz⟩:=iB hz
  have e':t=t':=by simpa using e
  subst e'
  obtain rfl:=ba h
  simp only at hz
  subst hz
  exact⟨rfl,λ_ h=>h⟩
 ·split at h
  ·rename_i p hp
   obtain rfl:=ba h
   unfold AO at hp
   cases hd:AO t t' with
   |none=>rw[hd]at hp;cases hp
   |some q=>
    rw[hd]at hp
    obtain rfl:=ba hp
    exact⟨cg _,λvs hc=>hc.map λc x hx=>cT.Rm _ _ q hd c x hx⟩
  ·cases h
def VO(E:Env):aw->List Value->Prop
 | .vec _ t l,cs=>aV (cT E t) cs l
 |a,cs=>V E a cs
theorem VO.of{E:Env}{a:aw}{cs:List Value}(h:V E a cs):VO E a cs:=by
 cases a <;> first | exact h | (simp only[V]at h)
def aw.gr:aw->Bool | .vec .. =>true | .mp .. =>true | .ml .. =>true | .ow .. =>true | _=>false
theorem VO.to{E:Env}{a:aw}{cs:List Value}(h:VO E a cs)(hn:a.gr=false):V E a cs:=by
 cases a <;> first | exact h | (simp[aw.gr]at hn)
theorem VO.mono{E E':Env}(h:cD E E'){a:aw}{cs:List Value}(hv:VO E a cs):VO E' a cs:=by
 cases a <;> first | exact V.mono h hv | exact aV.mono (λ_ _ hx=>hx.mono h.mem) hv
theorem zX{t:Ty}{l:List t.den}{i:Nat}(h:i < l.length):nth t l i=l[i]:=by
 unfold nth;simp[h]
theorem z6{α:Type}(cs:List α)(n m k j:Nat)(h:k+j<=m):(((cs.drop n).take m).drop k).take j=(cs.drop (n+k)).take j:=by
 rw[mq,iM,eN]
 congr 1
 omega
theorem wm{E:Env}{t:Ty}{cs:List Value}{l:List t.den}(h:aV (cT E t) cs l){i:Nat}(hi:i < l.length):
  cT E t ((cs.drop (i*t.size)).take t.size) l[i]/\i*t.size+t.size<=cs.length:=by
 have hz:∀c x,cT E t c x->c.length=t.size:=λc x hx=>hx.size
 refine⟨h.get hz i hi,?_⟩
 rw[h.length hz,<-Nat.succ_mul]
 exact cW _ hi
theorem mc{E:Env}:∀(p:List tJ) (c:aw) (cs:List Value) (n:Nat) (v:aw),VO E c cs->(loc c p).eval=some (n,v)->
  (n=0/\v=c)\/(V E v ((cs.drop n).take v.size)/\n+v.size<=cs.length)
 |[],c,cs,n,v,hc,h=>by
  left
  simp only[loc,aq,cE]at h
  exact⟨h.1.symm,h.2.symm⟩
 |st::p,c,cs,n,v,hc,h=>by
  by_cases mj:st= .arr
  ·subst mj
   have h':(loc c p).eval=some (n,v):=by cases c <;> simpa only[loc]using h
   exact mc p c cs n v hc h'
  right
  have whole:∀(c':aw) (cs':List Value) (n':Nat) (v':aw),V E c' cs'->(loc c' p).eval=some (n',v')->V E v' ((cs'.drop n').take v'.size)/\n'+v'.size<=cs'.length:=by
   intro c' cs' n' v' hc' hl
   rcases mc p c' cs' n' v' (VO.of hc') hl with⟨rfl,rfl⟩ | hh
   ·have:=hc'.size
    rw[aI,bg (by omega)]
    exact⟨hc',by omega⟩
   ·exact hh
  have second:∀(a b:aw) (ca cb:List Value),cs=ca++cb->ca.length=a.size->V E b cb->((loc b p).bind λ(n,v)=>Out.ok (a.size+n,v)).eval=some (n,v)->
    V E v ((cs.drop n).take v.size)/\n+v.size<=cs.length:=by
   intro a b ca cb e hl hb hh
   obtain⟨⟨n',v'⟩,h1,h2⟩:=ak.1 hh
   simp only[aq,cE]at h2
   obtain⟨rfl,rfl⟩:=h2
   obtain⟨h3,h4⟩:=whole b cb n' v' hb h1
   subst e
   rw[<-hl,iG,fV (by omega),bh,gU]
   exact⟨h3,by simp only[av];omega⟩
  have elem:∀(t:Ty) (l:List t.den) (i:Nat),aV (cT E t) cs l->(Out.mV (decide (i < l.length)) ((loc (.d t (nth t l i)) p).bind λ(n,v)=>Out.ok (i*t.size+n,v))).eval=some (n,v)->
    V E v ((cs.drop n).take v.size)/\n+v.size<=cs.length:=by
   intro t l i nH hh
   obtain⟨hi,hh⟩:=bF.1 hh
   have hi:i < l.length:=by simpa using hi
   obtain⟨⟨n',v'⟩,h1,h2⟩:=ak.1 hh
   simp only[aq,cE]at h2
   obtain⟨rfl,rfl⟩:=h2
   obtain⟨hp,hle⟩:=wm nH hi
   rw[zX hi]at h1
   have hv:V E (.d t l[i]) ((cs.drop (i*t.size)).take t.size):=by simpa only[V]using hp
   obtain⟨h3,h4⟩:=whole _ _ n' v' hv h1
   have hlen:((cs.drop (i*t.size)).take t.size).length=t.size:=hp.size
   rw[z6 _ _ _ _ _ (by omega)]at h3
   exact⟨h3,by omega⟩
  cases c with
  |pr a b=>
   simp only[VO,V]at hc
   obtain⟨ca,cb,e,ha,hb⟩:=hc
   cases st with
   |arr=>exact absurd rfl mj
   |fst=>
    simp only[loc]at h
    obtain⟨h3,h4⟩:=whole a ca n v ha h
    subst e
    refine⟨?_,by simp only[av];omega⟩
    rw[iG,iH,cq,iV (by omega:v.size<=ca.length - n),eO,cM]
    exact h3
   |snd=>simp only[loc]at h;exact second a b ca cb e ha.size hb h
   |idx i=>simp only[loc,aj]at h
  |d t x=>
   simp only[VO,V]at hc
   cases t with
   |pair ta tb=>
    simp only[cT]at hc
    obtain⟨ca,cb,e,ha,hb⟩:=hc
    cases st with
    |arr=>exact absurd rfl mj
    |fst=>
     simp only[loc]at h
     obtain⟨h3,h4⟩:=whole (.d ta x.1) ca n v (by simpa only[V]using ha) h
     subst e
     refine⟨?_,by simp only[av];omega⟩
     rw[iG,iH,cq,iV (by omega:v.size<=ca.length - n),eO,cM]
     exact h3
    |snd=>simp only[loc]at h;exact second (.d ta x.1) (.d tb x.2) ca cb e ha.size (by simpa only[V]using hb) h
    |idx i=>simp only[loc,aj]at h
   |arr m t=>
    simp only[cT]at hc
    cases st with
    |arr=>exact absurd rfl mj
    |idx i=>simp only[loc]at h;exact elem t x i hc.2 h
    |fst=>simp only[loc,aj]at h
    |snd=>simp only[loc,aj]at h
   |_=>cases st <;> first | exact absurd rfl mj | (simp only[loc,aj]at h)
  |vec e t l=>
   simp only[VO]at hc
   cases st with
   |arr=>exact absurd rfl mj
   |idx i=>simp only[loc]at h;exact elem t l i hc h
   |fst=>simp only[loc,aj]at h
   |snd=>simp only[loc,aj]at h
  |_=>cases st <;> first | exact absurd rfl mj | (simp only[loc,aj]at h)
theorem Ff{E:Env}{a b:aw}{ca cb:List Value}(ha:V E a ca)(hb:V E b cb):V E (vS a b) (ca++cb):=by
 have gen:V E (.pr a b) (ca++cb):=by simp only[V];exact⟨ca,cb,rfl,ha,hb⟩
 unfold vS
 split
 ·simp only[V]at ha hb ⊢
  simp only[cT]
  exact⟨ca,cb,rfl,ha,hb⟩
 ·exact gen
theorem xZ(a b:aw):(vS a b).gr=false:=by unfold vS;split <;> rfl
def df(cs:List Value)(n:Nat)(vs:List Value):List Value:=cs.take n++vs++cs.drop (n+vs.length)
theorem Gv{cs vs:List Value}(h:cs.length=vs.length):df cs 0 vs=vs:=by
 simp[df,fV (by omega:cs.length<=vs.length)]
theorem qz{ca cb vs:List Value}{n:Nat}(h:n+vs.length<=ca.length):df (ca++cb) n vs=df ca n vs++cb:=by
 unfold df
 rw[iH,iG,iV (by omega:n<=ca.length),eO,cM,iV h,aI]
 simp only[bw]
theorem wC{ca cb vs:List Value}{n:Nat}:df (ca++cb) (ca.length+n) vs=ca++df cb n vs:=by
 unfold df
 rw[iH,bg (by omega),gU,iG,fV (by omega),bh]
 simp only[bw]
 congr 4
 omega
theorem Gw{cs vs:List Value}{i z n:Nat}(hz:i+z<=cs.length)(h:n+vs.length<=z):
  df cs (i+n) vs=cs.take i++df ((cs.drop i).take z) n vs++cs.drop (i+z):=by
 have e:cs=cs.take i++((cs.drop i).take z++cs.drop (i+z)):=by
  rw[<-eN,cK,cK]
 have hl:(cs.take i).length=i:=by simp;omega
 have hm:((cs.drop i).take z).length=z:=by simp;omega
 conv=>lhs;rw[e,show i+n=(cs.take i).length+n by rw[hl]]
 rw[wC,qz (by omega)]
 simp only[bw]
theorem iE{cs vs:List Value}{n:Nat}(h:n+vs.length<=cs.length):(df cs n vs).length=cs.length:=by
 simp[df];omega
def jG:aw->aw->Prop
 | .vec e t l,.vec e' t' l'=>e'=e/\t'=t/\l'.length=l.length
 | .vec ..,_=>False
 |_,.vec .. =>False
 | .mp ..,_ | .ml ..,_ | .ow ..,_=>False
 |_,.mp .. | _,.ml .. | _,.ow .. =>False
 |_,_=>True
theorem jG.mK{a b:aw}(h:jG a b)(ha:a.gr=false):b.gr=false:=by
 cases b <;> first
  |rfl
  | (cases a <;> first | (simp[aw.gr]at ha;done) | exact h.elim)
theorem jG.of{a b:aw}(ha:a.gr=false)(hb:b.gr=false):jG a b:=by
 cases a <;> first
  | (simp[aw.gr]at ha;done)
  | (cases b <;> first | trivial | (simp[aw.gr]at hb;done))
theorem V.mK{E:Env}{a:aw}{cs:List Value}(h:V E a cs):a.gr=false:=by
 cases a <;> first | rfl | (simp only[V]at h)
theorem kZ{E:Env}:∀(p:List tJ) (c:aw) (cs:List Value) (n:Nat) (o v c':aw) (vs:List Value),VO E c cs->(loc c p).eval=some (n,o)->V E v vs->
  (oQ c p v).eval=some c'->n+vs.length<=cs.length/\VO E c' (df cs n vs)/\
   jG c c'
 |[],c,cs,n,o,v,c',vs,hc,hl,hv,h=>by
  simp only[loc,aq,cE]at hl
  obtain⟨rfl,rfl⟩:=hl
  have main:∀(P0:c.gr=false),(Out.guard (v.dZ && (c.size==v.size)) (.ok v)).eval=some c'->0+vs.length<=cs.length/\VO E c' (df cs 0 vs)/\
   jG c c':=by
   intro P0 hg
   obtain⟨h1,h2⟩:=aA.1 hg
   obtain rfl:=aq.1 h2
   simp only[ah,beq_iff_eq]at h1
   have e1:=(hc.to P0).size
   have e2:=hv.size
   refine⟨by omega,?_,?_⟩
   ·rw[Gv (by omega)];exact VO.of hv
   ·exact jG.of P0 hv.mK
  cases c with
  |vec e t l=>simp only[oQ,aj]at h
  |mp k v l=>simp only[oQ,aj]at h
  |ml q ver k v rest cur=>simp only[oQ,aj]at h
  |ow k f p=>simp only[oQ,aj]at h
  |_=>exact main rfl (by simpa only[oQ]using h)
 |st::p,c,cs,n,o,v,c',vs,hc,hl,hv,h=>by
  by_cases mj:st= .arr
  ·subst mj
   have hl':(loc c p).eval=some (n,o):=by cases c <;> simpa only[loc]using hl
   have h':(oQ c p v).eval=some c':=by cases c <;> simpa only[oQ]using h
   exact kZ p c cs n o v c' vs hc hl' hv h'
  have left:∀(a b:aw) (ca cb:List Value),cs=ca++cb->V E a ca->V E b cb->(loc a p).eval=some (n,o)->((oQ a p v).bind λa'=>Out.ok (vS a' b)).eval=some c'->
    n+vs.length<=cs.length/\VO E c' (df cs n vs)/\c'.gr=false:=by
   intro a b ca cb e ha hb hl hh
   obtain⟨a',h1,h2⟩:=ak.1 hh
   obtain rfl:=aq.1 h2
   obtain⟨h3,h4,h5⟩:=kZ p a ca n o v a' vs (VO.of ha) hl hv h1
   subst e
   refine⟨by simp only[av];omega,?_,xZ _ _⟩
   rw[qz h3]
   have Ru:a'.gr=false:=h5.mK ha.mK
   exact VO.of (Ff (h4.to Ru) hb)
  have right:∀(a b:aw) (ca cb:List Value),cs=ca++cb->ca.length=a.size->V E a ca->V E b cb->((loc b p).bind λ(n,v)=>Out.ok (a.size+n,v)).eval=some (n,o)->
    ((oQ b p v).bind λb'=>Out.ok (vS a b')).eval=some c'->n+vs.length<=cs.length/\VO E c' (df cs n vs)/\c'.gr=false:=by
   intro a b ca cb e HQ ha hb hl hh
   obtain⟨⟨n',v'⟩,h1,h2⟩:=ak.1 hl
   simp only[aq,cE]at h2
   obtain⟨rfl,rfl⟩:=h2
   obtain⟨b',h3,h4⟩:=ak.1 hh
   obtain rfl:=aq.1 h4
   obtain⟨h5,h6,h7⟩:=kZ p b cb n' v' v b' vs (VO.of hb) h1 hv h3
   subst e
   refine⟨by simp only[av];omega,?_,xZ _ _⟩
   rw[<-HQ,wC]
   have Ru:b'.gr=false:=h7.mK hb.mK
   exact VO.of (Ff ha (h6.to Ru))
  have elem:∀(t:Ty) (l:List t.den) (i:Nat) (mk:List t.den->aw),aV (cT E t) cs l->(Out.mV (decide (i < l.length)) ((loc (.d t (nth t l i)) p).bind λ(n,v)=>Out.ok (i*t.size+n,v))).eval=some (n,o)->
    (Out.mV (decide (i < l.length)) ((oQ (.d t (nth t l i)) p v).bind fun
     | .d t' y=>(Out.opt (ni t' t y)).bind λy=> .ok (mk (l.set i y))
     |_=> .fail)).eval=some c'->
    n+vs.length<=cs.length/\∃l',c'=mk l'/\l'.length=l.length/\aV (cT E t) (df cs n vs) l':=by
   intro t l i mk nH hl hh
   obtain⟨hi,hl⟩:=bF.1 hl
   have hi:i < l.length:=by simpa using hi
   obtain⟨⟨n',v'⟩,h1,h2⟩:=ak.1 hl
   simp only[aq,cE]at h2
   obtain⟨rfl,rfl⟩:=h2
   obtain⟨_,hh⟩:=bF.1 hh
   obtain⟨w,h3,h4⟩:=ak.1 hh
   obtain⟨hp,hle⟩:=wm nH hi
   rw[zX hi]at h1 h3
   have N4:V E (.d t l[i]) ((cs.drop (i*t.size)).take t.size):=by simpa only[V]using hp
   have hlen:((cs.drop (i*t.size)).take t.size).length=t.size:=hp.size
   obtain⟨h5,h6,h7⟩:=kZ p _ _ n' v' v w vs (VO.of N4) h1 hv h3
   cases w with
   |d t' y=>
    simp only at h4
    obtain⟨y',h8,h9⟩:=ak.1 h4
    obtain⟨rfl,h8⟩:=iB (iP.1 h8)
    simp only at h8
    subst h8
    obtain rfl:=aq.1 h9
    refine⟨by omega,_,rfl,by simp,?_⟩
    have hy:cT E t' (df ((cs.drop (i*t'.size)).take t'.size) n' vs) y:=by simpa only[VO,V]using h6
    have:=aV.set (λc x hx=>cT.size hx) nH i hi hy
    rw[Gw (by omega:i*t'.size+t'.size<=cs.length) (by omega)]
    rwa[hy.size]at this
   |_=>simp only[aj]at h4
  cases c with
  |pr a b=>
   simp only[VO,V]at hc
   obtain⟨ca,cb,e,ha,hb⟩:=hc
   cases st with
   |arr=>exact absurd rfl mj
   |fst=>
    simp only[loc]at hl;simp only[oQ]at h
    obtain⟨r1,r2,r3⟩:=left a b ca cb e ha hb hl h
    exact⟨r1,r2,jG.of rfl r3⟩
   |snd=>
    simp only[loc]at hl;simp only[oQ]at h
    obtain⟨r1,r2,r3⟩:=right a b ca cb e ha.size ha hb hl h
    exact⟨r1,r2,jG.of rfl r3⟩
   |idx i=>simp only[loc,aj]at hl
  |d t x=>
   simp only[VO,V]at hc
   cases t with
   |pair ta tb=>
    simp only[cT]at hc
    obtain⟨ca,cb,e,ha,hb⟩:=hc
    have ha':V E (.d ta x.1) ca:=by simpa only[V]using ha
    have hb':V E (.d tb x.2) cb:=by simpa only[V]using hb
    cases st with
    |arr=>exact absurd rfl mj
    |fst=>
     simp only[loc]at hl;simp only[oQ]at h
     obtain⟨r1,r2,r3⟩:=left _ _ ca cb e ha' hb' hl h
     exact⟨r1,r2,jG.of rfl r3⟩
    |snd=>
     simp only[loc]at hl;simp only[oQ]at h
     obtain⟨r1,r2,r3⟩:=right (.d ta x.1) (.d tb x.2) ca cb e ha.size ha' hb' hl h
     exact⟨r1,r2,jG.of rfl r3⟩
    |idx i=>simp only[loc,aj]at hl
   |arr m t=>
    simp only[cT]at hc
    cases st with
    |arr=>exact absurd rfl mj
    |idx i=>
     simp only[loc]at hl;simp only[oQ]at h
     obtain⟨r1,l',e,r2,r3⟩:=elem t x i (λl=> .d (.arr m t) l) hc.2 hl h
     subst e
     refine⟨r1,?_,trivial⟩
     simp only[VO,V,cT]
     exact⟨by rw[r2];exact hc.1,r3⟩
    |fst=>simp only[loc,aj]at hl
    |snd=>simp only[loc,aj]at hl
   |_=>cases st <;> first | exact absurd rfl mj | (simp only[loc,aj]at hl)
  |vec e t l=>
   simp only[VO]at hc
   cases st with
   |arr=>exact absurd rfl mj
   |idx i=>
    simp only[loc]at hl;simp only[oQ]at h
    obtain⟨r1,l',e',r2,r3⟩:=elem t l i (λl=> .vec e t l) hc hl h
    subst e'
    exact⟨r1,by simpa only[VO]using r3,rfl,rfl,r2⟩
   |fst=>simp only[loc,aj]at hl
   |snd=>simp only[loc,aj]at hl
  |_=>cases st <;> first | exact absurd rfl mj | (simp only[loc,aj]at hl)
end Go.Ab
namespace Go.Ab
def Pe(E:Env)(id:Id)(fr:Bool)(e:TypeId)(t:Ty)(l:List t.den):Prop:=
 0 < t.size/\match E.β id with
  |none=>l=[]
  |some pl=>∃cur k,E.w.heap[pl.b]? =some (.cells cur e (0,0))/\cur.size=pl.cap*t.size/\l.length<=pl.cap/\pl.cap<=maxLen/\E.g pl.b= .own (.id id) k/\
    k<=l.length*t.size/\(fr=false->k=0)/\aV (cT E t) (cur.toList.take (l.length*t.size)) l
def aw.sD:aw->Pl->Nat->TypeId->Prop
 | .bx e' 0 _,_,_,e=>e=e'
 | .bx e' (z+1) c,pl,n,e=>e=e'/\n=pl.cap*(z+1)/\pl.cap<=maxLen/\c.size<=n
 |_,_,_,_=>True
def aw.oz:aw->Nat->Nat
 | .bx _ (_+1) c,_=>c.size
 |_,n=>n
def aw.AT:aw->Bool | .bx .. =>true | _=>false
theorem V.pU{E:Env}{a:aw}{cs:List Value}(h:V E a cs):a.AT=false:=by
 cases a <;> first | rfl | (simp only[V]at h)
theorem xz{c:aw}(h:c.AT=false):c.strip=c:=by
 cases c <;> first | rfl | (simp[aw.AT]at h)
theorem wR{c:aw}(h:c.AT=false)(pl:Pl)(n:Nat)(e:TypeId):c.sD pl n e:=by
 cases c <;> first | trivial | (simp[aw.AT]at h)
theorem y5{c:aw}(h:c.AT=false)(n:Nat):c.oz n=n:=by
 cases c <;> first | rfl | (simp[aw.AT]at h)
theorem va(c:aw){c':aw}(h:c'.AT=false):(c.wrap c').strip=c':=by
 cases c <;> first | rfl | exact xz h
theorem uq{c c':aw}{pl:Pl}{n:Nat}{e:TypeId}(hc:c.sD pl n e)(h:c'.AT=false)(hs:c'.size=c.strip.size):(c.wrap c').sD pl n e:=by
 cases c with
 |bx e' z c=>cases z with
  |zero=>exact hc
  |succ z=>exact⟨hc.1,hc.2.1,hc.2.2.1,by rw[hs];exact hc.2.2.2⟩
 |_=>exact wR h pl n e
theorem wQ{c c':aw}{n:Nat}(h:c'.AT=false)(hs:c'.size=c.strip.size):(c.wrap c').oz n=c.oz n:=by
 cases c with
 |bx e' z c=>cases z with
  |zero=>rfl
  |succ z=>exact hs
 |_=>exact y5 h n
theorem yI{c:aw}{pl:Pl}{n:Nat}{e:TypeId}(h:c.sD pl n e):c.oz n<=n:=by
 cases c with
 |bx e' z c=>cases z with
  |zero=>exact az _
  |succ z=>exact h.2.2.2
 |_=>exact az _
def Fl(id:Id)(fr:Bool):jW:=match fr with | true=> .free | false=> .own (.id id) 0
def wK(E:Env)(id:Id)(fr:Bool)(c:aw):Prop:=
 ∃pl cur e,E.β id=some pl/\E.w.heap[pl.b]? =some (.cells cur e (0,0))/\E.g pl.b=Fl id fr/\c.sD pl cur.size e/\V E c.strip (cur.toList.take (c.oz cur.size))
def Alike{α β:Type}(R:α->β->Prop):List α->List β->Prop
 |[],[]=>True
 |x::xs,y::ys=>R x y/\Alike R xs ys
 |_,_=>False
theorem Alike.mono{α β:Type}{R R':α->β->Prop}(h:∀x y,R x y->R' x y):∀ {xs:List α} {ys:List β},Alike R xs ys->Alike R' xs ys
 |[],[],_=>trivial
 |_::_,_::_,⟨h1,h2⟩=>⟨h _ _ h1,Alike.mono h h2⟩
 |[],_::_,h=>h.elim
 |_::_,[],h=>h.elim
def qV(E:Env)(t:Ty)(v:Value)(x:t.den):Prop:=∃cs,cT E t cs x/\eW t.agg cs v
def rj(E:Env)(kt vt:Ty)(e:MapEntry)(x:kt.den×vt.den):Prop:=qV E kt e.key x.1/\qV E vt e.val x.2
theorem rj.mono{E E':Env}(h:mr E E'){kt vt:Ty}{e:MapEntry}{x:kt.den×vt.den}(he:rj E kt vt e x):rj E' kt vt e x:=
 let⟨⟨c1,a1,b1⟩,c2,a2,b2⟩:=he
 ⟨⟨c1,a1.mono h,b1⟩,c2,a2.mono h,b2⟩
def Cb(E:Env)(kt vt:Ty)(es:List MapEntry)(l:List (kt.den×vt.den)):Prop:=∃l',Alike (rj E kt vt) es l'/\l'.Perm l
theorem Cb.mono{E E':Env}(h:mr E E'){kt vt:Ty}{es:List MapEntry}{l:List (kt.den×vt.den)}(hm:Cb E kt vt es l):Cb E' kt vt es l:=
 let⟨l',h1,h2⟩:=hm
 ⟨l',h1.mono λ_ _ he=>he.mono h,h2⟩
def kA(es:List MapEntry)(clock:Nat):Prop:=(es.map (·.born)).Nodup/\∀e∈es,e.born < clock
theorem kA.nil(n:Nat):kA [] n:=⟨iL,λ_ h=>(by cases h)⟩
theorem kA.push{es:List MapEntry}{clock:Nat}(h:kA es clock){e:MapEntry}(he:e.born=clock):kA (es++ [e]) (clock+1):=by
 refine⟨?_,λx hx=> ?_⟩
 ·rw[lG,List.nodup_append]
  refine⟨h.1,by simp,λa ha b hb=> ?_⟩
  obtain⟨x,hx,rfl⟩:=c7.1 ha
  have:=h.2 x hx
  simp only[bJ,fE,bO]at hb
  omega
 ·rcases bp.1 hx with hx | hx
  ·have:=h.2 x hx;omega
  ·rw[bO]at hx;subst hx;omega
theorem kA.erase{es:List MapEntry}{clock:Nat}(h:kA es clock)(j:Nat):kA (es.eraseIdx j) clock:=
 ⟨h.1.sublist ((List.eraseIdx_sublist es j).map _),λx hx=>h.2 x ((List.eraseIdx_sublist es j).subset hx)⟩
theorem kA.set{es:List MapEntry}{clock:Nat}(h:kA es clock){j:Nat}{e x:MapEntry}(hj:es[j]? =some e)(hx:x.born=e.born):kA (es.set j x) clock:=by
 have gV:=(dj.1 hj).1
 have S6:=(dj.1 hj).2
 have e1:(es.set j x).map (·.born)=es.map (·.born):=by
  rw[List.map_set,hx,<-S6]
  have:es[j].born=(es.map (·.born))[j]'(by simpa using gV):=by simp
  rw[this,fw]
 refine⟨by rw[e1];exact h.1,λy hy=> ?_⟩
 rcases List.mem_or_eq_of_mem_set hy with hy | hy
 ·exact h.2 y hy
 ·rw[hy,hx,<-S6]
  exact h.2 _ (bH gV)
def Q7(E:Env)(id:Id)(kt vt:Ty)(l:List (kt.den×vt.den)):Prop:=
 ∃pl es clock,E.β id=some pl/\E.w.heap[pl.b]? =some (.map es clock)/\E.g pl.b= .own (.id id) 0/\(Cb E kt vt es.toList l/\(l.map (·.1)).Nodup)/\kA es.toList clock
def OE(E:Env)(i q:Id)(ver:Nat)(kt vt:Ty)(rest:List (kt.den×vt.den))(cur:Option (kt.den×vt.den)):Prop:=
 ∃pl mb since seen c0,E.β i=some pl/\E.w.heap[pl.b]? =some (.mapIter (some mb) since seen c0)/\E.g pl.b= .own (.id i) 0/\∀vr,ver=vr+1->E.r9 q vr/\
  (E.cur q vr->(∃k v l,E.s q=some (.obj vr true (.mp k v l)))/\∃plq es clock,E.β q=some plq/\plq.b=mb/\E.w.heap[plq.b]? =some (.map es clock)/\E.g plq.b= .own (.id q) 0/\
   (∀x∈es.toList,x.born < since)/\(since<=c0/\since<=clock)/\(es.toList.map (·.born)).Nodup/\Cb E kt vt (es.toList.filter λe=> !seen.contains e.born) rest/\
   ∀x,cur=some x->∃(e:MapEntry) (seen':Array Nat),e∈es.toList/\seen=seen'.push e.born/\c0=clock/\rj E kt vt e x)
def Ez:Nat->LoopState->Option Code->Prop
 | 0,st,pe=>st= .ready/\pe=none
 | 1,st,_=>st= .busy
 | 2,st,pe=>st= .done/\pe=some .ret
 |n+3,st,pe=>st= .done/\pe=some (.exit n)
def rn(E:Env)(f:aw)(tmps:Array Value):Prop:=f.list.length=tmps.size/\∀i,VS E (f.list.getD i .undef) (tmps.getD i undef)
def Q9(E:Env)(id:Id)(c:nf)(f:aw)(p:Nat):Prop:=
 ∃pl r,E.β id=some pl/\E.w.heap[pl.b]? =some (.loop r)/\E.g pl.b= .own (.id id) 0/\(r.params=c.ps/\r.assign=c.as/\r.body=c.b)/\rn E f r.tmps/\Ez p r.state r.pending
def nO(E:Env)(id:Id)(fr:Bool):aw->Prop
 | .ow c f p=>Q9 E id c f p
 | .vec e t l=>Pe E id fr e t l
 | .mp kt vt l=>Q7 E id kt vt l
 | .ml q ver kt vt rest cur=>OE E id q ver kt vt rest cur
 |c=>wK E id fr c
theorem nO.box{E:Env}{id:Id}{fr:Bool}{c:aw}(h:nO E id fr c)(hn:c.gr=false):wK E id fr c:=by
 cases c <;> first | exact h | (simp[aw.gr]at hn)
theorem wK.obj{E:Env}{id:Id}{fr:Bool}{c:aw}(h:wK E id fr c):nO E id fr c:=by
 cases c <;> first | exact h | (obtain⟨_,_,_,_,_,_,_,hv⟩:=h;simp only[aw.strip,V]at hv)
def gK(E:Env):Prop:=∀id ver fr c,E.s id=some (.obj ver fr c)->nO E id fr c
structure Trans(w w':World)(g g':Nat->jW):Prop where
 os:w'.os=w.os
 tape:w'.tape=w.tape
 output:w'.output=w.output/\w.drawn<=w'.drawn
 size:w.heap.size<=w'.heap.size
 wN:∀b,b < w.heap.size->match g b with
  | .free=>g' b= .free/\w'.heap[b]? =w.heap[b]?
  | .own .dH k=>g' b= .own .dH k/\w'.heap[b]? =w.heap[b]?
  | .own (.id _) k=>(g' b= .free\/∃i k',g' b= .own (.id i) k'/\k<=k')/\∀off v,off < k->w.cell? ⟨b,off,none⟩=some v->w'.cell? ⟨b,off,none⟩=some v
theorem Trans.refl(w:World)(g:Nat->jW):Trans w w g g:=
 ⟨rfl,rfl,⟨rfl,az _⟩,az _,λb _=>by
  cases g b with
  |free=>exact⟨rfl,rfl⟩
  |own o k=>cases o with
   |dH=>exact⟨rfl,rfl⟩
   |id i=>exact⟨.inr ⟨i,k,rfl,az _⟩,λ_ _ _ h=>h⟩⟩
theorem Trans.trans{w w' w'':World}{g g' g'':Nat->jW}(h:Trans w w' g g')(h':Trans w' w'' g' g''):Trans w w'' g g'':=by
 refine⟨h'.os.trans h.os,h'.tape.trans h.tape,⟨h'.output.1.trans h.output.1,kP h.output.2 h'.output.2⟩,kP h.size h'.size,λb hb=> ?_⟩
 have h1:=h.wN b hb
 have h2:=h'.wN b (lR hb h.size)
 cases hg:g b with
 |free=>
  rw[hg]at h1;simp only at h1 ⊢
  rw[h1.1]at h2;simp only at h2
  exact⟨h2.1,h2.2.trans h1.2⟩
 |own o k=>
  cases o with
  |dH=>
   rw[hg]at h1;simp only at h1 ⊢
   rw[h1.1]at h2;simp only at h2
   exact⟨h2.1,h2.2.trans h1.2⟩
  |id i=>
   rw[hg]at h1;simp only at h1 ⊢
   obtain⟨Pu,SU⟩:=h1
   rcases Pu with Pu | ⟨i',k',Pu,hk⟩
   ·rw[Pu]at h2;simp only at h2
    exact⟨.inl h2.1,λoff v ho hv=>by
     have:=SU off v ho hv
     simpa only[World.cell?,h2.2]using this⟩
   ·rw[Pu]at h2;simp only at h2
    refine⟨?_,λoff v ho hv=>h2.2 off v (by omega) (SU off v ho hv)⟩
    rcases h2.1 with Rr | ⟨i'',k'',Rr,hk'⟩
    ·exact .inl Rr
    ·exact .inr ⟨i'',k'',Rr,by omega⟩
theorem Trans.mem{E E':Env}(h:Trans E.w E'.w E.g E'.g):mr E E':=by
 refine⟨?_,λb ob hf ho=>by
  have h1:=h.wN b (bB.1 ho).1
  rw[hf]at h1
  exact⟨h1.1,h1.2.trans ho⟩⟩
 intro b off v ⟨hc,ho⟩
 have hb:b < E.w.heap.size:=World.block_lt_of_cell? _ _ hc
 have h1:=h.wN b hb
 unfold Env.has mY at*
 cases hg:E.g b with
 |free=>
  rw[hg]at h1;simp only at h1
  refine⟨?_,by rw[h1.1];trivial⟩
  simpa only[World.cell?,h1.2]using hc
 |own o k=>
  rw[hg]at ho;simp only at ho
  cases o with
  |dH=>
   rw[hg]at h1;simp only at h1
   refine⟨?_,by rw[h1.1];exact ho⟩
   simpa only[World.cell?,h1.2]using hc
  |id i=>
   rw[hg]at h1;simp only at h1
   refine⟨h1.2 off v ho hc,?_⟩
   rcases h1.1 with h2 | ⟨i',k',h2,hk⟩
   ·rw[h2];trivial
   ·rw[h2];show off < k';omega
theorem rn.mono{E E':Env}(h:cD E E'){f:aw}{tmps:Array Value}(hs:rn E f tmps):rn E' f tmps:=⟨hs.1,λi=>(hs.2 i).mono h⟩
theorem nO.MR{E E':Env}(h:cD E E'){id:Id}{fr:Bool}{c:aw}(ho:nO E id fr c)(hβ:E'.β id=E.β id)
    (hb:∀pl,E.β id=some pl->E'.w.heap[pl.b]? =E.w.heap[pl.b]? /\E'.g pl.b=E.g pl.b)
    (hq:∀q ver k v l,(∃kt vt rest cu,c= .ml q (ver+1) kt vt rest cu)->E.s q=some (.obj ver true (.mp k v l))->E'.cur q ver->(∃k v l,E'.s q=some (.obj ver true (.mp k v l)))/\∀pl,E.β q=some pl->E'.w.heap[pl.b]? =E.w.heap[pl.b]? /\E'.g pl.b=E.g pl.b):nO E' id fr c:=by
  by_cases hn:c.gr=false
  · obtain⟨pl,cur,e,h1,h2,h3,h5,h4⟩:=ho.box hn
    obtain⟨b1,b2⟩:=hb pl h1
    exact wK.obj ⟨pl,cur,e,by rw[hβ,h1],by rw[b1,h2],by rw[b2,h3],h5,h4.mono h⟩
  · cases c <;> first
      | (exact absurd rfl hn)
      | (obtain⟨pl,r,h1,h2,h3,h4,h5,h6⟩:=ho
         obtain⟨b1,b2⟩:=hb pl h1
         exact⟨pl,r,by rw[hβ,h1],by rw[b1,h2],by rw[b2,h3],h4,h5.mono h,h6⟩)
      | (obtain⟨pl,es,clock,h1,h2,h3,h4⟩:=ho
         obtain⟨b1,b2⟩:=hb pl h1
         exact⟨pl,es,clock,by rw[hβ,h1],by rw[b1,h2],by rw[b2,h3],⟨h4.1.1.mono h.mem,h4.1.2⟩,h4.2⟩)
      | (obtain⟨pl,mb,since,seen,c0,h1,h2,h3,hv⟩:=ho
         obtain⟨b1,b2⟩:=hb pl h1
         refine⟨pl,mb,since,seen,c0,by rw[hβ,h1],by rw[b1,h2],by rw[b2,h3],λvr FV=> ?_⟩
         obtain⟨h4,h5⟩:=hv vr FV
         refine⟨h.r9 _ _ h4,λhc=> ?_⟩
         obtain⟨c1,e1⟩:=h.cur _ _ h4 hc
         obtain⟨⟨k,v,l,hk⟩,plq,es,clock,g1,g2,g3,g4,g5,g6,g7,g8,g9⟩:=h5 c1
         obtain⟨q1,q2⟩:=hq _ _ _ _ _ ⟨_,_,_,_,by rw[FV]⟩ hk hc
         obtain⟨q3,q4⟩:=q2 plq g1
         exact⟨q1,plq,es,clock,by rw[e1,g1],g2,by rw[q3,g3],by rw[q4,g4],g5,g6,g7,g8.mono h.mem,λx hx=>
           let⟨e,se,a1,a2,a3,a4⟩:=g9 x hx
           ⟨e,se,a1,a2,a3,a4.mono h.mem⟩⟩)
      |skip
    rename_i e t l
    obtain⟨hz,ho⟩:=ho
    refine⟨hz,?_⟩
    rw[hβ]
    cases hp:E.β id with
    |none=>rw[hp]at ho;exact ho
    |some pl=>
      rw[hp]at ho
      simp only at ho ⊢
      obtain⟨b1,b2⟩:=hb pl hp
      obtain⟨cur,k,h1,h2,h3,h4,h5,h6,h7,h8⟩:=ho
      exact⟨cur,k,by rw[b1,h1],h2,h3,h4,by rw[b2,h5],h6,h7,h8.mono λc x hx=>hx.mono h.mem⟩
theorem nO.mono{E E':Env}(h:cD E E'){id:Id}{fr:Bool}{c:aw}(ho:nO E id fr c)(hβ:E'.β id=E.β id)
  (hb:∀pl,E.β id=some pl->E'.w.heap[pl.b]? =E.w.heap[pl.b]? /\E'.g pl.b=E.g pl.b)
  (hq:∀q ver k v l,E.s q=some (.obj ver true (.mp k v l))->E'.cur q ver->(∃k v l,E'.s q=some (.obj ver true (.mp k v l)))/\∀pl,E.β q=some pl->E'.w.heap[pl.b]? =E.w.heap[pl.b]? /\E'.g pl.b=E.g pl.b):nO E' id fr c:=
 ho.MR h hβ hb λq ver k v l _=>hq q ver k v l
def AS.env(s:AS)(w:World)(g:Nat->jW)(β:Id->Option Pl):Env:= {w,g,β,s:=s.bT}
structure Ctx where
 E:Env
def Ctx.ok(C:Ctx):Prop:=(∀i j,C.E.s (.new i j)=none)/\∀k v fr c,C.E.s (.dw k)=some (.obj v fr c)->v=0
def ns(D:Nat):Deferred:= {target:= .collected D,args:= #[]}
def GH(n:Nat)(ds:List Deferred)(w:World)(g:Nat->jW):Prop:=
 ds.Nodup/\∀d∈ds,∃D,d=ns D/\n<=D/\w.heap[D]? =some (.deferred (some []))/\g D= .own .dH 0
theorem GH.mono{n:Nat}{ds:List Deferred}{w w':World}{g g':Nat->jW}(h:GH n ds w g)(ht:Trans w w' g g'):GH n ds w' g':=
 ⟨h.1,λd hd=>by
  obtain⟨D,h1,h2,h3,h4⟩:=h.2 d hd
  have:=ht.wN D (bB.1 h3).1
  rw[h4]at this
  exact⟨D,h1,h2,this.2.trans h3,this.1⟩⟩
structure Inv(C:Ctx)(g:Nat->jW)(β:Id->Option Pl)(s:AS)(a:Act)(w:World):Prop where
 defers:GH C.E.w.heap.size a.defers w g
 size:a.tmps.size=s.b8.length
 b8:∀i,VS (s.env w g β) (s.slot i) (a.tmps.getD i undef)
 bE:gK (s.env w g β)
 trans:Trans C.E.w w C.E.g g
 le:cD C.E (s.env w g β)
def gm(C:Ctx)(s:AS)(a:Act)(w:World):Prop:=∃g β,Inv C g β s a w
theorem Al(s:AS)(d:Nat)(v:aw)(i:Nat):(s.put (some d) v).slot i=if i=d/\d < s.b8.length then v else s.slot i:=by
 simp only[AS.put,AS.slot,aC,List.getElem?_set]
 by_cases h:d=i
 ·subst h
  by_cases hl:d < s.b8.length
  ·simp[hl]
  ·simp[hl]
 ·simp[h,Ne.symm h]
@[simp] theorem tr(s:AS)(d:Option Tmp)(v:aw):(s.put d v).bT=s.bT:=by
 cases d <;> rfl
@[simp] theorem Co(s:AS)(d:Option Tmp)(v:aw)(w:World)(g:Nat->jW)(β:Id->Option Pl):(s.put d v).env w g β=s.env w g β:=by
 simp[AS.env]
theorem EV(a:Act)(d:Nat)(v:Value)(i:Nat):(a.put (some d) v).tmps.getD i undef=if i=d/\d < a.tmps.size then v else a.tmps.getD i undef:=by
 simp only[Act.put,cv,dy]
 by_cases h:d=i
 ·subst h
  by_cases hl:d < a.tmps.size
  ·simp[hl]
  ·simp[hl]
 ·simp[h,Ne.symm h]
theorem Inv.put{C:Ctx}{g:Nat->jW}{β:Id->Option Pl}{s:AS}{a:Act}{w:World}(h:Inv C g β s a w)(d:Option Tmp){v:aw}{x:Value}(hv:VS (s.env w g β) v x):
  Inv C g β (s.put d v) (a.put d x) w:=by
 cases d with
 |none=>exact h
 |some d=>
  refine⟨h.defers,by simpa[Act.put,AS.put]using h.size,λi=> ?_,by simpa using h.bE,h.trans,by simpa using h.le⟩
  rw[Co,Al,EV,h.size]
  split
  ·exact hv
  ·exact h.b8 i
theorem Inv.step{C:Ctx}{g g':Nat->jW}{β β':Id->Option Pl}{s s':AS}{a:Act}{w w':World}(h:Inv C g β s a w)(hs:s'.b8=s.b8)
  (ht:Trans w w' g g') (he:cD (s.env w g β) (s'.env w' g' β')) (ho:gK (s'.env w' g' β')):Inv C g' β' s' a w':=
 ⟨h.defers.mono ht,by rw[hs];exact h.size,λi=>by
  have:s'.slot i=s.slot i:=by simp[AS.slot,hs]
  rw[this]
  exact(h.b8 i).mono he,ho,h.trans.trans ht,h.le.trans he⟩
theorem Ja{E:Env}(v:Value):VS E (ofConst v) v:=by
 cases v with
 |bool b=>exact⟨_,by simp[ofConst,V,cT],rfl⟩
 |int k n=>exact⟨_,by simp[ofConst,V,cT],rfl⟩
 |string s=>exact⟨_,by simp[ofConst,V,cT],rfl⟩
 |slice a l c=>cases a with
  |none=>
   cases l with
   |zero=>cases c with
    |zero=>exact⟨_,by simp[ofConst,V],rfl⟩
    |succ _=>trivial
   |succ _=>trivial
  |some _=>trivial
 |pointer a=>cases a with
  |none=>exact⟨_,by simp[ofConst,V],rfl⟩
  |some _=>trivial
 |map r=>cases r with
  |none=>exact⟨_,by simp[ofConst,V],rfl⟩
  |some _=>trivial
 |nilFunc=>exact⟨_,by simp[ofConst,V],rfl⟩
 |_=>trivial
theorem Inv.ev{C:Ctx}{g:Nat->jW}{β:Id->Option Pl}{s:AS}{a:Act}{w:World}(h:Inv C g β s a w)(x:Operand):VS (s.env w g β) (s.ev x) (a.eval x):=by
 cases x with
 |tmp t=>exact h.b8 t
 |const v=>exact Ja v
 |func f=>exact⟨_,by simp only[AS.ev,V];exact⟨[],rfl,by simp[VC]⟩,rfl⟩
 |global _=>trivial
theorem dR(s:AS)(id:Id)(e:dv)(h:s.bT id≠none):(s.aL id e).bT id=some e:=by
 cases id with
 |dw k=>
  simp only[AS.bT,AS.aL]at*
  have hk:k < s.cj.length:=by
   rcases kQ k s.cj.length with h' | h'
   ·exact h'
   ·exact absurd (dn h') h
  simp[hk]
 |new i j=>
  simp only[AS.bT,AS.aL]at*
  have hj:j < (s.news.getD i []).length:=by
   rcases kQ j (s.news.getD i []).length with h' | h'
   ·exact h'
   ·exact absurd (dn h') h
  have hi:i < s.news.length:=by
   rcases kQ i s.news.length with h' | h'
   ·exact h'
   ·simp[dn h']at hj
  have:((s.news.set i ((s.news.getD i []).set j e)).getD i [])=(s.news.getD i []).set j e:=by
   simp[aC,hi]
  rw[this]
  simp only[List.getElem?_set,hj,if_true]
theorem cP(s:AS)(id id':Id)(e:dv)(h:id'≠id):(s.aL id e).bT id'=s.bT id':=by
 cases id with
 |dw k=>
  cases id' with
  |dw k'=>
   simp only[AS.bT,AS.aL]
   rw[dV (λe=>h (by rw[e]))]
  |new i j=>rfl
 |new i j=>
  cases id' with
  |dw k'=>rfl
  |new i' j'=>
   simp only[AS.bT,AS.aL]
   by_cases hi:i'=i
   ·subst hi
    have hj:j≠j':=λe=>h (by rw[e])
    by_cases hl:i' < s.news.length
    ·have:((s.news.set i' ((s.news.getD i' []).set j e)).getD i' [])=(s.news.getD i' []).set j e:=by
      simp[aC,hl]
     rw[this,dV hj]
    ·rw[List.set_eq_of_length_le (by omega)]
   ·have:(s.news.set i ((s.news.getD i []).set j e)).getD i' []=s.news.getD i' []:=by
     simp only[aC]
     rw[dV (Ne.symm hi)]
    rw[this]
@[simp] theorem cX(s:AS)(id:Id)(e:dv):(s.aL id e).b8=s.b8:=by cases id <;> rfl
@[simp] theorem Oq(s:AS)(i:Nat)(es:List dv):(s.born i es).b8=s.b8:=rfl
theorem dG{s:AS}{id:Id}{v:Nat}{fr:Bool}{c:aw}(h:s.obj id=some (v,fr,c)):s.bT id=some (.obj v fr c):=by
 unfold AS.obj at h
 split at h
 ·rename_i h';simp at h;obtain⟨rfl,rfl,rfl⟩:=h;exact h'
 ·cases h
theorem cD.aL{s:AS}{w w':World}{g g':Nat->jW}{β β':Id->Option Pl}{id:Id}{v v':Nat}{fr fr':Bool}{c c':aw}(hs:s.bT id=some (.obj v fr c))(hv:v<=v')
  (ht:Trans w w' g g') (hβ:∀i,i≠id->β' i=β i) (hβ':v'=v->β' id=β id):cD (s.env w g β) ((s.aL id (.obj v' fr' c')).env w' g' β'):=by
 have jT:=dR s id (.obj v' fr' c') (by rw[hs];simp)
 refine⟨Trans.mem ht,λi ver hb=> ?_,λi ver hb hc=> ?_⟩
 ·by_cases hi:i=id
  ·subst hi
   obtain⟨_,h2⟩:=hb
   refine⟨by show(s.aL i (.obj v' fr' c')).bT i≠none;rw[jT];simp,λv'' fr'' c'' he=> ?_⟩
   have he':(s.aL i (.obj v' fr' c')).bT i=some (.obj v'' fr'' c''):=he
   rw[jT]at he'
   simp only[au,dv.obj.injEq]at he'
   have:=h2 v fr c hs
   omega
  ·have:=cP s id i (.obj v' fr' c') hi
   obtain⟨h1,h2⟩:=hb
   exact⟨by show(s.aL id (.obj v' fr' c')).bT i≠none;rw[this];exact h1,λv'' fr'' c'' he=>h2 v'' fr'' c'' (this.symm.trans he)⟩
 ·obtain⟨fr'',c'',hc⟩:=hc
  by_cases hi:i=id
  ·subst hi
   have hc':(s.aL i (.obj v' fr' c')).bT i=some (.obj ver fr'' c''):=hc
   rw[jT]at hc'
   simp only[au,dv.obj.injEq]at hc'
   have h2:=hb.2 v fr c hs
   have e:v'=v:=by omega
   refine⟨⟨fr,c,?_⟩,hβ' e⟩
   rw[<-hc'.1,e];exact hs
  ·have hc':(s.aL id (.obj v' fr' c')).bT i=some (.obj ver fr'' c''):=hc
   rw[cP s id i _ hi]at hc'
   exact⟨⟨fr'',c'',hc'⟩,hβ i hi⟩
theorem gK.aL{s:AS}{w w':World}{g g':Nat->jW}{β β':Id->Option Pl}{id:Id}{v':Nat}{fr':Bool}{c':aw}(h:gK (s.env w g β))(gS:s.bT id≠none)
  (he:cD (s.env w g β) ((s.aL id (.obj v' fr' c')).env w' g' β')) (hβ:∀i,i≠id->β' i=β i)
  (hb:∀i ver fr c pl,i≠id->s.bT i=some (.obj ver fr c)->β i=some pl->w'.heap[pl.b]? =w.heap[pl.b]? /\g' pl.b=g pl.b)
  (ho:nO ((s.aL id (.obj v' fr' c')).env w' g' β') id fr' c')
  (NS:∀ver k v l,s.bT id=some (.obj ver true (.mp k v l))->v'=ver/\fr'=true/\(∃k v l,c'= .mp k v l)/\∀pl,β id=some pl->w'.heap[pl.b]? =w.heap[pl.b]? /\g' pl.b=g pl.b):gK ((s.aL id (.obj v' fr' c')).env w' g' β'):=by
 intro i ver fr c hi
 by_cases cZ:i=id
 ·subst cZ
  have hi':(s.aL i (.obj v' fr' c')).bT i=some (.obj ver fr c):=hi
  rw[dR s i _ gS]at hi'
  simp only[au,dv.obj.injEq]at hi'
  obtain⟨rfl,rfl,rfl⟩:=hi'
  exact ho
 ·have hi':(s.aL id (.obj v' fr' c')).bT i=some (.obj ver fr c):=hi
  rw[cP s id i _ cZ]at hi'
  refine(h i ver fr c hi').mono he (hβ i cZ) (λpl hp=>hb i ver fr c pl cZ hi' hp) λq vq k v l hq hc=> ?_
  have hq:s.bT q=some (.obj vq true (.mp k v l)):=hq
  by_cases R7:q=id
  ·subst R7
   obtain⟨rfl,rfl,⟨k',v',l',rfl⟩,OK⟩:=NS _ _ _ _ hq
   exact⟨⟨k',v',l',dR s q _ gS⟩,OK⟩
  ·exact⟨⟨k,v,l,by show(s.aL id _).bT q=_;rw[cP s id q _ R7];exact hq⟩,λpl hp=>hb q vq true _ pl R7 hq hp⟩
theorem yO{s:AS}{w:World}{g:Nat->jW}{β:Id->Option Pl}{id:Id}{v:Nat}{fr:Bool}{c:aw}(hs:s.bT id=some (.obj v fr c)):
  ∀ver k v1 l,s.bT id=some (.obj ver true (.mp k v1 l))->v=ver/\true=true/\(∃k v l,c= .mp k v l)/\∀pl,β id=some pl->w.heap[pl.b]? =w.heap[pl.b]? /\g pl.b=g pl.b:=λver k v1 l hl=>by
 rw[hs]at hl
 cases hl
 exact⟨rfl,rfl,⟨_,_,_,rfl⟩,λ_ _=>⟨rfl,rfl⟩⟩
theorem kV{s:AS}{id:Id}{v:Nat}{fr:Bool}{c:aw}(hs:s.bT id=some (.obj v fr c))(hc:∀k v1 l,c≠ .mp k v1 l){Q:Nat->Prop}:
  ∀ver k v1 l,s.bT id=some (.obj ver true (.mp k v1 l))->Q ver:=λver k v1 l hl=>by
 rw[hs]at hl
 cases hl
 exact absurd rfl (hc _ _ _)
theorem vM{s:AS}{id:Id}{v:Nat}{c:aw}(hs:s.bT id=some (.obj v false c)){Q:Nat->Prop}:
  ∀ver k v1 l,s.bT id=some (.obj ver true (.mp k v1 l))->Q ver:=λver k v1 l hl=>by
 rw[hs]at hl
 cases hl
theorem th{s:AS}{id:Id}{v:Nat}{fr:Bool}{c:aw}(hs:s.bT id=some (.obj v fr c))(h:s.mP id=true):fr=false:=by
 have e:s.obj id=some (v,fr,c):=by simp[AS.obj,hs]
 unfold AS.mP at h
 rw[e]at h
 simpa using h
theorem nO.label{E:Env}{id:Id}{fr:Bool}{c:aw}(h:nO E id fr c){pl:Pl}(hp:E.β id=some pl):
    pl.b < E.w.heap.size/\((∃k,E.g pl.b= .own (.id id) k)\/(fr=true/\E.g pl.b= .free)):=by
  by_cases hn:c.gr=false
  · obtain⟨pl',cur,e,h1,h2,h3,h4⟩:=h.box hn
    rw[hp]at h1
    obtain rfl:pl=pl':=by simpa using h1
    refine⟨(bB.1 h2).1,?_⟩
    cases fr with
    |true=>exact .inr ⟨rfl,h3⟩
    |false=>exact .inl ⟨0,h3⟩
  · cases c <;> first
      | (exact absurd rfl hn)
      | (obtain⟨pl',r,h1,h2,h3,_,_,_⟩:=h
         rw[hp]at h1
         obtain rfl:pl=pl':=by simpa using h1
         exact⟨(bB.1 h2).1,.inl ⟨0,h3⟩⟩)
      | (obtain⟨pl',es,clock,h1,h2,h3,_⟩:=h
         rw[hp]at h1
         obtain rfl:pl=pl':=by simpa using h1
         exact⟨(bB.1 h2).1,.inl ⟨0,h3⟩⟩)
      | (obtain⟨pl',mb,since,seen,c0,h1,h2,h3,_⟩:=h
         rw[hp]at h1
         obtain rfl:pl=pl':=by simpa using h1
         exact⟨(bB.1 h2).1,.inl ⟨0,h3⟩⟩)
      |skip
    obtain⟨_,h⟩:=h
    rw[hp]at h
    obtain⟨cur,k,h1,_,_,_,h5,_⟩:=h
    exact⟨(bB.1 h1).1,.inl ⟨k,h5⟩⟩
def j2{α:Type}(f:Nat->α)(b:Nat)(x:α):Nat->α:=λb'=>if b'=b then x else f b'
@[simp] theorem eQ{α:Type}(f:Nat->α)(b:Nat)(x:α):j2 f b x b=x:=by simp[j2]
theorem eJ{α:Type}(f:Nat->α)(b:Nat)(x:α){b':Nat}(h:b'≠b):j2 f b x b'=f b':=by simp[j2,h]
def zw:aw->Nat->Prop
 | .vec _ t l,j=>j < l.length*t.size
 |_,_=>True
theorem zw.of{c:aw}(h:c.gr=false)(j:Nat):zw c j:=by
 cases c <;> first | trivial | (simp[aw.gr]at h)
theorem Jk{w:World}{b:Nat}{es:Array MapEntry}{clock:Nat}(h:w.heap[b]? =some (.map es clock))(j:Nat):w.cell? ⟨b,j,none⟩=none:=by
 simp[World.cell?,h]
theorem Cu{C:Ctx}{g:Nat->jW}{β:Id->Option Pl}{s:AS}{a:Act}{w:World}(h:Inv C g β s a w)(id:Id):
    ∃g',Inv C g' β (s.freeze id) a w/\cD (s.env w g β) ((s.freeze id).env w g' β)/\Trans w w g g'/\
      (∀v fr c,s.bT id=some (.obj v fr c)->∀pl,β id=some pl->∀j x,w.cell? ⟨pl.b,j,none⟩=some x->
        zw c j->mY g' pl.b j):=by
  unfold AS.freeze
  cases hs:s.bT id with
  |none=>exact⟨g,h,cD.refl _,Trans.refl _ _,λ_ _ _ hh=>by cases hh⟩
  |some e=>
    cases e with
    |dead=>exact⟨g,h,cD.refl _,Trans.refl _ _,λ_ _ _ hh=>by cases hh⟩
    |obj v fr c=>
      simp only
      have ju:nO (s.env w g β) id fr c:=h.bE id v fr c hs
      cases hp:β id with
      |none=>
        have ht:=Trans.refl w g
        have he:cD (s.env w g β) ((s.aL id (.obj v true c)).env w g β):=cD.aL hs (az _) ht (λ_ _=>rfl) (λ_=>rfl)
        refine⟨g,h.step (cX _ _ _) ht he ?_,he,ht,λ_ _ _ _ pl yw=>by cases yw⟩
        refine gK.aL h.bE (by rw[hs];simp) he (λ_ _=>rfl) (λ_ _ _ _ _ _ _ _=>⟨rfl,rfl⟩) ?_ (yO hs)
        by_cases hn:c.gr=false
        · obtain⟨pl,_,_,h1,_⟩:=ju.box hn
          have h1':β id=some pl:=h1
          rw[hp]at h1';cases h1'
        · cases c <;> first
            | (exact absurd rfl hn)
            | (obtain⟨pl,_,h1,_⟩:=ju
               have h1':β id=some pl:=h1
               rw[hp]at h1';cases h1')
            | (obtain⟨pl,_,_,h1,_⟩:=ju
               have h1':β id=some pl:=h1
               rw[hp]at h1';cases h1')
            | (obtain⟨pl,_,_,_,_,h1,_⟩:=ju
               have h1':β id=some pl:=h1
               rw[hp]at h1';cases h1')
            |skip
          obtain⟨hz,ho⟩:=ju
          have ho':(match β id with
            |none=>_
            |some pl=>_):=ho
          refine⟨hz,?_⟩
          show(match β id with
            |none=>_
            |some pl=>_)
          rw[hp]at ho' ⊢
          exact ho'
      |some pl=>
        have PU:=ju.label (pl:=pl) hp
        by_cases hn:c.gr=false
        · obtain⟨pl',cur,e,h1,h2,h3,h5,h4⟩:=ju.box hn
          have h1':β id=some pl':=h1
          rw[hp]at h1'
          obtain rfl:pl=pl':=by simpa using h1'
          have h3':g pl.b=Fl id fr:=h3
          have ht:Trans w w g (j2 g pl.b .free):=by
            refine⟨rfl,rfl,⟨rfl,az _⟩,az _,λb hb=> ?_⟩
            by_cases Cv:b=pl.b
            · subst Cv
              rw[h3',eQ]
              cases fr with
              |true=>exact⟨rfl,rfl⟩
              |false=>exact⟨.inl rfl,λ_ _ _ hh=>hh⟩
            · rw[eJ _ _ _ Cv]
              exact(Trans.refl w g).wN b hb
          have he:cD (s.env w g β) ((s.aL id (.obj v true c)).env w (j2 g pl.b .free) β):=cD.aL hs (az _) ht (λ_ _=>rfl) (λ_=>rfl)
          refine⟨j2 g pl.b .free,h.step (cX _ _ _) ht he ?_,he,ht,?_⟩
          · refine gK.aL h.bE (by rw[hs];simp) he (λ_ _=>rfl) (λi ver fr' c' pl' hi cI yw=>⟨rfl,?_⟩) ?_ (kV hs λk v1 l e=>by rw[e]at hn;simp[aw.gr]at hn)
            · by_cases Cv:pl'.b=pl.b
              · rw[Cv,eQ]
                have hl:=(h.bE i ver fr' c' cI).label (pl:=pl') yw
                have FQ:(∃k,g pl'.b= .own (.id i) k)\/(fr'=true/\g pl'.b= .free):=hl.2
                rw[Cv,h3']at FQ
                cases fr with
                |true=>exact h3'.symm▸rfl
                |false=>
                  exfalso
                  rcases FQ with⟨k,hk⟩ | ⟨_,hk⟩
                  · simp only[Fl,jW.own.injEq,Own.id.injEq]at hk
                    exact hi hk.1.symm
                  · cases hk
              · rw[eJ _ _ _ Cv]
            · exact wK.obj ⟨pl,cur,e,hp,h2,eQ _ _ _,h5,V.mono he h4⟩
          · intro v1 fr1 c1 hh pl1 Cz j x hx hj
            obtain rfl:pl=pl1:=by simpa using Cz
            unfold mY;rw[eQ];trivial
        · cases c <;> first | (exact absurd rfl hn) | skip
          rotate_left
          rotate_left
          · rename_i q vq kt vt rest cu
            have ht:=Trans.refl w g
            have he:cD (s.env w g β) ((s.aL id (.obj v true (.ml q vq kt vt rest cu))).env w g β):=cD.aL hs (az _) ht (λ_ _=>rfl) (λ_=>rfl)
            have hob':=ju
            obtain⟨pl',mb,since,seen,c0,h1,h2,_⟩:=ju
            have h1':β id=some pl':=h1
            rw[hp]at h1'
            obtain rfl:pl=pl':=by simpa using h1'
            refine⟨g,h.step (cX _ _ _) ht he ?_,he,ht,λ_ _ _ _ pl1 Cz j x hx _=> ?_⟩
            · refine gK.aL h.bE (by rw[hs];simp) he (λ_ _=>rfl) (λ_ _ _ _ _ _ _ _=>⟨rfl,rfl⟩) ?_ (yO hs)
              exact nO.mono he (fr:=true) hob' rfl (λ_ _=>⟨rfl,rfl⟩) λq2 v2 k2 v3 l2 yx _=>⟨⟨k2,v3,l2,by
                have yx:s.bT q2=some (.obj v2 true (.mp k2 v3 l2)):=yx
                have gS:q2≠id:=λe=>by rw[e,hs]at yx;cases yx
                show(s.aL id _).bT q2=_
                rw[cP s id q2 _ gS];exact yx⟩,λ_ _=>⟨rfl,rfl⟩⟩
            · obtain rfl:pl=pl1:=by simpa using Cz
              have h2:w.heap[pl.b]? =some (.mapIter (some mb) since seen c0):=h2
              simp[World.cell?,h2]at hx
          · rename_i k f p
            have ht:=Trans.refl w g
            have he:cD (s.env w g β) ((s.aL id (.obj v true (.ow k f p))).env w g β):=cD.aL hs (az _) ht (λ_ _=>rfl) (λ_=>rfl)
            obtain⟨pl',r,h1,h2,h3,h4,h5,h6⟩:=ju
            have h1':β id=some pl':=h1
            rw[hp]at h1'
            obtain rfl:pl=pl':=by simpa using h1'
            refine⟨g,h.step (cX _ _ _) ht he ?_,he,ht,λ_ _ _ _ pl1 Cz j x hx _=> ?_⟩
            · exact gK.aL h.bE (by rw[hs];simp) he (λ_ _=>rfl) (λ_ _ _ _ _ _ _ _=>⟨rfl,rfl⟩) ⟨pl,r,hp,h2,h3,h4,h5.mono he,h6⟩ (yO hs)
            · obtain rfl:pl=pl1:=by simpa using Cz
              have h2:w.heap[pl.b]? =some (.loop r):=h2
              simp[World.cell?,h2]at hx
          rotate_left
          · obtain⟨pl',es,clock,h1,h2,h3,h4⟩:=ju
            have h1':β id=some pl':=h1
            rw[hp]at h1'
            obtain rfl:pl=pl':=by simpa using h1'
            have ht:=Trans.refl w g
            rename_i kt vt l
            have he:cD (s.env w g β) ((s.aL id (.obj v true (.mp kt vt l))).env w g β):=cD.aL hs (az _) ht (λ_ _=>rfl) (λ_=>rfl)
            refine⟨g,h.step (cX _ _ _) ht he ?_,he,ht,λ_ _ _ _ pl1 Cz j x hx _=> ?_⟩
            · exact gK.aL h.bE (by rw[hs];simp) he (λ_ _=>rfl) (λ_ _ _ _ _ _ _ _=>⟨rfl,rfl⟩) ⟨pl,es,clock,hp,h2,h3,⟨h4.1.1.mono he.mem,h4.1.2⟩,h4.2⟩ (yO hs)
            · obtain rfl:pl=pl1:=by simpa using Cz
              have h2:w.heap[pl.b]? =some (.map es clock):=h2
              rw[Jk h2]at hx
              cases hx
          rename_i e t l
          obtain⟨hz,ho⟩:=ju
          have ho':(match β id with
            |none=>l=[]
            |some pl=>∃cur k,w.heap[pl.b]? =some (.cells cur e (0,0))/\cur.size=pl.cap*t.size/\l.length<=pl.cap/\pl.cap<=maxLen/\g pl.b= .own (.id id) k/\
                k<=l.length*t.size/\(fr=false->k=0)/\aV (cT (s.env w g β) t) (cur.toList.take (l.length*t.size)) l):=ho
          rw[hp]at ho'
          obtain⟨cur,k,h1,h2,h3,h4,h5,h6,h7,h8⟩:=ho'
          have ht:Trans w w g (j2 g pl.b (.own (.id id) (l.length*t.size))):=by
            refine⟨rfl,rfl,⟨rfl,az _⟩,az _,λb hb=> ?_⟩
            by_cases Cv:b=pl.b
            · subst Cv
              rw[h5,eQ]
              exact⟨.inr ⟨id,_,rfl,h6⟩,λ_ _ _ hh=>hh⟩
            · rw[eJ _ _ _ Cv]
              exact(Trans.refl w g).wN b hb
          have he:cD (s.env w g β) ((s.aL id (.obj v true (.vec e t l))).env w (j2 g pl.b (.own (.id id) (l.length*t.size))) β):=cD.aL hs (az _) ht (λ_ _=>rfl) (λ_=>rfl)
          refine⟨_,h.step (cX _ _ _) ht he ?_,he,ht,?_⟩
          · refine gK.aL h.bE (by rw[hs];simp) he (λ_ _=>rfl) (λi ver fr' c' pl' hi cI yw=>⟨rfl,?_⟩) ?_ (kV hs λk v1 l e=>by cases e)
            · by_cases Cv:pl'.b=pl.b
              · exfalso
                have hl:=(h.bE i ver fr' c' cI).label (pl:=pl') yw
                have FQ:(∃k,g pl'.b= .own (.id i) k)\/(fr'=true/\g pl'.b= .free):=hl.2
                rw[Cv,h5]at FQ
                rcases FQ with⟨k,hk⟩ | ⟨_,hk⟩
                · simp only[jW.own.injEq,Own.id.injEq]at hk
                  exact hi hk.1.symm
                · cases hk
              · rw[eJ _ _ _ Cv]
            · refine⟨hz,?_⟩
              show(match β id with
                |none=>l=[]
                |some pl=>_)
              rw[hp]
              exact⟨cur,_,h1,h2,h3,h4,eQ _ _ _,az _,(by intro hh;cases hh),h8.mono λc x hx=>hx.mono he.mem⟩
          · intro v1 fr1 c1 hh pl1 Cz j x hx hj
            obtain rfl:pl=pl1:=by simpa using Cz
            simp only[au,dv.obj.injEq]at hh
            obtain⟨_,_,rfl⟩:=hh
            unfold mY;rw[eQ];exact hj
end Go.Ab
namespace Go.Ab
def O9(E E':Env)(ids:List Id):Prop:=
 ∀id∈ids,∀v fr c,E.s id=some (.obj v fr c)->∀pl,E.β id=some pl->∀j x,E.w.cell? ⟨pl.b,j,none⟩=some x->
  zw c j->E'.has pl.b j x
theorem zd{s:AS}{id i:Id}{v:Nat}{fr:Bool}{c:aw}(h:s.bT i=some (.obj v fr c)):∃fr',(s.freeze id).bT i=some (.obj v fr' c):=by
 unfold AS.freeze
 by_cases hi:i=id
 ·subst hi
  rw[h]
  exact⟨true,dR s i _ (by rw[h];simp)⟩
 ·split
  ·exact⟨fr,by rw[cP s id i _ hi];exact h⟩
  ·exact⟨fr,h⟩
theorem fb{C:Ctx}{β:Id->Option Pl}{a:Act}{w:World}:∀(ids:List Id) {g:Nat->jW} {s:AS},Inv C g β s a w->
  ∃g',Inv C g' β (s.bj ids) a w/\cD (s.env w g β) ((s.bj ids).env w g' β)/\Trans w w g g'/\O9 (s.env w g β) ((s.bj ids).env w g' β) ids
 |[],g,s,h=>⟨g,h,cD.refl _,Trans.refl _ _,λ_ hi=>by cases hi⟩
 |id::ids,g,s,h=>by
  obtain⟨g1,h1,e1,t1,f1⟩:=Cu h id
  obtain⟨g2,h2,e2,t2,f2⟩:=fb ids h1
  refine⟨g2,h2,e1.trans e2,t1.trans t2,λi hi v fr c hs pl hp j x hx hj=> ?_⟩
  rcases bY.1 hi with rfl | hi
  ·exact e2.mem.has _ _ _ ⟨hx,f1 v fr c hs pl hp j x hx hj⟩
  ·obtain⟨fr',hs'⟩:=zd (id:=id) hs
   exact f2 i hi v fr' c hs' pl hp j x hx hj
theorem CQ(s:AS)(id:Id):(s.freeze id).b8=s.b8:=by unfold AS.freeze;split <;> simp
theorem ka:∀(ids:List Id) (s:AS),(s.bj ids).b8=s.b8
 |[],_=>rfl
 |id::ids,s=>by rw[AS.bj,ka ids,CQ]
theorem Em(s:AS)(id:Id)(q:Nat):(s.freeze id).dB q=s.dB q:=by
 unfold AS.freeze
 split
 ·rename_i v b c h
  cases id with
  |dw k=>rfl
  |new i j=>
   simp only[AS.aL,AS.dB]
   by_cases hq:i=q
   ·subst hq
    simp only[AS.bT]at h
    by_cases hl:i < s.news.length
    ·rw[List.getElem?_set_self hl,cd hl]
     rw[aC,cd hl]at h ⊢
     simp only[eu]at h ⊢
     cases hh:s.news[i]with
     |nil=>rw[hh]at h;simp at h
     |cons x xs=>cases j <;> simp[List.set]
    ·rw[List.set_eq_of_length_le (by omega)]
   ·rw[dV hq]
 ·rfl
theorem nC:∀(ids:List Id) (s:AS) (q:Nat),(s.bj ids).dB q=s.dB q
 |[],_,_=>rfl
 |id::ids,s,q=>by rw[AS.bj,nC ids,Em]
theorem zH{e:TypeId}{t:Ty}:∀ {p:List tJ} {n:Nat} {v:aw},(loc (.vec e t []) p).eval=some (n,v)->n=0/\v= .vec e t []
 |[],n,v,h=>by
  simp only[loc,aq,cE]at h
  exact⟨h.1.symm,h.2.symm⟩
 | .arr::p,n,v,h=>by
  simp only[loc]at h
  exact zH h
 | .idx i::p,n,v,h=>by simp[loc,bF]at h
 | .fst::p,n,v,h=>by simp only[loc,aj]at h
 | .snd::p,n,v,h=>by simp only[loc,aj]at h
theorem yR{k:nf}{f:aw}{m:Nat}:∀ {p:List tJ} {n:Nat} {v:aw},(loc (.ow k f m) p).eval=some (n,v)->n=0/\v= .ow k f m
 |[],n,v,h=>by
  simp only[loc,aq,cE]at h
  exact⟨h.1.symm,h.2.symm⟩
 | .arr::p,n,v,h=>by
  simp only[loc]at h
  exact yR h
 | .idx i::p,n,v,h=>by simp only[loc,aj]at h
 | .fst::p,n,v,h=>by simp only[loc,aj]at h
 | .snd::p,n,v,h=>by simp only[loc,aj]at h
theorem CF{k t:Ty}{l:List (k.den×t.den)}:∀ {p:List tJ} {n:Nat} {v:aw},(loc (.mp k t l) p).eval=some (n,v)->n=0/\v= .mp k t l
 |[],n,v,h=>by
  simp only[loc,aq,cE]at h
  exact⟨h.1.symm,h.2.symm⟩
 | .arr::p,n,v,h=>by
  simp only[loc]at h
  exact CF h
 | .idx i::p,n,v,h=>by simp only[loc,aj]at h
 | .fst::p,n,v,h=>by simp only[loc,aj]at h
 | .snd::p,n,v,h=>by simp only[loc,aj]at h
theorem yQ{q:Id}{ver:Nat}{k t:Ty}{l:List (k.den×t.den)}{cu:Option (k.den×t.den)}:∀ {p:List tJ} {n:Nat} {v:aw},(loc (.ml q ver k t l cu) p).eval=some (n,v)->n=0/\v= .ml q ver k t l cu
 |[],n,v,h=>by
  simp only[loc,aq,cE]at h
  exact⟨h.1.symm,h.2.symm⟩
 | .arr::p,n,v,h=>by
  simp only[loc]at h
  exact yQ h
 | .idx i::p,n,v,h=>by simp only[loc,aj]at h
 | .fst::p,n,v,h=>by simp only[loc,aj]at h
 | .snd::p,n,v,h=>by simp only[loc,aj]at h
theorem xt{E:Env}{s:AS}(hs:E.s=s.bT)(ho:gK E){id:Id}{ver:Nat}{p:List tJ}{n:Nat}{t:Ty}{l:List t.den}(h:(s.row id ver p).eval=some (n,⟨t,l⟩)):
    ∃fr c,E.s id=some (.obj ver fr c)/\((E.β id=none/\l=[]/\n=0)\/∃pl cur e,E.β id=some pl/\E.w.heap[pl.b]? =some (.cells cur e (0,0))/\n+l.length*t.size<=cur.size/\
      aV (cT E t) ((cur.toList.drop n).take (l.length*t.size)) l/\
      ∀j,j < n+l.length*t.size->zw c j):=by
  unfold AS.row at h
  cases ju:s.obj id with
  |none=>rw[ju]at h;simp only[aj]at h
  |some r=>
    obtain⟨v,fr,c⟩:=r
    rw[ju]at h
    obtain⟨h1,h2⟩:=aA.1 h
    obtain⟨⟨n',v'⟩,h3,h4⟩:=ak.1 h2
    have hv:v=ver:=by simpa using h1
    subst hv
    have cI:E.s id=some (.obj v fr c):=by rw[hs];exact dG ju
    refine⟨fr,c,cI,?_⟩
    have hO:=ho id v fr c cI
    have FL:∀(pl:Pl) (cur:Array Value) (e:TypeId) (m:Nat) (t':Ty) (l':List t'.den) (n':Nat),E.β id=some pl->E.w.heap[pl.b]? =some (.cells cur e (0,0))->c.gr=false->
        V E (.d (.arr m t') l') ((cur.toList.drop n').take (aw.d (.arr m t') l').size)->n'+(aw.d (.arr m t') l').size<=cur.toList.length->(Out.ok (n',(⟨t',l'⟩:(t:Ty)×List t.den))).eval=some (n,⟨t,l⟩)->
        ∃pl cur e,E.β id=some pl/\E.w.heap[pl.b]? =some (.cells cur e (0,0))/\n+l.length*t.size<=cur.size/\aV (cT E t) ((cur.toList.drop n).take (l.length*t.size)) l/\
          ∀j,j < n+l.length*t.size->zw c j:=by
      intro pl cur e m t' l' n' hp hh hn hv hl he
      simp only[aq,cE]at he
      obtain⟨rfl,he⟩:=he
      obtain⟨rfl,he⟩:=he
      simp only[V,cT]at hv
      obtain⟨N2,xO⟩:=hv
      have mE:∀(t:Ty) (l:List t.den),l.length=m->(aw.d (.arr m t) l).size=l.length*t.size:=λt l hh=>by simp[aw.size,Ty.size,hh]
      rw[mE _ _ N2]at xO hl
      exact⟨pl,cur,e,hp,hh,by simpa using hl,xO,λj _=>zw.of hn j⟩
    by_cases hn:c.gr=false
    · right
      obtain⟨pl,cur,e,hp,hh,hg,hk,hV⟩:=hO.box hn
      have hN:=yI hk
      generalize c.oz cur.size=N at hN hV
      have hNl:(cur.toList.take N).length=N:=by rw[bI,cz];omega
      obtain⟨u,hu⟩:∃u,c.strip=u:=⟨_,rfl⟩
      rw[hu]at hV h3
      have Lr:∀m k:Nat,m+k<=(cur.toList.take N).length->((cur.toList.take N).drop m).take k=(cur.toList.drop m).take k/\m+k<=cur.toList.length:=λm k RW=>by
        rw[hNl]at RW
        refine⟨?_,by rw[cz];omega⟩
        rw[mq,iM,dQ (by omega)]
      rcases mc p u (cur.toList.take N) n' v' (VO.of hV) h3 with⟨rfl,rfl⟩ | ⟨hV',hle⟩
      · cases v' with
        |d t' x=>cases t' with
          |arr m t'=>
            have hs:=hV.size
            have hc:=Lr 0 (aw.d (.arr m t') x).size (by omega)
            refine FL pl cur e m t' x 0 hp hh hn ?_ hc.2 (by simpa only using h4)
            rw[<-hc.1,aI,bg (by omega)]
            exact hV
          |_=>simp only[aj]at h4
        |vec=>simp only[V]at hV
        |_=>simp only[aj]at h4
      · cases v' with
        |d t' x=>cases t' with
          |arr m t'=>
            have hc:=Lr _ _ hle
            exact FL pl cur e m t' x n' hp hh hn (by rw[<-hc.1];exact hV') hc.2 (by simpa only using h4)
          |_=>simp only[aj]at h4
        |vec=>simp only[V]at hV'
        |_=>simp only[aj]at h4
    · cases c <;> first
        | (exact absurd rfl hn)
        | (obtain⟨rfl,rfl⟩:=CF h3
           simp only[aj]at h4)
        | (obtain⟨rfl,rfl⟩:=yQ h3
           simp only[aj]at h4)
        | (obtain⟨rfl,rfl⟩:=yR h3
           simp only[aj]at h4)
        |skip
      rename_i e t0 l0
      obtain⟨hz,hO⟩:=hO
      cases hp:E.β id with
      |none=>
        rw[hp]at hO
        have MC:l0=[]:=hO
        subst MC
        obtain⟨rfl,rfl⟩:=zH h3
        simp only[aq,cE]at h4
        obtain⟨rfl,he⟩:=h4
        obtain⟨rfl,he⟩:=he
        exact .inl ⟨rfl,rfl,rfl⟩
      |some pl=>
        rw[hp]at hO
        obtain⟨cur,k,q1,q2,q3,q4,q5,q6,q7,q8⟩:=hO
        right
        have hlen:(cur.toList.take (l0.length*t0.size)).length=l0.length*t0.size:=aV.length (λc x hx=>cT.size hx) q8
        have JL:l0.length*t0.size<=cur.size:=by rw[q2];exact cW _ q3
        rcases mc (E:=E) p (.vec e t0 l0) (cur.toList.take (l0.length*t0.size)) n' v' q8 h3 with⟨rfl,rfl⟩ | ⟨hV',hle⟩
        · simp only[aq,cE]at h4
          obtain⟨rfl,he⟩:=h4
          obtain⟨rfl,he⟩:=he
          exact⟨pl,cur,e,rfl,q1,by omega,by simpa using q8,λj hj=>by show j < l.length*t.size;omega⟩
        · have hle':=hle
          rw[hlen]at hle'
          rw[mq,iM,dQ (by omega)]at hV'
          cases v' with
          |d t' x=>cases t' with
            |arr m t'=>
              simp only[aq,cE]at h4
              obtain⟨rfl,he⟩:=h4
              obtain⟨rfl,he⟩:=he
              simp only[V,cT]at hV'
              obtain⟨N2,xO⟩:=hV'
              have mE:∀(t:Ty) (l:List t.den),l.length=m->(aw.d (.arr m t) l).size=l.length*t.size:=λt l hh=>by simp[aw.size,Ty.size,hh]
              rw[mE _ _ N2]at xO hle'
              refine⟨pl,cur,e,rfl,q1,by omega,xO,λj hj=> ?_⟩
              show j < l0.length*t0.size
              omega
            |_=>simp only[aj]at h4
          |vec=>simp only[V]at hV'
          |_=>simp only[aj]at h4
theorem uw{E:Env}{t:Ty}{cs:List Value}{l:List t.den}(h:aV (cT E t) cs l)(i len:Nat):aV (cT E t) ((cs.drop (i*t.size)).take (len*t.size)) (cut l i len):=
 aV.take (λ_ _ hx=>hx.size) len (aV.drop (λ_ _ hx=>hx.size) i h)
theorem pG{α:Type}{l:List α}{i len:Nat}(h:i+len<=l.length):(cut l i len).length=len:=by
 simp[cut];omega
theorem EM{E E':Env}{s:AS}(hs:E.s=s.bT)(ho:gK E)(he:cD E E'){id:Id}{ver c i len n:Nat}{p:List tJ}{t':Ty}{l:List t'.den}{cs:List Value}
  (h1:(s.row id ver p).eval=some (n,⟨t',l⟩)) (h3:decide (n+i*t'.size=c/\i+len<=l.length)=true) (hv:V E (.cO id ver p c i len) cs) (hf:O9 E E' (aw.cO id ver p c i len).shared):cT E' (.slice t') cs (cut l i len):=by
 simp only[decide_eq_true_eq]at h3
 obtain⟨hc,hlen⟩:=h3
 obtain⟨fr,c0,cI,oE⟩:=xt hs ho h1
 simp only[V]at hv
 obtain⟨a,cap,HT,hle,la,hb,eK⟩:=hv
 have eK:=eK ⟨fr,c0,cI⟩
 have KV:(cut l i len).length=len:=pG hlen
 simp only[cT]
 refine⟨a,cap,?_⟩
 rcases oE with⟨hp,hl,_⟩ | ⟨pl,cur,e,hp,hh,mE,nH,hbound⟩
 ·rw[hp]at eK
  simp only at eK
  obtain⟨rfl,rfl,rfl⟩:=eK
  refine⟨[],?_,by omega,by omega,λ_ _ hh=>by simp at hh,?_⟩
  ·rw[KV];exact HT
  ·have:cut l i 0=[]:=by simp[cut]
   rw[this];rfl
 ·rw[hp]at eK
  simp only at eK
  refine⟨((((cur.toList.drop n).take (l.length*t'.size)).drop (i*t'.size)).take (len*t'.size)),by rw[KV];exact HT,by omega,by rw[KV];exact la,?_,(uw nH i len).mono λ_ _ hx=>hx.mono he.mem⟩
  have hmul:(i+len)*t'.size<=l.length*t'.size:=cW _ hlen
  rw[dI]at hmul
  rw[z6 _ _ _ _ _ hmul]
  intro j v hj
  rw[cV]at hj
  split at hj
  ·rename_i NP
   rw[eZ,hc]at hj
   have RR:0 < len:=by
    rcases jX len with h0 | h0
    ·subst h0;simp at NP
    ·exact h0
   refine⟨pl.b,c,eK.1 (.inl RR),?_⟩
   refine hf id (by simp[aw.shared]) ver fr c0 cI pl hp (c+j) v ?_ (hbound _ (by omega))
   rw[cell_of_row E.w pl.b (c+j) cur e (0,0) hh]
   simpa using hj
  ·cases hj
theorem ou{E E':Env}{s:AS}(hs:E.s=s.bT)(ho:gK E)(he:cD E E'):∀(v:aw) (t:Ty) (x:t.den) (cs:List Value),V E v cs->(s.gR t v).eval=some x->O9 E E' v.shared->cT E' t cs x
 | .d t' x',t,x,cs,hv,h,_=>by
  have h':(Out.opt (sH t' t x')).eval=some x:=by cases t <;> simpa only[AS.gR]using h
  simp only[V]at hv
  exact ru (iP.1 h') (hv.mono he.mem)
 | .dp,.slice t,x,cs,hv,h,_=>by
  simp only[AS.gR,aq]at h
  subst h
  simp only[V]at hv
  simp only[cT]
  exact⟨none,0,[],by simpa using hv,by simp,by simp,λi v hh=>by simp at hh,rfl⟩
 | .dp,.gj t,x,cs,hv,h,_=>by
  simp only[AS.gR,aq]at h
  subst h
  simp only[V]at hv
  simp only[cT]
  exact⟨λ_=>hv,λl hl=>(by cases hl)⟩
 | .cO id ver p c i len,.gj t,x,cs,hv,h,hf=>by
  simp only[AS.gR]at h
  obtain⟨⟨n,t',l⟩,h1,h2⟩:=ak.1 h
  obtain⟨h3,h4⟩:=bF.1 h2
  exact ru (iP.1 h4) (EM hs ho he h1 h3 hv hf)
 | .cO id ver p c i len,.slice t,x,cs,hv,h,hf=>by
  simp only[AS.gR]at h
  obtain⟨⟨n,t',l⟩,h1,h2⟩:=ak.1 h
  obtain⟨h3,h4⟩:=bF.1 h2
  exact ru (iP.1 h4) (EM hs ho he h1 h3 hv hf)
 | .pr a b,.pair ta tb,x,cs,hv,h,hf=>by
  simp only[AS.gR]at h
  obtain⟨x1,h1,h2⟩:=ak.1 h
  obtain⟨x2,h3,h4⟩:=ak.1 h2
  obtain rfl:=aq.1 h4
  simp only[V]at hv
  obtain⟨ca,cb,e,ha,hb⟩:=hv
  simp only[cT]
  exact⟨ca,cb,e,ou hs ho he a ta x1 ca ha h1 (λi hi=>hf i (by simp[aw.shared,hi])),ou hs ho he b tb x2 cb hb h3 (λi hi=>hf i (by simp[aw.shared,hi]))⟩
 | .dp,.int _,_,_,_,h,_ | .dp,.bool,_,_,_,h,_ | .dp,.str,_,_,_,h,_ | .dp,.unit,_,_,_,h,_ | .dp,.pair _ _,_,_,_,h,_ | .dp,.arr _ _,_,_,_,h,_ | .dp,.mD _,_,_,_,h,_=>by simp only[AS.gR,aj]at h
 | .cO ..,.int _,_,_,_,h,_ | .cO ..,.bool,_,_,_,h,_ | .cO ..,.str,_,_,_,h,_ | .cO ..,.unit,_,_,_,h,_ | .cO ..,.pair _ _,_,_,_,h,_ | .cO ..,.arr _ _,_,_,_,h,_ | .cO ..,.mD _,_,_,_,h,_=>by simp only[AS.gR,aj]at h
 | .pr _ _,.int _,_,_,_,h,_ | .pr _ _,.bool,_,_,_,h,_ | .pr _ _,.str,_,_,_,h,_ | .pr _ _,.unit,_,_,_,h,_ | .pr _ _,.slice _,_,_,_,h,_ | .pr _ _,.arr _ _,_,_,_,h,_ | .pr _ _,.gj _,_,_,_,h,_ | .pr _ _,.mD _,_,_,_,h,_=>by simp only[AS.gR,aj]at h
 | .undef,t,_,_,_,h,_=>by cases t <;> simp only[AS.gR,aj]at h
 | .gone,t,_,_,_,h,_=>by cases t <;> simp only[AS.gR,aj]at h
 | .mi,t,_,_,_,h,_=>by cases t <;> simp only[AS.gR,aj]at h
 | .nX,t,_,_,_,h,_=>by cases t <;> simp only[AS.gR,aj]at h
 | .yl ..,t,_,_,_,h,_ | .ow ..,t,_,_,_,h,_=>by cases t <;> simp only[AS.gR,aj]at h
 | .qN,t,_,_,_,h,_=>by cases t <;> simp only[AS.gR,aj]at h
 | .sb _,t,_,_,_,h,_=>by cases t <;> simp only[AS.gR,aj]at h
 | .ptr ..,t,_,_,_,h,_=>by cases t <;> simp only[AS.gR,aj]at h
 | .eS ..,t,_,_,_,h,_=>by cases t <;> simp only[AS.gR,aj]at h
 | .fn ..,t,_,_,_,h,_=>by cases t <;> simp only[AS.gR,aj]at h
 | .cons ..,t,_,_,_,h,_=>by cases t <;> simp only[AS.gR,aj]at h
 | .nil,t,_,_,_,h,_=>by cases t <;> simp only[AS.gR,aj]at h
 | .vec ..,t,_,_,_,h,_=>by cases t <;> simp only[AS.gR,aj]at h
 | .bx ..,t,_,_,_,h,_ | .l9 ..,t,_,_,_,h,_ | .mp ..,t,_,_,_,h,_ | .ml ..,t,_,_,_,h,_=>by cases t <;> simp only[AS.gR,aj]at h
theorem qC{s:AS}{t:Ty}{v:aw}{x:t.den}(h:(s.gR t v).eval=some x):v.dZ=true:=by
 cases v <;> first
  |rfl
  | (cases t <;> simp only[AS.gR,aj]at h)
theorem Aw{s:AS}{t:Ty}{v:aw}{x:t.den}(h:(s.gR t v).eval=some x):v.agg=t.agg:=by
 cases v with
 |d t' x'=>
  have h':(Out.opt (sH t' t x')).eval=some x:=by cases t <;> simpa only[AS.gR]using h
  exact Bn (iP.1 h')
 |_=>cases t <;> first | rfl | (simp only[AS.gR,aj]at h)
theorem qc{C:Ctx}{g:Nat->jW}{β:Id->Option Pl}{s:AS}{a:Act}{w:World}(h:Inv C g β s a w){v:aw}{y:Value}(hv:VS (s.env w g β) v y){t:Ty}{x:t.den}(ht:(s.gR t v).eval=some x):
  ∃g',Inv C g' β (s.bj v.shared) a w/\cD (s.env w g β) ((s.bj v.shared).env w g' β)/\Trans w w g g'/\
   ∃cs,cT ((s.bj v.shared).env w g' β) t cs x/\eW t.agg cs y:=by
 obtain⟨g',h1,h2,h3,h4⟩:=fb v.shared h
 obtain⟨cs,hV,hO⟩:=hv.dZ (qC ht)
 exact⟨g',h1,h2,h3,cs,ou rfl h.bE h2 v t x cs hV ht h4,by rw[<-Aw ht];exact hO⟩
theorem zb{α:Type}{R:List Value->α->Prop}{f:α->List Value->Option (List Value)}(hf:∀x cs r,f x cs=some r->∃c,cs=c++r/\R c x):
  ∀(l:List α) (cs r:List Value),Js f l cs=some r->∃c,cs=c++r/\aV R c l
 |[],cs,r,h=>by
  simp only[Js,au]at h
  exact⟨[],by simp[h],rfl⟩
 |x::xs,cs,r,h=>by
  simp only[Js]at h
  cases hx:f x cs with
  |none=>rw[hx]at h;cases h
  |some r1=>
   rw[hx]at h
   obtain⟨c1,e1,h1⟩:=hf x cs r1 hx
   obtain⟨c2,e2,h2⟩:=zb hf xs r1 r h
   exact⟨c1++c2,by rw[e1,e2,bw],c1,c2,rfl,h1,h2⟩
theorem rv(E:Env):∀(t:Ty) (x:t.den) (cs r:List Value),oW t x cs=some r->∃c,cs=c++r/\cT E t c x
 | .int k,x,cs,r,h=>by
  cases cs with
  |nil=>simp[oW]at h
  |cons v r'=>
   cases v <;> simp only[oW]at h <;> try (cases h;done)
   rename_i k' n
   split at h
   ·rename_i h1 h2
    simp at h1 h2 h
    subst h1 h2 h
    exact⟨[.int k n],rfl,by simp[cT]⟩
   ·cases h
 | .bool,x,cs,r,h=>by
  cases cs with
  |nil=>simp[oW]at h
  |cons v r'=>
   cases v <;> simp only[oW]at h <;> try (cases h;done)
   rename_i b
   split at h
   ·rename_i h1
    simp at h1 h
    subst h1 h
    exact⟨[.bool b],rfl,by simp[cT]⟩
   ·cases h
 | .str,x,cs,r,h=>by
  cases cs with
  |nil=>simp[oW]at h
  |cons v r'=>
   cases v <;> simp only[oW]at h <;> try (cases h;done)
   rename_i b
   split at h
   ·rename_i h1
    simp at h1 h
    subst h1 h
    exact⟨[.string b],rfl,by simp[cT]⟩
   ·cases h
 | .slice t,x,cs,r,h=>by
  cases x with
  |cons _ _=>simp[oW]at h
  |nil=>
   cases cs with
   |nil=>simp[oW]at h
   |cons v r'=>
    unfold oW at h
    split at h <;> try (cases h;done)
    all_goals simp_all
    exact⟨[.slice none 0 0],rfl,by simp only[cT];exact⟨none,0,[],rfl,by simp,by simp,λi v hh=>by simp at hh,rfl⟩⟩
 | .gj t,x,cs,r,h=>by
  cases x with
  |some _=>simp[oW]at h
  |none=>
   cases cs with
   |nil=>simp[oW]at h
   |cons v r'=>
    unfold oW at h
    split at h <;> try (cases h;done)
    all_goals simp_all
    exact⟨[.slice none 0 0],rfl,by simp[cT]⟩
 | .mD t,x,cs,r,h=>by
  cases x with
  |some _=>simp[oW]at h
  |none=>
   cases cs with
   |nil=>simp[oW]at h
   |cons v r'=>
    unfold oW at h
    split at h <;> try (cases h;done)
    all_goals simp_all
    exact⟨[.pointer none],rfl,by simp[cT]⟩
 | .unit,x,cs,r,h=>by
  simp only[oW,au]at h
  exact⟨[],by simp[h],by simp[cT]⟩
 | .pair a b,x,cs,r,h=>by
  simp only[oW]at h
  cases hx:oW a x.1 cs with
  |none=>rw[hx]at h;cases h
  |some r1=>
   rw[hx]at h
   obtain⟨c1,e1,h1⟩:=rv E a x.1 cs r1 hx
   obtain⟨c2,e2,h2⟩:=rv E b x.2 r1 r h
   exact⟨c1++c2,by rw[e1,e2,bw],by simp only[cT];exact⟨c1,c2,rfl,h1,h2⟩⟩
 | .arr n t,x,cs,r,h=>by
  simp only[oW]at h
  split at h
  ·rename_i h1
   obtain⟨c,e,hc⟩:=zb (λx cs r hh=>rv E t x cs r hh) _ _ _ h
   exact⟨c,e,by simp only[cT];exact⟨by simpa using h1,hc⟩⟩
  ·cases h
theorem FA(E:Env):∀(a:aw) (cs r:List Value),yq a cs=some r->∃c,cs=c++r/\V E a c:=by
 intro a
 induction a with
 |d t x=>
  intro cs r h
  simp only[yq]at h
  obtain⟨c,e,hc⟩:=rv E t x cs r h
  exact⟨c,e,by simpa only[V]using hc⟩
 |pr a b iha ihb=>
  intro cs r h
  simp only[yq]at h
  cases hx:yq a cs with
  |none=>rw[hx]at h;cases h
  |some r1=>
   rw[hx]at h
   obtain⟨c1,e1,h1⟩:=iha cs r1 hx
   obtain⟨c2,e2,h2⟩:=ihb r1 r h
   exact⟨c1++c2,by rw[e1,e2,bw],by simp only[V];exact⟨c1,c2,rfl,h1,h2⟩⟩
 |dp=>intro cs r h;unfold yq at h;split at h <;> simp_all <;> exact⟨[.slice none 0 0],rfl,by simp[V]⟩
 |mi=>intro cs r h;unfold yq at h;split at h <;> simp_all <;> exact⟨[.pointer none],rfl,by simp[V]⟩
 |nX=>intro cs r h;unfold yq at h;split at h <;> simp_all <;> exact⟨[.nilFunc],rfl,by simp[V]⟩
 |qN=>intro cs r h;unfold yq at h;split at h <;> simp_all <;> exact⟨[.map none],rfl,by simp[V]⟩
 |_=>intro cs r h;simp[yq]at h
theorem nD{P:Program}{T:TypeId}{z:aw}(h:C1 P T z=true)(E:Env):
  ∃i zv,P.info? T=some i/\i.zero=some zv/\V E z zv.cells.toList/\eW z.agg zv.cells.toList zv:=by
 unfold C1 at h
 split at h <;> try (cases h;done)
 rename_i i hi
 split at h <;> try (cases h;done)
 rename_i zv hz
 simp only[ah,beq_iff_eq]at h
 obtain⟨h1,h2⟩:=h
 split at h1 <;> try (cases h1;done)
 rename_i he
 obtain⟨c,e,hV⟩:=FA E z _ _ he
 rw[cM]at e
 rw[<-e]at hV
 refine⟨i,zv,hi,hz,hV,?_⟩
 cases DW:z.agg with
 |true=>
  rw[DW]at h2
  cases zv <;> simp[l5]at h2
  simp[eW,Value.cells]
 |false=>
  rw[DW]at h2
  cases zv <;> first | (simp[l5]at h2;done) | simp[eW,Value.cells]
end Go.Ab
namespace Go.Ab
def Fr(r:Option Nat):Fence:= {Fence.wide with round:=r}
def eT(P:Program)(o:Oper)(a:Act)(w:World)(K:Act->World->Prop):Prop:=
 (∃x w',(execOp a.eval o).run P w= .ok (.value x) w'/\K (a.put o.dst x) w')\/
 (∃w',(execOp a.eval o).run P w= .ok .skip w'/\K (a.put o.dst undef) w')\/
 (∃f args w',(execOp a.eval o).run P w= .ok (.enter f args) w'/\Calls P f args w' λe w''=>∃x,e= .returned x/\K (a.put o.dst x) w'')\/
 (∃l f tmps as b w',(execOp a.eval o).run P w= .ok (.round l f tmps as b) w'/\∀r n,RoundIn (Fr r) n P l f tmps as b w' λe w''=>∃x,e= .returned x/\K (a.put o.dst x) w'')
theorem eT.plain{P:Program}{o:Oper}{a:Act}{w:World}{K:Act->World->Prop}(h:eT P o a w K)(c:Call):o.op≠ .defer c:=λho=>by
 have hd:∀x w',(execOp a.eval o).run P w= .ok x w'->∃d,x= .defer d:=λx w' hx=>by
  simp only[execOp,ho,Sem.run_bind]at hx
  cases hr:(resolve a.eval c o.type).run P w with
  |ok d w1=>
   rw[hr]at hx
   simp only[Result.andThen_ok,Sem.run_pure,Result.ok.injEq]at hx
   exact⟨d,hx.1.symm⟩
  |halt _ _=>rw[hr]at hx;simp[Result.andThen]at hx
 rcases h with⟨x,w',hr,_⟩ | ⟨w',hr,_⟩ | ⟨f,args,w',hr,_⟩ | ⟨l,f,tmps,as,b,w',hr,_⟩
 ·obtain⟨d,e⟩:=hd _ _ hr;cases e
 ·obtain⟨d,e⟩:=hd _ _ hr;cases e
 ·obtain⟨d,e⟩:=hd _ _ hr;cases e
 ·obtain⟨d,e⟩:=hd _ _ hr;cases e
theorem eT.wpIn{r:Option Nat}{n:Nat}{P:Program}{o:Oper}{a:Act}{w:World}{K:Act->World->Prop}{Q:Exit->Act->World->Prop}(h:eT P o a w K):o.wpIn (Fr r) n P a w K Q:=by
 have hp:=h.plain
 refine⟨λ_ _=>trivial,?_⟩
 rw[Oper.semAt_eq _ _ _ hp]
 rcases h with⟨x,w',hr,hk⟩ | ⟨w',hr,hk⟩ | ⟨f,args,w',hr,hk⟩ | ⟨l,f,tmps,as,b,w',hr,hk⟩
 rotate_left 3
 ·rw[hr,Oper.uponIn_round]
  refine⟨λh=>(by cases h),(hk r (n - 1)).mono λe w'' ⟨x,he,hx⟩=> ?_⟩
  subst he
  exact hx
 ·rw[hr,Oper.uponIn_value];exact hk
 ·rw[hr,Oper.uponIn_skip];exact hk
 ·rw[hr,Oper.uponIn_enter]
  refine⟨λh=>(by cases h),?_⟩
  have h1:CallsIn (Fr r) (n - 1) P f args w' _:=callsIn_wide.2 hk
  refine h1.mono λe w'' ⟨x,he,hx⟩=> ?_
  subst he
  exact hx
theorem eT.mono{P:Program}{o:Oper}{a:Act}{w:World}{K K':Act->World->Prop}(h:eT P o a w K)(hk:∀a w,K a w->K' a w):eT P o a w K':=by
 rcases h with⟨x,w',hr,h⟩ | ⟨w',hr,h⟩ | ⟨f,args,w',hr,h⟩ | ⟨l,f,tmps,as,b,w',hr,h⟩
 ·exact .inl ⟨x,w',hr,hk _ _ h⟩
 ·exact .inr (.inl ⟨w',hr,hk _ _ h⟩)
 ·exact .inr (.inr (.inl ⟨f,args,w',hr,h.mono λe w'' ⟨x,he,hx⟩=>⟨x,he,hk _ _ hx⟩⟩))
 ·exact .inr (.inr (.inr ⟨l,f,tmps,as,b,w',hr,λr n=>(h r n).mono λe w'' ⟨x,he,hx⟩=>⟨x,he,hk _ _ hx⟩⟩))
section
variable {P:Program} {C:Ctx} {g:Nat->jW} {β:Id->Option Pl} {s:AS} {a:Act} {w:World} {o:Oper}
theorem Inv.value(h:Inv C g β s a w){v:aw}{x:Value}(hv:VS (s.env w g β) v x)(hr:(execOp a.eval o).run P w= .ok (.value x) w):eT P o a w (gm C (s.put o.dst v)):=
 .inl ⟨x,w,hr,g,β,h.put o.dst hv⟩
theorem dz{f:Sem Value}{x:Value}{w':World}(he:execOp a.eval o=(do pure (.value (<-f))))(hf:f.run P w= .ok x w'):(execOp a.eval o).run P w= .ok (.value x) w':=by
 rw[he,Sem.run_bind,hf];rfl
theorem Bu{f:Sem Unit}{w':World}(he:execOp a.eval o=(do f;pure .skip))(hf:f.run P w= .ok () w'):(execOp a.eval o).run P w= .ok .skip w':=by
 rw[he,Sem.run_bind,hf];rfl
theorem np{E:Env}{k:IntKind}{n:Int}{y:Value}(h:VS E (.d (.int k) n) y):y= .int k n:=by
 obtain⟨cs,hv,ho⟩:=h
 simp only[V,cT]at hv
 have ho':cs=[y]:=ho
 rw[hv]at ho'
 simpa using ho'.symm
theorem yH{E:Env}{b:Bool}{y:Value}(h:VS E (.d .bool b) y):y= .bool b:=by
 obtain⟨cs,hv,ho⟩:=h
 simp only[V,cT]at hv
 have ho':cs=[y]:=ho
 rw[hv]at ho'
 simpa using ho'.symm
theorem te{E:Env}{b:ByteArray}{y:Value}(h:VS E (.d .str b) y):y= .string b:=by
 obtain⟨cs,hv,ho⟩:=h
 simp only[V,cT]at hv
 have ho':cs=[y]:=ho
 rw[hv]at ho'
 simpa using ho'.symm
theorem jn{E:Env}(k:IntKind)(n:Int):VS E (.d (.int k) n) (.int k n):=⟨[.int k n],by simp[V,cT],rfl⟩
theorem nE{E:Env}(b:Bool):VS E (.d .bool b) (.bool b):=⟨[.bool b],by simp[V,cT],rfl⟩
theorem Cd{E:Env}(b:ByteArray):VS E (.d .str b) (.string b):=⟨[.string b],by simp[V,cT],rfl⟩
theorem G6{T:TypeId}{d:TypeDesc}(h:P.underlying T=some d):∃i,P.info? T=some i:=by
 unfold Program.underlying at h
 split at h
 ·rename_i h';exact⟨_,h'⟩
 ·rename_i i _ h';exact⟨_,h'⟩
 ·cases h
theorem run_sizeOf{T:TypeId}{i:TypeInfo}(h:P.info? T=some i)(w:World):(sizeOf T).run P w= .ok i.size w:=by
 simp[sizeOf,typeInfo,h]
theorem jY{T:TypeId}{i:TypeInfo}(h:P.info? T=some i):P.cellsOf T=i.size:=by simp[Program.cellsOf,h]
theorem lV{T:TypeId}{v:aw}(h:fits P T v=true):v.dZ=true/\∃i,P.info? T=some i/\i.size=v.size/\∀w,(isAgg T).run P w= .ok v.agg w:=by
 unfold fits at h
 simp only[ah,beq_iff_eq]at h
 obtain⟨⟨h1,h2⟩,h3⟩:=h
 cases hu:P.underlying T with
 |none=>rw[hu]at h3;cases h3
 |some d=>
  obtain⟨i,hi⟩:=G6 hu
  refine⟨h1,i,hi,by rw[jY hi]at h2;exact h2,λw=> ?_⟩
  rw[hu]at h3
  unfold isAgg
  rw[Sem.run_bind,run_underlying hu w]
  cases d <;> simp at h3 <;> simp[h3]
theorem pX{T:TypeId}{v:aw}(hf:fits P T v=true){b off:Nat}{cs:List Value}(hl:cs.length=v.size)(hc:∀j x,cs[j]? =some x->w.cell? ⟨b,off+j,none⟩=some x):
  ∃y,(loadVar T ⟨b,off,none⟩).run P w= .ok y w/\eW v.agg cs y:=by
 obtain⟨_,i,hi,hs,DW⟩:=lV hf
 unfold loadVar
 rw[Sem.run_bind,DW w]
 simp only[Result.andThen_ok]
 have qY:∀j x,cs[j]? =some x->w.cell? ((⟨b,off,none⟩:Addr).add j)=some x:=λj x hj=>by
  rw[Addr.add_lit];exact hc j x hj
 cases ha:v.agg with
 |true=>
  refine⟨.agg cs.toArray,?_,rfl⟩
  simp only[if_true,Sem.run_bind,run_sizeOf hi,Result.andThen_ok,hs,<-hl,run_loadCells_list w _ cs qY]
  rfl
 |false=>
  have h1:v.size=1:=aw.EI ha
  obtain⟨y,rfl⟩:∃y,cs=[y]:=by
   match cs,hl with
   |[y],_=>exact⟨y,rfl⟩
   |[],hh=>simp[h1]at hh
   |_::_::_,hh=>simp[h1]at hh
  refine⟨y,?_,rfl⟩
  have:=hc 0 y rfl
  rw[cn]at this
  simp[this]
theorem sj{T:TypeId}{v:aw}{E:Env}(hf:fits P T v=true){cs:List Value}{y:Value}(hV:V E v cs)(ho:eW v.agg cs y){b off:Nat}{cur:Array Value}{e:TypeId}
  (hh:w.heap[b]? =some (.cells cur e (0,0))) (hle:off+cs.length<=cur.size):
  (storeVar T ⟨b,off,none⟩ y).run P w= .ok () (w.setRow b (df cur.toList off cs).toArray):=by
 obtain⟨_,i,hi,hs,_⟩:=lV hf
 have HT:y.cells=cs.toArray:=ho.cells hV.one
 have hl:=hV.size
 have mj:=run_storeCells_at P b off e cs 0 cur w hh (by simpa using hle) hV.one
 simp only[cn]at mj
 unfold storeVar
 simp only[HT,Sem.run_bind,run_sizeOf hi,Result.andThen_ok,fX,hl,hs,ne_eq,not_true_eq_false,if_false]
 simpa[df]using mj
theorem lr(w:World)(ob:Obj){b:Nat}(h:b < w.heap.size):(w.alloc ob).heap[b]? =w.heap[b]? :=by
 show(w.heap.push ob)[b]? =w.heap[b]?
 rw[Array.getElem?_push,if_neg (Nat.ne_of_lt h)]
theorem mw(w:World)(ob:Obj):(w.alloc ob).heap[w.heap.size]? =some ob:=by
 show(w.heap.push ob)[w.heap.size]? =some ob
 simp
theorem Trans.alloc(w:World)(g:Nat->jW)(ob:Obj)(l:jW):Trans w (w.alloc ob) g (j2 g w.heap.size l):=by
 refine⟨rfl,rfl,⟨rfl,az _⟩,by simp,λb hb=> ?_⟩
 rw[eJ _ _ _ (by omega),lr w ob hb]
 cases g b with
 |free=>exact⟨rfl,rfl⟩
 |own o k=>cases o with
  |dH=>exact⟨rfl,rfl⟩
  |id i=>exact⟨.inr ⟨i,k,rfl,az _⟩,λoff v _ hv=>by rw[World.cell?_alloc_lt w ob _ hb];exact hv⟩
theorem Trans.drew(w:World)(g:Nat->jW):Trans w w.drew g g:=Trans.refl w g |> λh=>⟨h.os,h.tape,⟨h.output.1,Nat.le_succ _⟩,h.size,h.wN⟩
theorem gK.same{w':World}{g':Nat->jW}(h:gK (s.env w g β))(he:cD (s.env w g β) (s.env w' g' β))
  (hb:∀i ver fr c pl,s.bT i=some (.obj ver fr c)->β i=some pl->w'.heap[pl.b]? =w.heap[pl.b]? /\g' pl.b=g pl.b):gK (s.env w' g' β):=
 λi ver fr c hi=>(h i ver fr c hi).mono he rfl (λpl hp=>hb i ver fr c pl hi hp) λq vq k v l hq _=>⟨⟨k,v,l,hq⟩,λpl hp=>hb q vq true _ pl hq hp⟩
theorem cD.same{w':World}{g':Nat->jW}(ht:Trans w w' g g'):cD (s.env w g β) (s.env w' g' β):=
 ⟨Trans.mem ht,λ_ _ h=>h,λ_ _ _ h=>⟨h,rfl⟩⟩
theorem Inv.tn(h:Inv C g β s a w)(ob:Obj):Inv C (j2 g w.heap.size .free) β s a (w.alloc ob):=by
 have ht:=Trans.alloc w g ob .free
 have he:cD (s.env w g β) (s.env (w.alloc ob) (j2 g w.heap.size .free) β):=cD.same ht
 refine h.step rfl ht he (gK.same h.bE he λi ver fr c pl hi hp=> ?_)
 have hl:=((h.bE i ver fr c hi).label (pl:=pl) hp).1
 have hl':pl.b < w.heap.size:=hl
 exact⟨lr w ob hl',eJ _ _ _ (by omega)⟩
theorem Inv.drew(h:Inv C g β s a w):Inv C g β s a w.drew:=by
 have ht:=Trans.drew w g
 have he:cD (s.env w g β) (s.env w.drew g β):=cD.same ht
 exact h.step rfl ht he (gK.same h.bE he λ_ _ _ _ _ _ _=>⟨rfl,rfl⟩)
theorem iS{q:Nat}(h:s.dB q=true):(∀j,s.bT (.new q j)=none)/\q < s.news.length:=by
 unfold AS.dB at h
 split at h
 ·rename_i hn
  refine⟨λj=> ?_,(dj.1 hn).1⟩
  simp[AS.bT,aC,hn]
 ·cases h
theorem oY{q:Nat}(hq:q < s.news.length)(es:List dv)(j:Nat):(s.born q es).bT (.new q j)=es[j]? :=by
 simp[AS.bT,AS.born,aC,hq]
theorem gL{q:Nat}(es:List dv){id:Id}(h:∀j,id≠ .new q j):(s.born q es).bT id=s.bT id:=by
 cases id with
 |dw k=>rfl
 |new i j=>
  have:i≠q:=λe=>h j (by rw[e])
  simp only[AS.bT,AS.born,aC]
  rw[dV (Ne.symm this)]
def tj(β:Id->Option Pl)(id:Id)(p:Option Pl):Id->Option Pl:=λi=>if i=id then p else β i
@[simp] theorem iI(β:Id->Option Pl)(id:Id)(p:Option Pl):tj β id p id=p:=by simp[tj]
theorem qe(β:Id->Option Pl)(id:Id)(p:Option Pl){i:Id}(h:i≠id):tj β id p i=β i:=by simp[tj,h]
theorem Inv.wO(h:Inv C g β s a w){q:Nat}(hq:s.dB q=true){w':World}{g':Nat->jW}{c:aw}{p:Option Pl}(ht:Trans w w' g g')
  (hb:∀b,b < w.heap.size->w'.heap[b]? =w.heap[b]? /\g' b=g b)
  (ho:cD (s.env w g β) ((s.born q [.obj 0 false c]).env w' g' (tj β (.new q 0) p))->nO ((s.born q [.obj 0 false c]).env w' g' (tj β (.new q 0) p)) (.new q 0) false c):
  Inv C g' (tj β (.new q 0) p) (s.born q [.obj 0 false c]) a w'/\cD (s.env w g β) ((s.born q [.obj 0 false c]).env w' g' (tj β (.new q 0) p)):=by
 obtain⟨hv,hl⟩:=iS hq
 have gS:∀id,s.bT id≠none->∀j,id≠ .new q j:=λid cZ j e=>cZ (by rw[e];exact hv j)
 have he:cD (s.env w g β) ((s.born q [.obj 0 false c]).env w' g' (tj β (.new q 0) p)):=by
  refine⟨Trans.mem ht,λid ver HR=> ?_,λid ver HR hc=> ?_⟩
  ·have cZ:=gS id HR.1
   have e:=gL (s:=s) [.obj 0 false c] cZ
   exact⟨by show(s.born q _).bT id≠none;rw[e];exact HR.1,λv fr c' hh=>HR.2 v fr c' (e.symm.trans hh)⟩
  ·have cZ:=gS id HR.1
   have e:=gL (s:=s) [.obj 0 false c] cZ
   obtain⟨fr,c',hc⟩:=hc
   exact⟨⟨fr,c',e.symm.trans hc⟩,qe _ _ _ (cZ 0)⟩
 refine⟨h.step rfl ht he λid ver fr c' cZ=> ?_,he⟩
 have hid':(s.born q [.obj 0 false c]).bT id=some (.obj ver fr c'):=cZ
 by_cases hi:∃j,id= .new q j
 ·obtain⟨j,rfl⟩:=hi
  rw[oY hl]at hid'
  cases j with
  |zero=>
   simp only[eV,au,dv.obj.injEq]at hid'
   obtain⟨rfl,rfl,rfl⟩:=hid'
   exact ho he
  |succ j=>simp at hid'
 ·have hi':∀j,id≠ .new q j:=λj e=>hi ⟨j,e⟩
  rw[gL _ hi']at hid'
  refine(h.bE id ver fr c' hid').mono he (qe _ _ _ (hi' 0)) (λpl hp=> ?_) λq2 vq k v l yx _=> ?_
  ·exact hb pl.b ((h.bE id ver fr c' hid').label (pl:=pl) hp).1
  ·have R6:s.bT q2=some (.obj vq true (.mp k v l)):=yx
   refine⟨⟨k,v,l,by show(s.born q _).bT q2=_;rw[gL _ (gS q2 (by rw[R6];simp))];exact R6⟩,λpl hp=>hb pl.b ((h.bE q2 vq true _ R6).label (pl:=pl) hp).1⟩
theorem kT{q:Nat}(hq:s.dB q=true)(c:aw)(w':World)(g':Nat->jW)(β':Id->Option Pl):((s.born q [.obj 0 false c]).env w' g' β').r9 (.new q 0) 0:=by
 have e:=oY (s:=s) (iS hq).2 [.obj 0 false c] 0
 refine⟨by show(s.born q [.obj 0 false c]).bT (.new q 0)≠none;rw[e];simp,λv fr c' _=>aP _⟩
theorem Inv.He(h:Inv C g β s a w){q:Nat}(hq:s.dB q=true){v:aw}{cs:List Value}{e:TypeId}(hk:∀pl n,v.sD pl n e)(hN:∀n,v.oz n=n)(hv:V (s.env w g β) v.strip cs):
  ∃g' β',Inv C g' β' (s.born q [.obj 0 false v]) a (w.alloc (.cells cs.toArray e))/\
   VS ((s.born q [.obj 0 false v]).env (w.alloc (.cells cs.toArray e)) g' β') (.ptr (.new q 0) 0 [] 0) (.pointer (some ⟨w.heap.size,0,none⟩)):=by
 have ht:=Trans.alloc w g (.cells cs.toArray e) (.own (.id (.new q 0)) 0)
 obtain⟨h1,h2⟩:=h.wO hq (c:=v) (p:=some ⟨w.heap.size,0⟩) ht (λb hb=>⟨lr w _ hb,eJ _ _ _ (by omega)⟩) (λhe=>
  wK.obj ⟨⟨w.heap.size,0⟩,cs.toArray,e,iI _ _ _,mw w _,eQ _ _ _,hk _ _,by rw[hN,show cs.toArray.toList.take cs.toArray.size=cs by simp];exact hv.mono he⟩)
 refine⟨_,_,h1,?_⟩
 refine⟨[.pointer (some ⟨w.heap.size,0,none⟩)],?_,rfl⟩
 simp only[V]
 exact⟨_,rfl,kT hq _ _ _ _,λ_=>⟨_,iI _ _ _,rfl⟩⟩
theorem Inv.Od(h:Inv C g β s a w){q:Nat}(hq:s.dB q=true){v:aw}{cs:List Value}(hv:V (s.env w g β) v cs)(e:TypeId):
  ∃g' β',Inv C g' β' (s.born q [.obj 0 false v]) a (w.alloc (.cells cs.toArray e))/\
   VS ((s.born q [.obj 0 false v]).env (w.alloc (.cells cs.toArray e)) g' β') (.ptr (.new q 0) 0 [] 0) (.pointer (some ⟨w.heap.size,0,none⟩)):=
 h.He hq (λpl n=>wR hv.pU pl n e) (λn=>y5 hv.pU n) (by rw[xz hv.pU];exact hv)
theorem Jf(P:Program)(T:TypeId){z:aw}{E:Env}{cs:List Value}(hv:V E z cs):(∀pl n,(boxed P T z).sD pl n T)/\(∀n,(boxed P T z).oz n=n)/\V E (boxed P T z).strip cs:=by
 unfold boxed
 split
 ·exact⟨λ_ _=>rfl,λ_=>rfl,hv⟩
 ·exact⟨λpl n=>wR hv.pU pl n T,λn=>y5 hv.pU n,by rw[xz hv.pU];exact hv⟩
theorem Inv.LL(h:Inv C g β s a w){t:Ty}{x:t.den}{cs:List Value}(hv:cT (s.env w g β) t cs x)(e:TypeId):
  ∃g',Inv C g' β s a (w.alloc (.cells cs.toArray e))/\cD (s.env w g β) (s.env (w.alloc (.cells cs.toArray e)) g' β)/\
   VS (s.env (w.alloc (.cells cs.toArray e)) g' β) (.eS t x) (.pointer (some ⟨w.heap.size,0,none⟩)):=by
 have ht:=Trans.alloc w g (.cells cs.toArray e) .free
 have he:cD (s.env w g β) (s.env (w.alloc (.cells cs.toArray e)) (j2 g w.heap.size .free) β):=cD.same ht
 refine⟨_,h.tn _,he,[.pointer (some ⟨w.heap.size,0,none⟩)],?_,rfl⟩
 simp only[V]
 refine⟨w.heap.size,0,cs,rfl,λi v hi=>⟨_,_,rfl,?_,?_⟩,hv.mono he.mem⟩
 ·show(w.alloc (.cells cs.toArray e)).cell? ⟨w.heap.size,0+i,none⟩=some v
  rw[World.cell?_alloc_new,aR];simpa using hi
 ·show mY (j2 g w.heap.size .free) w.heap.size (0+i)
  unfold mY;rw[eQ];trivial
theorem Ai(T:TypeId)(y:Value)(w:World):(newVar T y).run P w= .ok ⟨w.heap.size,0,none⟩ (w.alloc (.cells y.cells T)):=by
 simp[newVar,newRow]
theorem Fh(h:Inv C g β s a w){T:TypeId}(ho:o.op= .alloc T){z:aw}{q:Nat}(hq:s.dB q=true)(hz:C1 P T z=true):
  eT P o a w (gm C ((s.born q [.obj 0 false (boxed P T z)]).put o.dst (.ptr (.new q 0) 0 [] 0))):=by
 obtain⟨i,zv,hi,E5,hV,hO⟩:=nD hz (s.env w g β)
 obtain⟨hk,hN,hV⟩:=Jf P T hV
 obtain⟨g',β',h1,h2⟩:=h.He hq hk hN hV
 refine .inl ⟨.pointer (some ⟨w.heap.size,0,none⟩),w.alloc (.cells zv.cells T),?_,g',β',?_⟩
 ·refine dz (f:=Instr.alloc T true (.tuple #[])) (by simp only[execOp,ho]) ?_
  simp[Instr.alloc,zeroValue,typeInfo,hi,E5,Ai]
 ·have:=h1.put o.dst h2
  simpa using this
theorem VS.Qj{E:Env}{t:Ty}{x:t.den}{y:Value}(h:VS E (.eS t x) y)(dt:Bool):VS E (Nc dt t x) y:=by
 cases dt with
 |false=>exact h
 |true=>
  obtain⟨cs,hv,ho⟩:=h
  simp only[V]at hv
  refine⟨cs,?_,ho⟩
  simp only[Nc,V,cT]
  simpa using hv
theorem BF{E:Env}{t:Ty}{y:Value}(h:VS E (.d (.mD t) none) y):y= .pointer none:=by
 obtain⟨cs,hv,ho⟩:=h
 simp only[V,cT]at hv
 have ho':cs=[y]:=ho
 have e:=hv.1 trivial
 rw[e]at ho'
 simpa using ho'.symm
theorem vD{E:Env}{t:Ty}{x:t.den}{y:Value}(h:VS E (.d (.mD t) (some x)) y):VS E (.eS t x) y:=by
 obtain⟨cs,hv,ho⟩:=h
 simp only[V,cT]at hv
 refine⟨cs,?_,ho⟩
 simp only[V]
 simpa using hv
theorem Je(h:Inv C g β s a w){T:TypeId}{x:Operand}{obj dt:Bool}(ho:o.op= .box T x){s':AS}(he:(Dj P s obj dt o.dst T (s.ev x)).eval=some s'):eT P o a w (gm C s'):=by
 unfold Dj at he
 cases hd:o.dst with
 |none=>rw[hd]at he;simp only[aj]at he
 |some q=>
  rw[hd]at he
  have HU:=h.ev x
  have kU:∀cs:List Value,(a.eval x).cells=cs.toArray->(execOp a.eval o).run P w= .ok (.value (.pointer (some ⟨w.heap.size,0,none⟩))) (w.alloc (.cells cs.toArray T)):=by
   intro cs HT
   refine dz (f:=Instr.box T (a.eval x)) (by simp only[execOp,ho]) ?_
   simp[Instr.box,Ai,HT]
  cases obj with
  |true=>
   obtain⟨hg,nm⟩:=aA.1 he
   obtain rfl:=aq.1 nm
   simp only[ah]at hg
   obtain⟨hq,hf⟩:=hg
   obtain⟨hc,_⟩:=lV hf
   obtain⟨cs,hV,hO⟩:=HU.dZ hc
   obtain⟨g',β',h1,h2⟩:=h.Od hq hV T
   refine .inl ⟨_,_,kU cs (hO.cells hV.one),g',β',?_⟩
   rw[hd]
   exact h1.put (some q) h2
  |false=>
   simp only at he
   cases ht:EZ P depth T with
   |none=>rw[ht]at he;simp only[aj]at he
   |some t=>
    rw[ht]at he
    obtain⟨_,he⟩:=aA.1 he
    obtain⟨y,h1,h2⟩:=ak.1 he
    obtain rfl:=aq.1 h2
    obtain⟨g1,i1,e1,t1,cs,hR,hO⟩:=qc h HU h1
    obtain⟨g2,i2,e2,hv⟩:=i1.LL hR T
    refine .inl ⟨_,_,kU cs (hO.cells hR.one),g2,β,?_⟩
    rw[hd]
    exact i2.put (some q) (hv.Qj dt)
theorem nK{E:Env}{t:Ty}{x:t.den}{y:Value}(h:VS E (.eS t x) y):∃b off vs,y= .pointer (some ⟨b,off,none⟩)/\rZ E (some ⟨b,off,none⟩) vs/\cT E t vs x:=by
 obtain⟨cs,hv,ho⟩:=h
 simp only[V]at hv
 obtain⟨b,off,vs,e,hr,hx⟩:=hv
 have ho':cs=[y]:=ho
 rw[e]at ho'
 exact⟨b,off,vs,by simpa using ho'.symm,hr,hx⟩
theorem nu{E:Env}{id:Id}{ver n:Nat}{p:List tJ}{y:Value}(h:VS E (.ptr id ver p n) y):
  ∃a,y= .pointer (some a)/\E.r9 id ver/\(E.cur id ver->∃pl,E.β id=some pl/\a=⟨pl.b,n,none⟩):=by
 obtain⟨cs,hv,ho⟩:=h
 simp only[V]at hv
 obtain⟨a,e,hb,hc⟩:=hv
 have ho':cs=[y]:=ho
 rw[e]at ho'
 exact⟨a,by simpa using ho'.symm,hb,hc⟩
theorem lK{E:Env}{id:Id}{ver c i len:Nat}{p:List tJ}{y:Value}(h:VS E (.cO id ver p c i len) y):
  ∃a cap,y= .slice a len cap/\len<=cap/\(0 < len->a.isSome=true)/\E.r9 id ver/\
   (E.cur id ver->match E.β id with
    |some pl=>(0 < len\/i=0->a=some ⟨pl.b,c,none⟩)/\(p=[]->i=0->cap=pl.cap)
    |none=>a=none/\len=0/\cap=0):=by
 obtain⟨cs,hv,ho⟩:=h
 simp only[V]at hv
 obtain⟨a,cap,e,rest⟩:=hv
 have ho':cs=[y]:=ho
 rw[e]at ho'
 exact⟨a,cap,by simpa using ho'.symm,rest⟩
theorem mO{E:Env}{t:Ty}{l:List t.den}{y:Value}(h:VS E (.d (.slice t) l) y):
  ∃a cap vs,y= .slice a l.length cap/\l.length<=cap/\(0 < l.length->a.isSome=true)/\rZ E a vs/\aV (cT E t) vs l:=by
 obtain⟨cs,hv,ho⟩:=h
 simp only[V,cT]at hv
 obtain⟨a,cap,vs,e,rest⟩:=hv
 have ho':cs=[y]:=ho
 rw[e]at ho'
 exact⟨a,cap,vs,by simpa using ho'.symm,rest⟩
theorem ji{E:Env}{y:Value}(h:VS E .dp y):y= .slice none 0 0:=by
 obtain⟨cs,hv,ho⟩:=h
 simp only[V]at hv
 have ho':cs=[y]:=ho
 rw[hv]at ho'
 simpa using ho'.symm
theorem Ip{E:Env}{id:Id}{fr:Bool}{c:aw}(h:nO E id fr c){p:List tJ}{n:Nat}{v:aw}(hl:(loc c.strip p).eval=some (n,v))(hf:v.dZ=true):
  ∃pl cur e,E.β id=some pl/\E.w.heap[pl.b]? =some (.cells cur e (0,0))/\V E v ((cur.toList.drop n).take v.size)/\n+v.size<=cur.size:=by
 by_cases hn:c.gr=false
 ·obtain⟨pl,cur,e,hp,hh,hg,hk,hV⟩:=h.box hn
  have hN:=yI hk
  generalize c.oz cur.size=N at hN hV
  have hNl:(cur.toList.take N).length=N:=by rw[bI,cz];omega
  obtain⟨u,hu⟩:∃u,c.strip=u:=⟨_,rfl⟩
  rw[hu]at hV hl
  rcases mc p u (cur.toList.take N) n v (VO.of hV) hl with⟨rfl,rfl⟩ | ⟨h1,h2⟩
  ·have hs:=hV.size
   rw[hNl]at hs
   refine⟨pl,cur,e,hp,hh,?_,by omega⟩
   rw[aI,<-hs]
   exact hV
  ·rw[hNl]at h2
   rw[mq,iM,dQ (by omega)]at h1
   exact⟨pl,cur,e,hp,hh,h1,by omega⟩
 ·cases c <;> first | (exact absurd rfl hn) | skip
  rotate_left
  ·have hl:(loc (.mp _ _ _) p).eval=_:=hl
   obtain⟨_,rfl⟩:=CF hl
   simp[aw.dZ]at hf
  ·have hl:(loc (.ml _ _ _ _ _ _) p).eval=_:=hl
   obtain⟨_,rfl⟩:=yQ hl
   simp[aw.dZ]at hf
  ·have hl:(loc (.ow _ _ _) p).eval=_:=hl
   obtain⟨_,rfl⟩:=yR hl
   simp[aw.dZ]at hf
  rename_i e t l
  obtain⟨hz,h⟩:=h
  cases hp:E.β id with
  |none=>
   rw[hp]at h
   have:l=[]:=h
   subst this
   obtain⟨_,rfl⟩:=zH hl
   simp[aw.dZ]at hf
  |some pl=>
   rw[hp]at h
   obtain⟨cur,k,q1,q2,q3,q4,q5,q6,q7,q8⟩:=h
   have hlen:=aV.length (λc x hx=>cT.size hx) q8
   have mE:l.length*t.size<=cur.size:=by rw[q2];exact cW _ q3
   rcases mc (E:=E) p (.vec e t l) _ n v q8 hl with⟨rfl,rfl⟩ | ⟨h1,h2⟩
   ·simp[aw.dZ]at hf
   ·rw[hlen]at h2
    rw[mq,iM,dQ (by omega)]at h1
    exact⟨pl,cur,e,rfl,q1,h1,by omega⟩
theorem Il{E:Env}{v v':aw}(h:(Og v).eval=some v'):(∀cs,V E v cs->V E v' cs)/\v'.agg=v.agg:=by
 unfold Og at h
 split at h
 ·rename_i t l
  obtain⟨h1,h2⟩:=bF.1 h
  obtain rfl:=aq.1 h2
  refine⟨λcs hv=> ?_,rfl⟩
  simp only[V,cT]at hv ⊢
  exact hv.1 (Option.isNone_iff_eq_none.1 h1)
 ·obtain rfl:=aq.1 h
  exact⟨λ_ h=>h,rfl⟩
theorem zG(h:Inv C g β s a w){T:TypeId}{x:aw}{y:Value}(hx:VS (s.env w g β) x y){v:aw}(he:(vN P s T x).eval=some v):
  ∃ad z,y= .pointer (some ad)/\(loadVar T ad).run P w= .ok z w/\VS (s.env w g β) v z:=by
 unfold vN at he
 split at he
 ·rename_i id ver p n
  cases ju:s.obj id with
  |none=>rw[ju]at he;simp only[aj]at he
  |some r=>
   obtain⟨v0,fr,c⟩:=r
   rw[ju]at he
   obtain⟨h1,h2⟩:=aA.1 he
   obtain⟨⟨n',v'⟩,h3,h4⟩:=ak.1 h2
   obtain⟨h5,h6⟩:=aA.1 h4
   obtain⟨h7,h8⟩:=bF.1 h6
   obtain⟨n1,n2⟩:=Il (E:=s.env w g β) h8
   simp only[decide_eq_true_eq]at h7
   have OU:v0=ver:=by simpa using h1
   subst OU h7
   have cI:=dG ju
   obtain⟨ad,rfl,hb,hc⟩:=nu hx
   obtain⟨pl,hp,rfl⟩:=hc ⟨fr,c,cI⟩
   obtain⟨FM,_⟩:=lV h5
   obtain⟨pl',cur,e,hp',hh,hV,hle⟩:=Ip (h.bE id v0 fr c cI) h3 FM
   rw[hp]at hp'
   obtain rfl:pl=pl':=by simpa using hp'
   obtain⟨z,xQ,w8⟩:=pX (P:=P) (w:=w) h5 (b:=pl.b) (off:=n') hV.size (λj x hj=>by
    rw[cell_of_row w pl.b (n'+j) cur e (0,0) hh]
    rw[cV]at hj
    split at hj
    ·rw[eZ]at hj;simpa using hj
    ·cases hj)
   exact⟨_,z,rfl,xQ,VS.of (n1 _ hV) (by rw[n2];exact w8)⟩
 ·rename_i t x'
  obtain⟨h1,h2⟩:=aA.1 he
  obtain rfl:=aq.1 h2
  obtain⟨b,off,vs,rfl,hr,hR⟩:=nK hx
  obtain⟨z,xQ,w8⟩:=pX (P:=P) (w:=w) h1 (b:=b) (off:=off) hR.size (λj x hj=>by
   obtain⟨b',off',e,hh⟩:=hr j x hj
   simp only[au,Addr.mk.injEq,and_true]at e
   obtain⟨rfl,rfl⟩:=e
   exact hh.1)
  exact⟨_,z,rfl,xQ,VS.of (by simpa only[V]using hR) w8⟩
 ·rename_i t x'
  obtain⟨u,e,he⟩:=nS.1 he
  subst e
  have hx:=vD hx
  obtain⟨h1,h2⟩:=aA.1 he
  obtain rfl:=aq.1 h2
  obtain⟨b,off,vs,rfl,hr,hR⟩:=nK hx
  obtain⟨z,xQ,w8⟩:=pX (P:=P) (w:=w) h1 (b:=b) (off:=off) hR.size (λj x hj=>by
   obtain⟨b',off',e,hh⟩:=hr j x hj
   simp only[au,Addr.mk.injEq,and_true]at e
   obtain⟨rfl,rfl⟩:=e
   exact hh.1)
  exact⟨_,z,rfl,xQ,VS.of (by simpa only[V]using hR) w8⟩
 ·simp only[aj]at he
theorem H9(h:Inv C g β s a w){T:TypeId}{x:Operand}(ho:o.op= .load T x){v:aw}(he:(vN P s T (s.ev x)).eval=some v):eT P o a w (gm C (s.put o.dst v)):=by
 obtain⟨ad,z,hy,hr,hv⟩:=zG h (h.ev x) he
 refine h.value hv (dz (f:=Instr.loadAt T (a.eval x)) (by simp only[execOp,ho]) ?_)
 simp[Instr.loadAt,Instr.sureAddr,hy,hr]
theorem Trans.setRow(w:World){b:Nat}{i:Id}(hg:g b= .own (.id i) 0)(cur:Array Value):Trans w (w.setRow b cur) g g:=by
 refine⟨by simp,by simp,by simp,by simp,λb' hb=> ?_⟩
 by_cases he:b'=b
 ·subst he
  rw[hg]
  exact⟨.inr ⟨i,0,rfl,az _⟩,λ_ _ hh=>by omega⟩
 ·rw[setRow_other w b b' cur he]
  cases yu:g b' with
  |free=>exact⟨rfl,rfl⟩
  |own o' k=>cases o' with
   |dH=>exact⟨rfl,rfl⟩
   |id i'=>exact⟨.inr ⟨i',k,rfl,az _⟩,λoff v _ hv=>by rw[cell_setRow_other w b cur _ he];exact hv⟩
theorem Inv.apart(h:Inv C g β s a w){id:Id}{k:Nat}{b:Nat}(hg:g b= .own (.id id) k){i:Id}{ver:Nat}{fr:Bool}{c:aw}{pl:Pl}(hi:i≠id)(hs:s.bT i=some (.obj ver fr c))(hp:β i=some pl):pl.b≠b:=by
 intro hb
 have hl:(∃k,g pl.b= .own (.id i) k)\/(fr=true/\g pl.b= .free):=((h.bE i ver fr c hs).label (pl:=pl) hp).2
 rw[hb,hg]at hl
 rcases hl with⟨k',hk⟩ | ⟨_,hk⟩
 ·simp only[jW.own.injEq,Own.id.injEq]at hk
  exact hi hk.1.symm
 ·cases hk
theorem ER(h:Inv C g β s a w){T:TypeId}{x v:aw}{y z:Value}(hx:VS (s.env w g β) x y)(hz:VS (s.env w g β) v z){s':AS}(he:(td P s T x v).eval=some s'):
  ∃ad w',y= .pointer (some ad)/\(storeVar T ad z).run P w= .ok () w'/\∃g' β',Inv C g' β' s' a w':=by
 unfold td at he
 split at he
 ·rename_i id ver p n
  cases ju:s.obj id with
  |none=>rw[ju]at he;simp only[aj]at he
  |some r=>
   obtain⟨v0,fr,c⟩:=r
   rw[ju]at he
   obtain⟨h1,h2⟩:=aA.1 he
   obtain⟨⟨n',o'⟩,h3,h4⟩:=ak.1 h2
   obtain⟨h5,h6⟩:=aA.1 h4
   obtain⟨h7,h8⟩:=bF.1 h6
   obtain⟨c',h9,Ps⟩:=ak.1 h8
   obtain rfl:=aq.1 Ps
   simp only[decide_eq_true_eq]at h7
   simp only[ah,beq_iff_eq,bC]at h1
   obtain⟨⟨OU,NK⟩,zo⟩:=h1
   subst OU h7 NK
   have cI:=dG ju
   obtain⟨ad,rfl,hb,hc⟩:=nu hx
   obtain⟨pl,hp,rfl⟩:=hc ⟨false,c,cI⟩
   have hp:β id=some pl:=hp
   obtain⟨FM,_⟩:=lV zo
   obtain⟨cs,hV,hO⟩:=hz.dZ FM
   have hOb:=h.bE id v0 false c cI
   obtain⟨hcel',_⟩:=lV h5
   have Sn:c.gr=false\/c.gr=true:=by cases c.gr <;> simp
   rcases Sn with hn | hn
   ·obtain⟨pl',cur,e,hp',hh,hg,hk,hVc⟩:=hOb.box hn
    have hp':β id=some pl':=hp'
    rw[hp]at hp'
    obtain rfl:pl=pl':=by simpa using hp'
    have hg:g pl.b= .own (.id id) 0:=hg
    have hh:w.heap[pl.b]? =some (.cells cur e (0,0)):=hh
    have hN:=yI hk
    have hNl:(cur.toList.take (c.oz cur.size)).length=c.oz cur.size:=by rw[bI,cz];omega
    obtain⟨u1,u2,u3⟩:=kZ p c.strip (cur.toList.take (c.oz cur.size)) n' o' v c' cs (VO.of hVc) h3 hV h9
    have u4:=u2.to (u3.mK hVc.mK)
    have mE:c'.size=c.strip.size:=by
     have e1:=u4.size
     have e2:=hVc.size
     rw[iE u1]at e1
     omega
    rw[hNl]at u1
    have JN:(df cur.toList n' cs).length=cur.toList.length:=iE (by have e1:cur.toList.length=cur.size:=cz;omega)
    have Sd:(df cur.toList n' cs).take (c.oz cur.size)=df (cur.toList.take (c.oz cur.size)) n' cs:=by
     conv=>lhs;rw[<-cK (c.oz cur.size) cur.toList]
     rw[qz (by rw[hNl];exact u1),eB (by rw[iE (by rw[hNl];exact u1),hNl];exact az _)]
     exact bg (by rw[iE (by rw[hNl];exact u1),hNl];exact az _)
    have kU:=sj (P:=P) (w:=w) zo hV hO (b:=pl.b) (off:=n') hh (by have e1:cur.toList.length=cur.size:=cz;have e2:cs.toArray.size=cs.length:=fX;omega)
    have ht:=Trans.setRow w hg (df cur.toList n' cs).toArray
    have hle:cD (s.env w g β) ((s.aL id (.obj v0 false (c.wrap c'))).env (w.setRow pl.b (df cur.toList n' cs).toArray) g β):=cD.aL cI (az _) ht (λ_ _=>rfl) (λ_=>rfl)
    refine⟨_,_,rfl,kU,g,β,h.step (cX _ _ _) ht hle (gK.aL h.bE (by rw[cI];simp) hle (λ_ _=>rfl) (λi ver fr c pl2 hi zp BH=>⟨setRow_other w pl.b pl2.b _ (h.apart hg hi zp BH),rfl⟩) ?_ (kV cI λk v1 l e=>by rw[e]at hn;simp[aw.gr]at hn))⟩
    exact wK.obj ⟨pl,_,e,hp,setRow_heap w pl.b cur _ e (0,0) hh,hg,by rw[fX,JN,cz];exact uq hk u4.pU mE,by
     rw[va c u4.pU,fX,JN,cz,wQ u4.pU mE,show(df cur.toList n' cs).toArray.toList=df cur.toList n' cs from rfl,Sd]
     exact V.mono hle u4⟩
   ·cases c <;> first | (simp[aw.gr]at hn;done) | skip
    rotate_left
    ·have h3:(loc (.mp _ _ _) p).eval=_:=h3
     obtain⟨_,rfl⟩:=CF h3
     simp[aw.dZ]at hcel'
    ·have h3:(loc (.ml _ _ _ _ _ _) p).eval=_:=h3
     obtain⟨_,rfl⟩:=yQ h3
     simp[aw.dZ]at hcel'
    ·have h3:(loc (.ow _ _ _) p).eval=_:=h3
     obtain⟨_,rfl⟩:=yR h3
     simp[aw.dZ]at hcel'
    rename_i e t l
    obtain⟨E6,hOb⟩:=hOb
    have hOb:(match β id with
     |none=>l=[]
     |some pl=>∃cur k,w.heap[pl.b]? =some (.cells cur e (0,0))/\cur.size=pl.cap*t.size/\l.length<=pl.cap/\pl.cap<=maxLen/\g pl.b= .own (.id id) k/\
       k<=l.length*t.size/\(false=false->k=0)/\aV (cT (s.env w g β) t) (cur.toList.take (l.length*t.size)) l):=hOb
    rw[hp]at hOb
    obtain⟨cur,k,q1,q2,q3,q4,q5,q6,q7,q8⟩:=hOb
    have hk:=q7 rfl
    subst hk
    have hlen:=aV.length (λc x hx=>cT.size hx) q8
    have mE:l.length*t.size<=cur.size:=by rw[q2];exact cW _ q3
    obtain⟨u1,u2,u3⟩:=kZ (E:=s.env w g β) p (.vec e t l) _ n' o' v c' cs q8 h3 hV h9
    rw[hlen]at u1
    have kU:=sj (P:=P) (w:=w) zo hV hO (b:=pl.b) (off:=n') q1 (by omega)
    cases c' <;> first | (exact u3.elim) | skip
    rename_i e' t' l'
    obtain⟨rfl,rfl,hl'⟩:=u3
    have ht:=Trans.setRow w q5 (df cur.toList n' cs).toArray
    have hle:cD (s.env w g β) ((s.aL id (.obj v0 false (.vec e' t' l'))).env (w.setRow pl.b (df cur.toList n' cs).toArray) g β):=cD.aL cI (az _) ht (λ_ _=>rfl) (λ_=>rfl)
    refine⟨_,_,rfl,kU,g,β,h.step (cX _ _ _) ht hle (gK.aL h.bE (by rw[cI];simp) hle (λ_ _=>rfl) (λi ver fr c pl2 hi zp BH=>⟨setRow_other w pl.b pl2.b _ (h.apart q5 hi zp BH),rfl⟩) ?_ (kV cI λk v1 l e=>by cases e))⟩
    refine⟨E6,?_⟩
    show(match β id with
     |none=>l'=[]
     |some pl=>_)
    rw[hp]
    have JN:(df cur.toList n' cs).length=cur.toList.length:=iE (by simp;omega)
    refine⟨_,0,setRow_heap w pl.b cur _ e' (0,0) q1,by rw[fX,JN];simpa using q2,by omega,q4,q5,by omega,λ_=>rfl,?_⟩
    have e2:(df cur.toList n' cs).take (l'.length*t'.size)=df (cur.toList.take (l.length*t'.size)) n' cs:=by
     rw[hl']
     conv=>lhs;rw[<-cK (l.length*t'.size) cur.toList]
     rw[qz (by rw[hlen];exact u1),eB (by rw[iE (by rw[hlen];exact u1),hlen];exact az _)]
     exact bg (by rw[iE (by rw[hlen];exact u1),hlen];exact az _)
    rw[show(df cur.toList n' cs).toArray.toList=df cur.toList n' cs from rfl,e2]
    exact aV.mono (λ_ _ hx=>hx.mono hle.mem) u2
 ·simp only[aj]at he
theorem Gy(h:Inv C g β s a w){T:TypeId}{x v:Operand}(ho:o.op= .store T x v){s':AS}(he:(td P s T (s.ev x) (s.ev v)).eval=some s'):eT P o a w (gm C (s'.put o.dst .undef)):=by
 obtain⟨ad,w',hy,hr,g',β',hi⟩:=ER h (h.ev x) (h.ev v) he
 refine .inr (.inl ⟨w',Bu (f:=Instr.storeAt T (a.eval x) (a.eval v)) (by simp only[execOp,ho]) ?_,g',β',hi.put o.dst VS.undef⟩)
 simp[Instr.storeAt,Instr.sureAddr,hy,hr]
end
end Go.Ab
namespace Go.Ab
section
variable {P:Program} {C:Ctx} {g:Nat->jW} {β:Id->Option Pl} {s:AS} {a:Act} {w:World} {o:Oper}
theorem BP(h:Inv C g β s a w){x:Operand}(ho:o.op= .move x\/o.op= .assign x):eT P o a w (gm C (s.put o.dst (s.ev x))):=by
 refine h.value (h.ev x) ?_
 rcases ho with ho | ho <;> simp[execOp,ho]
theorem Ir(h:Inv C g β s a w){c x y:Operand}(ho:o.op= .pick c x y){v:aw}(he:(Hg (s.ev c) (s.ev x) (s.ev y)).eval=some v):eT P o a w (gm C (s.put o.dst v)):=by
 have hc:=h.ev c
 have hx:=h.ev x
 have hy:=h.ev y
 unfold Hg at he
 split at he
 ·rename_i b hb
  rw[hb]at hc
  have TD:=yH hc
  have hr:(execOp a.eval o).run P w= .ok (.value (if b then a.eval x else a.eval y)) w:=by
   simp[execOp,ho,TD,asBool]
  split at he
  ·rename_i bx by' Tx Tz
   obtain rfl:=aq.1 he
   rw[Tx]at hx
   rw[Tz]at hy
   refine h.value ?_ hr
   cases b
   ·simpa using hy
   ·simpa using hx
  ·cases b with
   |true=>
    simp only[Out.eval,au]at he
    subst he
    exact h.value (by simpa using hx) hr
   |false=>
    simp only[Out.eval,au]at he
    subst he
    exact h.value (by simpa using hy) hr
 ·simp only[aj]at he
theorem A0(h:Inv C g β s a w){x:Operand}(ho:o.op= .nilCheck x){s':AS}(he:(match s.ev x with
  | .ptr id v p n=>Out.ok (s.put o.dst (.ptr id v p n))
  | .eS t y=> .ok (s.put o.dst (.eS t y))
  | .d (.mD t) y=> .get (y:Option t.den) λy=> .ok (s.put o.dst (.eS t y))
  | .fn f c=> .ok (s.put o.dst (.fn f c))
  |_=> .fail).eval=some s'):eT P o a w (gm C s'):=by
 have hx:=h.ev x
 split at he
 ·rename_i id v p n hv
  obtain rfl:=aq.1 he
  rw[hv]at hx
  obtain⟨ad,hy,_⟩:=nu hx
  exact h.value hx (by simp[execOp,ho,hy])
 ·rename_i t y hv
  obtain rfl:=aq.1 he
  rw[hv]at hx
  obtain⟨b,off,vs,hy,_⟩:=nK hx
  exact h.value hx (by simp[execOp,ho,hy])
 ·rename_i t y hv
  obtain⟨z,e,he⟩:=nS.1 he
  subst e
  obtain rfl:=aq.1 he
  rw[hv]at hx
  have hx:=vD hx
  obtain⟨b,off,vs,hy,_⟩:=nK hx
  exact h.value hx (by simp[execOp,ho,hy])
 ·rename_i f c hv
  obtain rfl:=aq.1 he
  rw[hv]at hx
  obtain⟨cs,hV,hO⟩:=hx.dZ rfl
  simp only[V]at hV
  obtain⟨vs,e,hc⟩:=hV
  have hO':cs=[a.eval x]:=hO
  rw[e]at hO'
  have hy:a.eval x= .func (.func f) #[] vs.toArray:=by simpa using hO'.symm
  refine h.value (v:= .fn f c) ⟨cs,by simp only[V];exact⟨vs,e,hc⟩,hO⟩ (by simp[execOp,ho,hy])
 ·simp only[aj]at he
theorem D4{op:BinOp}{k k':IntKind}{x y:Int}{v:aw}(he:(JS op k x k' y).eval=some v)(T:TypeId)(E:Env):
  ∃z,(binOp op T (.int k x) (.int k' y)).run P w= .ok z w/\VS E v z:=by
 unfold JS at he
 have same:∀(hk:decide (k=k')=true),k=k':=λhk=>by simpa using hk
 cases op with
 |shl=>
  obtain⟨h1,h2⟩:=bF.1 he
  obtain rfl:=aq.1 h2
  have h1:¬y < 0:=by simpa using h1
  exact⟨_,by simp[binOp,Op.shift,h1],jn _ _⟩
 |shr=>
  obtain⟨h1,h2⟩:=bF.1 he
  obtain rfl:=aq.1 h2
  have h1:¬y < 0:=by simpa using h1
  exact⟨_,by simp[binOp,Op.shift,h1],jn _ _⟩
 |quo=>
  obtain⟨h1,h2⟩:=aA.1 he
  obtain rfl:=same h1
  obtain⟨h3,h4⟩:=bF.1 h2
  obtain rfl:=aq.1 h4
  have h3:y≠0:=by simpa using h3
  exact⟨_,by simp[binOp,Op.intDiv,h3],jn _ _⟩
 |rem=>
  obtain⟨h1,h2⟩:=aA.1 he
  obtain rfl:=same h1
  obtain⟨h3,h4⟩:=bF.1 h2
  obtain rfl:=aq.1 h4
  have h3:y≠0:=by simpa using h3
  exact⟨_,by simp[binOp,Op.intDiv,h3],jn _ _⟩
 |add | sub | mul=>
  obtain⟨h1,h2⟩:=aA.1 he
  obtain rfl:=same h1
  obtain rfl:=aq.1 h2
  exact⟨_,by simp[binOp,Op.intArith],jn _ _⟩
 |and | or | xor | andNot=>
  obtain⟨h1,h2⟩:=aA.1 he
  obtain rfl:=same h1
  obtain rfl:=aq.1 h2
  refine⟨_,?_,jn _ _⟩
  unfold binOp Op.intBits
  simp[dF]
 |eql | neq | lss | leq | gtr | geq=>
  obtain⟨h1,h2⟩:=aA.1 he
  obtain rfl:=same h1
  obtain rfl:=aq.1 h2
  refine⟨_,?_,nE _⟩
  simp[binOp,Op.intCmp]
theorem ES{op:BinOp}{x y:ByteArray}{v:aw}(he:(KC op x y).eval=some v)(T:TypeId)(E:Env):
  ∃z,(binOp op T (.string x) (.string y)).run P w= .ok z w/\VS E v z:=by
 unfold KC at he
 cases op <;> simp only[aj]at he
 case add=>
  obtain⟨h1,h2⟩:=bF.1 he
  obtain rfl:=aq.1 h2
  have h1:¬((x.size+y.size:Nat):Int) > IntKind.i64.max:=by simpa using h1
  refine⟨.string (x++y),?_,Cd _⟩
  show(Op.stringOp .add x y).run P w=_
  unfold Op.stringOp
  simp only[h1,if_false]
  rfl
 all_goals
  obtain rfl:=aq.1 he
  exact⟨_,by simp[binOp,Op.stringOp],nE _⟩
theorem kf{op:BinOp}{T:TypeId}{x y:Operand}{u v:Value}(h1:u≠ .nilIface)(h2:l5 u=false):(eqGuard op T x y u v).run P w= .ok () w:=by
 unfold eqGuard
 cases op <;> simp
 all_goals (cases u <;> simp_all [l5])
theorem pa{T:TypeId}{b:Bool}(h:uO P T b=true):∃i,P.info? T=some i/\∀w,(isAgg T).run P w= .ok b w:=by
 unfold uO at h
 cases hu:P.underlying T with
 |none=>rw[hu]at h;cases h
 |some d=>
  obtain⟨i,hi⟩:=G6 hu
  refine⟨i,hi,λw=> ?_⟩
  rw[hu]at h
  unfold isAgg
  rw[Sem.run_bind,run_underlying hu w]
  cases d <;> simp at h <;> simp[h]
theorem oo{T:TypeId}{b:Bool}(h:uO P T b=true){cs:List Value}{off n:Nat}(hn:P.cellsOf T=n)(hb:b=false->n=1)(hl:off+n<=cs.length):
  ∃y,(part T cs.toArray off).run P w= .ok y w/\eW b ((cs.drop off).take n) y:=by
 obtain⟨i,hi,DW⟩:=pa h
 rw[jY hi]at hn
 unfold part
 rw[Sem.run_bind,DW w]
 simp only[Result.andThen_ok]
 cases b with
 |true=>
  refine⟨.agg ((cs.drop off).take n).toArray,?_,rfl⟩
  simp only[if_true,Sem.run_bind,run_sizeOf hi,Result.andThen_ok,hn,Sem.run_pure]
  simp[List.extract_eq_take_drop]
 |false=>
  have h1:=hb rfl
  subst h1
  have gV:off < cs.length:=by omega
  refine⟨cs[off],?_,?_⟩
  ·simp[gV]
  ·show(cs.drop off).take 1=[cs[off]]
   rw[ax gV,lg,eO]
theorem oq{t:Ty}(h:t.agg=false):t.size=1:=by
 cases t <;> first | rfl | (simp[Ty.agg]at h)
theorem zD{α:Type}(f:α->α->Bool)(x y:α)(xs ys:List α):j1 f (x::xs) (y::ys)=(f x y && j1 f xs ys):=rfl
theorem nF(E:Env):∀(n:Nat) (T:TypeId) (t:Ty),ma P n T t=true->∀(d:Nat),n<=d->∀(cx cy:List Value) (x y:t.den) (u v:Value),cT E t cx x->cT E t cy y->eW t.agg cx u->eW t.agg cy v->
  (Op.equalIn d T u v).run P w= .ok (t.beq x y) w
 | 0,T,t,h,_,_,_,_,_,_,_,_,_,_,_,_=>by simp[ma]at h
 |n+1,T,t,h,0,hd,_,_,_,_,_,_,_,_,_,_=>by omega
 |n+1,T,t,h,d+1,hd,cx,cy,x,y,u,v,hx,hy,hu,hv=>by
  simp only[ma]at h
  split at h
  ·rename_i k k' hT
   simp only[cT]at hx hy
   have e1:cx=[u]:=hu
   have e2:cy=[v]:=hv
   rw[hx]at e1;rw[hy]at e2
   simp only[du,and_true]at e1 e2
   subst e1 e2
   rw[run_equalIn_int w d T _ _ _ _ hT];rfl
  ·rename_i hT
   simp only[cT]at hx hy
   have e1:cx=[u]:=hu
   have e2:cy=[v]:=hv
   rw[hx]at e1;rw[hy]at e2
   simp only[du,and_true]at e1 e2
   subst e1 e2
   rw[run_equalIn_bool' w d T _ _ hT];rfl
  ·rename_i hT
   simp only[cT]at hx hy
   have e1:cx=[u]:=hu
   have e2:cy=[v]:=hv
   rw[hx]at e1;rw[hy]at e2
   simp only[du,and_true]at e1 e2
   subst e1 e2
   rw[run_equalIn_string w d T _ _ hT];rfl
  ·rename_i m e m' t' hT
   simp only[ah,beq_iff_eq]at h
   obtain⟨⟨⟨⟨rfl,N5⟩,mE⟩,vh⟩,nH⟩:=h
   simp only[cT]at hx hy
   obtain⟨RT,RC⟩:=hx
   obtain⟨TR,TE⟩:=hy
   have e1:u= .agg cx.toArray:=hu
   have e2:v= .agg cy.toArray:=hv
   subst e1 e2
   obtain⟨i,hi,DW⟩:=pa vh
   have hsz':=mE
   rw[jY hi]at hsz'
   simp only[Op.equalIn,Sem.run_bind,run_underlying hT,Result.andThen_ok,run_sizeOf hi,hsz']
   simp only[Std.Legacy.Range.forIn_eq_forIn_range']
   have hm:([:m]:Std.Legacy.Range).size=m:=by simp[Std.Legacy.Range.size]
   rw[hm]
   have E6:∀c z,cT E t' c z->c.length=t'.size:=λc z hz=>hz.size
   have bx:t'.agg=false->t'.size=1:=oq
   have key:∀(k:Nat) (x y:List t'.den) (j:Nat),x.length=k->y.length=k->aV (cT E t') (cx.drop (j*t'.size)) x->aV (cT E t') (cy.drop (j*t'.size)) y->
     (forIn (List.range' j k) ((none,()):Option Bool×Unit) λi __s=>(do
      let __do_lift <-part e cx.toArray (i*t'.size)
      let __do_lift_1 <-part e cy.toArray (i*t'.size)
      let __do_lift <-Op.equalIn d e __do_lift __do_lift_1
      if(!__do_lift)=true then pure (ForInStep.done (some false,())) else pure (ForInStep.yield (none,())):Sem (ForInStep (Option Bool×Unit)))).run P w= .ok (if j1 t'.beq x y then none else some false,()) w:=by
    intro k
    induction k with
    |zero=>
     intro x y j hx hy _ _
     rw[List.length_eq_zero_iff.1 hx,List.length_eq_zero_iff.1 hy]
     rfl
    |succ k ih=>
     intro x y j hx hy hcx' hcy'
     cases x with
     |nil=>simp at hx
     |cons x0 xs=>
      cases y with
      |nil=>simp at hy
      |cons y0 ys=>
       have gx:=aV.get E6 hcx' 0 (by simp)
       have gy:=aV.get E6 hcy' 0 (by simp)
       simp only[kS,aI,List.getElem_cons_zero]at gx gy
       have lenx:((cx.drop (j*t'.size)).take t'.size).length=t'.size:=gx.size
       have leny:((cy.drop (j*t'.size)).take t'.size).length=t'.size:=gy.size
       have xQ:t'.size≠0:=by simpa using N5
       have RN:j*t'.size+t'.size<=cx.length:=by simp only[bI,cq]at lenx;omega
       have TO:j*t'.size+t'.size<=cy.length:=by simp only[bI,cq]at leny;omega
       obtain⟨ux,h1,o1⟩:=oo (w:=w) vh mE bx (cs:=cx) (off:=j*t'.size) RN
       obtain⟨uy,h2,o2⟩:=oo (w:=w) vh mE bx (cs:=cy) (off:=j*t'.size) TO
       have h3:=nF E n e t' nH d (by omega) _ _ x0 y0 ux uy gx gy o1 o2
       have nx:aV (cT E t') (cx.drop ((j+1)*t'.size)) xs:=by
        have:=aV.drop E6 1 hcx'
        rw[eN]at this
        simpa[dI]using this
       have ny:aV (cT E t') (cy.drop ((j+1)*t'.size)) ys:=by
        have:=aV.drop E6 1 hcy'
        rw[eN]at this
        simpa[dI]using this
       have:=ih xs ys (j+1) (by simpa using hx) (by simpa using hy) nx ny
       rw[List.range'_succ,List.forIn_cons]
       simp only[Sem.run_bind,h1,h2,h3,Result.andThen_ok,zD]
       rcases gG (t'.beq x0 y0) with hb | hb
       ·simp only[hb,bM,bN,if_false,Sem.run_pure,Result.andThen_ok,bW]
        exact this
       ·simp only[hb,dm,if_true,Sem.run_pure,Result.andThen_ok,eM,bN,if_false]
   have:=key m x y 0 RT TR (by simpa using RC) (by simpa using TE)
   rw[this]
   show _=Result.ok (j1 t'.beq x y) w
   cases j1 t'.beq x y <;> rfl
  ·rename_i t0 _ _ fs hT
   simp only[ah,bC]at h
   obtain⟨mj,NL⟩:=h
   have hF:P.fieldsOf T=fs:=by simp[Program.fieldsOf,hT]
   have hT':P.underlying T=some (.struct (P.fieldsOf T)):=by rw[hF];exact hT
   have key:∀(fl:List Field) (t:Ty) (off:Nat),uF P (ma P n) fl t off=true->∀(x y:t.den),cT E t (cx.drop off) x->cT E t (cy.drop off) y->
     (Op.eqFields d cx.toArray cy.toArray fl).run P w= .ok (t.beq x y) w:=by
    intro fl
    induction fl with
    |nil=>
     intro t off hc x y _ _
     cases t <;> first | (simp[uF]at hc;done) | rfl
    |cons f fl ih=>
     intro t off hc x y hx hy
     cases t <;> first | (simp[uF]at hc;done) | skip
     rename_i ta tb
     simp only[uF,ah,bC,beq_iff_eq,beq_eq_false_iff_ne]at hc
     obtain⟨⟨⟨⟨⟨⟨RZ,Ly⟩,hz⟩,mE⟩,vh⟩,nH⟩,JJ⟩:=hc
     simp only[cT]at hx hy
     obtain⟨xa,xb,ex,Qh,Sp⟩:=hx
     obtain⟨ya,yb,ey,Tf,Ud⟩:=hy
     have bx:ta.agg=false->ta.size=1:=oq
     have lx:xa.length=ta.size:=Qh.size
     have ly:ya.length=ta.size:=Tf.size
     have split:∀(cs xa xb:List Value),cs.drop off=xa++xb->xa.length=ta.size->(cs.drop off).take ta.size=xa/\cs.drop (off+ta.size)=xb/\off+ta.size<=cs.length:=by
      intro cs xa xb e l
      refine⟨by rw[e];exact List.take_left' l,by rw[<-eN,e];exact List.drop_left' l,?_⟩
      have:=congrArg List.length e
      simp only[cq,av]at this
      omega
     obtain⟨sx1,sx2,sx3⟩:=split cx xa xb ex lx
     obtain⟨sy1,sy2,sy3⟩:=split cy ya yb ey ly
     obtain⟨ux,h1,o1⟩:=oo (w:=w) vh mE bx (cs:=cx) (off:=off) sx3
     obtain⟨uy,h2,o2⟩:=oo (w:=w) vh mE bx (cs:=cy) (off:=off) sy3
     rw[sx1]at o1
     rw[sy1]at o2
     have h3:=nF E n f.type ta nH d (by omega) _ _ x.1 y.1 ux uy Qh Tf o1 o2
     have h4:=ih tb (off+ta.size) JJ x.2 y.2 (by rw[sx2];exact Sp) (by rw[sy2];exact Ud)
     simp only[Op.eqFields,ne_eq,RZ,not_false_eq_true,if_true,Sem.run_bind,Ly,h1,h2,h3,Result.andThen_ok]
     show _=Result.ok (ta.beq x.1 y.1 && tb.beq x.2 y.2) w
     rcases gG (ta.beq x.1 y.1) with hb | hb
     ·simp only[hb,bM,bN,if_false,bW]
      exact h4
     ·simp[hb]
   have vh:t0.agg=true:=by
    cases hl:fs.toList <;> rw[hl]at NL <;> cases t0 <;> first | rfl | (simp[uF]at NL;done)
   rw[vh]at hu hv
   have e1:u= .agg cx.toArray:=hu
   have e2:v= .agg cy.toArray:=hv
   subst e1 e2
   rw[run_equalIn_struct w d T _ _ hT' mj,hF]
   exact key fs.toList t0 0 NL x y (by simpa using hx) (by simpa using hy)
  ·cases h
end
end Go.Ab
namespace Go.Ab
section
variable {P:Program} {C:Ctx} {g:Nat->jW} {β:Id->Option Pl} {s:AS} {a:Act} {w:World} {o:Oper}
theorem Ki{E:Env}{v:aw}{y c:Value}(h:VS E v y)(hc:v.dZ=true)(ha:v.agg=false)(hV:∀cs,V E v cs->cs=[c]):y=c:=by
 have:=h.single hc ha
 simpa using hV _ this
theorem tG{E:Env}{y:Value}(h:VS E .mi y):y= .pointer none:=Ki h rfl rfl λcs hv=>by simpa only[V]using hv
theorem yT{E:Env}{y:Value}(h:VS E .nX y):y= .nilFunc:=Ki h rfl rfl λcs hv=>by simpa only[V]using hv
theorem Bx{E:Env}{f:FuncId}{c:aw}{y:Value}(h:VS E (.fn f c) y):∃vs,y= .func (.func f) #[] vs.toArray/\VC E c vs:=by
 have h1:=h.single rfl rfl
 simp only[V]at h1
 obtain⟨vs,e,hc⟩:=h1
 exact⟨vs,by simpa using e,hc⟩
theorem eF{T:TypeId}{u v:Value}{b:Bool}(h:∀d,(Op.equalIn (d+1) T u v).run P w= .ok b w):(Op.equal T u v).run P w= .ok b w:=h 9999
theorem ze{T:TypeId}{x y:aw}{u v:Value}{E:Env}(hx:VS E x u)(hy:VS E y v){b:Bool}(he:(qj P T x y).eval=some b):
  (Op.equal T u v).run P w= .ok b w/\u≠ .nilIface/\(l5 u=false\/(l5 v=true/\P.eqGuardType P.depth T=false))/\
   (∀op,binOp op T u v=(match op with | .eql=>do pure (.bool (<-Op.equal T u v)) | .neq=>do pure (.bool (!(<-Op.equal T u v))) | _=>binOp op T u v)):=by
 unfold qj at he
 split at he
 ·rename_i t x' t' y'
  obtain⟨y'',h1,h2⟩:=ak.1 he
  obtain⟨rfl,h1⟩:=iB (iP.1 h1)
  simp only at h1
  subst h1
  obtain⟨h3,h4⟩:=aA.1 h2
  obtain rfl:=aq.1 h4
  simp only[ah,fD,bC,decide_eq_true_eq]at h3
  obtain⟨h3,h5⟩:=h3
  obtain⟨cx,hVx,hOx⟩:=hx.dZ rfl
  obtain⟨cy,hVy,hOy⟩:=hy.dZ rfl
  simp only[V]at hVx hVy
  have hr:=nF (w:=w) E depth T t' h5 10000 (by decide) cx cy x' y' u v hVx hVy hOx hOy
  refine⟨hr,?_⟩
  rcases h3 with⟨vh,TK⟩ | rfl
  ·have hOx':eW t'.agg cx u:=hOx
   have hOy':eW t'.agg cy v:=hOy
   rw[vh]at hOx' hOy'
   have e1:u= .agg cx.toArray:=hOx'
   have e2:v= .agg cy.toArray:=hOy'
   subst e1 e2
   exact⟨by simp,.inr ⟨rfl,TK⟩,λop=>by cases op <;> rfl⟩
  ·simp only[cT]at hVx hVy
   have e1:cx=[u]:=hOx
   have e2:cy=[v]:=hOy
   rw[hVx]at e1;rw[hVy]at e2
   simp only[du,and_true]at e1 e2
   subst e1 e2
   exact⟨by simp,.inl rfl,λop=>by cases op <;> rfl⟩
 ·obtain⟨h1,h2⟩:=aA.1 he
  obtain rfl:=aq.1 h2
  rw[ji hx,ji hy]
  unfold qj.isSl at h1
  split at h1 <;> try (cases h1;done)
  rename_i e hT
  exact⟨eF λd=>by simp[Op.equalIn,run_underlying hT],by simp,.inl rfl,λop=>by cases op <;> rfl⟩
 ·obtain⟨h1,h2⟩:=aA.1 he
  obtain⟨h3,h4⟩:=bF.1 h2
  obtain rfl:=aq.1 h4
  obtain⟨ad,cap,vs,rfl,_,hs,_⟩:=mO hx
  rw[ji hy]
  have hs:=hs (by simpa using h3)
  obtain⟨ad',rfl⟩:=bS.1 hs
  unfold qj.isSl at h1
  split at h1 <;> try (cases h1;done)
  rename_i e hT
  exact⟨eF λd=>by simp[Op.equalIn,run_underlying hT],by simp,.inl rfl,λop=>by cases op <;> rfl⟩
 ·obtain⟨h1,h2⟩:=aA.1 he
  obtain⟨h3,h4⟩:=bF.1 h2
  obtain rfl:=aq.1 h4
  obtain⟨ad,cap,vs,rfl,_,hs,_⟩:=mO hy
  rw[ji hx]
  have hs:=hs (by simpa using h3)
  obtain⟨ad',rfl⟩:=bS.1 hs
  unfold qj.isSl at h1
  split at h1 <;> try (cases h1;done)
  rename_i e hT
  exact⟨eF λd=>by simp[Op.equalIn,run_underlying hT],by simp,.inl rfl,λop=>by cases op <;> rfl⟩
 ·obtain⟨h1,h2⟩:=aA.1 he
  obtain⟨h3,h4⟩:=bF.1 h2
  obtain rfl:=aq.1 h4
  obtain⟨ad,cap,rfl,_,hs,_⟩:=lK hx
  rw[ji hy]
  have hs:=hs (by simpa using h3)
  obtain⟨ad',rfl⟩:=bS.1 hs
  unfold qj.isSl at h1
  split at h1 <;> try (cases h1;done)
  rename_i e hT
  exact⟨eF λd=>by simp[Op.equalIn,run_underlying hT],by simp,.inl rfl,λop=>by cases op <;> rfl⟩
 ·obtain⟨h1,h2⟩:=aA.1 he
  obtain⟨h3,h4⟩:=bF.1 h2
  obtain rfl:=aq.1 h4
  obtain⟨ad,cap,rfl,_,hs,_⟩:=lK hy
  rw[ji hx]
  have hs:=hs (by simpa using h3)
  obtain⟨ad',rfl⟩:=bS.1 hs
  unfold qj.isSl at h1
  split at h1 <;> try (cases h1;done)
  rename_i e hT
  exact⟨eF λd=>by simp[Op.equalIn,run_underlying hT],by simp,.inl rfl,λop=>by cases op <;> rfl⟩
 ·obtain⟨h1,h2⟩:=aA.1 he
  obtain rfl:=aq.1 h2
  rw[tG hx,tG hy]
  unfold qj.isPt at h1
  split at h1 <;> try (cases h1;done)
  rename_i e hT
  exact⟨eF λd=>by simp[Op.equalIn,run_underlying hT],by simp,.inl rfl,λop=>by cases op <;> rfl⟩
 ·obtain⟨h1,h2⟩:=aA.1 he
  obtain rfl:=aq.1 h2
  obtain⟨ad,rfl,_⟩:=nu hx
  rw[tG hy]
  unfold qj.isPt at h1
  split at h1 <;> try (cases h1;done)
  rename_i e hT
  exact⟨eF λd=>by simp[Op.equalIn,run_underlying hT],by simp,.inl rfl,λop=>by cases op <;> rfl⟩
 ·obtain⟨h1,h2⟩:=aA.1 he
  obtain rfl:=aq.1 h2
  obtain⟨ad,rfl,_⟩:=nu hy
  rw[tG hx]
  unfold qj.isPt at h1
  split at h1 <;> try (cases h1;done)
  rename_i e hT
  exact⟨eF λd=>by simp[Op.equalIn,run_underlying hT],by simp,.inl rfl,λop=>by cases op <;> rfl⟩
 ·rename_i t q
  obtain⟨h1,h2⟩:=aA.1 he
  obtain rfl:=aq.1 h2
  unfold qj.isPt at h1
  split at h1 <;> try (cases h1;done)
  rename_i e hT
  rw[tG hy]
  cases q with
  |none=>
   rw[BF hx]
   exact⟨eF λd=>by simp[Op.equalIn,run_underlying hT],by simp,.inl rfl,λop=>by cases op <;> rfl⟩
  |some z=>
   obtain⟨b,off,vs,rfl,_⟩:=nK (vD hx)
   exact⟨eF λd=>by simp[Op.equalIn,run_underlying hT],by simp,.inl rfl,λop=>by cases op <;> rfl⟩
 ·rename_i t q
  obtain⟨h1,h2⟩:=aA.1 he
  obtain rfl:=aq.1 h2
  unfold qj.isPt at h1
  split at h1 <;> try (cases h1;done)
  rename_i e hT
  rw[tG hx]
  cases q with
  |none=>
   rw[BF hy]
   exact⟨eF λd=>by simp[Op.equalIn,run_underlying hT],by simp,.inl rfl,λop=>by cases op <;> rfl⟩
  |some z=>
   obtain⟨b,off,vs,rfl,_⟩:=nK (vD hy)
   exact⟨eF λd=>by simp[Op.equalIn,run_underlying hT],by simp,.inl rfl,λop=>by cases op <;> rfl⟩
 ·obtain⟨h1,h2⟩:=aA.1 he
  obtain rfl:=aq.1 h2
  rw[yT hx,yT hy]
  unfold qj.isFn at h1
  split at h1 <;> try (cases h1;done)
  rename_i hT
  exact⟨eF λd=>by simp[Op.equalIn,run_underlying hT],by simp,.inl rfl,λop=>by cases op <;> rfl⟩
 ·obtain⟨h1,h2⟩:=aA.1 he
  obtain rfl:=aq.1 h2
  obtain⟨vs,rfl,_⟩:=Bx hx
  rw[yT hy]
  unfold qj.isFn at h1
  split at h1 <;> try (cases h1;done)
  rename_i hT
  exact⟨eF λd=>by simp[Op.equalIn,run_underlying hT],by simp,.inl rfl,λop=>by cases op <;> rfl⟩
 ·obtain⟨h1,h2⟩:=aA.1 he
  obtain rfl:=aq.1 h2
  obtain⟨vs,rfl,_⟩:=Bx hy
  rw[yT hx]
  unfold qj.isFn at h1
  split at h1 <;> try (cases h1;done)
  rename_i hT
  exact⟨eF λd=>by simp[Op.equalIn,run_underlying hT],by simp,.inl rfl,λop=>by cases op <;> rfl⟩
 ·simp only[aj]at he
theorem DD{op:BinOp}{T:TypeId}{x y:Operand}{u v:Value}(hu:l5 u=true)(hv:l5 v=true)(hm:P.eqGuardType P.depth T=false):(eqGuard op T x y u v).run P w= .ok () w:=by
 cases u <;> first | (simp[l5]at hu;done) | skip
 cases v <;> first | (simp[l5]at hv;done) | skip
 exact run_eqGuard_agg w op T x y _ _ hm
theorem Fk(h:Inv C g β s a w){op:BinOp}{T U:TypeId}{x y:Operand}(ho:o.op= .binOp op T x y U){v:aw}(he:(Na P T op (s.ev x) (s.ev y)).eval=some v):eT P o a w (gm C (s.put o.dst v)):=by
 have hx:=h.ev x
 have hy:=h.ev y
 have fin:∀z,(binOp op T (a.eval x) (a.eval y)).run P w= .ok z w->(eqGuard op T x y (a.eval x) (a.eval y)).run P w= .ok () w->VS (s.env w g β) v z->eT P o a w (gm C (s.put o.dst v)):=by
  intro z h1 h2 h3
  refine h.value h3 ?_
  simp[execOp,ho,h1,h2]
 unfold Na at he
 split at he
 ·rename_i k n k' m hn hm
  rw[hn]at hx;rw[hm]at hy
  have e1:=np hx
  have e2:=np hy
  obtain⟨z,h1,h2⟩:=D4 (P:=P) (w:=w) he T (s.env w g β)
  exact fin z (by rw[e1,e2];exact h1) (by rw[e1,e2];exact kf (by simp) rfl) h2
 ·rename_i n m hn hm
  rw[hn]at hx;rw[hm]at hy
  have e1:=te hx
  have e2:=te hy
  obtain⟨z,h1,h2⟩:=ES (P:=P) (w:=w) he T (s.env w g β)
  exact fin z (by rw[e1,e2];exact h1) (by rw[e1,e2];exact kf (by simp) rfl) h2
 ·have grd:(l5 (a.eval x)=false\/(l5 (a.eval y)=true/\P.eqGuardType P.depth T=false))->a.eval x≠ .nilIface->(eqGuard op T x y (a.eval x) (a.eval y)).run P w= .ok () w:=by
   intro hh gS
   rcases hh with hh | ⟨hh,hm⟩
   ·exact kf gS hh
   ·rcases gG (l5 (a.eval x)) with hx | hx
    ·exact DD hx hh hm
    ·exact kf gS hx
  split at he
  ·obtain⟨b,h1,h2⟩:=ak.1 he
   obtain rfl:=aq.1 h2
   obtain⟨q1,q2,q3,q4⟩:=ze (w:=w) hx hy h1
   refine fin (.bool b) ?_ (grd q3 q2) (nE b)
   rw[q4 .eql]
   simp[q1]
  ·obtain⟨b,h1,h2⟩:=ak.1 he
   obtain rfl:=aq.1 h2
   obtain⟨q1,q2,q3,q4⟩:=ze (w:=w) hx hy h1
   refine fin (.bool (!b)) ?_ (grd q3 q2) (nE (!b))
   rw[q4 .neq]
   simp[q1]
  ·simp only[aj]at he
theorem IS(h:Inv C g β s a w){op:UnOp}{T:TypeId}{x:Operand}(ho:o.op= .unOp op T x){v:aw}(he:(Q0 op (s.ev x)).eval=some v):eT P o a w (gm C (s.put o.dst v)):=by
 have hx:=h.ev x
 unfold Q0 at he
 split at he
 ·rename_i b hb
  rw[hb]at hx
  obtain rfl:=aq.1 he
  exact h.value (nE _) (by simp[execOp,ho,yH hx,Op.unary])
 ·rename_i k n hb
  rw[hb]at hx
  obtain rfl:=aq.1 he
  exact h.value (jn _ _) (by simp[execOp,ho,np hx,Op.unary,Op.intArith])
 ·rename_i k n hb
  rw[hb]at hx
  obtain rfl:=aq.1 he
  refine h.value (jn _ _) ?_
  simp only[execOp,ho,np hx,Op.unary,Op.intBits]
  simp[dF]
 ·simp only[aj]at he
end
end Go.Ab
namespace Go.Ab
section
variable {P:Program} {C:Ctx} {g:Nat->jW} {β:Id->Option Pl} {s:AS} {a:Act} {w:World} {o:Oper}
theorem pz{E:Env}{v:aw}{y:Value}(h:VS E v y){n:Int}(he:(asInt v).eval=some n):∃k,y= .int k n:=by
 unfold asInt at he
 split at he
 ·rename_i k m
  obtain rfl:=aq.1 he
  exact⟨k,np h⟩
 ·simp only[aj]at he
theorem pv{k:IntKind}{i:Int}{y:Nat}(code:BoundsCode)(h:0<=i/\i<=(y:Int)):(Instr.sliceBound (.int k i) y code).run P w= .ok i.toNat w:=
 run_sliceBound w k i y code h.1 h.2
theorem oV(h:Inv C g β s a w){n cap:Nat}(hn:n<=cap){lo hi:Option Operand}{r:Nat×Nat}(he:(bounds s n lo hi).eval=some r)(isS:Bool){mx:Option Value}{cap':Nat}
  (hm:(mx=none/\cap'=cap)\/∃k mv,hi.isSome=true/\mx=some (.int k mv)/\(r.2:Int)<=mv/\mv<=n/\cap'=mv.toNat):
  (Instr.sliceBounds isS n cap (lo.map a.eval) (hi.map a.eval) mx).run P w= .ok (r.1,r.2,cap') w/\r.1<=r.2/\r.2<=n:=by
 unfold bounds at he
 obtain⟨hh,h1,h2⟩:=ak.1 he
 obtain⟨ll,h3,h4⟩:=ak.1 h2
 obtain rfl:=aq.1 h4
 have MA:hh<=n/\∀y,hi.map a.eval=some y->∃k i,y= .int k i/\0<=i/\i<=(n:Int)/\hh=i.toNat:=by
  cases hi with
  |none=>
   simp only at h1
   obtain rfl:=aq.1 h1
   exact⟨az _,λy hy=>by cases hy⟩
  |some x=>
   simp only at h1
   obtain⟨i,q1,q2⟩:=ak.1 h1
   obtain⟨q3,q4⟩:=bF.1 q2
   obtain rfl:=aq.1 q4
   simp only[decide_eq_true_eq]at q3
   obtain⟨k,hk⟩:=pz (h.ev x) q1
   refine⟨by omega,λy hy=> ?_⟩
   simp only[dE,au]at hy
   exact⟨k,i,by rw[<-hy];exact hk,q3.1,q3.2,rfl⟩
 have Lt:hi.map a.eval=none->hh=n:=by
  intro hy
  cases hi with
  |none=>simp only at h1;exact(aq.1 h1).symm
  |some x=>cases hy
 have lo1:ll<=hh/\∀y,lo.map a.eval=some y->∃k i,y= .int k i/\0<=i/\i<=(hh:Int)/\ll=i.toNat:=by
  cases lo with
  |none=>
   simp only at h3
   obtain rfl:=aq.1 h3
   exact⟨aP _,λy hy=>by cases hy⟩
  |some x=>
   simp only at h3
   obtain⟨i,q1,q2⟩:=ak.1 h3
   obtain⟨q3,q4⟩:=bF.1 q2
   obtain rfl:=aq.1 q4
   simp only[decide_eq_true_eq]at q3
   obtain⟨k,hk⟩:=pz (h.ev x) q1
   refine⟨by omega,λy hy=> ?_⟩
   simp only[dE,au]at hy
   exact⟨k,i,by rw[<-hy];exact hk,q3.1,q3.2,rfl⟩
 have lo0:lo.map a.eval=none->ll=0:=by
  intro hy
  cases lo with
  |none=>simp only at h3;exact(aq.1 h3).symm
  |some x=>cases hy
 refine⟨?_,lo1.1,MA.1⟩
 unfold Instr.sliceBounds
 rcases hm with⟨rfl,rfl⟩ | ⟨k2,mv,hs,rfl,S9,JH,rfl⟩
 ·cases QP:hi.map a.eval with
  |none=>
   obtain rfl:=Lt QP
   cases yM:lo.map a.eval with
   |none=>
    obtain rfl:=lo0 yM
    rfl
   |some y=>
    obtain⟨k,i,rfl,q1,q2,rfl⟩:=lo1.2 y yM
    simp only[Sem.run_bind,Sem.run_pure,Result.andThen_ok,pv _ ⟨q1,q2⟩]
  |some z=>
   obtain⟨k',i',rfl,p1,p2,rfl⟩:=MA.2 z QP
   have hb:∀code,(Instr.sliceBound (.int k' i') cap' code).run P w= .ok i'.toNat w:=λcode=>pv code ⟨p1,by omega⟩
   cases yM:lo.map a.eval with
   |none=>
    obtain rfl:=lo0 yM
    simp only[Sem.run_bind,Sem.run_pure,Result.andThen_ok,hb]
   |some y=>
    obtain⟨k,i,rfl,q1,q2,rfl⟩:=lo1.2 y yM
    simp only[Sem.run_bind,Sem.run_pure,Result.andThen_ok,hb,pv _ ⟨q1,q2⟩]
 ·cases QP:hi.map a.eval with
  |none=>cases hi <;> simp_all
  |some z=>
   obtain⟨k',i',rfl,p1,p2,rfl⟩:=MA.2 z QP
   have S9:((i'.toNat:Nat):Int)<=mv:=S9
   have h0:∀code,(Instr.sliceBound (.int k2 mv) cap code).run P w= .ok mv.toNat w:=λcode=>pv code ⟨by omega,by omega⟩
   have hb:∀code,(Instr.sliceBound (.int k' i') mv.toNat code).run P w= .ok i'.toNat w:=λcode=>pv code ⟨p1,by omega⟩
   cases yM:lo.map a.eval with
   |none=>
    obtain rfl:=lo0 yM
    simp only[Sem.run_bind,Sem.run_pure,Result.andThen_ok,hb,h0]
   |some y=>
    obtain⟨k,i,rfl,q1,q2,rfl⟩:=lo1.2 y yM
    simp only[Sem.run_bind,Sem.run_pure,Result.andThen_ok,hb,h0,pv _ ⟨q1,q2⟩]
theorem kH{T:TypeId}{z:Nat}(h1:jg P T=some z)(h2:oM P T=none):∃e,P.underlying T=some (.slice e)/\P.cellsOf e=z/\0 < z:=by
 unfold jg at h1
 unfold oM at h2
 split at h1
 ·rename_i n e hT;rw[hT]at h2;cases h2
 ·rename_i e hT
  cases hc:P.cellsOf e with
  |zero=>rw[hc]at h1;cases h1
  |succ k=>
   rw[hc]at h1
   simp only[au]at h1
   exact⟨e,hT,by omega,by omega⟩
 ·cases h1
theorem oX{T:TypeId}{z n:Nat}(h1:jg P T=some z)(h2:oM P T=some n):∃e,P.underlying T=some (.array n e)/\P.cellsOf e=z/\0 < z:=by
 unfold jg at h1
 unfold oM at h2
 split at h1
 ·rename_i n e hT
  rw[hT]at h2
  simp only[au]at h2
  subst h2
  cases hc:P.cellsOf e with
  |zero=>rw[hc]at h1;cases h1
  |succ k=>
   rw[hc]at h1
   simp only[au]at h1
   exact⟨e,hT,by omega,by omega⟩
 ·rename_i e hT;rw[hT]at h2;cases h2
 ·cases h1
theorem kK{e:TypeId}{z:Nat}(h:P.cellsOf e=z)(hz:0 < z)(w:World):(sizeOf e).run P w= .ok z w:=by
 unfold Program.cellsOf at h
 cases hi:P.info? e with
 |none=>rw[hi]at h;simp at h;omega
 |some i=>rw[hi]at h;rw[run_sizeOf hi];simpa using h
set_option maxHeartbeats 1000000 in
theorem Ak(h:Inv C g β s a w){T:TypeId}{x:Operand}{lo hi mx:Option Operand}(ho:o.op= .slice T x lo hi mx)
  (hm:mx=none\/∃m y hv mv,mx=some m/\hi=some y/\(asInt (s.ev y)).eval=some hv/\(asInt (s.ev m)).eval=some mv/\0<=hv/\hv<=mv/\mv<=LF (s.ev x))
  {v:aw} (he:(tc P s T (s.ev x) lo hi).eval=some v):eT P o a w (gm C (s.put o.dst (Dy mx v))):=by
 have hx:=h.ev x
 have fin:∀z,(Instr.sliceAt T (a.eval x) (lo.map a.eval) (hi.map a.eval) (mx.map a.eval)).run P w= .ok z w->VS (s.env w g β) (Dy mx v) z->eT P o a w (gm C (s.put o.dst (Dy mx v))):=by
  intro z h1 h2
  exact h.value h2 (dz (f:=Instr.sliceAt T (a.eval x) (lo.map a.eval) (hi.map a.eval) (mx.map a.eval)) (by simp only[execOp,ho]) h1)
 have no:∀ {q:Prop},LF (s.ev x)= -1->(mx=none->q)->q:=by
  intro q h1 h2
  rcases hm with h3 | ⟨_,_,hv,mv,_,_,_,_,h3,h4,h5⟩
  ·exact h2 h3
  ·omega
 have sl:∀(e:TypeId) (z:Nat) (ad:Option Addr) (len cap:Nat) (b:Nat×Nat),LF (s.ev x)=(len:Int)->P.underlying T=some (.slice e)->P.cellsOf e=z->0 < z->a.eval x= .slice ad len cap->len<=cap->(bounds s len lo hi).eval=some b->
   ∃cap',(Instr.sliceAt T (a.eval x) (lo.map a.eval) (hi.map a.eval) (mx.map a.eval)).run P w= .ok (.slice (if cap'=b.1 then ad else ad.map (·.add (b.1*z))) (b.2 - b.1) (cap' - b.1)) w/\b.1<=b.2/\b.2<=len/\b.2<=cap'/\cap'<=cap/\(mx=none->cap'=cap):=by
  intro e z ad len cap b hL hT hz lX hy I1 hb
  rcases hm with rfl | ⟨m,y,hv,mv,rfl,rfl,q1,q2,q3,q4,q5⟩
  ·obtain⟨h1,h2,h3⟩:=oV (P:=P) h I1 hb true (.inl ⟨rfl,rfl⟩)
   refine⟨cap,?_,h2,h3,by omega,az _,λ_=>rfl⟩
   rw[hy]
   simp[Instr.sliceAt,Instr.slice,run_underlying hT,h1,kK hz lX]
  ·obtain⟨k,hk⟩:=pz (h.ev m) q2
   have yK:(b.2:Int)<=mv:=by
    obtain⟨hh,h1,h2⟩:=ak.1 hb
    obtain⟨i,r1,r2⟩:=ak.1 h1
    obtain⟨r3,r4⟩:=bF.1 r2
    obtain rfl:=aq.1 r4
    obtain⟨ll,_,h4⟩:=ak.1 h2
    obtain rfl:=aq.1 h4
    rw[q1]at r1
    obtain rfl:=ba r1
    show((hv.toNat:Nat):Int)<=mv
    omega
   obtain⟨h1,h2,h3⟩:=oV (P:=P) h I1 hb true (mx:=some (.int k mv)) (cap':=mv.toNat) (.inr ⟨k,mv,rfl,rfl,yK,by omega,rfl⟩)
   refine⟨mv.toNat,?_,h2,h3,by omega,by omega,λh=>by cases h⟩
   rw[hy,dE (a:=m),hk]
   simp[Instr.sliceAt,Instr.slice,run_underlying hT,kK hz lX]
   simp only[dE]at h1
   simp[h1]
 have ar:∀(e:TypeId) (z n:Nat) (ad:Addr) (b:Nat×Nat),mx=none->P.underlying T=some (.array n e)->P.cellsOf e=z->0 < z->a.eval x= .pointer (some ad)->(bounds s n lo hi).eval=some b->
   (Instr.sliceAt T (a.eval x) (lo.map a.eval) (hi.map a.eval) (mx.map a.eval)).run P w= .ok (.slice (some (if n=b.1 then ad else ad.add (b.1*z))) (b.2 - b.1) (n - b.1)) w/\b.1<=b.2/\b.2<=n:=by
  intro e z n ad b hN hT hz lX hy hb
  obtain⟨h1,h2,h3⟩:=oV (P:=P) h (az n) hb false (.inl ⟨rfl,rfl⟩)
  refine⟨?_,h2,h3⟩
  rw[hy,hN]
  simp[Instr.sliceAt,Instr.sureAddr,run_underlying hT,h1,kK hz lX]
 have cutR:∀(t:Ty) (z:Nat) (ad ad':Option Addr) (len' cap':Nat) (vs:List Value) (l:List t.den) (b:Nat×Nat),z=t.size->rZ (s.env w g β) ad vs->aV (cT (s.env w g β) t) vs l->b.1<=b.2->b.2<=l.length->
   (∀bb off,ad=some ⟨bb,off,none⟩->b.1 < b.2->ad'=some ⟨bb,off+b.1*z,none⟩)->(b.1 < b.2->ad'.isSome=true)->len'=b.2 - b.1->len'<=cap'->VS (s.env w g β) (.d (.slice t) (cut l b.1 (b.2 - b.1))) (.slice ad' len' cap'):=by
  intro t z ad ad' len' cap' vs l b hz hr hc h1 h2 Rt la hlen hle
  subst hz hlen
  have FN:(cut l b.1 (b.2 - b.1)).length=b.2 - b.1:=pG (by omega)
  refine⟨_,?_,rfl⟩
  simp only[V,cT]
  refine⟨ad',cap',(vs.drop (b.1*t.size)).take ((b.2 - b.1)*t.size),by rw[FN],by omega,by rw[FN];intro hp;exact la (by omega),?_,uw hc b.1 _⟩
  intro i v hi
  rw[cV]at hi
  split at hi
  ·rename_i TM
   rw[eZ]at hi
   obtain⟨bb,off,e,hh⟩:=hr _ v hi
   have gV:b.1 < b.2:=by
    rcases kQ b.1 b.2 with h' | h'
    ·exact h'
    ·rw[iV h',kS]at TM;omega
   exact⟨bb,_,Rt bb off e gV,by rw[dJ];exact hh⟩
  ·cases hi
 unfold tc at he
 split at he
 ·rename_i st mj
  rw[mj]at hx
  have e1:=te hx
  obtain⟨h1,h2⟩:=aA.1 he
  obtain⟨b,h3,h4⟩:=ak.1 h2
  obtain rfl:=aq.1 h4
  split at h1 <;> try (cases h1;done)
  rename_i hT
  obtain⟨q1,q2,q3⟩:=oV (P:=P) h (az _) h3 false (.inl ⟨rfl,rfl⟩)
  refine no (by rw[mj];rfl) λhN=> ?_
  subst hN
  refine fin (.string (st.extract b.1 b.2)) ?_ (Cd _)
  rw[e1]
  simp[Instr.sliceAt,Instr.slice,run_underlying hT,q1]
 ·rename_i t l hl
  rw[hl]at hx
  obtain⟨ad,cap,vs,hy,I1,la,oE,nH⟩:=mO hx
  obtain⟨h1,h2⟩:=aA.1 he
  obtain⟨b,h3,h4⟩:=ak.1 h2
  obtain rfl:=aq.1 h4
  split at h1 <;> try (cases h1;done)
  rename_i z xQ w8
  obtain⟨e,hT,hz,lX⟩:=kH xQ w8
  have H0:z=t.size:=by simpa using h1
  obtain⟨cap',q1,q2,q3,q4,_,_⟩:=sl e z ad _ cap b (by rw[hl];rfl) hT hz lX hy I1 h3
  refine fin _ q1 ?_
  rw[show Dy mx (.d (.slice t) (cut l b.1 (b.2 - b.1)))= .d (.slice t) (cut l b.1 (b.2 - b.1)) by cases mx <;> rfl]
  refine cutR t z ad _ _ _ vs l b H0 oE nH q2 q3 ?_ ?_ rfl (by omega)
  ·intro bb off e1 gV
   rw[if_neg (by omega),e1]
   simp[Addr.add_lit]
  ·intro gV
   rw[if_neg (by omega)]
   have:=la (by omega)
   cases ad <;> simp_all
 ·rename_i hl
  rw[hl]at hx
  have hy:=ji hx
  obtain⟨h1,h2⟩:=aA.1 he
  obtain⟨b,h3,h4⟩:=ak.1 h2
  obtain rfl:=aq.1 h4
  split at h1 <;> try (cases h1;done)
  rename_i z xQ w8
  obtain⟨e,hT,hz,lX⟩:=kH xQ w8
  obtain⟨cap',q1,q2,q3,q4,q6,q5⟩:=sl e z none 0 0 b (by rw[hl];rfl) hT hz lX hy (az _) h3
  have wH:b.1=0:=by omega
  have yK:b.2=0:=by omega
  have yL:cap'=0:=by omega
  refine fin _ q1 ?_
  rw[show Dy mx .dp= .dp by cases mx <;> rfl,wH,yK,yL]
  exact⟨_,by simp[V],rfl⟩
 ·rename_i id ver p c i len hl
  rw[hl]at hx
  obtain⟨ad,cap,hy,I1,la,zm,eK⟩:=lK hx
  obtain⟨r,NX,he⟩:=ak.1 he
  obtain⟨h1,h2⟩:=aA.1 he
  obtain⟨b,h3,h4⟩:=ak.1 h2
  obtain rfl:=aq.1 h4
  split at h1 <;> try (cases h1;done)
  rename_i z xQ w8
  obtain⟨e,hT,hz,lX⟩:=kH xQ w8
  have H0:z=r.2.1.size:=by simpa using h1
  obtain⟨cap',q1,q2,q3,q4,q6,q5⟩:=sl e z ad _ cap b (by rw[hl];rfl) hT hz lX hy I1 h3
  obtain⟨p',OS,BH⟩:∃p',Dy mx (.cO id ver p (c+b.1*r.2.1.size) (i+b.1) (b.2 - b.1))= .cO id ver p' (c+b.1*r.2.1.size) (i+b.1) (b.2 - b.1)/\(p'=[]->p=[]/\mx=none):=by
   cases mx with
   |none=>exact⟨p,rfl,λh=>⟨h,rfl⟩⟩
   |some m=>exact⟨p++ [.arr],rfl,λh=>by simp at h⟩
  refine fin _ q1 ?_
  rw[OS]
  refine⟨_,?_,rfl⟩
  simp only[V]
  refine⟨_,_,rfl,by omega,?_,zm,λhc=> ?_⟩
  ·intro gV
   rw[if_neg (by omega)]
   have:=la (by omega)
   cases ad <;> simp_all
  ·have eK:=eK hc
   cases hp:β id with
   |none=>
    have hp':(s.env w g β).β id=none:=hp
    rw[hp']at eK ⊢
    simp only at eK ⊢
    obtain⟨rfl,rfl,rfl⟩:=eK
    have yL:cap'=0:=by omega
    refine⟨by simp,by omega,by omega⟩
   |some pl=>
    have hp':(s.env w g β).β id=some pl:=hp
    rw[hp']at eK ⊢
    simp only at eK ⊢
    refine⟨λhh=> ?_,λR4 Lt=> ?_⟩
    ·by_cases NH:cap'=b.1
     ·rw[if_pos NH]
      have Rv:b.1=0:=by omega
      rw[Rv,kS,cn]
      exact eK.1 (.inr (by omega))
     ·rw[if_neg NH,eK.1 (by omega),<-H0]
      simp[Addr.add_lit]
    ·obtain⟨e1,e2⟩:=BH R4
     have:=eK.2 e1 (by omega)
     have:=q5 e2
     omega
 ·rename_i id ver p n hl
  rw[hl]at hx
  obtain⟨ad,hy,zm,eK⟩:=nu hx
  obtain⟨r,NX,he⟩:=ak.1 he
  obtain⟨h1,h2⟩:=aA.1 he
  obtain⟨h5,h6⟩:=bF.1 h2
  obtain⟨b,h3,h4⟩:=ak.1 h6
  obtain rfl:=aq.1 h4
  split at h1 <;> try (cases h1;done)
  rename_i z m xQ w8
  obtain⟨e,hT,hz,lX⟩:=oX xQ w8
  have H0:z=r.2.1.size:=by simpa using h1
  rw[w8,eu]at h3
  refine no (by rw[hl];rfl) λhN=> ?_
  obtain⟨q1,q2,q3⟩:=ar e z m ad b hN hT hz lX hy h3
  subst hN
  obtain⟨fr,c0,cI,_⟩:=xt rfl h.bE NX
  obtain⟨pl,hp,HP⟩:=eK ⟨fr,c0,cI⟩
  refine fin _ q1 ⟨_,?_,rfl⟩
  simp only[Dy,V]
  refine⟨_,_,rfl,by omega,λ_=>rfl,zm,λ_=> ?_⟩
  rw[hp]
  simp only
  refine⟨λhh=> ?_,λR4=>by simp at R4⟩
  rw[HP]
  by_cases NH:m=b.1
  ·have Rv:b.1=0:=by omega
   rw[if_pos NH,Rv,kS,cn]
  ·rw[if_neg NH,<-H0,Addr.add_lit]
 ·rename_i n t l hl
  rw[hl]at hx
  obtain⟨bb,off,vs,hy,oE,hR⟩:=nK hx
  obtain⟨h1,h2⟩:=aA.1 he
  obtain⟨b,h3,h4⟩:=ak.1 h2
  obtain rfl:=aq.1 h4
  split at h1 <;> try (cases h1;done)
  rename_i z m xQ w8
  obtain⟨e,hT,hz,lX⟩:=oX xQ w8
  simp only[ah,beq_iff_eq]at h1
  obtain⟨H0,rfl⟩:=h1
  refine no (by rw[hl];rfl) λhN=> ?_
  obtain⟨q1,q2,q3⟩:=ar e z m _ b hN hT hz lX hy h3
  subst hN
  simp only[cT]at hR
  obtain⟨hlen,nH⟩:=hR
  refine fin _ q1 (cutR t z (some ⟨bb,off,none⟩) _ _ _ vs l b H0 oE nH q2 (by omega) ?_ (λ_=>rfl) rfl (by omega))
  intro bb' off' e1 gV
  simp only[au,Addr.mk.injEq,and_true]at e1
  obtain⟨rfl,rfl⟩:=e1
  rw[if_neg (by omega),Addr.add_lit]
 ·simp only[aj]at he
end
end Go.Ab
namespace Go.Ab
section
variable {P:Program} {C:Ctx} {g:Nat->jW} {β:Id->Option Pl} {s:AS} {a:Act} {w:World} {o:Oper}
theorem zx(h:Inv C g β s a w){T:TypeId}{x y:Operand}(ho:o.op= .indexAddr T x y){i:Int}(hi:(asInt (s.ev y)).eval=some i){v:aw}(he:(lZ P s T (s.ev x) i).eval=some v):eT P o a w (gm C (s.put o.dst v)):=by
 have hx:=h.ev x
 obtain⟨k,hy⟩:=pz (h.ev y) hi
 have fin:∀z,(Instr.indexAt T (a.eval x) (a.eval y)).run P w= .ok z w->VS (s.env w g β) v z->eT P o a w (gm C (s.put o.dst v)):=by
  intro z h1 h2
  exact h.value h2 (dz (f:=Instr.indexAt T (a.eval x) (a.eval y)) (by simp only[execOp,ho]) h1)
 have sl:∀(e:TypeId) (z:Nat) (ad:Addr) (len cap:Nat),P.underlying T=some (.slice e)->P.cellsOf e=z->0 < z->a.eval x= .slice (some ad) len cap->0<=i/\i < (len:Int)->
   (Instr.indexAt T (a.eval x) (a.eval y)).run P w= .ok (.pointer (some (ad.add (i.toNat*z)))) w:=by
  intro e z ad len cap hT hz lX hv hb
  rw[hv,hy]
  simp[Instr.indexAt,asIntOf,run_underlying hT,hb,kK hz lX]
 have ar:∀(e:TypeId) (z n:Nat) (ad:Addr),P.underlying T=some (.array n e)->P.cellsOf e=z->0 < z->a.eval x= .pointer (some ad)->0<=i/\i < (n:Int)->
   (Instr.indexAt T (a.eval x) (a.eval y)).run P w= .ok (.pointer (some (ad.add (i.toNat*z)))) w:=by
  intro e z n ad hT hz lX hv hb
  rw[hv,hy]
  simp[Instr.indexAt,Instr.sureAddr,asIntOf,run_underlying hT,hb,kK hz lX]
 have elt:∀(t:Ty) (z:Nat) (bb off:Nat) (vs:List Value) (l:List t.den),z=t.size->rZ (s.env w g β) (some ⟨bb,off,none⟩) vs->aV (cT (s.env w g β) t) vs l->0<=i/\i < (l.length:Int)->
   VS (s.env w g β) (.eS t (nth t l i.toNat)) (.pointer (some ⟨bb,off+i.toNat*z,none⟩)):=by
  intro t z bb off vs l hz hr hc hb
  subst hz
  have gV:i.toNat < l.length:=by omega
  rw[zX gV]
  obtain⟨hp,_⟩:=wm hc gV
  refine⟨_,?_,rfl⟩
  simp only[V]
  refine⟨_,_,_,rfl,λj v hj=> ?_,hp⟩
  rw[cV]at hj
  split at hj
  ·rw[eZ]at hj
   obtain⟨b',o',e,hh⟩:=hr _ v hj
   simp only[au,Addr.mk.injEq,and_true]at e
   obtain⟨rfl,rfl⟩:=e
   exact⟨_,_,rfl,by rw[dJ];exact hh⟩
  ·cases hj
 unfold lZ at he
 split at he
 ·rename_i t l hl
  rw[hl]at hx
  obtain⟨ad,cap,vs,hv,I1,la,oE,nH⟩:=mO hx
  obtain⟨h1,h2⟩:=aA.1 he
  obtain⟨h3,h4⟩:=bF.1 h2
  obtain rfl:=aq.1 h4
  simp only[decide_eq_true_eq]at h3
  split at h1 <;> try (cases h1;done)
  rename_i z xQ w8
  obtain⟨e,hT,hz,lX⟩:=kH xQ w8
  have H0:z=t.size:=by simpa using h1
  have hlen:=aV.length (λc x hx=>cT.size hx) nH
  have gV:i.toNat < l.length:=by omega
  have h0:0 < vs.length:=by rw[hlen];exact Nat.mul_pos (by omega) (by omega)
  obtain⟨bb,off,e1,_⟩:=oE 0 vs[0] (by simp[h0])
  subst e1
  have:=sl e z _ _ cap hT hz lX hv h3
  rw[Addr.add_lit]at this
  exact fin _ this (elt t z bb off vs l H0 oE nH h3)
 ·rename_i n t l hl
  rw[hl]at hx
  obtain⟨bb,off,vs,hv,oE,hR⟩:=nK hx
  obtain⟨h1,h2⟩:=aA.1 he
  obtain⟨h3,h4⟩:=bF.1 h2
  obtain rfl:=aq.1 h4
  simp only[decide_eq_true_eq]at h3
  split at h1 <;> try (cases h1;done)
  rename_i z m xQ w8
  obtain⟨e,hT,hz,lX⟩:=oX xQ w8
  simp only[ah,beq_iff_eq]at h1
  obtain⟨H0,rfl⟩:=h1
  simp only[cT]at hR
  have:=ar e z m _ hT hz lX hv h3
  rw[Addr.add_lit]at this
  exact fin _ this (elt t z bb off vs l H0 oE hR.2 (by rw[hR.1];exact h3))
 ·rename_i id ver p c j len hl
  rw[hl]at hx
  obtain⟨ad,cap,hv,I1,la,zm,eK⟩:=lK hx
  obtain⟨r,NX,he⟩:=ak.1 he
  obtain⟨h1,h2⟩:=aA.1 he
  obtain⟨h3,h4⟩:=bF.1 h2
  obtain rfl:=aq.1 h4
  simp only[decide_eq_true_eq]at h3
  split at h1 <;> try (cases h1;done)
  rename_i z xQ w8
  obtain⟨e,hT,hz,lX⟩:=kH xQ w8
  have H0:z=r.2.1.size:=by simpa using h1
  have hs:=la (by omega)
  obtain⟨ad',rfl⟩:=bS.1 hs
  refine fin _ (sl e z ad' len cap hT hz lX hv h3) ⟨_,?_,rfl⟩
  simp only[V]
  refine⟨_,rfl,zm,λhc=> ?_⟩
  have eK:=eK hc
  cases hp:β id with
  |none=>
   have hp':(s.env w g β).β id=none:=hp
   rw[hp']at eK
   exact absurd eK.1 (by simp)
  |some pl=>
   have hp':(s.env w g β).β id=some pl:=hp
   rw[hp']at eK
   have e1:=eK.1 (.inl (by omega))
   simp only[au]at e1
   exact⟨pl,hp,by rw[e1,Addr.add_lit,H0]⟩
 ·rename_i id ver p n hl
  rw[hl]at hx
  obtain⟨ad,hv,zm,eK⟩:=nu hx
  obtain⟨h1,h2⟩:=aA.1 he
  obtain⟨h3,h4⟩:=bF.1 h2
  obtain rfl:=aq.1 h4
  simp only[decide_eq_true_eq]at h3
  split at h1 <;> try (cases h1;done)
  rename_i z m xQ w8
  obtain⟨e,hT,hz,lX⟩:=oX xQ w8
  rw[w8,eu]at h3
  refine fin _ (ar e z m ad hT hz lX hv h3) ⟨_,?_,rfl⟩
  simp only[V]
  refine⟨_,rfl,zm,λhc=> ?_⟩
  obtain⟨pl,hp,HP⟩:=eK hc
  exact⟨pl,hp,by rw[HP,Addr.add_lit,xQ,eu]⟩
 ·simp only[aj]at he
theorem sa{T:TypeId}{f off:Nat}{ft:TypeId}(h:fieldInfo P T f=some (off,ft)):∃fs fd,P.underlying T=some (.struct fs)/\fs[f]? =some fd/\fd.offset=off/\fd.type=ft:=by
 unfold fieldInfo at h
 split at h
 ·rename_i fs hT
  split at h
  ·rename_i fd hf
   simp only[au,cE]at h
   exact⟨fs,fd,hT,hf,h.1,h.2⟩
  ·cases h
 ·cases h
theorem rO{E:Env}:∀(x:aw) (f off:Nat) (v:aw) (cs:List Value),V E x cs->partOf x f=some (off,v)->V E v ((cs.drop off).take v.size)/\off+v.size<=cs.length:=by
 intro x f
 induction f generalizing x with
 |zero=>
  intro off v cs hx h
  cases x with
  |d t y=>
   cases t <;> simp only[partOf,reduceCtorEq]at h
   rename_i ta tb
   simp only[au,cE]at h
   obtain⟨rfl,rfl⟩:=h
   simp only[V,cT]at hx ⊢
   obtain⟨ca,cb,rfl,ha,hb⟩:=hx
   have:=ha.size
   simp only[aw.size,aI,av,aR]
   rw[List.take_left' this]
   exact⟨ha,by omega⟩
  |pr b c=>
   simp only[partOf,au,cE]at h
   obtain⟨rfl,rfl⟩:=h
   simp only[V]at hx
   obtain⟨ca,cb,rfl,ha,hb⟩:=hx
   have:=ha.size
   simp only[aI,av,aR]
   rw[List.take_left' this]
   exact⟨ha,by omega⟩
  |_=>simp only[partOf,reduceCtorEq]at h
 |succ f ih=>
  intro off v cs hx h
  have second:∀(ca cb:List Value) (n:Nat) (b:aw),cs=ca++cb->ca.length=n->V E b cb->(match partOf b f with | some (o,v)=>some (n+o,v) | none=>none)=some (off,v)->V E v ((cs.drop off).take v.size)/\off+v.size<=cs.length:=by
   intro ca cb n b e hl hb hh
   cases hp:partOf b f with
   |none=>rw[hp]at hh;cases hh
   |some r=>
    obtain⟨o',v'⟩:=r
    rw[hp]at hh
    simp only[au,cE]at hh
    obtain⟨rfl,rfl⟩:=hh
    obtain⟨h1,h2⟩:=ih b o' v' cb hb hp
    subst e
    rw[<-hl,iG,fV (by omega),bh,gU]
    exact⟨h1,by simp only[av];omega⟩
  cases x with
  |d t y=>
   cases t with
   |pair ta tb=>
    simp only[partOf]at h
    simp only[V,cT]at hx
    obtain⟨ca,cb,e,ha,hb⟩:=hx
    exact second ca cb ta.size (.d tb y.2) e ha.size (by simpa only[V]using hb) h
   |_=>simp only[partOf,reduceCtorEq]at h
  |pr b c=>
   simp only[partOf]at h
   simp only[V]at hx
   obtain⟨ca,cb,e,ha,hb⟩:=hx
   exact second ca cb b.size c e ha.size hb h
  |_=>simp only[partOf,reduceCtorEq]at h
theorem zf(h:Inv C g β s a w){T:TypeId}{x:Operand}{f:Nat}(ho:o.op= .fieldAddr T x f){v:aw}(he:(rA P T (s.ev x) f).eval=some v):eT P o a w (gm C (s.put o.dst v)):=by
 have hx:=h.ev x
 unfold rA at he
 split at he
 ·rename_i off ft hf
  obtain⟨fs,fd,hT,QM,rfl,rfl⟩:=sa hf
  obtain⟨h1,h2⟩:=aA.1 he
  have hz:P.cellsOf fd.type≠0:=by simpa using h1
  have run:∀bb n,a.eval x= .pointer (some ⟨bb,n,none⟩)->(Instr.fieldAt T (a.eval x) f).run P w= .ok (.pointer (some ⟨bb,n+fd.offset,none⟩)) w:=by
   intro bb n hy
   rw[hy]
   simp[Instr.fieldAt,run_underlying hT,QM,Instr.sureAddr,fieldPlace,kK (P:=P) (e:=fd.type) rfl (by omega),hz,Addr.add_lit]
  have runS:∀ad,a.eval x= .pointer (some ad)->(Instr.fieldAt T (a.eval x) f).run P w= .ok (.pointer (some (ad.add fd.offset))) w:=by
   intro ad hy
   rw[hy]
   simp[Instr.fieldAt,run_underlying hT,QM,Instr.sureAddr,fieldPlace,kK (P:=P) (e:=fd.type) rfl (by omega),hz]
  have fin:∀z,(Instr.fieldAt T (a.eval x) f).run P w= .ok z w->VS (s.env w g β) v z->eT P o a w (gm C (s.put o.dst v)):=by
   intro z h1 h2
   exact h.value h2 (dz (f:=Instr.fieldAt T (a.eval x) f) (by simp only[execOp,ho]) h1)
  split at h2
  ·rename_i id ver p n hl
   rw[hl]at hx
   obtain rfl:=aq.1 h2
   obtain⟨ad,hy,zm,eK⟩:=nu hx
   refine fin _ (runS ad hy) ⟨_,?_,rfl⟩
   simp only[V]
   refine⟨_,rfl,zm,λhc=> ?_⟩
   obtain⟨pl,hp,HP⟩:=eK hc
   exact⟨pl,hp,by rw[HP,Addr.add_lit]⟩
  ·rename_i t y hl
   rw[hl]at hx
   obtain⟨bb,off,vs,hy,oE,hR⟩:=nK hx
   split at h2
   ·rename_i o' t' y' hp
    obtain⟨h3,h4⟩:=aA.1 h2
    obtain rfl:=aq.1 h4
    have h3:fd.offset=o':=by simpa using h3
    obtain⟨hV,hle⟩:=rO (.d t y) f o' (.d t' y') vs (by simpa only[V]using hR) hp
    refine fin _ (run bb off hy) ⟨_,?_,rfl⟩
    simp only[V]at hV ⊢
    refine⟨_,_,_,rfl,λj u hj=> ?_,hV⟩
    rw[cV]at hj
    split at hj
    ·rw[eZ]at hj
     obtain⟨b',o'',e,hh⟩:=oE _ u hj
     simp only[au,Addr.mk.injEq,and_true]at e
     obtain⟨rfl,rfl⟩:=e
     exact⟨_,_,rfl,by rw[h3,dJ];exact hh⟩
    ·cases hj
   ·simp only[aj]at h2
  ·rename_i t q hl
   obtain⟨y,e,h5⟩:=nS.1 h2
   subst e
   rw[hl]at hx
   have hx:=vD hx
   obtain⟨bb,off,vs,hy,oE,hR⟩:=nK hx
   split at h5
   ·rename_i o' t' y' hp
    obtain⟨h3,h4⟩:=aA.1 h5
    obtain rfl:=aq.1 h4
    have h3:fd.offset=o':=by simpa using h3
    obtain⟨hV,hle⟩:=rO (.d t y) f o' (.d t' y') vs (by simpa only[V]using hR) hp
    refine fin _ (run bb off hy) ⟨_,?_,rfl⟩
    simp only[V]at hV ⊢
    refine⟨_,_,_,rfl,λj u hj=> ?_,hV⟩
    rw[cV]at hj
    split at hj
    ·rw[eZ]at hj
     obtain⟨b',o'',e,hh⟩:=oE _ u hj
     simp only[au,Addr.mk.injEq,and_true]at e
     obtain⟨rfl,rfl⟩:=e
     exact⟨_,_,rfl,by rw[h3,dJ];exact hh⟩
    ·cases hj
   ·simp only[aj]at h5
  ·simp only[aj]at h2
 ·simp only[aj]at he
theorem AL{x:aw}{f:Nat}{r:Nat×aw}(h:partOf x f=some r):x.agg=true/\x.dZ=true:=by
 cases x with
 |d t y=>cases t <;> cases f <;> simp[partOf]at h <;> exact⟨rfl,rfl⟩
 |pr b c=>exact⟨rfl,rfl⟩
 |_=>cases f <;> simp[partOf]at h
theorem sK{T:TypeId}{v:aw}(h:fits P T v=true):uO P T v.agg=true/\P.cellsOf T=v.size/\v.dZ=true:=by
 unfold fits at h
 simp only[ah,beq_iff_eq]at h
 exact⟨h.2,h.1.2,h.1.1⟩
theorem FF(h:Inv C g β s a w){T:TypeId}{x:Operand}{f:Nat}(ho:o.op= .field T x f){v:aw}(he:(Cr P T (s.ev x) f).eval=some v):eT P o a w (gm C (s.put o.dst v)):=by
 have hx:=h.ev x
 unfold Cr at he
 split at he
 ·rename_i off ft o' v' hf hp
  obtain⟨fs,fd,hT,QM,rfl,rfl⟩:=sa hf
  obtain⟨h1,h2⟩:=aA.1 he
  obtain rfl:=aq.1 h2
  simp only[ah,beq_iff_eq]at h1
  obtain⟨rfl,zo⟩:=h1
  obtain⟨vh,FM⟩:=AL hp
  obtain⟨cs,hV,hO⟩:=hx.dZ FM
  rw[vh]at hO
  have hy:a.eval x= .agg cs.toArray:=hO
  obtain⟨hVp,hle⟩:=rO _ _ _ _ cs hV hp
  obtain⟨q1,q2,q3⟩:=sK zo
  obtain⟨y,hr,hOy⟩:=oo (w:=w) q1 q2 (λhh=>aw.EI hh) hle
  refine h.value (VS.of hVp hOy) (dz (f:=Instr.field T (a.eval x) f) (by simp only[execOp,ho]) ?_)
  rw[hy]
  simp[Instr.field,run_underlying hT,QM,asAgg,hr]
 ·simp only[aj]at he
theorem FW(h:Inv C g β s a w){T:TypeId}{x y:Operand}(ho:o.op= .index T x y){i:Int}(hi:(asInt (s.ev y)).eval=some i){v:aw}(he:(CC P T (s.ev x) i).eval=some v):eT P o a w (gm C (s.put o.dst v)):=by
 have hx:=h.ev x
 obtain⟨k,hy⟩:=pz (h.ev y) hi
 have fin:∀z,(Instr.index T (a.eval x) (a.eval y)).run P w= .ok z w->VS (s.env w g β) v z->eT P o a w (gm C (s.put o.dst v)):=by
  intro z h1 h2
  exact h.value h2 (dz (f:=Instr.index T (a.eval x) (a.eval y)) (by simp only[execOp,ho]) h1)
 unfold CC at he
 split at he
 ·rename_i n t l m e hl hT
  rw[hl]at hx
  obtain⟨h1,h2⟩:=aA.1 he
  obtain⟨h3,h4⟩:=bF.1 h2
  obtain rfl:=aq.1 h4
  simp only[ah,beq_iff_eq,decide_eq_true_eq]at h1 h3
  obtain⟨rfl,zo⟩:=h1
  obtain⟨q1,q2,q3⟩:=sK zo
  obtain⟨cs,hV,hO⟩:=hx.dZ rfl
  have Ue:a.eval x= .agg cs.toArray:=hO
  simp only[V,cT]at hV
  obtain⟨hlen,nH⟩:=hV
  have gV:i.toNat < l.length:=by omega
  obtain⟨hp,hle⟩:=wm nH gV
  have q2':P.cellsOf e=t.size:=q2
  have q1':uO P e t.agg=true:=q1
  obtain⟨y',hr,hOy⟩:=oo (w:=w) q1' q2' oq hle
  obtain⟨j,hj,_⟩:=pa q1'
  rw[<-zX gV]at hp
  refine fin y' ?_ (VS.of (by simpa only[V]using hp) hOy)
  rw[Ue,hy]
  have mE:=run_sizeOf hj w
  rw[<-jY hj,q2']at mE
  simp[Instr.index,asIntOf,run_underlying hT,h3,mE,hr]
 ·rename_i st hl hT
  rw[hl]at hx
  obtain⟨h3,h4⟩:=bF.1 he
  obtain rfl:=aq.1 h4
  simp only[decide_eq_true_eq]at h3
  have e1:=te hx
  have gV:i.toNat < st.data.toList.length:=by
   have:st.size=st.data.toList.length:=by rw[cz];rfl
   omega
  have RG:st[i.toNat]? =some (st.data.toList[i.toNat]):=by
   have hlt':i.toNat < st.size:=by omega
   rw[getElem?_pos st i.toNat hlt']
   rfl
  refine fin (.int .u8 ((st.data.toList.getD i.toNat 0).toNat:Int)) ?_ (jn _ _)
  rw[e1,hy]
  simp[Instr.index,asIntOf,run_underlying hT,h3.1,RG,aC,cd gV]
 ·simp only[aj]at he
theorem M6{E:Env}:∀(c:aw) (vs:List Value) (i:Nat) (v:aw),VC E c vs->c.list[i]? =some v->∃y,vs[i]? =some y/\VS E v y:=by
 intro c
 induction c with
 |cons x y _ ih=>
  intro vs i v hc hi
  simp only[VC]at hc
  obtain⟨u,vs',cs,rfl,hV,hO,hc⟩:=hc
  cases i with
  |zero=>
   simp only[aw.list,eV,au]at hi
   subst hi
   exact⟨u,rfl,VS.of hV hO⟩
  |succ i=>
   simp only[aw.list,jF]at hi ⊢
   exact ih vs' i v hc hi
 |_=>intro vs i v hc hi;simp[aw.list]at hi
theorem Cq(h:Inv C g β s a w){x:Operand}{i:Nat}(ho:o.op= .extract x i){v:aw}(he:(Out.opt ((s.ev x).list[i]?)).eval=some v):eT P o a w (gm C (s.put o.dst v)):=by
 have hx:=h.ev x
 have he:=iP.1 he
 cases hc:s.ev x with
 |cons p q=>
  rw[hc]at hx he
  obtain⟨vs,hy,hVC⟩:=hx
  obtain⟨y,hv,hVS⟩:=M6 _ vs i v hVC he
  refine h.value hVS (dz (f:=Instr.extract (a.eval x) i) (by simp only[execOp,ho]) ?_)
  rw[hy]
  simp[Instr.extract,hv]
 |_=>rw[hc]at he;simp[aw.list]at he
theorem GJ(h:Inv C g β s a w):∀(l:List Operand),pC (lT s l)=true->VC (s.env w g β) (lT s l) (l.map a.eval)
 |[],_=>by simp[lT,VC]
 |x::xs,hc=>by
  simp only[lT,pC,ah]at hc
  obtain⟨cs,hV,hO⟩:=(h.ev x).dZ hc.1
  simp only[lT,VC,bJ]
  exact⟨_,_,cs,rfl,hV,hO,GJ h xs hc.2⟩
theorem AV(h:Inv C g β s a w){f:FuncId}{first caps:Array Operand}(ho:o.op= .makeFunc (.func f) first caps)(h1:first.isEmpty=true)(h2:pC (lT s caps.toList)=true):
  eT P o a w (gm C (s.put o.dst (.fn f (lT s caps.toList)))):=by
 have hf:first= #[]:=by simpa using h1
 refine h.value (x:= .func (.func f) #[] (caps.toList.map a.eval).toArray) ⟨_,?_,rfl⟩ (dz (f:=Instr.makeFunc (.func f) (first.map a.eval) (caps.map a.eval)) (by simp only[execOp,ho]) ?_)
 ·simp only[V]
  exact⟨_,rfl,GJ h _ h2⟩
 ·subst hf
  have:caps.map a.eval=(caps.toList.map a.eval).toArray:=by apply fo;simp
  simp[Instr.makeFunc,this]
theorem GB(h:Inv C g β s a w){T:TypeId}{x:Operand}(ho:o.op= .sliceToArrayPointer T x){s':AS}(he:(vb P s o.dst T (s.ev x)).eval=some s'):eT P o a w (gm C s'):=by
 have hx:=h.ev x
 unfold vb at he
 split at he
 ·rename_i n e hT
  split at he
  ·rename_i t ht
   obtain⟨h1,h2⟩:=aA.1 he
   obtain⟨l,h3,h4⟩:=ak.1 h2
   obtain⟨h5,h6⟩:=bF.1 h4
   obtain rfl:=aq.1 h6
   simp only[ah,bC,beq_iff_eq,beq_eq_false_iff_ne,decide_eq_true_eq]at h1 h5
   obtain⟨⟨hz,hn⟩,N5⟩:=h1
   obtain⟨g1,i1,e1,t1,cs,hR,hO⟩:=qc h hx h3
   simp only[cT]at hR
   obtain⟨ad,cap,vs,rfl,I1,la,oE,nH⟩:=hR
   have hO': [Value.slice ad (List.length l) cap]=[a.eval x]:=hO
   have hy:a.eval x= .slice ad (List.length l) cap:=by simpa using hO'.symm
   have hlen:=aV.length (λc x hx=>cT.size hx) nH
   have h0:0 < vs.length:=by rw[hlen];exact Nat.mul_pos (by omega) (by omega)
   obtain⟨bb,off,e2,_⟩:=oE 0 vs[0] (by simp[h0])
   subst e2
   refine .inl ⟨.pointer (some ⟨bb,off,none⟩),w,?_,g1,β,i1.put o.dst ⟨_,?_,rfl⟩⟩
   ·refine dz (f:=Instr.arrayAt T (a.eval x)) (by simp only[execOp,ho]) ?_
    rw[hy]
    have:¬List.length l < n:=by omega
    simp[Instr.arrayAt,run_underlying hT,this]
   ·simp only[V]
    refine⟨bb,off,vs.take (n*t.size),rfl,λj u hj=> ?_,?_⟩
    ·rw[cV]at hj
     split at hj
     ·exact oE j u hj
     ·cases hj
    ·simp only[cT]
     exact⟨by simp;omega,aV.take (λ_ _ hx=>hx.size) n nH⟩
  ·simp only[aj]at he
 ·simp only[aj]at he
end
end Go.Ab
namespace Go.Ab
theorem zF{α:Type}{f:α->α->Bool}(hf:∀x y,f x y=true->x=y):∀ {xs ys:List α},j1 f xs ys=true->xs=ys
 |[],[],_=>rfl
 |x::xs,y::ys,h=>by
  simp only[j1,ah]at h
  rw[hf _ _ h.1,zF hf h.2]
 |[],_::_,h=>by simp[j1]at h
 |_::_,[],h=>by simp[j1]at h
theorem beq_eq:∀(t:Ty) (x y:t.den),t.comp=true->t.beq x y=true->x=y
 | .int _,x,y,_,h=>by simpa[Ty.beq]using h
 | .bool,x,y,_,h=>by simpa[Ty.beq]using h
 | .str,x,y,_,h=>by
  have h:(x:ByteArray).toList=(y:ByteArray).toList:=by simpa[Ty.beq]using h
  rw[Go.ByteArray.toList_eq,Go.ByteArray.toList_eq]at h
  exact ByteArray.ext (Array.toList_inj.1 h)
 | .slice _,_,_,h,_=>by simp[Ty.comp]at h
 | .unit,_,_,_,_=>rfl
 | .pair a b,x,y,hc,h=>by
  simp only[Ty.comp,ah]at hc
  simp only[Ty.beq,ah]at h
  exact Prod.ext (beq_eq a _ _ hc.1 h.1) (beq_eq b _ _ hc.2 h.2)
 | .arr _ t,x,y,hc,h=>zF (λx y=>beq_eq t x y hc) h
def Plain(c:Value):Prop:=∀n,Instr.sameBits n c c=true
theorem cT.plain{E:Env}:∀ {t:Ty} {cs:List Value} {x:t.den},t.comp=true->cT E t cs x->∀c∈cs,Plain c
 | .int _,_,_,_,h,c,hc,n=>by simp only[cT]at h;rw[h,bO]at hc;subst hc;cases n <;> simp[Instr.sameBits]
 | .bool,_,_,_,h,c,hc,n=>by simp only[cT]at h;rw[h,bO]at hc;subst hc;cases n <;> simp[Instr.sameBits]
 | .str,_,_,_,h,c,hc,n=>by simp only[cT]at h;rw[h,bO]at hc;subst hc;cases n <;> exact(Go.MapKept.bytes_beq _ _).2 rfl
 | .slice _,_,_,hc,_,_,_,_=>by simp[Ty.comp]at hc
 | .unit,_,_,_,h,c,hc,_=>by simp only[cT]at h;rw[h]at hc;cases hc
 | .pair a b,_,_,hp,h,c,hc,n=>by
  simp only[Ty.comp,ah]at hp
  simp only[cT]at h
  obtain⟨ca,cb,rfl,ha,hb⟩:=h
  rcases bp.1 hc with hc | hc
  ·exact cT.plain hp.1 ha c hc n
  ·exact cT.plain hp.2 hb c hc n
 | .arr _ t,_,_,hp,h,c,hc,n=>by
  simp only[cT]at h
  exact aV.all (p:=Plain) (λc x hx v hv=>cT.plain (t:=t) hp hx v hv) h.2 c hc n
theorem cT.Nl{E:Env}:∀ {t:Ty} {cs cs':List Value} {x:t.den},t.comp=true->cT E t cs x->cT E t cs' x->cs=cs'
 | .int _,_,_,_,_,h,h'=>by simp only[cT]at h h';rw[h,h']
 | .bool,_,_,_,_,h,h'=>by simp only[cT]at h h';rw[h,h']
 | .str,_,_,_,_,h,h'=>by simp only[cT]at h h';rw[h,h']
 | .slice _,_,_,_,hc,_,_=>by simp[Ty.comp]at hc
 | .unit,_,_,_,_,h,h'=>by simp only[cT]at h h';rw[h,h']
 | .pair a b,_,_,_,hp,h,h'=>by
  simp only[Ty.comp,ah]at hp
  simp only[cT]at h h'
  obtain⟨ca,cb,rfl,ha,hb⟩:=h
  obtain⟨ca',cb',rfl,ha',hb'⟩:=h'
  rw[cT.Nl hp.1 ha ha',cT.Nl hp.2 hb hb']
 | .arr _ t,cs,cs',x,hp,h,h'=>by
  simp only[cT]at h h'
  have key:∀(l:List t.den) (cs cs':List Value),aV (cT E t) cs l->aV (cT E t) cs' l->cs=cs':=by
   intro l
   induction l with
   |nil=>intro cs cs' h h';have h:cs=[]:=h;have h':cs'=[]:=h';rw[h,h']
   |cons x l ih=>
    intro cs cs' h h'
    obtain⟨c,r,rfl,hx,hr⟩:=h
    obtain⟨c',r',rfl,hx',hr'⟩:=h'
    rw[cT.Nl (t:=t) hp hx hx',ih _ _ hr hr']
  exact key _ _ _ h.2 h'.2
theorem qV.Nl{E:Env}{t:Ty}{v v':Value}{x:t.den}(hc:t.comp=true)(h:qV E t v x)(h':qV E t v' x):v=v':=by
 obtain⟨cs,h1,h2⟩:=h
 obtain⟨cs',h1',h2'⟩:=h'
 have e:=cT.Nl hc h1 h1'
 subst e
 unfold eW at h2 h2'
 cases ha:t.agg with
 |true=>rw[ha]at h2 h2';rw[h2,h2']
 |false=>
  rw[ha]at h2 h2'
  have h2:cs=[v]:=h2
  have h2':cs=[v']:=h2'
  rw[h2]at h2'
  simpa using h2'
theorem qV.same{E:Env}{t:Ty}{v:Value}{x:t.den}(hc:t.comp=true)(h:qV E t v x):Instr.sameBits 10000 v v=true:=by
 obtain⟨cs,h1,h2⟩:=h
 have hp:=cT.plain hc h1
 unfold eW at h2
 cases ha:t.agg with
 |true=>
  rw[ha]at h2
  have h2:v= .agg cs.toArray:=h2
  subst h2
  simp only[Instr.sameBits,beq_self_eq_true,bW,cY]
  intro p hp'
  obtain⟨a,b⟩:=p
  have:∀(l:List Value),(a,b)∈l.zip l->a∈l/\a=b:=by
   intro l
   induction l with
   |nil=>intro h;simp at h
   |cons y l ih=>
    intro h
    simp only[List.zip_cons_cons,bY,cE]at h
    rcases h with⟨rfl,rfl⟩ | h
    ·exact⟨aK,rfl⟩
    ·exact⟨aH _ (ih h).1,(ih h).2⟩
  obtain⟨hm,rfl⟩:=this _ hp'
  exact hp a (by simpa using hm) _
 |false=>
  rw[ha]at h2
  have h2:cs=[v]:=h2
  subst h2
  exact hp v (by simp) _
theorem Iz{P:Program}{w:World}{E:Env}{t:Ty}{v:Value}{x:t.den}(hc:t.comp=true)(h:qV E t v x):(Instr.keyThatStays v v).run P w= .ok v w:=by
 unfold Instr.keyThatStays
 rw[if_pos (h.same hc)]
 rfl
section
variable {P:Program} {w:World} {E:Env}
theorem pI:∀(n:Nat) (T:TypeId) (t:Ty),ma P n T t=true->t.comp=true
 | 0,T,t,h=>by simp[ma]at h
 |n+1,T,t,h=>by
  simp only[ma]at h
  split at h
  ·rfl
  ·rfl
  ·rfl
  ·rename_i m e m' t' hT
   simp only[ah]at h
   exact pI n e t' h.2
  ·rename_i t0 _ _ fs hT
   simp only[ah]at h
   have key:∀(fl:List Field) (t:Ty) (off:Nat),uF P (ma P n) fl t off=true->t.comp=true:=by
    intro fl
    induction fl with
    |nil=>intro t off hc;cases t <;> first | rfl | (simp[uF]at hc;done)
    |cons f fl ih=>
     intro t off hc
     cases t <;> first | (simp[uF]at hc;done) | skip
     rename_i ta tb
     simp only[uF,ah]at hc
     simp only[Ty.comp,ah]
     exact⟨pI n _ _ hc.1.2,ih tb _ hc.2⟩
   exact key _ _ _ h.2
  ·cases h
theorem kG(em:Bool):∀(n:Nat) (T:TypeId) (t:Ty),ma P n T t=true->∀(d:Nat),n<=d->∀(v:Value) (x:t.den),qV E t v x->(Instr.checkKey em d T v).run P w= .ok () w
 | 0,T,t,h,_,_,_,_,_=>by simp[ma]at h
 |n+1,T,t,h,0,hd,_,_,_=>by omega
 |n+1,T,t,h,d+1,hd,v,x,⟨cs,hx,hv⟩=>by
  simp only[ma]at h
  split at h
  ·rename_i hT
   simp only[cT]at hx
   have e1:cs=[v]:=hv
   rw[hx]at e1
   simp only[du,and_true]at e1
   subst e1
   simp[Instr.checkKey,run_underlying hT]
  ·rename_i hT
   simp only[cT]at hx
   have e1:cs=[v]:=hv
   rw[hx]at e1
   simp only[du,and_true]at e1
   subst e1
   simp[Instr.checkKey,run_underlying hT]
  ·rename_i hT
   simp only[cT]at hx
   have e1:cs=[v]:=hv
   rw[hx]at e1
   simp only[du,and_true]at e1
   subst e1
   simp[Instr.checkKey,run_underlying hT]
  ·rename_i m e m' t' hT
   simp only[ah,beq_iff_eq]at h
   obtain⟨⟨⟨⟨rfl,N5⟩,mE⟩,vh⟩,nH⟩:=h
   simp only[cT]at hx
   obtain⟨RT,RC⟩:=hx
   have e1:v= .agg cs.toArray:=hv
   subst e1
   obtain⟨i,hi,DW⟩:=pa vh
   have hsz':=mE
   rw[jY hi]at hsz'
   simp only[Instr.checkKey,Sem.run_bind,run_underlying hT,Result.andThen_ok]
   simp only[Std.Legacy.Range.forIn_eq_forIn_range']
   have hm:([:m]:Std.Legacy.Range).size=m:=by simp[Std.Legacy.Range.size]
   rw[hm]
   have E6:∀c z,cT E t' c z->c.length=t'.size:=λc z hz=>hz.size
   have bx:t'.agg=false->t'.size=1:=oq
   have key:∀(k:Nat) (x:List t'.den) (j:Nat),x.length=k->aV (cT E t') (cs.drop (j*t'.size)) x->
     (forIn (List.range' j k) () λi __s=>(do
      let __do_lift <-sizeOf e
      let __do_lift <-part e cs.toArray (i*__do_lift)
      Instr.checkKey em d e __do_lift
      pure (ForInStep.yield ()):Sem (ForInStep Unit))).run P w= .ok () w:=by
    intro k
    induction k with
    |zero=>intro x j _ _;rfl
    |succ k ih=>
     intro x j hx hcx'
     cases x with
     |nil=>simp at hx
     |cons x0 xs=>
      have gx:=aV.get E6 hcx' 0 (by simp)
      simp only[kS,aI,List.getElem_cons_zero]at gx
      have lenx:((cs.drop (j*t'.size)).take t'.size).length=t'.size:=gx.size
      have xQ:t'.size≠0:=by simpa using N5
      have RN:j*t'.size+t'.size<=cs.length:=by simp only[bI,cq]at lenx;omega
      obtain⟨ux,h1,o1⟩:=oo (w:=w) vh mE bx (cs:=cs) (off:=j*t'.size) RN
      have h3:=kG em n e t' nH d (by omega) ux x0 ⟨_,gx,o1⟩
      have nx:aV (cT E t') (cs.drop ((j+1)*t'.size)) xs:=by
       have:=aV.drop E6 1 hcx'
       rw[eN]at this
       simpa[dI]using this
      have:=ih xs (j+1) (by simpa using hx) nx
      rw[List.range'_succ,List.forIn_cons]
      simp only[Sem.run_bind,run_sizeOf hi,hsz',h1,h3,Result.andThen_ok,Sem.run_pure]
      exact this
   exact(congrArg (λr:Result Unit=>r.andThen λ_ w'=>Sem.run P (pure ()) w') (key m x 0 RT (by simpa using RC))).trans rfl
  ·rename_i t0 _ _ fs hT
   simp only[ah,bC]at h
   obtain⟨mj,NL⟩:=h
   have vh:t0.agg=true:=by
    cases hl:fs.toList <;> rw[hl]at NL <;> cases t0 <;> first | rfl | (simp[uF]at NL;done)
   rw[vh]at hv
   have e1:v= .agg cs.toArray:=hv
   subst e1
   have key:∀(fl:List Field) (t:Ty) (off:Nat),uF P (ma P n) fl t off=true->∀(x:t.den),cT E t (cs.drop off) x->
     (forIn fl () λf __s=>(do
      if f.name≠ "_" then
       let __do_lift <-part f.type cs.toArray f.offset
       Instr.checkKey em d f.type __do_lift
       pure (ForInStep.yield ())
      else pure (ForInStep.yield ()):Sem (ForInStep Unit))).run P w= .ok () w:=by
    intro fl
    induction fl with
    |nil=>intro t off _ x _;rfl
    |cons f fl ih=>
     intro t off hc x hx
     cases t <;> first | (simp[uF]at hc;done) | skip
     rename_i ta tb
     simp only[uF,ah,bC,beq_iff_eq,beq_eq_false_iff_ne]at hc
     obtain⟨⟨⟨⟨⟨⟨RZ,Ly⟩,hz⟩,mE⟩,vh⟩,nH⟩,JJ⟩:=hc
     simp only[cT]at hx
     obtain⟨xa,xb,ex,Qh,Sp⟩:=hx
     have bx:ta.agg=false->ta.size=1:=oq
     have lx:xa.length=ta.size:=Qh.size
     have sx1:(cs.drop off).take ta.size=xa:=by rw[ex];exact List.take_left' lx
     have sx2:cs.drop (off+ta.size)=xb:=by rw[<-eN,ex];exact List.drop_left' lx
     have sx3:off+ta.size<=cs.length:=by
      have:=congrArg List.length ex
      simp only[cq,av]at this
      omega
     obtain⟨ux,h1,o1⟩:=oo (w:=w) vh mE bx (cs:=cs) (off:=off) sx3
     rw[sx1]at o1
     have h3:=kG em n f.type ta nH d (by omega) ux x.1 ⟨_,Qh,o1⟩
     have h4:=ih tb (off+ta.size) JJ x.2 (by rw[sx2];exact Sp)
     rw[List.forIn_cons]
     simp only[ne_eq,RZ,not_false_eq_true,if_true,Sem.run_bind,Ly,h1,h3,Result.andThen_ok,Sem.run_pure]
     exact h4
   have:=key fs.toList t0 0 NL x (by simpa using hx)
   simp only[Instr.checkKey,Sem.run_bind,run_underlying hT,Result.andThen_ok,Array.forIn_toList]at this ⊢
   exact(congrArg (λr:Result Unit=>r.andThen λ_ w'=>Sem.run P (pure ()) w') this).trans rfl
  ·cases h
theorem vm{K:TypeId}{kt vt:Ty}(hK:ma P depth K kt=true){v:Value}{x:kt.den}(hx:qV E kt v x):∀(es:List MapEntry) (l:List (kt.den×vt.den)) (i:Nat),Alike (rj E kt vt) es l->
  ∃r,(Instr.findAsking K v es i).run P w= .ok r w/\match r with | none=>gE kt x l=none | some (j,u)=>∃n e,gE kt x l=some n/\j=i+n/\es[n]? =some e/\u=e.val
 |[],[],i,_=>⟨none,by simp[Instr.findAsking],rfl⟩
 |e::es,p::l,i,⟨he,hr⟩=>by
  have hx':=hx
  obtain⟨c1,r1,o1⟩:=hx'
  obtain⟨c2,r2,o2⟩:=he.1
  have heq:(Op.equal K v e.key).run P w= .ok (kt.beq x p.1) w:=nF E depth K kt hK 10000 (by decide) c1 c2 x p.1 v e.key r1 r2 o1 o2
  cases hb:kt.beq x p.1 with
  |true=>
   rw[hb]at heq
   refine⟨some (i,e.val),by simp[Instr.findAsking,heq],0,e,by simp[gE,hb],rfl,rfl,rfl⟩
  |false=>
   rw[hb]at heq
   obtain⟨r,h1,h2⟩:=vm hK hx es l (i+1) hr
   refine⟨r,by simp[Instr.findAsking,heq,h1],?_⟩
   cases r with
   |none=>simp only at h2 ⊢;simp[gE,hb,h2]
   |some u=>
    obtain⟨j,u⟩:=u
    obtain⟨n,e',g1,g2,g3,g4⟩:=h2
    exact⟨n+1,e',by simp[gE,hb,g1],by omega,by simpa using g3,g4⟩
 |[],_::_,_,h=>h.elim
 |_::_,[],_,h=>h.elim
theorem BT{d:TypeDesc}{kt vt:Ty}{v:Value}{x:kt.den}(hd:∀u y,qV E kt u y->Instr.sameNow d v u=some (kt.beq x y)):∀(es:List MapEntry) (l:List (kt.den×vt.den)) (i:Nat),Alike (rj E kt vt) es l->
  ∃r,Instr.findNow d v es i=some r/\match r with | none=>gE kt x l=none | some (j,u)=>∃n e,gE kt x l=some n/\j=i+n/\es[n]? =some e/\u=e.val
 |[],[],i,_=>⟨none,rfl,rfl⟩
 |e::es,p::l,i,⟨he,hr⟩=>by
  have h0:=hd e.key p.1 he.1
  cases hb:kt.beq x p.1 with
  |true=>
   rw[hb]at h0
   exact⟨some (i,e.val),by simp[Instr.findNow,h0],0,e,by simp[gE,hb],rfl,rfl,rfl⟩
  |false=>
   rw[hb]at h0
   obtain⟨r,h1,h2⟩:=BT hd es l (i+1) hr
   refine⟨r,by simp[Instr.findNow,h0,h1],?_⟩
   cases r with
   |none=>simp only at h2 ⊢;simp[gE,hb,h2]
   |some u=>
    obtain⟨j,u⟩:=u
    obtain⟨n,e',g1,g2,g3,g4⟩:=h2
    exact⟨n+1,e',by simp[gE,hb,g1],by omega,by simpa using g3,g4⟩
 |[],_::_,_,h=>h.elim
 |_::_,[],_,h=>h.elim
theorem uJ{K:TypeId}{kt vt:Ty}(hK:ma P depth K kt=true){v:Value}{x:kt.den}(hx:qV E kt v x){es:List MapEntry}{l:List (kt.den×vt.den)}(h:Alike (rj E kt vt) es l):
  ∃r,(Instr.findKey K v es).run P w= .ok r w/\match r with | none=>gE kt x l=none | some (j,u)=>∃e,gE kt x l=some j/\es[j]? =some e/\u=e.val:=by
 have fin:∀r:Option (Nat×Value),(match r with | none=>gE kt x l=none | some (j,u)=>∃n e,gE kt x l=some n/\j=0+n/\es[n]? =some e/\u=e.val)->match r with | none=>gE kt x l=none | some (j,u)=>∃e,gE kt x l=some j/\es[j]? =some e/\u=e.val:=by
  intro r hr
  cases r with
  |none=>exact hr
  |some u=>
   obtain⟨j,u⟩:=u
   obtain⟨n,e,g1,g2,g3,g4⟩:=hr
   obtain rfl:j=n:=by omega
   exact⟨e,g1,g3,g4⟩
 have scalar:∀d,P.underlying K=some d->(∀u y,qV E kt u y->Instr.sameNow d v u=some (kt.beq x y))->∃r,(Instr.findKey K v es).run P w= .ok r w/\match r with | none=>gE kt x l=none | some (j,u)=>∃e,gE kt x l=some j/\es[j]? =some e/\u=e.val:=by
  intro d hd hs
  obtain⟨r,h1,h2⟩:=BT hs es l 0 h
  exact⟨r,by simp[Instr.findKey,run_underlying hd,h1],fin r h2⟩
 have agg:∀d,P.underlying K=some d->(∀u y,qV E kt u y->Instr.sameNow d v u=none)->∃r,(Instr.findKey K v es).run P w= .ok r w/\match r with | none=>gE kt x l=none | some (j,u)=>∃e,gE kt x l=some j/\es[j]? =some e/\u=e.val:=by
  intro d hd hs
  cases es with
  |nil=>
   cases l with
   |nil=>exact⟨none,by simp[Instr.findKey,run_underlying hd,Instr.findNow],rfl⟩
   |cons _ _=>exact h.elim
  |cons e es=>
   cases l with
   |nil=>exact h.elim
   |cons p l=>
    have hn:Instr.findNow d v (e::es) 0=none:=by simp[Instr.findNow,hs e.key p.1 h.1.1]
    obtain⟨r,h1,h2⟩:=vm (w:=w) (vt:=vt) hK hx (e::es) (p::l) 0 h
    exact⟨r,by simp[Instr.findKey,run_underlying hd,hn,h1],fin r h2⟩
 have hK0:=hK
 unfold depth at hK0
 simp only[ma]at hK0
 obtain⟨cx,rx,ox⟩:=hx
 split at hK0
 ·rename_i k k' hT
  refine scalar _ hT λu y ⟨cy,ry,oy⟩=> ?_
  simp only[cT]at rx ry
  have e1:cx=[v]:=ox
  have e2:cy=[u]:=oy
  rw[rx]at e1;rw[ry]at e2
  simp only[du,and_true]at e1 e2
  subst e1 e2
  simp[Instr.sameNow,Ty.beq]
 ·rename_i hT
  refine scalar _ hT λu y ⟨cy,ry,oy⟩=> ?_
  simp only[cT]at rx ry
  have e1:cx=[v]:=ox
  have e2:cy=[u]:=oy
  rw[rx]at e1;rw[ry]at e2
  simp only[du,and_true]at e1 e2
  subst e1 e2
  simp[Instr.sameNow,Ty.beq]
 ·rename_i hT
  refine scalar _ hT λu y ⟨cy,ry,oy⟩=> ?_
  simp only[cT]at rx ry
  have e1:cx=[v]:=ox
  have e2:cy=[u]:=oy
  rw[rx]at e1;rw[ry]at e2
  simp only[du,and_true]at e1 e2
  subst e1 e2
  have hs:∀a b:ByteArray,(a==b)=(a.toList==b.toList):=λa b=>by
   by_cases HO:a=b
   ·subst HO
    rw[(Go.MapKept.bytes_beq a a).2 rfl];simp
   ·have h1:(a==b)=false:=by
     cases h:(a==b) with
     |false=>rfl
     |true=>exact absurd ((Go.MapKept.bytes_beq a b).1 h) HO
    have h2:(a.toList==b.toList)=false:=by
     cases h:(a.toList==b.toList) with
     |false=>rfl
     |true=>exact absurd (beq_eq .str a b rfl h) HO
    rw[h1,h2]
  simp[Instr.sameNow,Ty.beq,hs]
 ·rename_i m e m' t' hT
  exact agg _ hT λu y _=>by simp[Instr.sameNow]
 ·rename_i t0 _ _ fs hT
  exact agg _ hT λu y _=>by simp[Instr.sameNow]
 ·cases hK0
end
section
variable {α β:Type} {R:α->β->Prop}
theorem Alike.get:∀ {xs:List α} {ys:List β} {i:Nat} {x:α},Alike R xs ys->xs[i]? =some x->∃y,ys[i]? =some y/\R x y
 |[],_,_,_,_,h=>by simp at h
 |_::_,[],_,_,h,_=>h.elim
 |x::xs,y::ys,0,z,⟨h1,_⟩,h=>by simp at h;subst h;exact⟨y,rfl,h1⟩
 |x::xs,y::ys,i+1,z,⟨_,h2⟩,h=>by simp at h;simpa using Alike.get h2 h
theorem Alike.set{x:α}{y:β}(hx:R x y):∀ {xs:List α} {ys:List β} (i:Nat),Alike R xs ys->Alike R (xs.set i x) (ys.set i y)
 |[],[],_,_=>trivial
 |[],_::_,_,h=>h.elim
 |_::_,[],_,h=>h.elim
 |_::_,_::_,0,⟨_,h2⟩=>⟨hx,h2⟩
 |_::_,_::_,i+1,⟨h1,h2⟩=>⟨h1,Alike.set hx i h2⟩
theorem Alike.push{x:α}{y:β}(hx:R x y):∀ {xs:List α} {ys:List β},Alike R xs ys->Alike R (xs++ [x]) (ys++ [y])
 |[],[],_=>⟨hx,trivial⟩
 |[],_::_,h=>h.elim
 |_::_,[],h=>h.elim
 |_::_,_::_,⟨h1,h2⟩=>⟨h1,Alike.push hx h2⟩
theorem Alike.erase:∀ {xs:List α} {ys:List β} (i:Nat),Alike R xs ys->Alike R (xs.eraseIdx i) (ys.eraseIdx i)
 |[],[],_,_=>by simp[Alike]
 |[],_::_,_,h=>h.elim
 |_::_,[],_,h=>h.elim
 |_::_,_::_,0,⟨_,h2⟩=>h2
 |_::_,_::_,i+1,⟨h1,h2⟩=>⟨h1,Alike.erase i h2⟩
end
theorem vL{α:Type}{f:α->α->Bool}(hf:∀x,f x x=true):∀xs:List α,j1 f xs xs=true
 |[]=>rfl
 |x::xs=>by simp[j1,hf x,vL hf xs]
theorem beq_refl:∀(t:Ty) (x:t.den),t.comp=true->t.beq x x=true
 | .int _,x,_=>by simp[Ty.beq]
 | .bool,x,_=>by simp[Ty.beq]
 | .str,x,_=>by simp[Ty.beq]
 | .slice _,_,h=>by simp[Ty.comp]at h
 | .gj _,_,h | .mD _,_,h=>by simp[Ty.comp]at h
 | .unit,_,_=>rfl
 | .pair a b,x,h=>by
  simp only[Ty.comp,ah]at h
  simp only[Ty.beq,beq_refl a _ h.1,beq_refl b _ h.2,Bool.and_self]
 | .arr _ t,x,h=>by
  simp only[Ty.comp]at h
  exact vL (λy=>beq_refl t y h) x
section
variable {β:Type} {kt:Ty}
theorem xj{x:kt.den}:dO kt x ([]:List (kt.den×β))=none:=rfl
theorem jo{x:kt.den}{p:kt.den×β}{l:List (kt.den×β)}:dO kt x (p::l)=if kt.beq x p.1=true then some p.2 else dO kt x l:=by
 unfold dO
 cases h:kt.beq x p.1 with
 |true=>simp[gE,h]
 |false=>
  simp only[gE,h]
  cases gE kt x l <;> simp
theorem Ih{x:kt.den}{v:β}:iR kt x v []=[(x,v)]:=rfl
theorem uS{x:kt.den}{v:β}{p:kt.den×β}{l:List (kt.den×β)}:iR kt x v (p::l)=if kt.beq x p.1=true then(x,v)::l else p::iR kt x v l:=by
 unfold iR
 cases h:kt.beq x p.1 with
 |true=>simp[gE,h]
 |false=>
  simp only[gE,h]
  cases gE kt x l <;> simp
theorem Ig{x:kt.den}:ky kt x ([]:List (kt.den×β))=[]:=rfl
theorem uR{x:kt.den}{p:kt.den×β}{l:List (kt.den×β)}:ky kt x (p::l)=if kt.beq x p.1=true then l else p::ky kt x l:=by
 unfold ky
 cases h:kt.beq x p.1 with
 |true=>simp[gE,h]
 |false=>
  simp only[gE,h]
  cases gE kt x l <;> simp
theorem tE{x:kt.den}{v:β}:∀l:List (kt.den×β),(iR kt x v l).Perm ((x,v)::ky kt x l)
 |[]=>jB _
 |p::l=>by
  rw[uS,uR]
  split
  ·exact jB _
  ·exact((tE l).cons p).trans (List.Perm.swap _ _ _)
theorem mI(hc:kt.comp=true){x:kt.den}:∀ {l:List (kt.den×β)},(l.map (·.1)).Nodup->ky kt x l=l.filter λp=> !kt.beq x p.1
 |[],_=>rfl
 |p::l,hn=>by
  rw[bJ,c8]at hn
  rw[uR,jC]
  by_cases h:kt.beq x p.1=true
  ·rw[if_pos h]
   simp only[h,bM,bN,if_false]
   have hx:=beq_eq kt _ _ hc h
   exact(gY.2 λq hq=>by
    simp only[bC]
    rw[Bool.eq_false_iff]
    intro hb
    have:=beq_eq kt _ _ hc hb
    exact hn.1 (by rw[<-hx,this];exact c7.2 ⟨q,hq,rfl⟩)).symm
  ·have h':kt.beq x p.1=false:=by simpa using h
   rw[if_neg h]
   simp only[h',dm,if_true]
   rw[mI hc hn.2]
theorem kW(hc:kt.comp=true){x:kt.den}{v:β}:∀ {l:List (kt.den×β)},(l.map (·.1)).Nodup->(dO kt x l=some v↔(x,v)∈l)
 |[],_=>by simp[xj]
 |p::l,hn=>by
  rw[bJ,c8]at hn
  rw[jo,bY]
  by_cases h:kt.beq x p.1=true
  ·rw[if_pos h]
   have hx:=beq_eq kt _ _ hc h
   constructor
   ·intro e;left;rw[hx,<-ba e]
   ·rintro(e | e)
    ·rw[<-e]
    ·exact absurd (c7.2 ⟨_,e,rfl⟩) (by rw[<-hx]at hn;exact hn.1)
  ·rw[if_neg h,kW hc hn.2]
   constructor
   ·exact .inr
   ·rintro(e | e)
    ·exact absurd (by rw[<-e];exact beq_refl kt x hc) h
    ·exact e
theorem F6(hc:kt.comp=true){x:kt.den}{l l':List (kt.den×β)}(hn:(l.map (·.1)).Nodup)(hp:l'.Perm l):dO kt x l'=dO kt x l:=by
 apply Option.ext
 intro v
 rw[kW hc ((hp.map _).nodup_iff.2 hn),kW hc hn,hp.mem_iff]
theorem zK(hc:kt.comp=true){x:kt.den}{l l':List (kt.den×β)}(hn:(l.map (·.1)).Nodup)(hp:l'.Perm l):(ky kt x l').Perm (ky kt x l):=by
 rw[mI hc ((hp.map _).nodup_iff.2 hn),mI hc hn]
 exact hp.filter _
theorem F7(hc:kt.comp=true){x:kt.den}{v:β}{l l':List (kt.den×β)}(hn:(l.map (·.1)).Nodup)(hp:l'.Perm l):(iR kt x v l').Perm (iR kt x v l):=
 (tE l').trans (((zK hc hn hp).cons _).trans (tE l).symm)
theorem sS(hc:kt.comp=true){x:kt.den}{l:List (kt.den×β)}(hn:(l.map (·.1)).Nodup):((ky kt x l).map (·.1)).Nodup:=by
 rw[mI hc hn]
 exact hn.sublist (List.filter_sublist.map _)
theorem yf(hc:kt.comp=true){x:kt.den}{v:β}{l:List (kt.den×β)}(hn:(l.map (·.1)).Nodup):((iR kt x v l).map (·.1)).Nodup:=by
 rw[((tE l).map _).nodup_iff,bJ,c8]
 refine⟨λh=> ?_,sS hc hn⟩
 obtain⟨p,hp,he⟩:=c7.1 h
 rw[mI hc hn,dP]at hp
 have:=hp.2
 have he:p.1=x:=he
 rw[he,beq_refl kt x hc]at this
 cases this
end
theorem uY{E:Env}:∀(v:aw) (t:Ty) (x:t.den) (cs:List Value),V E v cs->(lj t v).eval=some x->cT E t cs x/\v.agg=t.agg/\v.dZ=true
 | .d t' x',t,x,cs,hv,h=>by
  have h':(Out.opt (ni t' t x')).eval=some x:=by cases t <;> simpa only[lj]using h
  obtain⟨rfl,h'⟩:=iB (iP.1 h')
  simp only at h'
  subst h'
  simp only[V]at hv
  exact⟨hv,rfl,rfl⟩
 | .dp,.slice t,x,cs,hv,h=>by
  simp only[lj,aq]at h
  subst h
  simp only[V]at hv
  simp only[cT]
  exact⟨⟨none,0,[],by simpa using hv,by simp,by simp,λi v hh=>by simp at hh,rfl⟩,rfl,rfl⟩
 | .pr a b,.pair ta tb,x,cs,hv,h=>by
  simp only[lj]at h
  obtain⟨x1,h1,h2⟩:=ak.1 h
  obtain⟨x2,h3,h4⟩:=ak.1 h2
  obtain rfl:=aq.1 h4
  simp only[V]at hv
  obtain⟨ca,cb,rfl,ha,hb⟩:=hv
  simp only[cT]
  exact⟨⟨ca,cb,rfl,(uY a ta x1 ca ha h1).1,(uY b tb x2 cb hb h3).1⟩,rfl,rfl⟩
 | .dp,.int _,_,_,_,h | .dp,.bool,_,_,_,h | .dp,.str,_,_,_,h | .dp,.unit,_,_,_,h | .dp,.pair _ _,_,_,_,h | .dp,.arr _ _,_,_,_,h=>by simp only[lj,aj]at h
 | .pr _ _,.int _,_,_,_,h | .pr _ _,.bool,_,_,_,h | .pr _ _,.str,_,_,_,h | .pr _ _,.unit,_,_,_,h | .pr _ _,.slice _,_,_,_,h | .pr _ _,.arr _ _,_,_,_,h=>by simp only[lj,aj]at h
 | .undef,t,_,_,_,h | .gone,t,_,_,_,h | .mi,t,_,_,_,h | .nX,t,_,_,_,h | .yl ..,t,_,_,_,h | .qN,t,_,_,_,h | .ptr ..,t,_,_,_,h | .eS ..,t,_,_,_,h | .cO ..,t,_,_,_,h | .fn ..,t,_,_,_,h
 | .cons ..,t,_,_,_,h | .nil,t,_,_,_,h | .vec ..,t,_,_,_,h | .sb _,t,_,_,_,h | .bx ..,t,_,_,_,h | .l9 ..,t,_,_,_,h | .mp ..,t,_,_,_,h | .ml ..,t,_,_,_,h | .ow ..,t,_,_,_,h=>by cases t <;> simp only[lj,aj]at h
theorem A4{v:aw}{t:Ty}{x:t.den}(h:(lj t v).eval=some x):v.dZ=true:=by
 cases v <;> first | rfl | (cases t <;> simp only[lj,aj]at h)
theorem rQ{E:Env}{v:aw}{y:Value}(hv:VS E v y){t:Ty}{x:t.den}(h:(lj t v).eval=some x):qV E t y x:=by
 obtain⟨cs,h1,h2⟩:=hv.dZ (A4 h)
 obtain⟨h3,h4,_⟩:=uY v t x cs h1 h
 exact⟨cs,h3,by rw[<-h4];exact h2⟩
theorem qv{P:Program}{T K V':TypeId}{kt vt:Ty}(h:mapOf P T=some (K,V',kt,vt)):P.underlying T=some (.map K V')/\ma P depth K kt=true/\C1 P V' (.d vt vt.zero)=true:=by
 unfold mapOf at h
 split at h
 ·rename_i K0 V0 hT
  split at h
  ·split at h
   ·rename_i hc
    simp only[au,cE]at h
    obtain⟨rfl,rfl,rfl,rfl⟩:=h
    rw[ah]at hc
    exact⟨hT,hc.1,hc.2⟩
   ·cases h
  ·cases h
 ·cases h
theorem Dq{k v k' v':Ty}{l:List (k.den×v.den)}{l':List (k'.den×v'.den)}(h:Ft k v k' v' l=some l'):∃(e1:k=k') (e2:v=v'),(e1▸e2▸l)=l':=by
 unfold Ft at h
 split at h
 ·rename_i e;exact⟨e.1,e.2,by simpa using h⟩
 ·cases h
section
variable {P:Program} {C:Ctx} {g:Nat->jW} {β:Id->Option Pl} {s:AS} {a:Act} {w:World} {o:Oper}
theorem pc(h:Inv C g β s a w){id:Id}{ver:Nat}{kt vt:Ty}{l:List (kt.den×vt.den)}(ho:(s.mH id ver kt vt).eval=some l){y:Value}(hv:VS (s.env w g β) (.l9 id ver) y):
  ∃fr pl es clock,s.bT id=some (.obj ver fr (.mp kt vt l))/\β id=some pl/\y= .map (some pl.b)/\w.heap[pl.b]? =some (.map es clock)/\g pl.b= .own (.id id) 0/\Cb (s.env w g β) kt vt es.toList l/\kA es.toList clock/\(l.map (·.1)).Nodup:=by
 unfold AS.mH at ho
 split at ho
 ·rename_i v fr k' v' l' ju
  obtain⟨N3,P2⟩:=aA.1 ho
  have N3:v=ver:=by simpa using N3
  obtain⟨rfl,rfl,rfl⟩:=Dq (iP.1 P2)
  subst N3
  have cI:=dG ju
  obtain⟨pl,es,clock,h1,h2,h3,h4⟩:=h.bE id v fr _ cI
  have hs:=hv.single rfl rfl
  simp only[V]at hs
  obtain⟨b,hb,_,hc⟩:=hs
  obtain⟨pl',h5,h6⟩:=hc ⟨fr,_,cI⟩
  have h1:β id=some pl:=h1
  have h5:β id=some pl':=h5
  rw[h1]at h5
  obtain rfl:pl=pl':=by simpa using h5
  refine⟨fr,pl,es,clock,cI,h1,?_,h2,h3,h4.1.1,h4.2,h4.1.2⟩
  have hb:y= .map (some b):=by simpa using hb
  rw[hb,h6]
 ·simp only[aj]at ho
theorem CI(h:Inv C g β s a w){T:TypeId}(c6:o.op= .makeMap T none){s':AS}(he:(sQ P s o.dst T).eval=some s'):eT P o a w (gm C s'):=by
 unfold sQ at he
 split at he
 ·rename_i K V' kt vt q hm hd
  obtain⟨hq,he⟩:=aA.1 he
  obtain rfl:=aq.1 he
  have ht:=Trans.alloc w g (.map #[] 0) (.own (.id (.new q 0)) 0)
  obtain⟨h1,h2⟩:=h.wO hq (c:= .mp kt vt []) (p:=some ⟨w.heap.size,0⟩) ht (λb hb=>⟨lr w _ hb,eJ _ _ _ (by omega)⟩) (λ_=>
   ⟨⟨w.heap.size,0⟩,#[],0,iI _ _ _,mw w _,eQ _ _ _,⟨⟨[],trivial,jB _⟩,iL⟩,kA.nil _⟩)
  refine .inl ⟨.map (some w.heap.size),w.alloc (.map #[] 0),?_,_,_,h1.put o.dst (v:= .l9 (.new q 0) 0) ⟨[.map (some w.heap.size)],?_,rfl⟩⟩
  ·refine dz (f:=Instr.makeMap T none) (by simp only[execOp,c6];rfl) ?_
   simp[Instr.makeMap,run_newObj_alloc]
  ·simp only[V]
   exact⟨_,rfl,kT hq _ _ _ _,λ_=>⟨_,iI _ _ _,rfl⟩⟩
 ·simp only[aj]at he
theorem qV.vs{E:Env}{t:Ty}{v:Value}{x:t.den}(h:qV E t v x):VS E (.d t x) v:=by
 obtain⟨cs,h1,h2⟩:=h
 exact⟨cs,by simpa only[V]using h1,h2⟩
theorem Ec(h:Inv C g β s a w){T:TypeId}{x i:Operand}{ok:Bool}(c6:o.op= .lookup T x i ok){v:aw}(he:(rF P s T (s.ev x) (s.ev i) ok).eval=some v):eT P o a w (gm C (s.put o.dst v)):=by
 unfold rF at he
 split at he
 ·rename_i K V' kt vt id ver hm hx
  obtain⟨l,h1,he⟩:=ak.1 he
  obtain⟨k,h2,he⟩:=ak.1 he
  obtain rfl:=aq.1 he
  obtain⟨hT,hK,hz⟩:=qv hm
  have zr:=h.ev x
  rw[hx]at zr
  obtain⟨fr,pl,es,clock,g1,g2,g3,g4,g5,g6,g7,gn⟩:=pc h h1 zr
  have tY:=pI depth K kt hK
  obtain⟨l0,g6,gp⟩:=g6
  rw[<-F6 tY gn gp]
  clear gn h1
  generalize l0=l at g6
  have hk:=rQ (h.ev i) h2
  have Mv:=kG (P:=P) (w:=w) es.isEmpty depth K kt hK 10000 (by decide) _ _ hk
  obtain⟨r,hf,hr⟩:=uJ (P:=P) (w:=w) hK hk g6
  obtain⟨iz,zv,z1,z2,z3,z4⟩:=nD hz (s.env w g β)
  have HZ:qV (s.env w g β) vt zv vt.zero:=⟨_,by simpa only[V]using z3,z4⟩
  have hzero:(zeroValue V').run P w= .ok zv w:=by simp[zeroValue,typeInfo,z1,z2]
  obtain⟨val,kU,pN⟩:∃val:Value×Bool,(Instr.lookup T (a.eval x) (a.eval i) ok).run P w= .ok (if ok then .tuple #[val.1,.bool val.2] else val.1) w/\qV (s.env w g β) vt val.1 ((dO kt k l).getD vt.zero)/\val.2=(dO kt k l).isSome:=by
   cases r with
   |none=>
    simp only at hr
    have hg:dO kt k l=none:=by simp[dO,hr]
    refine⟨(zv,false),?_,by rw[hg];exact HZ,by rw[hg];rfl⟩
    simp[Instr.lookup,run_underlying hT,g3,Go.MapKept.run_getObj_map g4,Mv,hf,hzero]
   |some u=>
    obtain⟨j,u⟩:=u
    obtain⟨e,m1,m2,rfl⟩:=hr
    obtain⟨p,m3,m4⟩:=g6.get m2
    have hg:dO kt k l=some p.2:=by simp[dO,m1,m3]
    refine⟨(e.val,true),?_,by rw[hg];exact m4.2,by rw[hg];rfl⟩
    simp[Instr.lookup,run_underlying hT,g3,Go.MapKept.run_getObj_map g4,Mv,hf]
  refine h.value (x:=if ok then .tuple #[val.1,.bool val.2] else val.1) ?_ (dz (f:=Instr.lookup T (a.eval x) (a.eval i) ok) (by simp only[execOp,c6]) kU)
  unfold MQ
  cases ok with
  |true=>
   obtain⟨cs,c1,c2⟩:=pN.1
   refine⟨[val.1,.bool val.2],rfl,?_⟩
   simp only[VC]
   refine⟨_,_,cs,rfl,by simpa only[V]using c1,c2,_,_,[.bool val.2],rfl,?_,rfl,rfl⟩
   simp only[V,cT,pN.2]
  |false=>exact pN.1.vs
 ·simp only[aj]at he
theorem Inv.Ku(h:Inv C g β s a w){id:Id}{ver:Nat}{fr:Bool}{kt vt:Ty}{l l':List (kt.den×vt.den)}{pl:Pl}{es es':Array MapEntry}{clock clock':Nat}(cI:s.bT id=some (.obj ver fr (.mp kt vt l)))(hp:β id=some pl)
  (hb:w.heap[pl.b]? =some (.map es clock)) (hg:g pl.b= .own (.id id) 0) (hr:Cb (s.env w g β) kt vt es'.toList l') (TU:(l'.map (·.1)).Nodup) (PA:kA es'.toList clock') (N1:s.mP id=true):
  Inv C g β (s.aL id (.obj ver false (.mp kt vt l'))) a {w with heap:=w.heap.setIfInBounds pl.b (.map es' clock')}:=by
 have gV:pl.b < w.heap.size:=(bB.1 hb).1
 have hother:∀b',b'≠pl.b->({w with heap:=w.heap.setIfInBounds pl.b (.map es' clock')}:World).heap[b']? =w.heap[b']? :=λb' gS=>by
  show(w.heap.setIfInBounds pl.b _)[b']? =_
  rw[dy,if_neg (λe=>gS e.symm)]
 have ht:Trans w {w with heap:=w.heap.setIfInBounds pl.b (.map es' clock')} g g:=by
  refine⟨rfl,rfl,⟨rfl,az _⟩,by simp,λb' _=> ?_⟩
  by_cases he:b'=pl.b
  ·subst he
   rw[hg]
   exact⟨.inr ⟨id,0,rfl,az _⟩,λ_ _ hh=>by omega⟩
  ·rw[hother b' he]
   cases yu:g b' with
   |free=>exact⟨rfl,rfl⟩
   |own o' k=>cases o' with
    |dH=>exact⟨rfl,rfl⟩
    |id i'=>exact⟨.inr ⟨i',k,rfl,az _⟩,λoff v _ hv=>by simpa only[World.cell?,hother b' he]using hv⟩
 have hle:cD (s.env w g β) ((s.aL id (.obj ver false (.mp kt vt l'))).env {w with heap:=w.heap.setIfInBounds pl.b (.map es' clock')} g β):=cD.aL cI (az _) ht (λ_ _=>rfl) (λ_=>rfl)
 refine h.step (cX _ _ _) ht hle (gK.aL h.bE (by rw[cI];simp) hle (λ_ _=>rfl) (λi ver fr c pl2 hi zp BH=>⟨hother _ (h.apart hg hi zp BH),rfl⟩) ?_ (by obtain rfl:=th cI N1;exact vM cI))
 refine⟨pl,es',clock',hp,?_,hg,⟨hr.mono hle.mem,TU⟩,PA⟩
 show(w.heap.setIfInBounds pl.b _)[pl.b]? =_
 rw[dy,if_pos rfl,if_pos gV]
theorem Eg(h:Inv C g β s a w){T:TypeId}{m k x:Operand}(c6:o.op= .mapUpdate T m k x){s':AS}(he:(rJ P s T (s.ev m) (s.ev k) (s.ev x)).eval=some s'):eT P o a w (gm C (s'.put o.dst .undef)):=by
 unfold rJ at he
 split at he
 ·rename_i K V' kt vt id ver hm hx
  obtain⟨l,h1,he⟩:=ak.1 he
  obtain⟨kx,h2,he⟩:=ak.1 he
  obtain⟨vx,h3,he⟩:=ak.1 he
  obtain⟨N1,he⟩:=aA.1 he
  obtain rfl:=aq.1 he
  obtain⟨hT,hK,_⟩:=qv hm
  have zr:=h.ev m
  rw[hx]at zr
  obtain⟨fr,pl,es,clock,g1,g2,g3,g4,g5,g6,g7,gn⟩:=pc h h1 zr
  obtain⟨l0,g6,gp⟩:=g6
  have hk:=rQ (h.ev k) h2
  have hv:=rQ (h.ev x) h3
  have Mv:=kG (P:=P) (w:=w) false depth K kt hK 10000 (by decide) _ _ hk
  obtain⟨r,hf,hr⟩:=uJ (P:=P) (w:=w) hK hk g6
  have tY:=pI depth K kt hK
  have fin:∀(es':Array MapEntry) (clock':Nat),(Instr.mapUpdate T (a.eval m) (a.eval k) (a.eval x)).run P w= .ok () {w with heap:=w.heap.setIfInBounds pl.b (.map es' clock')}->Alike (rj (s.env w g β) kt vt) es'.toList (iR kt kx vx l0)->kA es'.toList clock'->
    eT P o a w (gm C ((s.aL id (.obj ver false (.mp kt vt (iR kt kx vx l)))).put o.dst .undef)):=λes' clock' kU HQ PA=>
   .inr (.inl ⟨_,Bu (f:=Instr.mapUpdate T (a.eval m) (a.eval k) (a.eval x)) (by simp only[execOp,c6]) kU,g,β,(h.Ku g1 g2 g4 g5 ⟨_,HQ,F7 tY gn gp⟩ (yf tY gn) PA N1).put o.dst VS.undef⟩)
  cases r with
  |none=>
   simp only at hr
   refine fin (es.push {key:=a.eval k,val:=a.eval x,born:=clock}) (clock+1) ?_ ?_ (by rw[Array.toList_push];exact g7.push rfl)
   ·simp[Instr.mapUpdate,run_underlying hT,g3,Go.MapKept.run_getObj_map g4,Mv,hf,Go.MapKept.run_setObj_map _ g4]
   ·simp only[iR,hr,Array.toList_push]
    exact g6.push ⟨hk,hv⟩
  |some u=>
   obtain⟨j,u⟩:=u
   obtain⟨e,m1,m2,rfl⟩:=hr
   obtain⟨p,m3,m4⟩:=g6.get m2
   have Rx:kt.beq kx p.1=true:=by
    have:∀(l:List (kt.den×vt.den)) (j:Nat),gE kt kx l=some j->∀p,l[j]? =some p->kt.beq kx p.1=true:=by
     intro l
     induction l with
     |nil=>intro j hj;simp[gE]at hj
     |cons q l ih=>
      intro j hj p hp
      simp only[gE]at hj
      cases hb:kt.beq kx q.1 with
      |true=>
       rw[hb]at hj
       simp only[au]at hj
       subst hj
       simp at hp
       subst hp
       exact hb
      |false=>
       rw[hb]at hj
       simp only[eG]at hj
       obtain⟨j',hj',rfl⟩:=hj
       exact ih j' hj' p (by simpa using hp)
    exact this l0 j m1 p m3
   have Sq:=beq_eq kt kx p.1 tY Rx
   have RO:e.key=a.eval k:=qV.Nl tY (Sq▸m4.1) hk
   have m2':es[j]? =some e:=by simpa using m2
   refine fin (es.modify j λe=> {e with key:=a.eval k,val:=a.eval x}) clock ?_ ?_ (by rw[Array.toList_modify,Go.ChangeMaps.modify_eq_set _ _ _ _ m2];exact g7.set m2 rfl)
   ·simp[Instr.mapUpdate,run_underlying hT,g3,Go.MapKept.run_getObj_map g4,Mv,hf,m2',RO,Iz tY hk,Go.MapKept.run_setObj_map _ g4]
   ·simp only[iR,m1,Array.toList_modify]
    rw[Go.ChangeMaps.modify_eq_set _ _ _ _ m2]
    exact Alike.set (R:=rj (s.env w g β) kt vt) ⟨hk,hv⟩ j g6
 ·simp only[aj]at he
end
end Go.Ab
end
