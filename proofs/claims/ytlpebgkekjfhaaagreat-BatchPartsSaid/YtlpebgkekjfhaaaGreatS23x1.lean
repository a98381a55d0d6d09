/-
  Made short by a program of mine (wip/tools/mini.py).
-/
import Derived.WalkKit
import Derived.KernelRfl
import Derived.OrdersIn
import Derived.LoopNIn
import Derived.TacticsIn
import Derived.RangeFuncCalls
import Derived.RangeFuncLeaves
import Derived.RangeFuncRecord
import Derived.MapKept
import Derived.ChangeMaps3
set_option linter.unusedVariables false
set_option linter.unusedSimpArgs false
set_option maxRecDepth 100000
set_option synthInstance.maxSize 5000
noncomputable section
namespace Go.Ab
theorem eP:type_of% @Array.ext':= @Array.ext'
theorem la:type_of% @Array.ext_getElem?:= @Array.ext_getElem?
theorem bY:type_of% @Array.getD_eq_getD_getElem?:= @Array.getD_eq_getD_getElem?
theorem hJ:type_of% @Array.getElem?_append:= @Array.getElem?_append
theorem dX:type_of% @Array.getElem?_eq_getElem:= @Array.getElem?_eq_getElem
theorem bk:type_of% @Array.getElem?_eq_some_iff:= @Array.getElem?_eq_some_iff
theorem eT:type_of% @Array.getElem?_modify:= @Array.getElem?_modify
theorem df:type_of% @Array.getElem?_setIfInBounds:= @Array.getElem?_setIfInBounds
theorem fE:type_of% @Array.getElem?_toList:= @Array.getElem?_toList
theorem bZ:type_of% @Array.length_toList:= @Array.length_toList
theorem bC:type_of% @Array.toList_append:= @Array.toList_append
theorem jX:type_of% @BitVec.ofInt_natCast:= @BitVec.ofInt_natCast
theorem lb:type_of% @BitVec.toNat_ofInt:= @BitVec.toNat_ofInt
theorem lf:type_of% @BitVec.toNat_ofNat:= @BitVec.toNat_ofNat
theorem ag:type_of% @Bool.and_eq_true:= @Bool.and_eq_true
theorem kE:type_of% @Bool.and_true:= @Bool.and_true
theorem fR:type_of% @Bool.eq_false_or_eq_true:= @Bool.eq_false_or_eq_true
theorem dQ:type_of% @Bool.false_and:= @Bool.false_and
theorem bK:type_of% @Bool.false_eq_true:= @Bool.false_eq_true
theorem bp:type_of% @Bool.not_eq_true':= @Bool.not_eq_true'
theorem dr:type_of% @Bool.not_false:= @Bool.not_false
theorem b8:type_of% @Bool.not_true:= @Bool.not_true
theorem fb:type_of% @Bool.or_eq_true:= @Bool.or_eq_true
theorem bX:type_of% @Bool.true_and:= @Bool.true_and
theorem gO:type_of% @Int.emod_lt_of_pos:= @Int.emod_lt_of_pos
theorem ij:type_of% @Int.emod_nonneg:= @Int.emod_nonneg
theorem dW:type_of% @Int.le_refl:= @Int.le_refl
theorem lS:type_of% @Int.mul_nonneg:= @Int.mul_nonneg
theorem gP:type_of% @Int.tdiv_eq_ediv_of_nonneg:= @Int.tdiv_eq_ediv_of_nonneg
theorem fu:type_of% @Int.tmod_eq_emod_of_nonneg:= @Int.tmod_eq_emod_of_nonneg
theorem aa:type_of% @Int.toNat_natCast:= @Int.toNat_natCast
theorem cF:type_of% @Int.toNat_zero:= @Int.toNat_zero
theorem jZ:type_of% @List.Perm.refl:= @List.Perm.refl
theorem eJ:type_of% @List.all_cons:= @List.all_cons
theorem cM:type_of% @List.all_eq_true:= @List.all_eq_true
theorem ik:type_of% @List.any_eq_false:= @List.any_eq_false
theorem kc:type_of% @List.any_eq_true:= @List.any_eq_true
theorem bg:type_of% @List.append_assoc:= @List.append_assoc
theorem cH:type_of% @List.append_nil:= @List.append_nil
theorem dp:type_of% @List.cons.injEq:= @List.cons.injEq
theorem ke:type_of% @List.cons_append:= @List.cons_append
theorem gJ:type_of% @List.drop_append:= @List.drop_append
theorem eF:type_of% @List.drop_drop:= @List.drop_drop
theorem aC:type_of% @List.drop_eq_getElem_cons:= @List.drop_eq_getElem_cons
theorem bq:type_of% @List.drop_length:= @List.drop_length
theorem fv:type_of% @List.drop_of_length_le:= @List.drop_of_length_le
theorem lT:type_of% @List.drop_take:= @List.drop_take
theorem aJ:type_of% @List.drop_zero:= @List.drop_zero
theorem aL:type_of% @List.eq_nil_of_length_eq_zero:= @List.eq_nil_of_length_eq_zero
theorem il:type_of% @List.ext_getElem?:= @List.ext_getElem?
theorem iP:type_of% @List.filter_cons:= @List.filter_cons
theorem gj:type_of% @List.filter_eq_self:= @List.filter_eq_self
theorem lg:type_of% @List.filter_filter:= @List.filter_filter
theorem fw:type_of% @List.flatten_cons:= @List.flatten_cons
theorem iQ:type_of% @List.flatten_nil:= @List.flatten_nil
theorem cU:type_of% @List.foldl_cons:= @List.foldl_cons
theorem j1:type_of% @List.foldl_nil:= @List.foldl_nil
theorem iL:type_of% @List.getD_cons_zero:= @List.getD_cons_zero
theorem ay:type_of% @List.getD_eq_getElem?_getD:= @List.getD_eq_getElem?_getD
theorem dY:type_of% @List.getElem?_append_left:= @List.getElem?_append_left
theorem iR:type_of% @List.getElem?_cons_succ:= @List.getElem?_cons_succ
theorem eB:type_of% @List.getElem?_cons_zero:= @List.getElem?_cons_zero
theorem eG:type_of% @List.getElem?_drop:= @List.getElem?_drop
theorem bS:type_of% @List.getElem?_eq_getElem:= @List.getElem?_eq_getElem
theorem c7:type_of% @List.getElem?_eq_none:= @List.getElem?_eq_none
theorem c6:type_of% @List.getElem?_eq_some_iff:= @List.getElem?_eq_some_iff
theorem dU:type_of% @List.getElem?_map:= @List.getElem?_map
theorem dJ:type_of% @List.getElem?_set_ne:= @List.getElem?_set_ne
theorem cI:type_of% @List.getElem?_take:= @List.getElem?_take
theorem b5:type_of% @List.getElem_mem:= @List.getElem_mem
theorem aq:type_of% @List.length_append:= @List.length_append
theorem aD:type_of% @List.length_cons:= @List.length_cons
theorem cO:type_of% @List.length_drop:= @List.length_drop
theorem hM:type_of% @List.length_filter_le:= @List.length_filter_le
theorem ct:type_of% @List.length_map:= @List.length_map
theorem ba:type_of% @List.length_nil:= @List.length_nil
theorem ck:type_of% @List.length_replicate:= @List.length_replicate
theorem jw:type_of% @List.length_set:= @List.length_set
theorem cz:type_of% @List.length_take:= @List.length_take
theorem kW:type_of% @List.map_append:= @List.map_append
theorem fB:type_of% @List.map_congr_left:= @List.map_congr_left
theorem bE:type_of% @List.map_cons:= @List.map_cons
theorem gr:type_of% @List.map_nil:= @List.map_nil
theorem bf:type_of% @List.mem_append:= @List.mem_append
theorem j2:type_of% @List.mem_append_left:= @List.mem_append_left
theorem cv:type_of% @List.mem_cons:= @List.mem_cons
theorem aF:type_of% @List.mem_cons_of_mem:= @List.mem_cons_of_mem
theorem aG:type_of% @List.mem_cons_self:= @List.mem_cons_self
theorem dE:type_of% @List.mem_filter:= @List.mem_filter
theorem hZ:type_of% @List.mem_iff_getElem?:= @List.mem_iff_getElem?
theorem cX:type_of% @List.mem_map:= @List.mem_map
theorem gk:type_of% @List.mem_map_of_mem:= @List.mem_map_of_mem
theorem cE:type_of% @List.mem_of_getElem?:= @List.mem_of_getElem?
theorem bM:type_of% @List.mem_singleton:= @List.mem_singleton
theorem aS:type_of% @List.nil_append:= @List.nil_append
theorem cV:type_of% @List.nodup_cons:= @List.nodup_cons
theorem gQ:type_of% @List.nodup_nil:= @List.nodup_nil
theorem gK:type_of% @List.not_mem_nil:= @List.not_mem_nil
theorem gR:type_of% @List.pairwise_cons:= @List.pairwise_cons
theorem eU:type_of% @List.set_getElem_self:= @List.set_getElem_self
theorem eV:type_of% @List.singleton_append:= @List.singleton_append
theorem fx:type_of% @List.size_toArray:= @List.size_toArray
theorem iS:type_of% @List.take_append:= @List.take_append
theorem cW:type_of% @List.take_append_drop:= @List.take_append_drop
theorem eR:type_of% @List.take_append_of_le_length:= @List.take_append_of_le_length
theorem cY:type_of% @List.take_length:= @List.take_length
theorem bz:type_of% @List.take_of_length_le:= @List.take_of_length_le
theorem kz:type_of% @List.take_succ_cons:= @List.take_succ_cons
theorem gS:type_of% @List.take_take:= @List.take_take
theorem eY:type_of% @List.take_zero:= @List.take_zero
theorem dz:type_of% @Nat.add_assoc:= @Nat.add_assoc
theorem dy:type_of% @Nat.add_mul:= @Nat.add_mul
theorem gd:type_of% @Nat.add_sub_cancel_left:= @Nat.add_sub_cancel_left
theorem cq:type_of% @Nat.add_zero:= @Nat.add_zero
theorem dO:type_of% @Nat.eq_of_beq_eq_true:= @Nat.eq_of_beq_eq_true
theorem jn:type_of% @Nat.eq_zero_or_pos:= @Nat.eq_zero_or_pos
theorem eW:type_of% @Nat.le_of_ble_eq_true:= @Nat.le_of_ble_eq_true
theorem ax:type_of% @Nat.le_refl:= @Nat.le_refl
theorem gE:type_of% @Nat.lt_irrefl:= @Nat.lt_irrefl
theorem lh:type_of% @Nat.lt_of_lt_of_le:= @Nat.lt_of_lt_of_le
theorem kf:type_of% @Nat.lt_or_ge:= @Nat.lt_or_ge
theorem ei:type_of% @Nat.min_eq_left:= @Nat.min_eq_left
theorem cJ:type_of% @Nat.mul_le_mul_right:= @Nat.mul_le_mul_right
theorem na:type_of% @Nat.mul_one:= @Nat.mul_one
theorem je:type_of% @Nat.one_mul:= @Nat.one_mul
theorem ia:type_of% @Nat.sub_eq_zero_of_le:= @Nat.sub_eq_zero_of_le
theorem aN:type_of% @Nat.zero_add:= @Nat.zero_add
theorem bh:type_of% @Nat.zero_le:= @Nat.zero_le
theorem kg:type_of% @Nat.zero_mul:= @Nat.zero_mul
theorem dR:type_of% @Option.getD_some:= @Option.getD_some
theorem bF:type_of% @Option.isSome_iff_exists:= @Option.isSome_iff_exists
theorem ea:type_of% @Option.map_eq_some_iff:= @Option.map_eq_some_iff
theorem dq:type_of% @Option.map_some:= @Option.map_some
theorem aP:type_of% @Option.some.inj:= @Option.some.inj
theorem ao:type_of% @Option.some.injEq:= @Option.some.injEq
theorem cd:type_of% @Prod.mk.injEq:= @Prod.mk.injEq
theorem im:type_of% @Sum.getRight?_inr:= @Sum.getRight?_inr
theorem j3:type_of% @Sum.isLeft_inr:= @Sum.isLeft_inr
end Go.Ab
namespace Go.Ab
inductive Ty where
 |int (k:IntKind) | bool | str | slice (t:Ty) | unit | pair (a b:Ty) | arr (n:Nat) (t:Ty)
 |fD (t:Ty)
 |l6 (t:Ty)
 deriving DecidableEq,Inhabited
@[reducible] def Ty.den:Ty->Type
 | .int _=>Int
 | .bool=>Bool
 | .str=>ByteArray
 | .slice t=>List t.den
 | .unit=>Unit
 | .pair a b=>a.den×b.den
 | .arr _ t=>List t.den
 | .fD t=>Option (List t.den)
 | .l6 t=>Option t.den
def Ty.size:Ty->Nat
 | .unit=>0
 | .pair a b=>a.size+b.size
 | .arr n t=>n*t.size
 | .int _ | .bool | .str | .slice _ | .fD _ | .l6 _=>1
def Ty.agg:Ty->Bool
 | .unit | .pair _ _ | .arr _ _=>true
 | .int _ | .bool | .str | .slice _ | .fD _ | .l6 _=>false
def Ty.zero:(t:Ty)->t.den
 | .int _=>(0:Int)
 | .bool=>false
 | .str=>ByteArray.empty
 | .slice _=> []
 | .unit=>()
 | .pair a b=>(a.zero,b.zero)
 | .arr n t=>List.replicate n t.zero
 | .fD _=>none
 | .l6 _=>none
def Ty.comp:Ty->Bool
 | .slice _ | .fD _ | .l6 _=>false
 | .pair a b=>a.comp && b.comp
 | .arr _ t=>t.comp
 | .int _ | .bool | .str | .unit=>true
def jr{α:Type}(f:α->α->Bool):List α->List α->Bool
 |[],[]=>true
 |x::xs,y::ys=>f x y && jr f xs ys
 |_,_=>false
def Ty.beq:(t:Ty)->t.den->t.den->Bool
 | .int _,x,y=>(x:Int)==y
 | .bool,x,y=>(x:Bool)==y
 | .str,x,y=>(x:ByteArray).toList==(y:ByteArray).toList
 | .slice t,x,y=>jr t.beq x y
 | .unit,_,_=>true
 | .pair a b,x,y=>a.beq x.1 y.1 && b.beq x.2 y.2
 | .arr _ t,x,y=>jr t.beq x y
 | .fD t,x,y=>jr t.beq (x.getD []) (y.getD [])
 | .l6 _,_,_=>false
def mC(t t':Ty)(x:t.den):Option t'.den:=if h:t=t' then some (h▸x) else none
def z7:(a b:Ty)->Option (a.den->b.den)
 | .fD t,.slice t'=>if h:t=t' then some λo=>cast (congrArg (λt:Ty=>List t.den) h) (o.getD []) else none
 | .slice t,.fD t'=>if h:t=t' then some λl=>some (cast (congrArg (λt:Ty=>List t.den) h) l) else none
 | .pair a b,.pair c d=>match z7 a c,z7 b d with
  |some f,some k=>some λx=>(f x.1,k x.2)
  |_,_=>none
 | .slice a,.slice b=>match z7 a b with
  |some f=>some (List.map f)
  |none=>none
 |a,b=>if h:a=b then some (cast (congrArg Ty.den h)) else none
def Qx(a b:Ty)(x:a.den):b.den:=match z7 a b with | some f=>f x | none=>b.zero
def rU(t t':Ty)(x:t.den):Option t'.den:=
 match mC t t' x with
 |some y=>some y
 |none=>match z7 t t' with
  |some f=>some (f x)
  |none=>none
def nth(t:Ty)(l:List t.den)(i:Nat):t.den:=l.getD i t.zero
inductive Id where
 |dd (k:Nat)
 |new (site j:Nat)
 deriving DecidableEq,Inhabited
inductive sW where
 |fst | snd
 |idx (i:Nat)
 |arr
structure mA where
 y:Nat
 ps:Array Tmp
 as:Code
 b:Code
inductive av where
 |undef
 |gone
 |db | lP | nm | qe
 |d (t:Ty) (x:t.den)
 |pr (a b:av)
 |ptr (id:Id) (ver:Nat) (p:List sW) (n:Nat)
 |eO (t:Ty) (x:t.den)
 |cD (id:Id) (ver:Nat) (p:List sW) (c i len:Nat)
 |fn (f:FuncId) (caps:av)
 |cons (a b:av)
 |nil
 |vec (e:TypeId) (t:Ty) (l:List t.den)
 |sb (l:List Int)
 |bx (e:TypeId) (z:Nat) (c:av)
 |lF (id:Id) (ver:Nat)
 |mp (k v:Ty) (l:List (k.den×v.den))
 |lR (q:Id) (ver:Nat) (k v:Ty) (rest:List (k.den×v.den)) (cur:Option (k.den×v.den))
 |yl (id:Id) (ver:Nat)
 |nH (c:mA) (frame:av) (p:Nat)
inductive de where
 |dead
 |obj (ver:Nat) (fr:Bool) (c:av)
structure AS where
 bR:List av
 bT:List de
 news:List (List de)
def bB(n:Nat)(l:List av):List av:=List.replicate n .undef++l
def cR(n:Nat)(l:List (List de)):List (List de):=List.replicate n []++l
inductive Out(α:Type):Type 1 where
 |ok (a:α)
 |fail
 |mn (c:Bool) (r:Out α)
 |get {β:Type} (x:Option β) (f:β->Out α)
 |br (c:Bool) (a b:Out α)
def Out.eval{α:Type}:Out α->Option α
 | .ok a=>some a
 | .fail=>none
 | .mn c r=>match c with | true=>r.eval | false=>none
 | .get x f=>match x with | some y=>(f y).eval | none=>none
 | .br c a b=>match c with | true=>a.eval | false=>b.eval
def aK{α:Type}(c:Bool)(x y:Option α):Option α:=match c with | true=>x | false=>y
def aA{α β:Type}(x:Option α)(f:α->Option β):Option β:=match x with | some a=>f a | none=>none
def Out.run{α R:Type}:Out α->(α->Option R)->Option R
 | .ok a,k=>k a
 | .fail,_=>none
 | .mn c r,k=>aK c (r.run k) none
 | .get x f,k=>aA x λy=>(f y).run k
 | .br c a b,k=>aK c (a.run k) (b.run k)
def Out.bind{α β:Type}:Out α->(α->Out β)->Out β
 | .ok a,f=>f a
 | .fail,_=> .fail
 | .mn c r,f=> .mn c (r.bind f)
 | .get x g,f=> .get x λy=>(g y).bind f
 | .br c a b,f=> .br c (a.bind f) (b.bind f)
def Out.opt{α:Type}:Option α->Out α
 |some a=> .ok a
 |none=> .fail
def Out.guard{α:Type}(c:Bool)(r:Out α):Out α:=match c with | true=>r | false=> .fail
def av.size:av->Nat
 | .d t _=>t.size
 | .pr a b=>a.size+b.size
 |_=>1
def av.agg:av->Bool
 | .d t _=>t.agg
 | .pr _ _=>true
 |_=>false
def av.dK:av->Bool
 | .undef | .cons _ _ | .nil | .vec .. | .bx .. | .mp .. | .lR .. | .nH .. =>false
 |_=>true
def av.strip:av->av
 | .bx _ _ c=>c
 |c=>c
def av.wrap:av->av->av
 | .bx e z _,c=> .bx e z c
 |_,c=>c
def u9:av->av->av
 | .d a x,.d b y=> .d (.pair a b) (x,y)
 |a,b=> .pr a b
def ofConst:Value->av
 | .bool b=> .d .bool b
 | .int k n=> .d (.int k) n
 | .string s=> .d .str s
 | .slice none 0 0=> .db
 | .pointer none=> .lP
 | .nilFunc=> .nm
 | .map none=> .qe
 |_=> .undef
def AS.slot(s:AS)(i:Nat):av:=s.bR.getD i .undef
def AS.ev(s:AS):Operand->av
 | .tmp t=>s.slot t
 | .const v=>ofConst v
 | .func f=> .fn f .nil
 | .global _=> .undef
def AS.put(s:AS)(dst:Option Tmp)(v:av):AS:=
 match dst with
 |some t=> {s with bR:=s.bR.set t v}
 |none=>s
def AS.bG(s:AS):Id->Option de
 | .dd k=>s.bT[k]?
 | .new i j=>(s.news.getD i [])[j]?
def AS.aH(s:AS)(id:Id)(e:de):AS:=
 match id with
 | .dd k=> {s with bT:=s.bT.set k e}
 | .new i j=> {s with news:=s.news.set i ((s.news.getD i []).set j e)}
def AS.di(s:AS)(i:Nat):Bool:=match s.news[i]? with | some []=>true | _=>false
def AS.born(s:AS)(i:Nat)(es:List de):AS:= {s with news:=s.news.set i es}
def AS.obj(s:AS)(id:Id):Option (Nat×Bool×av):=
 match s.bG id with
 |some (.obj v f c)=>some (v,f,c)
 |_=>none
def zO(P:Program)(nl:Bool):Nat->TypeId->Option Ty
 | 0,_=>none
 |n+1,T=>
  match P.underlying T with
  |some (.int k)=>some (.int k)
  |some .bool=>some .bool
  |some .string=>some .str
  |some (.slice e)=>match zO P false n e with | some t=>some (match nl with | true=> .fD t | false=> .slice t) | none=>none
  |some (.array k e)=>match zO P nl n e with | some t=>some (.arr k t) | none=>none
  |some (.pointer e)=>match zO P false n e with | some t=>some (.l6 t) | none=>none
  |some (.struct fs)=>fs.toList.foldr (λf acc=>match zO P nl n f.type,acc with | some a,some b=>some (.pair a b) | _,_=>none) (some .unit)
  |_=>none
def Es(P:Program):Nat->TypeId->Option Ty:=zO P false
def zeroOf(P:Program):Nat->TypeId->Option av
 | 0,_=>none
 |n+1,T=>
  match P.underlying T with
  |some (.int k)=>some (.d (.int k) (0:Int))
  |some .bool=>some (.d .bool false)
  |some .string=>some (.d .str ByteArray.empty)
  |some (.slice _)=>some .db
  |some (.pointer _)=>some .lP
  |some (.map _ _)=>some .qe
  |some (.func _ _ _)=>some .nm
  |some (.array k e)=>match Es P n e with | some t=>some (.d (.arr k t) (List.replicate k t.zero)) | none=>none
  |some (.struct fs)=>fs.toList.foldr (λf acc=>match zeroOf P n f.type,acc with | some a,some b=>some (u9 a b) | _,_=>none) (some (.d .unit ()))
  |_=>none
def depth:Nat:=12
def fits(P:Program)(T:TypeId)(v:av):Bool:=
 v.dK && (P.cellsOf T==v.size) &&
 (match P.underlying T with | some (.struct _)=>v.agg | some (.array _ _)=>v.agg | some _=> !v.agg | none=>false)
def jK:Nat->List sW
 | 0=> [.fst]
 |n+1=> .snd::jK n
def loc:av->List sW->Out (Nat×av)
 |c,[]=> .ok (0,c)
 |c,.arr::p=>loc c p
 | .pr a _,.fst::p=>loc a p
 | .pr a b,.snd::p=>(loc b p).bind λ(n,v)=> .ok (a.size+n,v)
 | .d (.pair a _) x,.fst::p=>loc (.d a x.1) p
 | .d (.pair a b) x,.snd::p=>(loc (.d b x.2) p).bind λ(n,v)=> .ok (a.size+n,v)
 | .d (.arr _ t) l,.idx i::p=> .mn (decide (i < (l:List t.den).length)) ((loc (.d t (nth t l i)) p).bind λ(n,v)=> .ok (i*t.size+n,v))
 | .vec _ t l,.idx i::p=> .mn (decide (i < l.length)) ((loc (.d t (nth t l i)) p).bind λ(n,v)=> .ok (i*t.size+n,v))
 |_,_::_=> .fail
def nZ:av->List sW->av->Out av
 |c,.arr::p,v=>nZ c p v
 | .vec ..,[],_=> .fail
 | .mp ..,[],_=> .fail
 | .lR ..,[],_=> .fail
 | .nH ..,[],_=> .fail
 |c,[],v=> .guard (v.dK && (c.size==v.size)) (.ok v)
 | .pr a b,.fst::p,v=>(nZ a p v).bind λa'=> .ok (u9 a' b)
 | .pr a b,.snd::p,v=>(nZ b p v).bind λb'=> .ok (u9 a b')
 | .d (.pair a b) x,.fst::p,v=>(nZ (.d a x.1) p v).bind λa'=> .ok (u9 a' (.d b x.2))
 | .d (.pair a b) x,.snd::p,v=>(nZ (.d b x.2) p v).bind λb'=> .ok (u9 (.d a x.1) b')
 | .d (.arr n t) l,.idx i::p,v=> .mn (decide (i < (l:List t.den).length)) ((nZ (.d t (nth t l i)) p v).bind fun
   | .d t' y=>(Out.opt (mC t' t y)).bind λy=> .ok (.d (.arr n t) ((l:List t.den).set i y))
   |_=> .fail)
 | .vec e t l,.idx i::p,v=> .mn (decide (i < l.length)) ((nZ (.d t (nth t l i)) p v).bind fun
   | .d t' y=>(Out.opt (mC t' t y)).bind λy=> .ok (.vec e t (l.set i y))
   |_=> .fail)
 |_,_::_,_=> .fail
def AS.row(s:AS)(id:Id)(ver:Nat)(p:List sW):Out (Nat×(t:Ty)×List t.den):=
 match s.obj id with
 |some (v,_,c)=> .guard (v==ver) ((loc c.strip p).bind fun
  | (n,.d (.arr _ t) l)=> .ok (n,⟨t,l⟩)
  | (n,.vec _ t l)=> .ok (n,⟨t,l⟩)
  |_=> .fail)
 |none=> .fail
def cut{α:Type}(l:List α)(i len:Nat):List α:=(l.drop i).take len
def AS.fZ(s:AS):(t:Ty)->av->Out t.den
 |t,.d t' x=>Out.opt (rU t' t x)
 | .slice _,.db=> .ok []
 | .fD _,.db=> .ok none
 | .slice t,.cD id ver p c i len=>(s.row id ver p).bind λr=> .mn (decide (r.1+i*r.2.1.size=c/\i+len<=r.2.2.length)) (Out.opt (rU (.slice r.2.1) (.slice t) (cut r.2.2 i len)))
 | .fD t,.cD id ver p c i len=>(s.row id ver p).bind λr=> .mn (decide (r.1+i*r.2.1.size=c/\i+len<=r.2.2.length)) (Out.opt (rU (.slice r.2.1) (.fD t) (cut r.2.2 i len)))
 | .pair a b,.pr x y=>(s.fZ a x).bind λx=>(s.fZ b y).bind λy=> .ok (x,y)
 |_,_=> .fail
def av.shared:av->List Id
 | .cD id _ _ _ _ _=> [id]
 | .pr a b=>a.shared++b.shared
 |_=> []
def AS.freeze(s:AS)(id:Id):AS:=
 match s.bG id with
 |some (.obj v _ c)=>s.aH id (.obj v true c)
 |_=>s
def AS.aQ(s:AS):List Id->AS
 |[]=>s
 |id::ids=>(s.freeze id).aQ ids
end Go.Ab
namespace Go.Ab
def IJ{α:Type}(f:α->List Value->Option (List Value)):List α->List Value->Option (List Value)
 |[],cs=>some cs
 |x::xs,cs=>match f x cs with | some r=>IJ f xs r | none=>none
def oe:(t:Ty)->t.den->List Value->Option (List Value)
 | .int k,x,.int k' n::r=>match decide (k=k'),decide (n=(x:Int)) with | true,true=>some r | _,_=>none
 | .bool,x,.bool b::r=>match decide (b=(x:Bool)) with | true=>some r | false=>none
 | .str,x,.string s::r=>match decide (s=(x:ByteArray)) with | true=>some r | false=>none
 | .slice _,[],.slice none 0 0::r=>some r
 | .fD _,none,.slice none 0 0::r=>some r
 | .l6 _,none,.pointer none::r=>some r
 | .unit,_,r=>some r
 | .pair a b,x,r=>match oe a x.1 r with | some r'=>oe b x.2 r' | none=>none
 | .arr n t,l,r=>match decide ((l:List t.den).length=n) with | true=>IJ (oe t) l r | false=>none
 |_,_,_=>none
def xv:av->List Value->Option (List Value)
 | .d t x,r=>oe t x r
 | .db,.slice none 0 0::r=>some r
 | .lP,.pointer none::r=>some r
 | .nm,.nilFunc::r=>some r
 | .qe,.map none::r=>some r
 | .pr a b,r=>match xv a r with | some r'=>xv b r' | none=>none
 |_,_=>none
def lB:Value->Bool | .agg _=>true | _=>false
def Cp(P:Program)(T:TypeId)(z:av):Bool:=
 match P.info? T with
 |some i=>match i.zero with
  |some zv=>(match xv z zv.cells.toList with | some []=>true | _=>false) && (lB zv==z.agg)
  |none=>false
 |none=>false
structure iO where
 val:av
 bT:List de
 news:List de
structure Entry where
 params:List (Option Ty)
 X:Type
 run:List av->List de->Option X
 out:List av->List de->X->iO
 sp:X->Out X:= .ok
 L7:∀x y,(sp x).eval=some y->y=x:=by exact λx y h=>(aP h).symm
abbrev nG:=FuncId->List av->Option Entry
def av.ids:av->List Id
 | .ptr id _ _ _=> [id]
 | .cD id _ _ _ _ _=> [id]
 | .pr a b=>a.ids++b.ids
 | .cons a b=>a.ids++b.ids
 | .fn _ c=>c.ids
 | .bx _ _ c=>c.ids
 | .lF id _=> [id]
 | .yl id _=> [id]
 | .nH _ f _=>f.ids
 | .lR id _ _ _ _ _=> [id]
 |_=> []
def de.ids:de->List Id
 | .obj _ _ c=>c.ids
 | .dead=> []
def AS.reach(s:AS):Nat->List Id->List Id->List Id
 | 0,_,acc=>acc
 |_+1,[],acc=>acc
 |n+1,id::todo,acc=>if acc.contains id then s.reach n todo acc else s.reach n (((s.bG id).getD .dead).ids++todo) (acc++ [id])
def idxOf(id:Id):List Id->Option Nat
 |[]=>none
 |x::xs=>if x=id then some 0 else(idxOf id xs).map (· +1)
def av.fS(ρ:Id->Nat->Option (Id×Nat)):av->av
 | .ptr id ver p n=>match ρ id ver with | some r=> .ptr r.1 r.2 p n | none=> .gone
 | .cD id ver p c i len=>match ρ id ver with | some r=> .cD r.1 r.2 p c i len | none=> .gone
 | .pr a b=> .pr (a.fS ρ) (b.fS ρ)
 | .cons a b=> .cons (a.fS ρ) (b.fS ρ)
 | .fn f c=> .fn f (c.fS ρ)
 | .bx e z c=> .bx e z (c.fS ρ)
 | .lF id ver=>match ρ id ver with | some r=> .lF r.1 r.2 | none=> .gone
 | .yl id ver=>match ρ id ver with | some r=> .yl r.1 r.2 | none=> .gone
 | .nH k f p=> .nH k (f.fS ρ) p
 | .lR id _ k v rest cur=> .lR id 0 k v rest cur
 |v=>v
def AS.nA(s:AS)(ids:List Id)(id:Id)(ver:Nat):Option (Id×Nat):=
 match idxOf id ids,s.obj id with
 |some k,some (v,_,_)=>if v=ver then some (.dd k,0) else none
 |_,_=>none
def AS.jz(s:AS)(ids:List Id)(id:Id):de:=
 match s.bG id with
 |some (.obj _ fr c)=> .obj 0 fr (c.fS (s.nA ids))
 |_=> .dead
def AS.pT(s:AS)(id:Id):Nat:=match s.obj id with | some (v,_,_)=>v | none=>0
def LM(ids:List Id)(dst:Nat):Id->Id
 | .dd k=>ids.getD k (.dd 0)
 | .new _ j=> .new dst j
def AS.mJ(s:AS)(ids:List Id)(dst:Nat):Id->Nat->Option (Id×Nat)
 | .dd k,v=>match ids[k]? with | some id=>some (id,s.pT id+v) | none=>none
 | .new _ j,v=>some (.new dst j,v)
def AS.lq(s:AS)(ids:List Id)(dst:Nat)(ver:Nat):de->de
 | .obj v fr c=> .obj (ver+v) fr (c.fS (s.mJ ids dst))
 | .dead=> .dead
def AS.conv(s:AS):List (Option Ty)->List av->Out (List av×List Id)
 |[],[]=> .ok ([],[])
 |some t::ps,v::vs=>(s.fZ t v).bind λx=>(s.conv ps vs).bind λr=> .ok (.d t x::r.1,v.shared++r.2)
 |none::ps,v::vs=>(s.conv ps vs).bind λr=> .ok (v::r.1,r.2)
 |_,_=> .fail
def AS.gB(s0:AS)(all:List Id)(dst:Nat)(s:AS):List Id->List de->AS
 |id::ids,e::es=>AS.gB s0 all dst (s.aH id (s0.lq all dst (s0.pT id) e)) ids es
 |_,_=>s
def av.list:av->List av
 | .cons a b=>a::b.list
 |_=> []
def AS.made(s:AS)(ids:List Id)(t:Nat):List de->AS
 |[]=>s
 |e::es=>s.born t ((e::es).map (s.lq ids t 0))
def AS.back(s:AS)(ids:List Id)(dst:Option Tmp)(g:iO):Out AS:=
 match dst with
 |some t=> .guard ((g.bT.length==ids.length) && (g.news.isEmpty || s.di t))
   (.ok ((AS.gB s ids t (s.made ids t g.news) ids g.bT).put dst (g.val.fS (s.mJ ids t))))
 |none=> .guard ((g.bT.length==ids.length) && g.news.isEmpty) (.ok (AS.gB s ids 0 s ids g.bT))
def AS.GB(s:AS)(vs:List av):List Id:=s.reach 64 (vs.flatMap av.ids) []
def AS.yW(s:AS)(id:Id):Bool:=match s.obj id with | some (_,true,.mp ..)=>false | _=>true
def AS.enter(s:AS)(en:Entry)(dst:Option Tmp)(ids:List Id)(vs:List av):Out AS:=
 .guard (ids.all λid=>(s.obj id).isSome && s.yW id)
  (.get (en.run (vs.map (av.fS (s.nA ids))) (ids.map (s.jz ids))) λx=>(en.sp x).bind λx=>s.back ids dst (en.out (vs.map (av.fS (s.nA ids))) (ids.map (s.jz ids)) x))
def AS.call(s:AS)(en:Entry)(dst:Option Tmp)(vs:List av):Out AS:=
 (s.conv en.params vs).bind λr=>(s.aQ r.2).enter en dst ((s.aQ r.2).GB r.1) r.1
def du(op:BinOp)(k:IntKind)(x y:Int):Int:=
 match op with
 | .and=>k.wrap ((BitVec.ofInt k.bits x &&& BitVec.ofInt k.bits y).toNat)
 | .or=>k.wrap ((BitVec.ofInt k.bits x ||| BitVec.ofInt k.bits y).toNat)
 | .xor=>k.wrap ((BitVec.ofInt k.bits x^^^BitVec.ofInt k.bits y).toNat)
 |_=>k.wrap ((BitVec.ofInt k.bits x &&& ~~~BitVec.ofInt k.bits y).toNat)
def I8(op:BinOp)(k:IntKind)(x:Int)(k':IntKind)(y:Int):Out av:=
 match op with
 | .shl=> .mn (decide (0<=y)) (.ok (.d (.int k) (k.wrap (x*2^(min y.toNat k.bits)))))
 | .shr=> .mn (decide (0<=y)) (.ok (.d (.int k) (x.fdiv (2^(min y.toNat k.bits)))))
 |_=> .guard (decide (k=k')) (match op with
  | .add=> .ok (.d (.int k) (k.wrap (x+y)))
  | .sub=> .ok (.d (.int k) (k.wrap (x - y)))
  | .mul=> .ok (.d (.int k) (k.wrap (x*y)))
  | .quo=> .mn (!(decide (y=0))) (.ok (.d (.int k) (k.wrap (x.tdiv y))))
  | .rem=> .mn (!(decide (y=0))) (.ok (.d (.int k) (x.tmod y)))
  | .eql=> .ok (.d .bool (x==y))
  | .neq=> .ok (.d .bool (x !=y))
  | .lss=> .ok (.d .bool (decide (x < y)))
  | .leq=> .ok (.d .bool (decide (x<=y)))
  | .gtr=> .ok (.d .bool (decide (x > y)))
  | .geq=> .ok (.d .bool (decide (x>=y)))
  |op=> .ok (.d (.int k) (du op k x y)))
def JR(op:BinOp)(x y:ByteArray):Out av:=
 match op with
 | .add=> .mn (decide (((x.size+y.size:Nat):Int)<=IntKind.i64.max)) (.ok (.d .str (x++y)))
 | .eql=> .ok (.d .bool (x.toList==y.toList))
 | .neq=> .ok (.d .bool (!(x.toList==y.toList)))
 | .lss=> .ok (.d .bool (Op.bytesLess x.toList y.toList))
 | .geq=> .ok (.d .bool (!(Op.bytesLess x.toList y.toList)))
 |_=> .fail
def tZ(P:Program)(T:TypeId)(b:Bool):Bool:=
 match P.underlying T with | some (.struct _)=>b | some (.array _ _)=>b | some _=> !b | none=>false
def tS(P:Program)(mn:TypeId->Ty->Bool):List Field->Ty->Nat->Bool
 |[],.unit,_=>true
 |f::fs,.pair a b,off=> !(f.name== "_") && (f.offset==off) && !(a.size==0) && (P.cellsOf f.type==a.size) && tZ P f.type a.agg && mn f.type a && tS P mn fs b (off+a.size)
 |_,_,_=>false
def lH(P:Program):Nat->TypeId->Ty->Bool
 | 0,_,_=>false
 |n+1,T,t=>match P.underlying T,t with
  |some (.int _),.int _=>true
  |some .bool,.bool=>true
  |some .string,.str=>true
  |some (.array m e),.arr m' t'=>(m==m') && !(t'.size==0) && (P.cellsOf e==t'.size) && tZ P e t'.agg && lH P n e t'
  |some (.struct fs),t=> !P.stoodInHeld T && tS P (lH P n) fs.toList t 0
  |_,_=>false
def pG(P:Program)(T:TypeId):av->av->Out Bool
 | .d t x,.d t' y=>(Out.opt (mC t' t y)).bind λy=> .guard ((t.agg && !P.eqGuardType P.depth T || decide (t= .bool)) && lH P depth T t) (.ok (t.beq x y))
 | .db,.db=> .guard (isSl P T) (.ok true)
 | .d (.slice t) l,.db=> .guard (isSl P T) (.mn (decide (0 < (l:List t.den).length)) (.ok false))
 | .db,.d (.slice t) l=> .guard (isSl P T) (.mn (decide (0 < (l:List t.den).length)) (.ok false))
 | .cD _ _ _ _ _ len,.db=> .guard (isSl P T) (.mn (decide (0 < len)) (.ok false))
 | .db,.cD _ _ _ _ _ len=> .guard (isSl P T) (.mn (decide (0 < len)) (.ok false))
 | .lP,.lP=> .guard (isPt P T) (.ok true)
 | .ptr ..,.lP=> .guard (isPt P T) (.ok false)
 | .lP,.ptr .. => .guard (isPt P T) (.ok false)
 | .d (.l6 t) x,.lP=> .guard (isPt P T) (.ok (x:Option t.den).isNone)
 | .lP,.d (.l6 t) x=> .guard (isPt P T) (.ok (x:Option t.den).isNone)
 | .nm,.nm=> .guard (isFn P T) (.ok true)
 | .fn ..,.nm=> .guard (isFn P T) (.ok false)
 | .nm,.fn .. => .guard (isFn P T) (.ok false)
 |_,_=> .fail
where
 isSl (P:Program) (T:TypeId):Bool:=match P.underlying T with | some (.slice _)=>true | _=>false
 isPt (P:Program) (T:TypeId):Bool:=match P.underlying T with | some (.pointer _)=>true | _=>false
 isFn (P:Program) (T:TypeId):Bool:=match P.underlying T with | some (.func _ _ _)=>true | _=>false
def Mi(P:Program)(T:TypeId)(op:BinOp)(x y:av):Out av:=
 match x,y with
 | .d (.int k) a,.d (.int k') b=>I8 op k a k' b
 | .d .str a,.d .str b=>JR op a b
 |x,y=>match op with
  | .eql=>(pG P T x y).bind λb=> .ok (.d .bool b)
  | .neq=>(pG P T x y).bind λb=> .ok (.d .bool (!b))
  |_=> .fail
def Qc(op:UnOp)(x:av):Out av:=
 match op,x with
 | .not,.d .bool b=> .ok (.d .bool (!b))
 | .neg,.d (.int k) n=> .ok (.d (.int k) (k.wrap (0 - n)))
 | .xor,.d (.int k) n=> .ok (.d (.int k) (du .xor k (if k.signed then -1 else k.max) n))
 |_,_=> .fail
def bV(s:ByteArray):List Int:=s.data.toList.map λb=>(b.toNat:Int)
def ed(l:List Int):ByteArray:=⟨(l.map λn=>UInt8.ofNat n.toNat).toArray⟩
def AS.FD(s:AS)(t:Ty)(v:av):Out t.den:=s.fZ t v
def IE(P:Program)(s:AS)(obj:Bool)(src dst:TypeId)(x:av):Out av:=
 match x,P.underlying dst,P.underlying src with
 | .d (.int _) n,some (.int k),some _=> .ok (.d (.int k) (k.wrap n))
 | .d .str a,some .string,some _=> .ok (.d .str a)
 | .d .str a,some (.slice e),some _=>match P.underlying e with
  |some (.int .u8)=>match obj with | true=> .ok (.sb (bV a)) | false=> .ok (.d (.slice (.int .u8)) (bV a))
  |_=> .fail
 |x,some .string,some (.slice e)=>match P.underlying e with
  |some (.int .u8)=>(s.FD (.slice (.int .u8)) x).bind λl=> .ok (.d .str (ed l))
  |_=> .fail
 |_,_,_=> .fail
def IF(P:Program)(src dst:TypeId)(l:List Int):Out av:=
 match P.underlying dst,P.underlying src with
 |some (.slice e),some (.slice _)=>match P.underlying e with
  |some (.int .u8)=> .guard (src==dst) (.ok (.d (.slice (.int .u8)) l))
  |_=> .fail
 |_,_=> .fail
def AH(P:Program)(s:AS)(obj:Bool)(src dst:TypeId)(x:av):Out av:=
 match x with
 | .sb l=>IF P src dst l
 |x=>IE P s obj src dst x
def CU(P:Program)(s:AS)(d:Option Tmp)(src dst:TypeId)(id:Id)(ver len:Nat):Out AS:=
 match s.obj id,P.underlying dst with
 |some (v,false,.vec _ (.int .u8) l),some (.slice e)=>match P.underlying e with
  |some (.int .u8)=> .guard ((v==ver) && (src==dst)) (.mn (decide (0 < len/\len=(l:List Int).length)) (.ok ((s.aH id .dead).put d (.d (.slice (.int .u8)) l))))
  |_=> .fail
 |_,_=> .fail
def AI(P:Program)(s:AS)(src dst:TypeId)(id:Id)(ver:Nat):Out av:=
 match s.obj id with
 |some (v,_,.bx e 0 c)=>match P.underlying src,P.underlying dst with
  |some (.pointer t),some .unsafePointer=> .guard ((v==ver) && !(P.cellsOf t==0) && !(c.size==0)) (.ok (.ptr id ver [] 0))
  |some .unsafePointer,some (.pointer u)=> .guard ((v==ver) && !(P.cellsOf u==0) && liesAt P P.depth e (c.size / P.cellsOf e) 0 u 1) (.ok (.ptr id ver [] 0))
  |_,_=> .fail
 |_=> .fail
def PC(P:Program)(T:TypeId):Bool:=match P.underlying T with | some (.pointer u)=>(P.info? u).isSome | _=>false
def NQ(P:Program)(s:AS)(T:TypeId)(op:BinOp)(i:Id)(v:Nat)(j:Id)(w:Nat):Out av:=
 match s.obj i with
 |some (v',_,_)=> .guard (decide (i=j) && (v==w) && (v==v') && PC P T) (match op with | .eql=> .ok (.d .bool true) | .neq=> .ok (.d .bool false) | _=> .fail)
 |none=> .fail
def Em(P:Program)(s:AS)(d:Option Tmp)(T:TypeId)(id:Id)(ver:Nat)(n:Int):Out AS:=
 match s.obj id,P.underlying T with
 |some (v,false,.vec e (.int .u8) l),some (.pointer u)=> .guard ((v==ver) && (u==e) && (P.cellsOf e==1))
   (.mn (decide (0 < n/\n<=((l:List Int).length:Int))) (.ok ((s.aH id .dead).put d (.d .str (ed ((l:List Int).take n.toNat))))))
 |_,_=> .fail
def asInt:av->Out Int
 | .d (.int _) n=> .ok n
 |_=> .fail
def bounds(s:AS)(n:Nat)(lo hi:Option Operand):Out (Nat×Nat):=
 (match hi with
  |some h=>(asInt (s.ev h)).bind λh=> .mn (decide (0<=h/\h<=(n:Int))) (.ok h.toNat)
  |none=> .ok n).bind λh=>
 (match lo with
  |some l=>(asInt (s.ev l)).bind λl=> .mn (decide (0<=l/\l<=(h:Int))) (.ok l.toNat)
  |none=> .ok 0).bind λl=> .ok (l,h)
def ir(P:Program)(T:TypeId):Option Nat:=
 match P.underlying T with
 |some (.array _ e)=>match P.cellsOf e with | 0=>none | z+1=>some (z+1)
 |some (.slice e)=>match P.cellsOf e with | 0=>none | z+1=>some (z+1)
 |_=>none
def nV(P:Program)(T:TypeId):Option Nat:=
 match P.underlying T with
 |some (.array n _)=>some n
 |_=>none
def sA(P:Program)(s:AS)(T:TypeId)(x:av)(lo hi:Option Operand):Out av:=
 match x with
 | .d .str a=> .guard (match P.underlying T with | some .string=>true | _=>false) ((bounds s a.size lo hi).bind λb=> .ok (.d .str (a.extract b.1 b.2)))
 | .d (.slice t) l=> .guard (match ir P T,nV P T with | some z,none=>z==t.size | _,_=>false)
   ((bounds s (l:List t.den).length lo hi).bind λb=> .ok (.d (.slice t) (cut l b.1 (b.2 - b.1))))
 | .db=> .guard (match ir P T,nV P T with | some _,none=>true | _,_=>false) ((bounds s 0 lo hi).bind λ_=> .ok .db)
 | .cD id ver p c i len=>(s.row id ver p).bind λr=> .guard (match ir P T,nV P T with | some z,none=>z==r.2.1.size | _,_=>false)
   ((bounds s len lo hi).bind λb=> .ok (.cD id ver p (c+b.1*r.2.1.size) (i+b.1) (b.2 - b.1)))
 | .ptr id ver p n=>(s.row id ver p).bind λr=> .guard (match ir P T,nV P T with | some z,some _=>z==r.2.1.size | _,_=>false)
   (.mn (decide (nV P T=some r.2.2.length/\r.1=n)) ((bounds s ((nV P T).getD 0) lo hi).bind λb=> .ok (.cD id ver (p++ [.arr]) (n+b.1*r.2.1.size) b.1 (b.2 - b.1))))
 | .eO (.arr n t) l=> .guard (match ir P T,nV P T with | some z,some m=>(z==t.size) && (m==n) | _,_=>false)
   ((bounds s n lo hi).bind λb=> .ok (.d (.slice t) (cut l b.1 (b.2 - b.1))))
 |_=> .fail
def KH:av->Int
 | .d (.slice t) l=>((l:List t.den).length:Int)
 | .cD _ _ _ _ _ len=>(len:Int)
 | .db=>0
 |_=> -1
def CW:Option Operand->av->av
 |some _,.cD id ver p c i len=> .cD id ver (p++ [.arr]) c i len
 |_,v=>v
def vG(P:Program)(s:AS)(T:TypeId)(x:av)(lo:Option Operand)(h m:Operand):Out av:=
 (asInt (s.ev h)).bind λhv=>(asInt (s.ev m)).bind λmv=> .mn (decide (0<=hv/\hv<=mv/\mv<=KH x)) ((sA P s T x lo (some h)).bind λv=> .ok (CW (some m) v))
def lA(P:Program)(s:AS)(T:TypeId)(x:av)(i:Int):Out av:=
 match x with
 | .d (.slice t) l=> .guard (match ir P T,nV P T with | some z,none=>z==t.size | _,_=>false)
   (.mn (decide (0<=i/\i < ((l:List t.den).length:Int))) (.ok (.eO t (nth t l i.toNat))))
 | .eO (.arr n t) l=> .guard (match ir P T,nV P T with | some z,some m=>(z==t.size) && (m==n) | _,_=>false)
   (.mn (decide (0<=i/\i < (n:Int))) (.ok (.eO t (nth t l i.toNat))))
 | .cD id ver p c j len=>(s.row id ver p).bind λr=> .guard (match ir P T,nV P T with | some z,none=>z==r.2.1.size | _,_=>false)
   (.mn (decide (0<=i/\i < (len:Int))) (.ok (.ptr id ver (p++ [.idx (j+i.toNat)]) (c+i.toNat*r.2.1.size))))
 | .ptr id ver p n=> .guard (match ir P T,nV P T with | some _,some _=>true | _,_=>false)
   (.mn (decide (0<=i/\i < (((nV P T).getD 0:Nat):Int))) (.ok (.ptr id ver (p++ [.idx i.toNat]) (n+i.toNat*(ir P T).getD 0))))
 |_=> .fail
def fieldInfo(P:Program)(T:TypeId)(f:Nat):Option (Nat×TypeId):=
 match P.underlying T with
 |some (.struct fs)=>match fs[f]? with | some x=>some (x.offset,x.type) | none=>none
 |_=>none
def partOf:av->Nat->Option (Nat×av)
 | .d (.pair a _) x,0=>some (0,.d a x.1)
 | .d (.pair a b) x,n+1=>match partOf (.d b x.2) n with | some (o,v)=>some (a.size+o,v) | none=>none
 | .pr a _,0=>some (0,a)
 | .pr a b,n+1=>match partOf b n with | some (o,v)=>some (a.size+o,v) | none=>none
 |_,_=>none
def qN(P:Program)(T:TypeId)(x:av)(f:Nat):Out av:=
 match fieldInfo P T f with
 |some (o,ft)=> .guard (!(P.cellsOf ft==0)) (match x with
  | .ptr id ver p n=> .ok (.ptr id ver (p++jK f) (n+o))
  | .eO t x=>match partOf (.d t x) f with
   |some (o',.d t' y)=> .guard (o==o') (.ok (.eO t' y))
   |_=> .fail
  | .d (.l6 t) x=> .get (x:Option t.den) λx=>match partOf (.d t x) f with
   |some (o',.d t' y)=> .guard (o==o') (.ok (.eO t' y))
   |_=> .fail
  |_=> .fail)
 |none=> .fail
def BM(P:Program)(T:TypeId)(x:av)(f:Nat):Out av:=
 match fieldInfo P T f,partOf x f with
 |some (o,ft),some (o',v)=> .guard ((o==o') && fits P ft v) (.ok v)
 |_,_=> .fail
def BY(P:Program)(T:TypeId)(x:av)(i:Int):Out av:=
 match x,P.underlying T with
 | .d (.arr n t) l,some (.array m e)=> .guard ((n==m) && fits P e (.d t t.zero)) (.mn (decide (0<=i/\i < (n:Int))) (.ok (.d t (nth t l i.toNat))))
 | .d .str a,some .string=> .mn (decide (0<=i/\i < (a.size:Int))) (.ok (.d (.int .u8) ((a.data.toList.getD i.toNat 0).toNat:Int)))
 |_,_=> .fail
def Np:av->Out av
 | .d (.fD t) l=> .mn (l:Option (List t.den)).isNone (.ok .db)
 |v=> .ok v
def uZ(P:Program)(s:AS)(T:TypeId)(x:av):Out av:=
 match x with
 | .ptr id ver p n=>match s.obj id with
  |some (v,_,c)=> .guard (v==ver) ((loc c.strip p).bind λr=> .guard (fits P T r.2) (.mn (decide (r.1=n)) (Np r.2)))
  |none=> .fail
 | .eO t y=> .guard (fits P T (.d t y)) (.ok (.d t y))
 | .d (.l6 t) y=> .get (y:Option t.den) λy=> .guard (fits P T (.d t y)) (.ok (.d t y))
 |_=> .fail
def sB(P:Program)(s:AS)(T:TypeId)(x v:av):Out AS:=
 match x with
 | .ptr id ver p n=>match s.obj id with
  |some (ve,fr,c)=> .guard ((ve==ver) && !fr && fits P T v) ((loc c.strip p).bind λr=> .guard (fits P T r.2) (.mn (decide (r.1=n)) ((nZ c.strip p v).bind λc'=> .ok (s.aH id (.obj ve fr (c.wrap c'))))))
  |none=> .fail
 |_=> .fail
def KG(P:Program)(T:TypeId)(x:av):Out av:=
 match P.underlying T,x with
 |some .string,.d .str a=> .ok (.d (.int .i64) (a.size:Int))
 |some (.slice _),.d (.slice t) l=> .ok (.d (.int .i64) ((l:List t.den).length:Int))
 |some (.slice _),.db=> .ok (.d (.int .i64) (0:Int))
 |some (.slice _),.cD _ _ _ _ _ len=> .ok (.d (.int .i64) (len:Int))
 |some (.array n _),_=> .ok (.d (.int .i64) (n:Int))
 |_,_=> .fail
def sk(P:Program)(s:AS)(t:Ty)(X:TypeId)(x:av):Out (List t.den):=
 match x with
 | .d .str a=>match P.underlying X with
  |some .string=>Out.opt (mC (.slice (.int .u8)) (.slice t) (bV a))
  |_=> .fail
 |x=>match P.underlying X with
  |some (.slice _)=>s.FD (.slice t) x
  |_=> .fail
def dT(n b:Nat):Bool:=decide (n*b<=140737488355328/\n<=9223372036854775807)
def qM(P:Program)(nl:Bool)(T:TypeId):Option (TypeId×Ty×Nat):=
 match P.underlying T with
 |some (.slice e)=>match zO P nl depth e with
  |some t=>match(P.cellsOf e==t.size) && !(t.size==0) && Cp P e (.d t t.zero) with | true=>some (e,t,P.bytesOf e) | false=>none
  |none=>none
 |_=>none
def xM(P:Program)(T:TypeId):Option (TypeId×Ty×Nat):=qM P false T
def BI(P:Program)(T:TypeId):Option (TypeId×Ty×Nat):=
 match Nat.ble 100000 T with
 |true=>qM P true (T - 100000)
 |false=>qM P false T
def De(P:Program)(s:AS)(dst:Option Tmp)(T X:TypeId)(n:Int):Out AS:=
 match xM P T,dst,P.underlying X with
 |some (e,t,b),some q,some (.int _)=> .guard (s.di q) (.mn (decide (0 < n) && dT n.toNat b)
   (.ok ((s.born q [.obj 0 false (.vec e t (List.replicate n.toNat t.zero))]).put dst (.cD (.new q 0) 0 [] 0 0 n.toNat))))
 |_,_,_=> .fail
def Hz(mx:Bool):List av->Out av
 |[.d (.int k) x,.d (.int k') y]=> .guard (decide (k=k')) (.ok (.d (.int k) (match mx with | true=>(if x < y then y else x) | false=>(if y < x then y else x))))
 |[.d (.int k) x,.d (.int k') y,.d (.int k2) z]=> .guard (decide (k=k') && decide (k=k2)) (.ok (.d (.int k) (match mx with | true=>(if(if x < y then y else x) < z then z else(if x < y then y else x)) | false=>(if z < (if y < x then y else x) then z else(if y < x then y else x)))))
 |_=> .fail
def oa(P:Program)(s:AS)(nl dt:Bool)(dst:Option Tmp)(T X:TypeId)(x y:av):Out AS:=
 match qM P nl T,dst with
 |some (e,t,b),some q=>(sk P s t X y).bind λm=>
  match x with
  | .db=>match dt with
   |true=> .mn (dT m.length b && decide (0 < m.length)) (.ok (s.put dst (.d (.fD t) (some m))))
   |false=> .guard (s.di q) (.mn (dT m.length b) (.ok ((s.born q [.obj 0 false (.vec e t m)]).put dst (.cD (.new q 0) 0 [] 0 0 m.length))))
  | .cD id ver [] 0 0 len=>match s.obj id with
   |some (v,fr,.vec e' t' l)=> .guard ((v==ver) && (e==e')) ((Out.opt (mC (.slice t') (.slice t) l)).bind λl=>
     .mn (decide (len<=l.length)) <| .mn ((!fr) || decide (len=l.length)) (.mn (dT (len+m.length) b)
      (.ok ((s.aH id (.obj (v+1) fr (.vec e t (l.take len++m)))).put dst (.cD id (v+1) [] 0 0 (len+m.length))))))
   |_=> .fail
  |_=> .fail
 |_,_=> .fail
def yo(P:Program)(s:AS)(dst:Option Tmp)(T X:TypeId)(x y:av):Out AS:=
 match xM P T,x with
 |some (_,t,_),.cD id ver [.arr] 0 0 len=>(sk P s t X y).bind λm=>match s.obj id with
  |some (ve,false,.d (.arr n t') l)=> .guard ((ve==ver) && (len==n)) ((Out.opt (mC (.slice t') (.slice t) l)).bind λl=> .mn (decide (m.length<=n))
    (.ok ((s.aH id (.obj ve false (.d (.arr n t) (m++(l:List t.den).drop m.length)))).put dst (.d (.int .i64) (m.length:Int)))))
  |_=> .fail
 |_,_=> .fail
def gq(t:Ty)(s:AS):List (Nat×Operand)->List t.den->Out (List t.den×List Id)
 |[],l=> .ok (l,[])
 | (i,x)::ps,l=> .guard (decide (i < l.length)) ((s.fZ t (s.ev x)).bind λy=>(gq t s ps (l.set i y)).bind λr=> .ok (r.1,(s.ev x).shared++r.2))
def kq(P:Program)(fs:Array Field)(s:AS):List (Nat×Operand)->av->Out av
 |[],v=> .ok v
 | (i,x)::ps,v=>match fs[i]?,partOf v i with
  |some f,some (o,dd)=> .guard ((f.offset==o) && fits P f.type dd && fits P f.type (s.ev x)) ((nZ v (jK i) (s.ev x)).bind λv'=>kq P fs s ps v')
  |_,_=> .fail
def rR(P:Program)(s:AS)(dst:Option Tmp)(T:TypeId)(parts:List (Nat×Operand)):Out AS:=
 match P.underlying T with
 |some (.struct fs)=>match zeroOf P depth T with
  |some z=> .guard (Cp P T z && z.agg && fs.toList.all λf=>(P.info? f.type).isSome)
    ((kq P fs s parts z).bind λv=> .ok (s.put dst v))
  |none=> .fail
 |some (.array n e)=>match Es P depth e with
  |some t=> .guard ((P.cellsOf e==t.size) && Cp P T (.d (.arr n t) (List.replicate n t.zero))) ((gq t s parts (List.replicate n t.zero)).bind λr=> .ok ((s.aQ r.2).put dst (.d (.arr n t) r.1)))
  |none=> .fail
 |_=> .fail
def jg(P:Program)(s:AS)(nl obj:Bool)(dst:Option Tmp)(T:TypeId)(n:Nat)(parts:List (Nat×Operand)):Out AS:=
 match qM P nl T,dst with
 |some (e,t,_),some q=> .guard (decide (n*t.size<=16777216)) ((gq t s parts (List.replicate n t.zero)).bind λr=>
   match obj with
   |true=> .guard (s.di q) (.ok (((s.aQ r.2).born q [.obj 0 false (.vec e t r.1)]).put dst (.cD (.new q 0) 0 [] 0 0 r.1.length)))
   |false=> .ok ((s.aQ r.2).put dst (.d (.slice t) r.1)))
 |_,_=> .fail
def lE(P:Program)(s:AS)(dst:Option Tmp)(T:TypeId)(len cap:Int):Out AS:=
 match xM P T,dst with
 |some (e,t,b),some q=> .guard (s.di q) (.mn (decide (0<=len/\len<=cap) && dT cap.toNat b)
   (.ok ((s.born q [.obj 0 false (.vec e t (List.replicate len.toNat t.zero))]).put dst (.cD (.new q 0) 0 [] 0 0 len.toNat))))
 |_,_=> .fail
def KX(P:Program)(T:TypeId):Bool:=
 match P.underlying T with
 |some (.struct fs)=>fs.toList.any λf=>match P.underlying f.type with | some (.pointer u)=>decide (u=T) | _=>false
 |_=>false
def boxed(P:Program)(T:TypeId)(z:av):av:=match KX P T with | true=> .bx T 0 z | false=>z
def Mk(dt:Bool)(t:Ty)(x:t.den):av:=match dt with | true=> .d (.l6 t) (some x) | false=> .eO t x
def CL(P:Program)(s:AS)(obj dt:Bool)(dst:Option Tmp)(T:TypeId)(v:av):Out AS:=
 match dst with
 |some q=>match obj with
  |true=> .guard (s.di q && fits P T v) (.ok ((s.born q [.obj 0 false v]).put dst (.ptr (.new q 0) 0 [] 0)))
  |false=>match Es P depth T with
   |some t=> .guard (fits P T (.d t t.zero)) ((s.fZ t v).bind λx=> .ok ((s.aQ v.shared).put dst (Mk dt t x)))
   |none=> .fail
 |none=> .fail
def uu(P:Program)(s:AS)(dst:Option Tmp)(T:TypeId)(x:av):Out AS:=
 match P.underlying T with
 |some (.array n e)=>match Es P depth e with
  |some t=> .guard ((P.cellsOf e==t.size) && !(n==0) && !(t.size==0)) ((s.fZ (.slice t) x).bind λl=> .mn (decide (n<=(l:List t.den).length)) (.ok ((s.aQ x.shared).put dst (.eO (.arr n t) (l.take n)))))
  |none=> .fail
 |_=> .fail
def ln(s:AS):List Operand->av
 |[]=> .nil
 |x::xs=> .cons (s.ev x) (ln s xs)
def oS:av->Bool
 | .cons a b=>a.dK && oS b
 | .nil=>true
 |_=>false
def GK(c a b:av):Out av:=
 match c with
 | .d .bool c=>match a,b with
  | .d .bool x,.d .bool y=> .ok (.d .bool (bif c then x else y))
  |a,b=> .br c (.ok a) (.ok b)
 |_=> .fail
def isObj(bo:List Nat):Option Tmp->Bool
 |some q=>bo.any λx=>decide (x=q)
 |none=>false
def Hu(bo:List Nat)(dst:Option Tmp):Bool:=isObj bo (dst.map (· +100000))
def Fl(bo:List Nat)(dst:Option Tmp):Bool:=isObj bo (dst.map (· +200000))
def kC:(t:Ty)->av->Out t.den
 |t,.d t' x=>Out.opt (mC t' t x)
 | .slice _,.db=> .ok []
 | .pair a b,.pr x y=>(kC a x).bind λx=>(kC b y).bind λy=> .ok (x,y)
 |_,_=> .fail
def mapOf(P:Program)(T:TypeId):Option (TypeId×TypeId×Ty×Ty):=
 match P.underlying T with
 |some (.map K V)=>match Es P depth K,Es P depth V with
  |some kt,some vt=>match lH P depth K kt && Cp P V (.d vt vt.zero) with | true=>some (K,V,kt,vt) | false=>none
  |_,_=>none
 |_=>none
def fP{β:Type}(kt:Ty)(x:kt.den):List (kt.den×β)->Option Nat
 |[]=>none
 |p::l=>match kt.beq x p.1 with | true=>some 0 | false=>(fP kt x l).map (· +1)
def dD{β:Type}(kt:Ty)(x:kt.den)(l:List (kt.den×β)):Option β:=(fP kt x l).bind λi=>(l[i]?).map (·.2)
def gX{β:Type}(kt:Ty)(x:kt.den)(v:β)(l:List (kt.den×β)):List (kt.den×β):=
 match fP kt x l with | some i=>l.set i (x,v) | none=>l++ [(x,v)]
def jV{β:Type}(kt:Ty)(x:kt.den)(l:List (kt.den×β)):List (kt.den×β):=
 match fP kt x l with | some i=>l.eraseIdx i | none=>l
def EU(k v k' v':Ty)(l:List (k.den×v.den)):Option (List (k'.den×v'.den)):=if h:k=k'/\v=v' then some (h.1▸h.2▸l) else none
def AS.mc(s:AS)(id:Id)(ver:Nat)(kt vt:Ty):Out (List (kt.den×vt.den)):=
 match s.obj id with
 |some (v,_,.mp k' v' l)=> .guard (v==ver) (Out.opt (EU k' v' kt vt l))
 |_=> .fail
def AS.ml(s:AS)(id:Id):Bool:=match s.obj id with | some (_,fr,_)=> !fr | none=>false
def LR(vt:Ty)(ok:Bool)(r:Option vt.den):av:=
 match ok with
 |true=> .cons (.d vt (r.getD vt.zero)) (.cons (.d .bool r.isSome) .nil)
 |false=> .d vt (r.getD vt.zero)
def sj(P:Program)(s:AS)(dst:Option Tmp)(T:TypeId):Out AS:=
 match mapOf P T,dst with
 |some (_,_,kt,vt),some q=> .guard (s.di q) (.ok ((s.born q [.obj 0 false (.mp kt vt [])]).put dst (.lF (.new q 0) 0)))
 |_,_=> .fail
def qR(P:Program)(s:AS)(T:TypeId)(m k:av)(ok:Bool):Out av:=
 match mapOf P T,m with
 |some (_,_,kt,vt),.lF id ver=>(s.mc id ver kt vt).bind λl=>(kC kt k).bind λk=> .ok (LR vt ok (dD kt k l))
 |_,_=> .fail
def qV(P:Program)(s:AS)(T:TypeId)(m k v:av):Out AS:=
 match mapOf P T,m with
 |some (_,_,kt,vt),.lF id ver=>(s.mc id ver kt vt).bind λl=>(kC kt k).bind λk=>(kC vt v).bind λv=> .guard (s.ml id) (.ok (s.aH id (.obj ver false (.mp kt vt (gX kt k v l)))))
 |_,_=> .fail
def qU(P:Program)(s:AS)(T:TypeId)(m k:av):Out AS:=
 match mapOf P T,m with
 |some (_,_,kt,vt),.lF id ver=>(s.mc id ver kt vt).bind λl=>(kC kt k).bind λk=> .guard (s.ml id) (.ok (s.aH id (.obj ver false (.mp kt vt (jV kt k l)))))
 |_,_=> .fail
def AS.DB(s:AS)(id:Id)(ver:Nat):Bool:=match s.obj id with | some (v,true,.mp ..)=>v==ver | _=>false
def de.Ja(q:Id):de->Bool
 | .obj _ _ (.lR q' ver _ _ _ _)=>decide (q'=q) && !(ver==0)
 |_=>false
def AS.zm(s:AS)(q:Id):Bool:=s.bT.any (de.Ja q) || s.news.any λes=>es.any (de.Ja q)
def Ca(kt vt:Ty)(l:List (kt.den×vt.den))(j:Nat):kt.den×vt.den:=l.getD j (kt.zero,vt.zero)
def FK(P:Program)(s:AS)(dst:Option Tmp)(T:TypeId)(m:av):Out AS:=
 match mapOf P T,m,dst with
 |some (_,_,kt,vt),.lF id ver,some q=>(s.mc id ver kt vt).bind λl=> .guard (s.ml id && s.di q)
   (.ok (((s.aH id (.obj ver true (.mp kt vt l))).born q [.obj 0 false (.lR id (ver+1) kt vt l none)]).put dst (.ptr (.new q 0) 0 [] 0)))
 |_,_,_=> .fail
structure GU where
 i:Id
 v:Nat
 fr:Bool
 q:Id
 vr:Nat
 kt:Ty
 vt:Ty
 rest:List (kt.den×vt.den)
 cur:Option (kt.den×vt.den)
def AS.I9(s:AS)(x:av):Option GU:=
 match x with
 | .ptr i ver [] 0=>match s.obj i with
  |some (v,fr,.lR q (vr+1) kt vt rest cur)=>match v==ver,s.DB q vr with
   |true,true=>some ⟨i,v,fr,q,vr,kt,vt,rest,cur⟩
   |_,_=>none
  |_=>none
 |_=>none
def E2(s:AS)(x:av):Out av:=
 match s.I9 x with
 |some ⟨_,_,_,_,_,kt,vt,_,some c⟩=> .ok (.cons (.d kt c.1) (.cons (.d vt c.2) .nil))
 |_=> .fail
def AS.drawn(s:AS)(t:GU)(dst:Option Tmp)(j:Nat):AS:=
 (s.aH t.i (.obj t.v t.fr (.lR t.q (t.vr+1) t.kt t.vt (t.rest.eraseIdx j) (some (Ca t.kt t.vt t.rest j))))).put dst
  (.cons (.d .bool true) (.cons (.d t.kt (Ca t.kt t.vt t.rest j).1) (.cons (.d t.vt (Ca t.kt t.vt t.rest j).2) .nil)))
def AS.unlock(s:AS)(id:Id):AS:=match s.obj id with | some (v,_,c)=>s.aH id (.obj v false c) | none=>s
def AS.KR(s:AS)(t:GU)(dst:Option Tmp):Option AS:=
 match(s.aH t.i (.obj t.v t.fr (.lR t.q 0 t.kt t.vt [] none))).zm t.q with
 |false=>some (((s.aH t.i (.obj t.v t.fr (.lR t.q 0 t.kt t.vt [] none))).unlock t.q).put dst (.cons (.d .bool false) .nil))
 |true=>none
open Classical in
def Qy{R:Type}(n:Nat)(k:Nat->Option R):Option R:=if h:∃r,0 < n/\∀j,j < n->k j=some r then some h.choose else none
open Classical in
def Mr{X R:Type}(S:X->Prop)(k:X->Option R):Option R:=if h:∃r,(∃x,S x)/\∀x,S x->k x=some r then some h.choose else none
def Jt{R:Type}(s:AS)(dst:Option Tmp)(t:GU)(k:AS->Option R):Option R:=
 aK (decide (0 < t.rest.length)) (Qy t.rest.length λj=>k (s.drawn t dst j)) (match s.KR t dst with | some s'=>k s' | none=>none)
def yB:Nat:=4294967296
def kA(P:Program)(Γ:nG)(bo:List Nat)(o:Oper)(s:AS):Out AS:=
 match o.op with
 | .move x=> .ok (s.put o.dst (s.ev x))
 | .assign x=> .ok (s.put o.dst (s.ev x))
 | .pick c a b=>(GK (s.ev c) (s.ev a) (s.ev b)).bind λv=> .ok (s.put o.dst v)
 | .alloc T=>match zeroOf P depth T,o.dst with
  |some z,some q=> .guard (s.di q && Cp P T z) (.ok ((s.born q [.obj 0 false (boxed P T z)]).put o.dst (.ptr (.new q 0) 0 [] 0)))
  |_,_=> .fail
 | .box T x=>CL P s (isObj bo o.dst) (Fl bo o.dst) o.dst T (s.ev x)
 | .build T parts=>rR P s o.dst T parts.toList
 | .buildSlice T n parts=>jg P s (Hu bo o.dst) (isObj bo o.dst) o.dst T n parts.toList
 | .load T x=>(uZ P s T (s.ev x)).bind λv=> .ok (s.put o.dst v)
 | .store T x v=>(sB P s T (s.ev x) (s.ev v)).bind λs'=> .ok (s'.put o.dst .undef)
 | .nilCheck x=>match s.ev x with
  | .ptr id v p n=> .ok (s.put o.dst (.ptr id v p n))
  | .eO t y=> .ok (s.put o.dst (.eO t y))
  | .d (.l6 t) y=> .get (y:Option t.den) λy=> .ok (s.put o.dst (.eO t y))
  | .fn f c=> .ok (s.put o.dst (.fn f c))
  |_=> .fail
 | .binOp op T x y _=>match s.ev x,s.ev y with
  | .ptr i v [] 0,.ptr j w [] 0=>(NQ P s T op i v j w).bind λv=> .ok (s.put o.dst v)
  |_,_=>(Mi P T op (s.ev x) (s.ev y)).bind λv=> .ok (s.put o.dst v)
 | .unOp op _ x=>(Qc op (s.ev x)).bind λv=> .ok (s.put o.dst v)
 | .convert src dst x=>match src==dst,s.ev x with
  |true,.cD id ver [] 0 0 len=>CU P s o.dst src dst id ver len
  |_,.ptr id ver [] 0=>(AI P s src dst id ver).bind λv=> .ok (s.put o.dst v)
  |_,_=>(AH P s (isObj bo o.dst) src dst (s.ev x)).bind λv=> .ok (s.put o.dst v)
 | .sliceToArrayPointer T x=>uu P s o.dst T (s.ev x)
 | .makeFunc (.func f) first caps=> .guard (first.isEmpty && oS (ln s caps.toList)) (.ok (s.put o.dst (.fn f (ln s caps.toList))))
 | .makeSlice T l c=>(asInt (s.ev l)).bind λl=>(asInt (s.ev c)).bind λc=>lE P s o.dst T l c
 | .slice T x lo hi none=>(sA P s T (s.ev x) lo hi).bind λv=> .ok (s.put o.dst v)
 | .slice T x lo (some h) (some m)=>(vG P s T (s.ev x) lo h m).bind λv=> .ok (s.put o.dst v)
 | .fieldAddr T x f=>(qN P T (s.ev x) f).bind λv=> .ok (s.put o.dst v)
 | .field T x f=>(BM P T (s.ev x) f).bind λv=> .ok (s.put o.dst v)
 | .indexAddr T x i=>(asInt (s.ev i)).bind λi=>(lA P s T (s.ev x) i).bind λv=> .ok (s.put o.dst v)
 | .index T x i=>(asInt (s.ev i)).bind λi=>(BY P T (s.ev x) i).bind λv=> .ok (s.put o.dst v)
 | .extract x i=>(Out.opt ((s.ev x).list[i]?)).bind λv=> .ok (s.put o.dst v)
 | .makeMap T none=>sj P s o.dst T
 | .lookup T x i ok=>(qR P s T (s.ev x) (s.ev i) ok).bind λv=> .ok (s.put o.dst v)
 | .mapUpdate T m k x=>(qV P s T (s.ev m) (s.ev k) (s.ev x)).bind λs'=> .ok (s'.put o.dst .undef)
 | .call c=>match c.callee with
  | .builtin .delete=>match c.args.toList,c.argTypes.toList with
   |[m,k],[T,_]=>(qU P s T (s.ev m) (s.ev k)).bind λs'=> .ok (s'.put o.dst .nil)
   |_,_=> .fail
  | .builtin .copy=>match c.args.toList,c.argTypes.toList with
   |[x,y],[T,X]=>yo P s o.dst T X (s.ev x) (s.ev y)
   |_,_=> .fail
  | .builtin .len=>match c.args.toList,c.argTypes.toList with
   |[x],[T]=>(KG P T (s.ev x)).bind λv=> .ok (s.put o.dst v)
   |_,_=> .fail
  | .builtin .append=>match c.args.toList,c.argTypes.toList with
   |[x,y],[T,X]=>match s.ev x,s.ev y with
    | .db,.d (.int _) n=>De P s o.dst T X n
    |_,_=>oa P s (Hu bo o.dst) (Fl bo o.dst) o.dst T X (s.ev x) (s.ev y)
   |_,_=> .fail
  | .builtin .cap=>match c.args.toList,c.argTypes.toList with
   |[x],[T]=>match s.ev x,P.underlying T with
    | .db,some (.slice _)=> .ok (s.put o.dst (.d (.int .i64) (0:Int)))
    |_,_=> .fail
   |_,_=> .fail
  | .builtin .max=>(Hz true (c.args.toList.map s.ev)).bind λv=> .ok (s.put o.dst v)
  | .builtin .min=>(Hz false (c.args.toList.map s.ev)).bind λv=> .ok (s.put o.dst v)
  | .builtin .unsafeSliceData=>match c.args.toList with
   |[x]=>match s.ev x with
    | .cD id ver [] 0 0 len=> .mn (decide (0 < len)) (.ok (s.put o.dst (.ptr id ver [.idx 0] 0)))
    |_=> .fail
   |_=> .fail
  | .builtin .unsafeString=>match c.args.toList,c.argTypes.toList with
   |[x,y],[T,_]=>match s.ev x,s.ev y with
    | .ptr id ver [.idx 0] 0,.d (.int .i64) n=>Em P s o.dst T id ver n
    |_,_=> .fail
   |_,_=> .fail
  | .value f=>match s.ev f with
   | .fn f caps=>match Γ f (c.args.toList.map s.ev++caps.list) with
    |some en=> .guard (Nat.blt f yB) (s.call en o.dst (c.args.toList.map s.ev++caps.list))
    |none=> .fail
   |_=> .fail
  |_=> .fail
 |_=> .fail
def xX(xs:Array Operand):List Nat:=xs.toList.filterMap λ | .tmp t=>some t | _=>none
def wg(ops:Array Oper)(o:Oper):List Nat:=
 match o.guard with
 |some (j,_)=>match(ops[j]?).bind (·.dst) with | some t=> [t] | none=> []
 |none=> []
def Kq{R:Type}(P:Program)(Γ:nG)(bo:List Nat)(ops:Array Oper)(o:Oper)(s:AS)(k:AS->Option R):Option R:=
 match o.guard with
 |none=>(kA P Γ bo o s).run k
 |some (j,want)=>match(ops[j]?).bind (·.dst) with
  |some q=>match s.slot q with
   | .d .bool b=>match want with
    |true=>aK b ((kA P Γ bo o (s.put (some q) (.d .bool true))).run k) (k ((s.put (some q) (.d .bool false)).put o.dst .nil))
    |false=>aK b (k ((s.put (some q) (.d .bool true)).put o.dst .nil)) ((kA P Γ bo o (s.put (some q) (.d .bool false))).run k)
   | .nil=>k (s.put o.dst .nil)
   |_=>none
  |none=>none
def zi(s:AS)(x y:Operand):Option Nat:=
 match s.ev x,s.ev y with
 | .d (.slice t) l,.db=>some (l:List t.den).length
 | .db,.d (.slice t) l=>some (l:List t.den).length
 | .cD _ _ _ _ _ len,.db=>some len
 | .db,.cD _ _ _ _ _ len=>some len
 |_,_=>none
open Classical in
def nd{R:Type}(x y:Option R):Option R:=if x=y then x else none
def xp:Code->List (Array Tmp×Code×Code)
 | .seq a b=>xp a++xp b
 | .cond _ a b=>xp a++xp b
 | .block _ b=>xp b
 | .scope b=>xp b
 | .loop b=>xp b
 | .rangeFunc _ ps as b=> [(ps,as,b)]
 |_=> []
def RJ(fn:Func)(i y:Nat):mA:=match fn.body with
 |some c=>match(xp c)[i]? with
  |some x=>⟨y,x.1,x.2.1,x.2.2⟩
  |none=>⟨y,#[],.skip,.skip⟩
 |none=>⟨y,#[],.skip,.skip⟩
def rh(P:Program)(y:Nat):mA:=match P.funcs[y%yB / 16]? with
 |some fn=>RJ fn (y%16) y
 |none=>⟨y,#[],.skip,.skip⟩
open Classical in
def same{R:Type}(c c':mA)(x:Option R):Option R:=if c=c' then x else none
def AS.yielded(s:AS)(F:av)(n:Nat):Option (Id×Nat×mA×av):=
 match F with
 | .yl id ver=>match s.obj id with
  |some (v,false,.nH c f 0)=>match v==ver && n==c.ps.size && Nat.ble yB c.y with
   |true=>some (id,ver,c,f)
   |false=>none
  |_=>none
 |_=>none
def Kr{R:Type}(P:Program)(Γ:nG)(bo:List Nat)(ops:Array Oper)(o:Oper)(s:AS)(k:AS->Option R):Option R:=
 match o.guard,o.op with
 |none,.binOp .eql T x y _=>match zi s x y,pG.isSl P T with
  |some n,true=>aK (decide (0 < n)) (k (s.put o.dst (.d .bool false))) (nd (k (s.put o.dst (.d .bool true))) (k (s.put o.dst (.d .bool false))))
  |_,_=>Kq P Γ bo ops o s k
 |none,.binOp .neq T x y _=>match zi s x y,pG.isSl P T with
  |some n,true=>aK (decide (0 < n)) (k (s.put o.dst (.d .bool true))) (nd (k (s.put o.dst (.d .bool true))) (k (s.put o.dst (.d .bool false))))
  |_,_=>Kq P Γ bo ops o s k
 |none,.range T m=>(FK P s o.dst T (s.ev m)).run k
 |none,.entry x=>((E2 s (s.ev x)).bind λv=> .ok (s.put o.dst v)).run k
 |none,.next x false=>match s.I9 (s.ev x) with
  |some t=>Jt s o.dst t k
  |none=>none
 |none,.call c=>match c.callee with
  | .value F=>match s.yielded (s.ev F) c.args.size with
   |some (id,ver,rc,f)=>match Γ rc.y (.yl id ver::(c.args.toList.map s.ev++f.list)) with
    |some en=>same rc (rh P rc.y) ((s.call en o.dst (.yl id ver::(c.args.toList.map s.ev++f.list))).run k)
    |none=>none
   |none=>Kq P Γ bo ops o s k
  |_=>Kq P Γ bo ops o s k
 |_,_=>Kq P Γ bo ops o s k
def seen{α R:Type}(l:List α):(List α->R)->R:=List.rec (motive:=λ_=>(List α->R)->R) (λk=>k []) (λx _ ih k=>ih λl'=>k (x::l')) l
theorem vB{α R:Type}:∀(l:List α) (k:List α->R),seen l k=k l
 |[],_=>rfl
 |_::l,k=>vB l _
def AS.seen{R:Type}(s:AS)(k:AS->R):R:=Go.Ab.seen s.bR λl=>k ⟨l,s.bT,s.news⟩
theorem AS.vB{R:Type}(s:AS)(k:AS->R):s.seen k=k s:=Go.Ab.vB _ _
def Ks{R:Type}(P:Program)(Γ:nG)(bo:List Nat)(ops:Array Oper):List Oper->AS->(AS->Option R)->Option R
 |[],s,k=>k s
 |o::l,s,k=>Kr P Γ bo ops o s λs'=>s'.seen λs'=>Ks P Γ bo ops l s' k
def BC(acc:List Nat)(o:Oper):Nat:=(o.after.toList.filter (Region.binds .any)).foldr (λe m=>Nat.lor (Nat.lor (Nat.pow 2 e.on) (acc.getD e.on 0)) m) 0
def CG(ops:List Oper):List Nat:=ops.foldl (λacc o=>acc++ [BC acc o]) []
structure rK where
 dst:Option Tmp
 bR:List Nat
 rs:List Id
 ws:List Id
def A9:Op->Bool
 | .move _=>true
 |_=>false
def DR(s:AS)(o:Oper):List Id:=match A9 o.op with | true=> [] | false=>(xX o.op.operands).flatMap λi=>(s.slot i).ids
def mV:List (Option Ty)->List av->List Id
 |none::ps,v::vs=>v.ids++mV ps vs
 |some _::ps,_::vs=>mV ps vs
 |_,_=> []
def writes(Γ:nG)(s:AS)(o:Oper):List Id:=
 match o.op with
 | .store _ x _=>(s.ev x).ids
 | .mapUpdate _ m _ _=>(s.ev m).ids
 | .convert src dst x=>match src==dst with | true=>(s.ev x).ids | false=> []
 | .call c=>match c.callee with
  | .builtin .append=>match c.args.toList with | x::_=>(s.ev x).ids | []=> []
  | .builtin .delete=>match c.args.toList with | x::_=>(s.ev x).ids | []=> []
  | .builtin .copy=>match c.args.toList with | x::_=>(s.ev x).ids | []=> []
  | .builtin .unsafeString=>match c.args.toList with | x::_=>(s.ev x).ids | []=> []
  | .value F=>match s.ev F with
   | .fn f caps=>match Γ f (c.args.toList.map s.ev++caps.list) with
    |some en=>s.reach 64 (mV en.params (c.args.toList.map s.ev++caps.list)) []
    |none=> []
   |_=> []
  |_=> []
 |_=> []
def fk(Γ:nG)(ops:Array Oper)(s:AS)(o:Oper):rK:=
 {dst:=o.dst,bR:=xX o.op.operands++wg ops o,rs:=DR s o++writes Γ s o,ws:=writes Γ s o}
def meets(xs ys:List Id):Bool:=xs.any λx=>ys.any λy=>decide (x=y)
def rK.O0(f g:rK):Bool:=
 match f.dst with
 |some t=>(g.bR.any λx=>decide (x=t)) || decide (g.dst=some t)
 |none=>false
def zy(d:Option Tmp)(ids:List Id):Bool:=
 match d with
 |some q=>ids.any λx=>match x with | .new i _=>decide (i=q) | .dd _=>false
 |none=>false
def rK.indep(f g:rK):Bool:= !f.O0 g && !g.O0 f && !meets f.ws g.rs && !meets g.ws f.rs && !zy f.dst g.rs && !zy g.dst f.rs
def AV{R:Type}(P:Program)(Γ:nG)(bo:List Nat)(ops:Array Oper)(anc:List Nat):Nat->List Oper->List (Nat×rK)->AS->(AS->Option R)->Option R
 |_,[],_,s,k=>k s
 |i,o::l,fs,s,k=>
  match fs.all λx=>(anc.getD i 0).testBit x.1 || x.2.indep (fk Γ ops s o) with
  |true=>Kq P Γ bo ops o s λs'=>s'.seen λs'=>AV P Γ bo ops anc (i+1) l ((i,fk Γ ops s o)::fs) s' k
  |false=>none
def BH(ops:List Oper):Bool:=ops.zipIdx.all λx=>x.1.after.toList.all λe=> !Region.binds .any e || decide (e.on < x.2)
structure Ka where
 j:Nat
 p:List sW
 q:Nat
 T:TypeId
structure PO where
 j:Nat
 p:List sW
 t:Ty
structure jQ where
 bI:List Nat:=[]
 sites:List Nat:=[]
 E8:List Id:=[]
 data:List (Nat×Ty):=[]
 owns:List Ka:=[]
 EZ:List PO:=[]
 Sq:List Nat:=[]
 Oq:List Id:=[]
 SD:List Nat:=[]
 TF:List Nat:=[]
 Mj:List (Nat×Nat):=[]
structure eE where
 X:Type
 run:AS->Option X
 out:X->Out (Exit×AS)
 set:Option (AS->X->Prop):=none
structure yd where
 an:jQ
 X:Type
 N6:Exit->AS->Option X
 out:X->Out (Exit×AS)
 ok:∀e s x,N6 e s=some x->(out x).eval=some (e,s)
structure th where
 bo:List Nat:=[]
 loops:Nat->jQ:=λ_=> {}
 outs:Nat->Bool->jQ:=λ_ _=> {}
 jP:Nat->Option eE:=λ_=>none
 owns:List Ka:=[]
 trim:List Nat:=[]
 res:List (Option Ty):=[]
 EZ:List PO:=[]
 Pw:Nat->Option yd:=λ_=>none
 LQ:Nat->Option yd:=λ_=>none
 rf:Nat->Option (Nat×List Nat):=λ_=>none
 oG:Option Nat:=none
 Mj:List (Nat×Nat):=[]
def dj:Code->Nat
 | .region id _ _=>id
 | .seq a _=>dj a
 | .block _ b=>dj b
 | .loop b=>dj b
 | .scope b=>dj b
 |_=>0
def dG(bI:List Nat):Nat->List av->List av
 |_,[]=> []
 |i,v::vs=>(match bI.any (λx=>decide (x=i)) with | true=>v | false=> .undef)::dG bI (i+1) vs
def jL(bI:List Nat):Nat->List (List de)->List (List de)
 |_,[]=> []
 |i,v::vs=>(match bI.any (λx=>decide (x=i)) with | true=>v | false=> [])::jL bI (i+1) vs
def av.head:av->Option (Id×Nat)
 | .cD id ver [] 0 0 _=>some (id,ver)
 | .ptr id ver [] 0=>some (id,ver)
 |_=>none
def vn(es:List de)(b q:Nat)(i:Id)(ver:Nat):Option (Id×Nat):=
 match i with
 | .dd k=>some (.dd k,ver)
 | .new x j=>match decide (x=b) with
  |true=>(match es[j]? with | some (.obj v _ _)=>(match ver==v with | true=>some (.new q j,0) | false=>none) | _=>none)
  |false=>(match decide (x=q) with | true=>none | false=>some (.new x j,ver))
def de.KW(ρ:Id->Nat->Option (Id×Nat)):de->de
 | .obj _ fr c=> .obj 0 fr (c.fS ρ)
 | .dead=> .dead
def av.Ns(ρ:Id->Nat->Option (Id×Nat))(kp:Id->Bool):av->av
 | .lR q ver k v rest cur=>match kp q with | true=> .lR q ver k v rest cur | false=> .lR q 0 k v rest cur
 |c=>c.fS ρ
def de.Ao(ρ:Id->Nat->Option (Id×Nat))(kp:Id->Bool):de->de
 | .obj v fr c=> .obj v fr (c.Ns ρ kp)
 | .dead=> .dead
def sP(b q:Nat):Id->Bool | .dd _=>true | .new x _=> !decide (x=b) && !decide (x=q)
def AS.sx(s:AS)(b q:Nat)(es:List de):AS:=
 {bR:=s.bR.map (av.fS (vn es b q)),bT:=s.bT.map (de.Ao (vn es b q) (sP b q)),
  news:=((s.news.map λes'=>es'.map (de.Ao (vn es b q) (sP b q))).set b []).set q (es.map (de.KW (vn es b q)))}
def AS.at(s:AS)(j:Nat):List sW->Out av
 |[]=> .ok (s.slot j)
 |p=>match s.slot j with
  | .ptr id ver p0 _=>match s.obj id with
   |some (v,_,c)=> .guard (v==ver) ((loc c.strip (p0++p)).bind λr=> .ok r.2)
   |none=> .fail
  |_=> .fail
def AS.putAt(s:AS)(j:Nat)(v:av):List sW->Out AS
 |[]=> .ok (s.put (some j) v)
 |p=>match s.slot j with
  | .ptr id _ p0 _=>match s.obj id with
   |some (ver,fr,c)=>match c.strip with
    | .vec .. => .fail
    |c1=>(nZ c1 (p0++p) v).bind λc'=> .ok (s.aH id (.obj ver fr (c.wrap c')))
   |none=> .fail
  |_=> .fail
def AS.still(s:AS):List Nat->AS
 |[]=>s
 |q::l=>(match s.obj (.new q 0) with | some (v,fr,.lR i ver k t r _)=>s.aH (.new q 0) (.obj v fr (.lR i ver k t r none)) | _=>s).still l
def Jz(α:Type):Setoid (List α):=⟨List.Perm,jZ,List.Perm.symm,List.Perm.trans⟩
def ET{α:Type}(l:List α):List α:=(Quotient.exists_rep (Quotient.mk (Jz α) l)).choose
def AS.canon(s:AS):List Id->AS
 |[]=>s
 |id::l=>(match s.obj id with | some (v,fr,.mp k t r)=>s.aH id (.obj v fr (.mp k t (ET r))) | _=>s).canon l
def wW(s:AS):List PO->Out AS
 |[]=> .ok s
 |o::l=>match o.p,s.slot o.j with
  |_::_,.lP=>wW s l
  |_,_=>(s.at o.j o.p).bind λu=>(s.fZ o.t u).bind λx=>((s.aQ u.shared).putAt o.j (.d o.t x) o.p).bind λs'=>wW s' l
def uM:(t:Ty)->t.den->Out av
 | .fD t,x=> .mn (x:Option (List t.den)).isNone (.ok .db)
 | .pair a b,x=>(uM a x.1).bind λu=>(uM b x.2).bind λv=> .ok (u9 u v)
 |t,x=> .ok (.d t x)
def Hf(s:AS):List Nat->Out AS
 |[]=> .ok s
 |j::l=>match s.slot j with
  | .ptr id ver (.idx k::p) n=>match s.obj id with
   |some (v,false,.vec e t r)=> .guard (v==ver) (.mn (decide (k < r.length)) ((uM t (nth t r k)).bind λu=>
     Hf ((s.aH id (.obj v false (.bx e t.size (.pr (.d (.arr k t) (r.take k)) (.pr u (.d (.arr (r.drop (k+1)).length t) (r.drop (k+1)))))))).put (some j) (.ptr id ver (.snd:: .fst::p) n)) l))
   |_=> .fail
  | .ptr _ _ (.snd::_) _=>Hf s l
  |_=> .fail
def JW(s:AS):List Nat->Out AS
 |[]=> .ok s
 |j::l=>match s.slot j with
  | .ptr id ver (.snd:: .fst::p) n=>match s.obj id with
   |some (v,false,.bx e z (.pr (.d (.arr k t) l1) (.pr u (.d (.arr _ t') l2))))=> .guard ((v==ver) && (z==t.size) && !(z==0) && !(u.shared.any λi=>decide (i=id)))
     ((Out.opt (mC (.slice t') (.slice t) l2)).bind λl2=>(s.fZ t u).bind λx=>
      JW (((s.aQ u.shared).aH id (.obj v false (.vec e t (l1++x::l2)))).put (some j) (.ptr id ver (.idx k::p) n)) l)
   |_=> .fail
  |_=> .fail
def oF(P:Program)(s:AS):List Ka->Out AS
 |[]=> .ok s
 |o::l=>match o.p,s.slot o.j with
  |_::_,.lP=>oF P s l
  |_,_=>(s.at o.j o.p).bind λu=>match u with
  | .db=>match BI P o.T,s.di o.q with
   |some (e,t,_),true=>((s.born o.q [.obj 0 false (.vec e t [])]).putAt o.j (.cD (.new o.q 0) 0 [] 0 0 0) o.p).bind λs'=>oF P s' l
   |_,_=> .fail
  |u=>match u.head with
   |some (.new b j,ver)=>match s.obj (.new b j),decide (o.q < s.news.length) with
    |some (v,_,_),true=>match v==ver with
     |true=>oF P (s.sx b o.q (s.news.getD b [])) l
     |false=> .fail
    |_,_=> .fail
   |_=> .fail
def Bq(s:AS):List Nat->Out AS
 |[]=> .ok s
 |j::l=>match s.slot j with
  | .cD id ver [] 0 0 len=>match s.obj id with
   |some (v,false,.vec e t r)=>match v==ver with
    |true=> .mn (decide (len<=r.length)) (Bq (s.aH id (.obj v false (.vec e t (r.take len)))) l)
    |false=> .fail
   |_=> .fail
  |_=> .fail
def asData(s:AS):List (Nat×Ty)->Out AS
 |[]=> .ok s
 | (j,t)::l=>(s.fZ t (s.slot j)).bind λx=>asData ((s.aQ (s.slot j).shared).put (some j) (.d t x)) l
def av.there(s:AS):av->Bool
 | .ptr id _ _ _=>(s.obj id).isSome
 | .cD id _ _ _ _ _=>(s.obj id).isSome
 | .pr a b=>a.there s && b.there s
 | .cons a b=>a.there s && b.there s
 | .fn _ c=>c.there s
 | .bx _ _ c=>c.there s
 | .lF id _=>(s.obj id).isSome
 | .yl id _=>(s.obj id).isSome
 | .nH _ f _=>f.there s
 | .lR .. =>false
 |_=>true
def de.there(s:AS):de->Bool
 | .obj _ _ (.lR id _ _ _ _ _)=>(s.obj id).isSome
 | .obj _ _ c=>c.there s
 | .dead=>true
def uW(an:jQ)(s:AS):AS:= {bR:=dG an.bI 0 s.bR,bT:=s.bT,news:=jL an.sites 0 s.news}
def AS.CD(s:AS):Bool:=(s.bR.all (av.there s)) && (s.bT.all (de.there s)) && (s.news.all λes=>es.all (de.there s))
def nf(k v n:Nat)(i:Id)(ver:Nat):Option (Id×Nat):=match i with
 | .dd j=>match Nat.beq j k with
  |true=>match Nat.beq ver v with | true=>some (.dd j,n) | false=>none
  |false=>some (.dd j,ver)
 |i=>some (i,ver)
def de.FO(ρ:Id->Nat->Option (Id×Nat)):de->de
 | .obj v fr c=> .obj v fr (c.fS ρ)
 | .dead=> .dead
def AS.Iy(s:AS)(k n:Nat):Out AS:=match s.bG (.dd k) with
 |some (.obj v fr c)=> .guard (Nat.ble v n || Nat.ble 1 n) (.ok {bR:=s.bR.map (av.fS (nf k v n)),bT:=(s.bT.map (de.FO (nf k v n))).set k (.obj n fr (c.fS (nf k v n))),news:=s.news.map λes=>es.map (de.FO (nf k v n))})
 |_=> .fail
def CP(s:AS):List (Nat×Nat)->Out AS
 |[]=> .ok s
 |x::l=>(s.Iy x.1 x.2).bind λs=>CP s l
def norm(P:Program)(an:jQ)(s:AS):Out AS:=
 (CP s an.Mj).bind λs=>(JW (((s.aQ an.E8).still an.Sq).canon an.Oq) an.TF).bind λs=>(wW s an.EZ).bind λs=>(asData s an.data).bind λs=> .guard (uW an s).CD ((Hf (uW an s) an.SD).bind λs=>oF P s an.owns)
def xc{R:Type}(nrm:AS->Out AS)(nrmX:Exit->AS->Out AS)(body:AS->(Exit->AS->Option R)->Option R):Nat->AS->(Exit->AS->Option R)->Option R
 | 0,_,_=>none
 |n+1,s,k=>body s λe s'=>match e with
  | .normal=>(nrm s').run λs1=>xc nrm nrmX body n s1 k
  |e=>(nrmX e s').run (k e)
def Du:Exit->Bool | .ret=>true | _=>false
def JX{R:Type}(le:eE)(s:AS)(k:Exit->AS->Option R):Option R:=
 match le.set with
 |none=>aA (le.run s) λx=>(le.out x).run λr=>k r.1 r.2
 |some S=>Mr (S s) λx=>(le.out x).run λr=>k r.1 r.2
def wo{R:Type}(P:Program)(j:Option yd)(run: {R:Type}->(Exit->AS->Option R)->Option R)(k:Exit->AS->Option R):Option R:=
 match j with
 |none=>run k
 |some j=>aA (run λe s=>(norm P j.an s).run (j.N6 e)) λx=>(j.out x).run λr=>k r.1 r.2
def oU:List av->av
 |[]=> .nil
 |a::l=> .cons a (oU l)
def D5(P:Program)(h:FuncId):Bool:=match P.funcs[h]? with
 |some fn=> !(fn.name== "runtime.NumGoroutine") && fn.body.isSome
 |none=>false
def ra{R:Type}(P:Program)(Γ:nG)(an:th)(s:AS)(f:Operand)(ps:Array Tmp)(as b:Code)(k:Exit->AS->Option R):Option R:=
 match an.oG,an.rf (ps.getD 0 0),s.ev f with
 |none,some (y,bI),.fn h caps=>match D5 P h && s.di (ps.getD 0 0) && Nat.blt (ps.getD 0 0) s.bR.length && Nat.blt h yB,Γ h (.yl (.new (ps.getD 0 0) 0) 0::caps.list) with
  |true,some en=>(((s.born (ps.getD 0 0) [.obj 0 false (.nH ⟨y,ps,as,b⟩ (oU (dG bI 0 s.bR)) 0)]).put (some (ps.getD 0 0)) (.yl (.new (ps.getD 0 0) 0) 0)).call en none (.yl (.new (ps.getD 0 0) 0) 0::caps.list)).run λs3=>
   match s3.bG (.new (ps.getD 0 0) 0),s3.slot (ps.getD 0 0) with
   |some (.obj 0 false (.nH _ _ p)),.yl (.new q' 0) 0=>match Nat.beq q' (ps.getD 0 0),p with
    |true,0=>k .normal ((s3.aH (.new (ps.getD 0 0) 0) .dead).put (some (ps.getD 0 0)) .undef)
    |true,2=>k .ret ((s3.aH (.new (ps.getD 0 0) 0) .dead).put (some (ps.getD 0 0)) .undef)
    |true,i+3=>k (.exit i) ((s3.aH (.new (ps.getD 0 0) 0) .dead).put (some (ps.getD 0 0)) .undef)
    |_,_=>none
   |_,_=>none
  |_,_=>none
 |_,_,_=>none
def ev(P:Program)(Γ:nG)(an:th)(N:Nat):Code-> {R:Type}->AS->(Exit->AS->Option R)->Option R
 | .skip,_,s,k=>k .normal s
 | .region id ops draw,_,s,k=>wo P (an.Pw id) (λk=>match draw with
  |true=>(match BH ops.toList with
   |true=>AV P Γ an.bo ops (CG ops.toList) 0 ops.toList [] s λs'=>k .normal s'
   |false=>none)
  |false=>Ks P Γ an.bo ops ops.toList s λs'=>k .normal s') k
 | .seq a b,_,s,k=>wo P (an.LQ (dj b)) (λk=>ev P Γ an N a s k) λe s'=>match e with | .normal=>ev P Γ an N b s' k | e=>k e s'
 | .cond c x y,_,s,k=>match s.ev c with
  | .d .bool b=>aK b (ev P Γ an N x s k) (ev P Γ an N y s k)
  |_=>none
 | .block id b,_,s,k=>ev P Γ an N b s λe s'=>match e with | .exit i=>(match decide (i=id) with | true=>k .normal s' | false=>k (.exit i) s') | e=>k e s'
 | .loop b,_,s,k=>(norm P (an.loops (dj b)) s).run λs1=>match an.jP (dj b) with
  |some le=>JX le s1 k
  |none=>xc (norm P (an.loops (dj b))) (λe=>norm P (an.outs (dj b) (Du e))) (ev P Γ an N b) N s1 k
 | .scope b,_,s,k=>ev P Γ an N b s λe s'=>match e with | .goto _=>none | e=>k e s'
 | .label _,_,s,k=>k .normal s
 | .exit id,_,s,k=>k (.exit id) s
 | .ret,_,s,k=>k .ret s
 | .rangeFunc f ps as b,_,s,k=>ra P Γ an s f ps as b k
 |_,_,_,_=>none
def zq(P:Program)(s:AS):ResultVar->Out av
 | .tmp t=> .ok (s.slot t)
 | .cell a T=>uZ P s T (s.slot a)
def zp(P:Program)(s:AS)(r:ResultVar):Option Ty->Out (AS×av)
 |none=>(zq P s r).bind λv=> .ok (s,v)
 |some t=>(zq P s r).bind λv=>(s.fZ t v).bind λx=> .ok (s.aQ v.shared,.d t x)
def vu(P:Program)(s:AS):List ResultVar->List (Option Ty)->Out (AS×av)
 |[],_=> .ok (s,.nil)
 |r::rs,ts=>(zp P s r (ts.headD none)).bind λx=> .guard x.2.dK ((vu P x.1 rs ts.tail).bind λy=> .ok (y.1,.cons x.2 y.2))
def Cd(P:Program)(fn:Func)(ts:List (Option Ty))(s:AS):Out (AS×av):=
 match fn.results.toList with
 |[r]=>zp P s r (ts.headD none)
 |rs=>vu P s rs ts
def iv:Code->List Code
 | .seq a b=>iv a++iv b
 | .cond _ a b=>iv a++iv b
 | .block _ b=>iv b
 | .scope b=>iv b
 | .loop b=>b::iv b
 |_=> []
def lu(fn:Func)(i:Nat):Code:=match fn.body with | some c=>(iv c).getD i .skip | none=> .skip
def wu(P:Program)(Γ:nG)(an:th)(N:Nat)(fn:Func)(i:Nat){R:Type}(s:AS)(kn:AS->Option R)(kx:Exit->AS->Option R):Option R:=
 ev P Γ an N (lu fn i) s λe s'=>match e with
  | .normal=>(norm P (an.loops (dj (lu fn i))) s').run kn
  |e=>(norm P (an.outs (dj (lu fn i)) (Du e)) s').run (kx e)
def DD(P:Program)(Γ:nG)(an:th)(N:Nat)(fn:Func)(i:Nat){R:Type}(n:Nat)(s:AS)(k:Exit->AS->Option R):Option R:=
 xc (norm P (an.loops (dj (lu fn i)))) (λe=>norm P (an.outs (dj (lu fn i)) (Du e))) (ev P Γ an N (lu fn i)) n s k
def Id.LP:Id->Bool | .new _ _=>true | .dd _=>false
def AS.wb(s:AS)(v:av):List Id:=(s.reach 64 (v.ids++s.bT.flatMap de.ids) []).filter Id.LP
def tV(ids:List Id):Id->Nat->Option (Id×Nat)
 | .dd k,v=>some (.dd k,v)
 |id,v=>match idxOf id ids with | some j=>some (.new 0 j,v) | none=>none
def de.fin(ids:List Id):de->de
 | .obj v fr c=> .obj v fr (c.fS (tV ids))
 | .dead=> .dead
def AS.Lq(s:AS)(ids:List Id)(v:av):iO:=
 {val:=v.fS (tV ids),bT:=s.bT.map (de.fin ids),news:=ids.map λid=>((s.bG id).getD .dead).fin ids}
def AS.fin(s:AS)(v:av):iO:=s.Lq (s.wb v) v
def start(fn:Func)(args:List av)(bT:List de):AS:=
 {bR:=args++List.replicate (fn.ntmps - args.length) .undef,bT,news:=List.replicate fn.ntmps []}
def JF(fn:Func):List Nat:=fn.results.toList.map λr=>match r with | .tmp t=>t | .cell a _=>a
def AS.drop(s:AS)(ks:List Nat):AS:= {bR:=dG ks 0 s.bR,bT:=s.bT,news:=s.news}
def finish(P:Program)(an:th)(fn:Func)(s:AS):Out iO:=
 (wW s an.EZ).bind λs=>(oF P (s.drop (JF fn)) an.owns).bind λs=>(Bq s an.trim).bind λs=>(CP s an.Mj).bind λs=>(Cd P fn an.res s).bind λr=> .ok (r.1.fin r.2)
def Mb(P:Program)(y:Nat):Func:= {(default:Func) with body:=some (.seq (rh P y).as (rh P y).b)}
def AS.wE(s:AS)(q p:Nat):Option AS:=match s.bG (.dd 0) with
 |some (.obj 0 false (.nH c f q'))=>(match Nat.beq q q' with | true=>some (s.aH (.dd 0) (.obj 0 false (.nH c f p))) | false=>none)
 |_=>none
def oI:List (Tmp×av)->List av->List av
 |[],l=>l
 |x::xs,l=>oI xs (l.set x.1 x.2)
def zD(ps:List Tmp)(args:List av)(bT:List de):AS:=
 {bR:=oI (ps.zip (args.take ps.length)) (args.drop ps.length),bT,news:=List.replicate (args.drop ps.length).length []}
def Lp:Exit->Option Nat
 | .normal=>some 0
 | .ret=>some 2
 | .exit i=>some (i+3)
 |_=>none
def Gk(P:Program)(an:th)(s:AS)(v:av):Out iO:=
 (wW s an.EZ).bind λs=>(oF P (s.drop []) an.owns).bind λs=>(Bq s an.trim).bind λs=>(CP s an.Mj).bind λs=> .ok (s.fin v)
def de.first:de->Bool
 | .obj v _ _=>Nat.beq v 0
 | .dead=>true
def JI(P:Program)(Γ:nG)(an:th)(N:Nat)(c:mA)(args:List av)(bT:List de){R:Type}(k:iO->Option R):Option R:=
 match args with
 | .yl (.dd 0) 0::args=>match bT.all de.first with | false=>none | true=>ev P Γ an N c.as (zD c.ps.toList args bT) λe s=>match e with
  | .normal=>aA (s.wE 0 1) λs=>ev P Γ an N c.b s λe s=>aA (Lp e) λp=>aA (s.wE 1 p) λs=>(Gk P an s (.d .bool (Nat.beq p 0))).run k
  |_=>none
 |_=>none
def GY(P:Program)(Γ:nG)(an:th)(N:Nat)(fn:Func)(args:List av)(bT:List de){R:Type}(k:iO->Option R):Option R:=
 match an.oG with
 |some y=>JI P Γ an N (rh P y) args bT k
 |none=>match fn.body with
 |some c=>match bT.all de.first with | false=>none | true=>ev P Γ an N c (start fn args bT) λe s=>match e with
  | .normal=>(finish P an fn s).run k
  | .ret=>(finish P an fn s).run k
  |_=>none
 |none=>none
end Go.Ab
namespace Go.Ab
inductive Own where
 |dx
 |id (i:Id)
inductive jm where
 |free
 |own (o:Own) (k:Nat)
structure Pl where
 b:Nat
 cap:Nat
structure Env where
 w:World
 g:Nat->jm
 β:Id->Option Pl
 s:Id->Option de
def mr(g:Nat->jm)(b off:Nat):Prop:=match g b with | .free=>True | .own _ k=>off < k
def Env.has(E:Env)(b off:Nat)(v:Value):Prop:=E.w.cell? ⟨b,off,none⟩=some v/\mr E.g b off
def aO{α:Type}(R:List Value->α->Prop):List Value->List α->Prop
 |cs,[]=>cs=[]
 |cs,x::xs=>∃c cs',cs=c++cs'/\R c x/\aO R cs' xs
def rn(E:Env)(a:Option Addr)(vs:List Value):Prop:=
 ∀i v,vs[i]? =some v->∃b off,a=some ⟨b,off,none⟩/\E.has b (off+i) v
def cG(E:Env):(t:Ty)->List Value->t.den->Prop
 | .int k,cs,x=>cs=[.int k x]
 | .bool,cs,x=>cs=[.bool x]
 | .str,cs,x=>cs=[.string x]
 | .slice t,cs,l=>∃a cap vs,cs=[.slice a (l:List t.den).length cap]/\(l:List t.den).length<=cap/\(0 < (l:List t.den).length->a.isSome=true)/\rn E a vs/\aO (cG E t) vs l
 | .unit,cs,_=>cs=[]
 | .pair a b,cs,x=>∃ca cb,cs=ca++cb/\cG E a ca x.1/\cG E b cb x.2
 | .arr n t,cs,l=>(l:List t.den).length=n/\aO (cG E t) cs l
 | .fD t,cs,x=>((x:Option (List t.den))=none->cs=[.slice none 0 0])/\∀l:List t.den,(x:Option (List t.den))=some l->
   ∃a cap vs,cs=[.slice a l.length cap]/\l.length<=cap/\(0 < l.length->a.isSome=true)/\rn E a vs/\aO (cG E t) vs l
 | .l6 t,cs,x=>((x:Option t.den)=none->cs=[.pointer none])/\∀y:t.den,(x:Option t.den)=some y->
   ∃b off vs,cs=[.pointer (some ⟨b,off,none⟩)]/\rn E (some ⟨b,off,none⟩) vs/\cG E t vs y
section
variable {α:Type} {R R':List Value->α->Prop} {z:Nat}
theorem aO.mono(h:∀c x,R c x->R' c x):∀ {cs:List Value} {l:List α},aO R cs l->aO R' cs l
 |_,[],hc=>hc
 |_,_::_,⟨c,cs',e,hx,hr⟩=>⟨c,cs',e,h _ _ hx,aO.mono h hr⟩
theorem aO.length(h:∀c x,R c x->c.length=z):∀ {cs:List Value} {l:List α},aO R cs l->cs.length=l.length*z
 |cs,[],hc=>by
  have:cs=[]:=hc
  simp[this]
 |_,x::xs,⟨c,cs',e,hx,hr⟩=>by
  rw[e,aq,h c x hx,aO.length h hr,aD,dy,je,Nat.add_comm]
theorem aO.all{p:Value->Prop}(h:∀c x,R c x->∀v∈c,p v):∀ {cs:List Value} {l:List α},aO R cs l->∀v∈cs,p v
 |cs,[],hc,v,hv=>by
  have:cs=[]:=hc
  simp[this]at hv
 |_,_::_,⟨c,cs',e,hx,hr⟩,v,hv=>by
  rw[e]at hv
  rcases bf.1 hv with hv | hv
  ·exact h _ _ hx v hv
  ·exact aO.all h hr v hv
theorem aO.append:∀ {cs:List Value} {l:List α} {cs':List Value} {l':List α},aO R cs l->aO R cs' l'->aO R (cs++cs') (l++l')
 |cs,[],_,_,hc,h'=>by
  have:cs=[]:=hc
  simpa[this]using h'
 |_,x::xs,_,_,⟨c,cs1,e,hx,hr⟩,h'=>⟨c,cs1++_,by rw[e,bg],hx,aO.append hr h'⟩
theorem aO.take(h:∀c x,R c x->c.length=z):∀ {cs:List Value} {l:List α} (n:Nat),aO R cs l->aO R (cs.take (n*z)) (l.take n)
 |cs,[],n,hc=>by
  have:cs=[]:=hc
  simp[this,aO]
 |_,x::xs,0,_=>by simp[aO]
 |_,x::xs,n+1,⟨c,cs',e,hx,hr⟩=>by
  refine⟨c,cs'.take (n*z),?_,hx,aO.take h n hr⟩
  rw[e,iS,h c x hx,dy,je,bz (by rw[h c x hx];omega),Nat.add_sub_cancel]
theorem aO.drop(h:∀c x,R c x->c.length=z):∀ {cs:List Value} {l:List α} (n:Nat),aO R cs l->aO R (cs.drop (n*z)) (l.drop n)
 |cs,[],n,hc=>by
  have:cs=[]:=hc
  simp[this,aO]
 |_,x::xs,0,hc=>by simpa using hc
 |_,x::xs,n+1,⟨c,cs',e,hx,hr⟩=>by
  rw[e,gJ,h c x hx,dy,je,fv (by rw[h c x hx];omega),Nat.add_sub_cancel]
  simpa using aO.drop h n hr
theorem aO.get(h:∀c x,R c x->c.length=z){cs:List Value}{l:List α}(hc:aO R cs l)(i:Nat)(hi:i < l.length):R ((cs.drop (i*z)).take z) l[i]:=by
 have h1:=aO.take h 1 (aO.drop h i hc)
 rw[aC hi]at h1
 simp only[je,kz,eY]at h1
 obtain⟨c,cs',e,hx,hr⟩:=h1
 have:cs'=[]:=hr
 rw[e,this,cH]
 exact hx
theorem aO.set(h:∀c x,R c x->c.length=z){cs:List Value}{l:List α}(hc:aO R cs l)(i:Nat)(hi:i < l.length){c:List Value}{x:α}(hx:R c x):
  aO R (cs.take (i*z)++c++cs.drop (i*z+c.length)) (l.set i x):=by
 rw[List.set_eq_take_append_cons_drop,if_pos hi,h c x hx]
 have h1:=aO.take h i hc
 have h2:=aO.drop h (i+1) hc
 rw[dy,je]at h2
 have h3:aO R (c++cs.drop (i*z+z)) (x::l.drop (i+1)):=⟨c,_,rfl,hx,h2⟩
 rw[bg]
 exact aO.append h1 h3
theorem aO.one{c:List Value}{x:α}(h:R c x):aO R c [x]:=⟨c,[],by simp,h,rfl⟩
end
theorem cG.size{E:Env}:∀ {t:Ty} {cs:List Value} {x:t.den},cG E t cs x->cs.length=t.size
 | .int _,_,_,h=>by simp only[cG]at h;simp[h,Ty.size]
 | .bool,_,_,h=>by simp only[cG]at h;simp[h,Ty.size]
 | .str,_,_,h=>by simp only[cG]at h;simp[h,Ty.size]
 | .slice t,_,_,h=>by simp only[cG]at h;obtain⟨a,cap,vs,rfl,_⟩:=h;simp[Ty.size]
 | .unit,_,_,h=>by simp only[cG]at h;simp[h,Ty.size]
 | .pair a b,_,_,h=>by
  simp only[cG]at h
  obtain⟨ca,cb,rfl,ha,hb⟩:=h
  simp[Ty.size,cG.size ha,cG.size hb]
 | .arr n t,_,_,h=>by
  simp only[cG]at h
  rw[aO.length (λc x hx=>cG.size hx) h.2,h.1,Ty.size]
 | .fD t,_,x,h=>by
  simp only[cG]at h
  obtain⟨h1,h2⟩:=h
  cases hx:(x:Option (List t.den)) with
  |none=>rw[h1 hx];rfl
  |some l=>obtain⟨a,cap,vs,rfl,_⟩:=h2 l hx;rfl
 | .l6 t,_,x,h=>by
  simp only[cG]at h
  obtain⟨h1,h2⟩:=h
  cases hx:(x:Option t.den) with
  |none=>rw[h1 hx];rfl
  |some l=>obtain⟨b,off,vs,rfl,_⟩:=h2 l hx;rfl
theorem cG.one{E:Env}:∀ {t:Ty} {cs:List Value} {x:t.den},cG E t cs x->∀c∈cs,c.oneCell'=true
 | .int _,_,_,h=>by simp only[cG]at h;simp[h,Value.oneCell']
 | .bool,_,_,h=>by simp only[cG]at h;simp[h,Value.oneCell']
 | .str,_,_,h=>by simp only[cG]at h;simp[h,Value.oneCell']
 | .slice t,_,_,h=>by simp only[cG]at h;obtain⟨a,cap,vs,rfl,_⟩:=h;simp[Value.oneCell']
 | .unit,_,_,h=>by simp only[cG]at h;simp[h]
 | .pair a b,_,_,h=>by
  simp only[cG]at h
  obtain⟨ca,cb,rfl,ha,hb⟩:=h
  intro c hc
  rcases bf.1 hc with hc | hc
  ·exact cG.one ha c hc
  ·exact cG.one hb c hc
 | .arr n t,_,_,h=>by
  simp only[cG]at h
  exact aO.all (λc x hx=>cG.one hx) h.2
 | .fD t,_,x,h=>by
  simp only[cG]at h
  obtain⟨h1,h2⟩:=h
  cases hx:(x:Option (List t.den)) with
  |none=>rw[h1 hx];simp[Value.oneCell']
  |some l=>obtain⟨a,cap,vs,rfl,_⟩:=h2 l hx;simp[Value.oneCell']
 | .l6 t,_,x,h=>by
  simp only[cG]at h
  obtain⟨h1,h2⟩:=h
  cases hx:(x:Option t.den) with
  |none=>rw[h1 hx];simp[Value.oneCell']
  |some l=>obtain⟨b,off,vs,rfl,_⟩:=h2 l hx;simp[Value.oneCell']
structure lU(E E':Env):Prop where
 has:∀b off v,E.has b off v->E'.has b off v
 fz:∀b ob,E.g b= .free->E.w.heap[b]? =some ob->E'.g b= .free/\E'.w.heap[b]? =some ob
theorem lU.refl(E:Env):lU E E:=⟨λ_ _ _ h=>h,λ_ _ h h'=>⟨h,h'⟩⟩
theorem lU.trans{E E' E'':Env}(h:lU E E')(h':lU E' E''):lU E E'':=⟨λb o v x=>h'.has b o v (h.has b o v x),λb ob h1 h2=>let⟨h3,h4⟩:=h.fz b ob h1 h2;h'.fz b ob h3 h4⟩
theorem rn.mono{E E':Env}(h:lU E E'){a:Option Addr}{vs:List Value}(hr:rn E a vs):rn E' a vs:=
 λi v hv=>let⟨b,off,ha,hh⟩:=hr i v hv;⟨b,off,ha,h.has _ _ _ hh⟩
theorem cG.mono{E E':Env}(hm:lU E E'):∀ {t:Ty} {cs:List Value} {x:t.den},cG E t cs x->cG E' t cs x
 | .int _,_,_,h=>by simpa only[cG]using h
 | .bool,_,_,h=>by simpa only[cG]using h
 | .str,_,_,h=>by simpa only[cG]using h
 | .slice t,_,_,h=>by
  simp only[cG]at h ⊢
  obtain⟨a,cap,vs,e,hl,hs,hr,hc⟩:=h
  exact⟨a,cap,vs,e,hl,hs,hr.mono hm,hc.mono λc x hx=>cG.mono hm hx⟩
 | .unit,_,_,h=>by simpa only[cG]using h
 | .pair a b,_,_,h=>by
  simp only[cG]at h ⊢
  obtain⟨ca,cb,e,ha,hb⟩:=h
  exact⟨ca,cb,e,cG.mono hm ha,cG.mono hm hb⟩
 | .arr n t,_,_,h=>by
  simp only[cG]at h ⊢
  exact⟨h.1,h.2.mono λc x hx=>cG.mono hm hx⟩
 | .fD t,_,_,h=>by
  simp only[cG]at h ⊢
  refine⟨h.1,λl hx=> ?_⟩
  obtain⟨a,cap,vs,e,hl,hs,hr,hc⟩:=h.2 l hx
  exact⟨a,cap,vs,e,hl,hs,hr.mono hm,hc.mono λc x hx=>cG.mono hm hx⟩
 | .l6 t,_,_,h=>by
  simp only[cG]at h ⊢
  refine⟨h.1,λl hx=> ?_⟩
  obtain⟨b,off,vs,e,hr,hc⟩:=h.2 l hx
  exact⟨b,off,vs,e,hr.mono hm,cG.mono hm hc⟩
def Env.cur(E:Env)(id:Id)(ver:Nat):Prop:=∃fr c,E.s id=some (.obj ver fr c)
def Env.rp(E:Env)(id:Id)(ver:Nat):Prop:=E.s id≠none/\∀v fr c,E.s id=some (.obj v fr c)->ver<=v
def eC(agg:Bool)(cs:List Value)(v:Value):Prop:=match agg with | true=>v= .agg cs.toArray | false=>cs=[v]
mutual
def V(E:Env):av->List Value->Prop
 | .undef,_=>False
 | .gone,cs=>∃v,cs=[v]/\v.oneCell'=true
 | .db,cs=>cs=[.slice none 0 0]
 | .lP,cs=>cs=[.pointer none]
 | .nm,cs=>cs=[.nilFunc]
 | .qe,cs=>cs=[.map none]
 | .sb l,cs=>∃(b cap:Nat) (arr:Array Value) (e:TypeId),cs=[.slice (some ⟨b,0,none⟩) l.length cap]/\l.length<=cap/\E.g b= .free/\E.w.heap[b]? =some (.cells arr e (arr.size,arr.size+1))/\∀(j:Nat) (v:Value),(l.map (Value.int .u8))[j]? =some v->arr[j]? =some v
 | .d t x,cs=>cG E t cs x
 | .pr a b,cs=>∃ca cb,cs=ca++cb/\V E a ca/\V E b cb
 | .ptr id ver _ n,cs=>∃a,cs=[.pointer (some a)]/\E.rp id ver/\(E.cur id ver->∃pl,E.β id=some pl/\a=⟨pl.b,n,none⟩)
 | .eO t x,cs=>∃b off vs,cs=[.pointer (some ⟨b,off,none⟩)]/\rn E (some ⟨b,off,none⟩) vs/\cG E t vs x
 | .cD id ver p c i len,cs=>∃a cap,cs=[.slice a len cap]/\len<=cap/\(0 < len->a.isSome=true)/\E.rp id ver/\
   (E.cur id ver->match E.β id with
    |some pl=>(0 < len\/i=0->a=some ⟨pl.b,c,none⟩)/\(p=[]->i=0->cap=pl.cap)
    |none=>a=none/\len=0/\cap=0)
 | .fn f c,cs=>∃vs,cs=[.func (.func f) #[] vs.toArray]/\VC E c vs
 | .cons _ _,_=>False
 | .nil,_=>False
 | .vec ..,_=>False
 | .bx ..,_=>False
 | .yl id ver,cs=>∃l,cs=[.func (.yield l) #[] #[]]/\E.rp id ver/\(E.cur id ver->∃pl,E.β id=some pl/\l=pl.b)
 | .nH ..,_=>False
 | .lF id ver,cs=>∃b,cs=[.map (some b)]/\E.rp id ver/\(E.cur id ver->∃pl,E.β id=some pl/\b=pl.b)
 | .mp ..,_ | .lR ..,_=>False
def VC(E:Env):av->List Value->Prop
 | .nil,vs=>vs=[]
 | .cons a b,vs=>∃v vs' cs,vs=v::vs'/\V E a cs/\eC a.agg cs v/\VC E b vs'
 |_,_=>False
end
structure b6(E E':Env):Prop where
 mem:lU E E'
 rp:∀id ver,E.rp id ver->E'.rp id ver
 cur:∀id ver,E.rp id ver->E'.cur id ver->E.cur id ver/\E'.β id=E.β id
theorem b6.refl(E:Env):b6 E E:=⟨lU.refl E,λ_ _ h=>h,λ_ _ _ h=>⟨h,rfl⟩⟩
theorem b6.trans{E E' E'':Env}(h:b6 E E')(h':b6 E' E''):b6 E E'':=
 ⟨h.mem.trans h'.mem,λid v b=>h'.rp id v (h.rp id v b),λid v b c=>
  let⟨c1,e1⟩:=h'.cur id v (h.rp id v b) c
  let⟨c2,e2⟩:=h.cur id v b c1
  ⟨c2,e1.trans e2⟩⟩
mutual
theorem V.mono{E E':Env}(h:b6 E E'):∀ {a:av} {cs:List Value},V E a cs->V E' a cs
 | .undef,_,hv=>by simp only[V]at hv
 | .gone,_,hv=>by simpa only[V]using hv
 | .db,_,hv=>by simpa only[V]using hv
 | .lP,_,hv=>by simpa only[V]using hv
 | .nm,_,hv=>by simpa only[V]using hv
 | .nH ..,_,hv=>by simp only[V]at hv
 | .qe,_,hv=>by simpa only[V]using hv
 | .sb l,_,hv=>by
  simp only[V]at hv ⊢
  obtain⟨b,cap,arr,e,h1,h2,h3,h4,h5⟩:=hv
  obtain⟨h6,h7⟩:=h.mem.fz b _ h3 h4
  exact⟨b,cap,arr,e,h1,h2,h6,h7,h5⟩
 | .d t x,_,hv=>by simp only[V]at hv ⊢;exact hv.mono h.mem
 | .pr a b,_,hv=>by
  simp only[V]at hv ⊢
  obtain⟨ca,cb,e,ha,hb⟩:=hv
  exact⟨ca,cb,e,V.mono h ha,V.mono h hb⟩
 | .ptr id ver p n,_,hv=>by
  simp only[V]at hv ⊢
  obtain⟨a,e,hb,hc⟩:=hv
  refine⟨a,e,h.rp _ _ hb,λc=> ?_⟩
  obtain⟨c1,e1⟩:=h.cur _ _ hb c
  rw[e1];exact hc c1
 | .eO t x,_,hv=>by
  simp only[V]at hv ⊢
  obtain⟨b,off,vs,e,hr,hx⟩:=hv
  exact⟨b,off,vs,e,hr.mono h.mem,hx.mono h.mem⟩
 | .cD id ver p c i len,_,hv=>by
  simp only[V]at hv ⊢
  obtain⟨a,cap,e,hl,hs,hb,hc⟩:=hv
  refine⟨a,cap,e,hl,hs,h.rp _ _ hb,λc=> ?_⟩
  obtain⟨c1,e1⟩:=h.cur _ _ hb c
  rw[e1];exact hc c1
 | .fn f c,_,hv=>by
  simp only[V]at hv ⊢
  obtain⟨vs,e,hc⟩:=hv
  exact⟨vs,e,VC.mono h hc⟩
 | .cons _ _,_,hv=>by simp only[V]at hv
 | .nil,_,hv=>by simp only[V]at hv
 | .vec ..,_,hv=>by simp only[V]at hv
 | .bx ..,_,hv=>by simp only[V]at hv
 | .yl id ver,_,hv=>by
  simp only[V]at hv ⊢
  obtain⟨b,e,hb,hc⟩:=hv
  refine⟨b,e,h.rp _ _ hb,λc=> ?_⟩
  obtain⟨c1,e1⟩:=h.cur _ _ hb c
  rw[e1];exact hc c1
 | .lF id ver,_,hv=>by
  simp only[V]at hv ⊢
  obtain⟨b,e,hb,hc⟩:=hv
  refine⟨b,e,h.rp _ _ hb,λc=> ?_⟩
  obtain⟨c1,e1⟩:=h.cur _ _ hb c
  rw[e1];exact hc c1
 | .mp ..,_,hv | .lR ..,_,hv=>by simp only[V]at hv
theorem VC.mono{E E':Env}(h:b6 E E'):∀ {a:av} {vs:List Value},VC E a vs->VC E' a vs
 | .nil,_,hv=>by simpa only[VC]using hv
 | .cons a b,_,hv=>by
  simp only[VC]at hv ⊢
  obtain⟨v,vs',cs,e,ha,ho,hb⟩:=hv
  exact⟨v,vs',cs,e,V.mono h ha,ho,VC.mono h hb⟩
 | .undef,_,hv=>by simp only[VC]at hv
 | .gone,_,hv=>by simp only[VC]at hv
 | .db,_,hv=>by simp only[VC]at hv
 | .lP,_,hv=>by simp only[VC]at hv
 | .nm,_,hv=>by simp only[VC]at hv
 | .yl ..,_,hv | .nH ..,_,hv=>by simp only[VC]at hv
 | .qe,_,hv=>by simp only[VC]at hv
 | .sb _,_,hv=>by simp only[VC]at hv
 | .d t x,_,hv=>by simp only[VC]at hv
 | .pr a b,_,hv=>by simp only[VC]at hv
 | .ptr ..,_,hv=>by simp only[VC]at hv
 | .eO ..,_,hv=>by simp only[VC]at hv
 | .cD ..,_,hv=>by simp only[VC]at hv
 | .fn ..,_,hv=>by simp only[VC]at hv
 | .vec ..,_,hv=>by simp only[VC]at hv
 | .bx ..,_,hv=>by simp only[VC]at hv
 | .lF ..,_,hv=>by simp only[VC]at hv
 | .mp ..,_,hv | .lR ..,_,hv=>by simp only[VC]at hv
end
theorem V.size{E:Env}:∀ {a:av} {cs:List Value},V E a cs->cs.length=a.size
 | .undef,_,hv=>by simp only[V]at hv
 | .gone,_,hv=>by simp only[V]at hv;obtain⟨v,rfl,_⟩:=hv;rfl
 | .db,_,hv=>by simp only[V]at hv;rw[hv];rfl
 | .lP,_,hv=>by simp only[V]at hv;rw[hv];rfl
 | .nm,_,hv=>by simp only[V]at hv;rw[hv];rfl
 | .yl ..,_,hv=>by simp only[V]at hv;obtain⟨_,rfl,_⟩:=hv;rfl
 | .nH ..,_,hv=>by simp only[V]at hv
 | .qe,_,hv=>by simp only[V]at hv;rw[hv];rfl
 | .sb _,_,hv=>by simp only[V]at hv;obtain⟨_,_,_,_,rfl,_⟩:=hv;rfl
 | .d t x,_,hv=>by simp only[V]at hv;exact hv.size
 | .pr a b,_,hv=>by
  simp only[V]at hv
  obtain⟨ca,cb,rfl,ha,hb⟩:=hv
  simp[av.size,V.size ha,V.size hb]
 | .ptr ..,_,hv=>by simp only[V]at hv;obtain⟨a,rfl,_⟩:=hv;rfl
 | .eO ..,_,hv=>by simp only[V]at hv;obtain⟨_,_,_,rfl,_⟩:=hv;rfl
 | .cD ..,_,hv=>by simp only[V]at hv;obtain⟨_,_,rfl,_⟩:=hv;rfl
 | .fn ..,_,hv=>by simp only[V]at hv;obtain⟨_,rfl,_⟩:=hv;rfl
 | .cons _ _,_,hv=>by simp only[V]at hv
 | .nil,_,hv=>by simp only[V]at hv
 | .vec ..,_,hv=>by simp only[V]at hv
 | .bx ..,_,hv=>by simp only[V]at hv
 | .lF ..,_,hv=>by simp only[V]at hv;obtain⟨_,rfl,_⟩:=hv;rfl
 | .mp ..,_,hv | .lR ..,_,hv=>by simp only[V]at hv
theorem V.one{E:Env}:∀ {a:av} {cs:List Value},V E a cs->∀c∈cs,c.oneCell'=true
 | .undef,_,hv=>by simp only[V]at hv
 | .gone,_,hv=>by simp only[V]at hv;obtain⟨v,rfl,h⟩:=hv;simp[h]
 | .db,_,hv=>by simp only[V]at hv;rw[hv];simp[Value.oneCell']
 | .lP,_,hv=>by simp only[V]at hv;rw[hv];simp[Value.oneCell']
 | .nm,_,hv=>by simp only[V]at hv;rw[hv];simp[Value.oneCell']
 | .yl ..,_,hv=>by simp only[V]at hv;obtain⟨_,rfl,_⟩:=hv;simp[Value.oneCell']
 | .nH ..,_,hv=>by simp only[V]at hv
 | .qe,_,hv=>by simp only[V]at hv;rw[hv];simp[Value.oneCell']
 | .sb _,_,hv=>by simp only[V]at hv;obtain⟨_,_,_,_,rfl,_⟩:=hv;simp[Value.oneCell']
 | .d t x,_,hv=>by simp only[V]at hv;exact hv.one
 | .pr a b,_,hv=>by
  simp only[V]at hv
  obtain⟨ca,cb,rfl,ha,hb⟩:=hv
  intro c hc
  rcases bf.1 hc with hc | hc
  ·exact V.one ha c hc
  ·exact V.one hb c hc
 | .ptr ..,_,hv=>by simp only[V]at hv;obtain⟨a,rfl,_⟩:=hv;simp[Value.oneCell']
 | .eO ..,_,hv=>by simp only[V]at hv;obtain⟨_,_,_,rfl,_⟩:=hv;simp[Value.oneCell']
 | .cD ..,_,hv=>by simp only[V]at hv;obtain⟨_,_,rfl,_⟩:=hv;simp[Value.oneCell']
 | .fn ..,_,hv=>by simp only[V]at hv;obtain⟨_,rfl,_⟩:=hv;simp[Value.oneCell']
 | .cons _ _,_,hv=>by simp only[V]at hv
 | .nil,_,hv=>by simp only[V]at hv
 | .vec ..,_,hv=>by simp only[V]at hv
 | .bx ..,_,hv=>by simp only[V]at hv
 | .lF ..,_,hv=>by simp only[V]at hv;obtain⟨_,rfl,_⟩:=hv;simp[Value.oneCell']
 | .mp ..,_,hv | .lR ..,_,hv=>by simp only[V]at hv
theorem av.Eb:∀ {v:av},v.agg=false->v.size=1
 | .d (.int _) _,_ | .d .bool _,_ | .d .str _,_ | .d (.slice _) _,_ | .d (.fD _) _,_ | .d (.l6 _) _,_=>rfl
 | .d .unit _,h | .d (.pair _ _) _,h | .d (.arr _ _) _,h=>by simp[av.agg,Ty.agg]at h
 | .pr _ _,h=>by simp[av.agg]at h
 | .undef,_ | .gone,_ | .db,_ | .lP,_ | .nm,_ | .qe,_ | .ptr ..,_ | .eO ..,_ | .cD ..,_ | .fn ..,_ | .cons ..,_ | .nil,_ | .vec ..,_ | .sb _,_ | .bx ..,_ | .lF ..,_ | .mp ..,_ | .lR ..,_ | .yl ..,_ | .nH ..,_=>rfl
def VS(E:Env):av->Value->Prop
 | .undef,_=>True
 | .cons a b,v=>∃vs,v= .tuple vs.toArray/\VC E (.cons a b) vs
 | .nil,v=>v= .tuple #[]
 |a,v=>∃cs,V E a cs/\eC a.agg cs v
theorem VS.mono{E E':Env}(h:b6 E E'):∀ {a:av} {v:Value},VS E a v->VS E' a v:=by
 intro a v hv
 cases a <;> first
  |trivial
  |exact hv
  | (obtain⟨cs,h1,h2⟩:=hv;exact⟨cs,V.mono h h1,h2⟩)
  | (obtain⟨vs,e,hc⟩:=hv;exact⟨vs,e,VC.mono h hc⟩)
theorem VS.undef{E:Env}{v:Value}:VS E .undef v:=trivial
theorem VS.of{E:Env}{a:av}{cs:List Value}{v:Value}(h:V E a cs)(ho:eC a.agg cs v):VS E a v:=by
 cases a <;> first
  | (simp only[V]at h;done)
  |exact⟨cs,h,ho⟩
theorem VS.dK{E:Env}{a:av}{v:Value}(h:VS E a v)(hc:a.dK=true):∃cs,V E a cs/\eC a.agg cs v:=by
 cases a <;> first
  | (simp[av.dK]at hc;done)
  |exact h
theorem VS.single{E:Env}{a:av}{v:Value}(h:VS E a v)(hc:a.dK=true)(ha:a.agg=false):V E a [v]:=by
 obtain⟨cs,hv,ho⟩:=h.dK hc
 rw[ha]at ho
 have:cs=[v]:=ho
 rw[<-this];exact hv
theorem eC.cells{agg:Bool}{cs:List Value}{v:Value}(h:eC agg cs v)(h1:∀c∈cs,c.oneCell'=true):v.cells=cs.toArray:=by
 cases agg with
 |true=>have:v= .agg cs.toArray:=h;rw[this];rfl
 |false=>
  have e:cs=[v]:=h
  have:=h1 v (by simp[e])
  rw[e]
  cases v <;> first | rfl | (simp[Value.oneCell']at this;done)
end Go.Ab
namespace Go.Ab
section
variable {α β:Type}
theorem al{a b:α}:(Out.ok a).eval=some b↔a=b:=by simp[Out.eval]
theorem ai{b:α}:(Out.fail:Out α).eval=some b↔False:=by simp[Out.eval]
theorem bt{c:Bool}{r:Out α}{b:α}:(Out.mn c r).eval=some b↔c=true/\r.eval=some b:=by cases c <;> simp[Out.eval]
theorem aw{c:Bool}{r:Out α}{b:α}:(Out.guard c r).eval=some b↔c=true/\r.eval=some b:=by cases c <;> simp[Out.guard,Out.eval]
theorem nh{x:Option β}{f:β->Out α}{b:α}:(Out.get x f).eval=some b↔∃y,x=some y/\(f y).eval=some b:=by
 cases x <;> simp[Out.eval]
theorem gU{x:Option α}{b:α}:(Out.opt x).eval=some b↔x=some b:=by cases x <;> simp[Out.opt,Out.eval]
theorem BK(o:Out α)(f:α->Out β):(o.bind f).eval=o.eval.bind λa=>(f a).eval:=by
 induction o with
 |ok a=>rfl
 |fail=>rfl
 |mn c r ih=>cases c <;> simp[Out.bind,Out.eval,ih]
 |get x g ih=>cases x <;> simp[Out.bind,Out.eval,ih]
 |br c x y ih1 ih2=>cases c <;> simp[Out.bind,Out.eval,ih1,ih2]
theorem ak{o:Out α}{f:α->Out β}{b:β}:(o.bind f).eval=some b↔∃a,o.eval=some a/\(f a).eval=some b:=by
 rw[BK];simp[Option.bind_eq_some_iff]
theorem run_eq{R:Type}(o:Out α)(k:α->Option R):o.run k=o.eval.bind k:=by
 induction o with
 |ok a=>rfl
 |fail=>rfl
 |mn c r ih=>cases c <;> simp[Out.run,Out.eval,aK,ih]
 |get x g ih=>cases x <;> simp[Out.run,Out.eval,aA,ih]
 |br c x y ih1 ih2=>cases c <;> simp[Out.run,Out.eval,aK,ih1,ih2]
theorem gm{R:Type}{o:Out α}{k:α->Option R}{r:R}:o.run k=some r↔∃a,o.eval=some a/\k a=some r:=by
 rw[run_eq];simp[Option.bind_eq_some_iff]
end
theorem gF{t t':Ty}{x:t.den}{y:t'.den}(h:mC t t' x=some y):∃e:t=t',e▸x=y:=by
 unfold mC at h
 split at h
 ·rename_i e;exact⟨e,by simpa using h⟩
 ·cases h
theorem aO.map{α β:Type}{R:List Value->α->Prop}{R':List Value->β->Prop}{f:α->β}(h:∀c x,R c x->R' c (f x)):∀ {cs:List Value} {l:List α},aO R cs l->aO R' cs (l.map f)
 |_,[],hc=>hc
 |_,x::xs,⟨c,cs',e,hx,hr⟩=>⟨c,cs',e,h c x hx,aO.map h hr⟩
theorem cG.Qx{E:Env}:∀(a b:Ty) (f:a.den->b.den),z7 a b=some f->∀(cs:List Value) (x:a.den),cG E a cs x->cG E b cs (f x):=by
 intro a b
 induction a,b using z7.induct with
 |case1 t=>
  intro f hf cs x hx
  unfold z7 at hf
  rw[dif_pos rfl]at hf
  obtain rfl:=aP hf
  simp only[cG]at hx
  obtain⟨h1,h2⟩:=hx
  show cG E (.slice t) cs ((x:Option (List t.den)).getD [])
  simp only[cG]
  cases hx:(x:Option (List t.den)) with
  |none=>exact⟨none,0,[],h1 hx,ax _,λh=>absurd h (gE 0),λi v hh=>by simp at hh,rfl⟩
  |some l=>exact h2 l hx
 |case2 t t' ga=>
  intro f hf
  unfold z7 at hf
  rw[dif_neg ga]at hf
  cases hf
 |case3 t=>
  intro f hf cs x hx
  unfold z7 at hf
  rw[dif_pos rfl]at hf
  obtain rfl:=aP hf
  simp only[cG]at hx ⊢
  refine⟨λh=>(by cases h),λl hl=> ?_⟩
  obtain rfl:x=l:=aP hl
  exact hx
 |case4 t t' ga=>
  intro f hf
  unfold z7 at hf
  rw[dif_neg ga]at hf
  cases hf
 |case5 a b c d f g h1 h2 ih1 ih2=>
  intro k hk cs x hx
  unfold z7 at hk
  rw[h2,h1]at hk
  obtain rfl:=aP hk
  simp only[cG]at hx ⊢
  obtain⟨ca,cb,e,ha,hb⟩:=hx
  exact⟨ca,cb,e,ih1 f h2 ca x.1 ha,ih2 g h1 cb x.2 hb⟩
 |case6 a b c d hn ih1 ih2=>
  intro p hp
  unfold z7 at hp
  split at hp
  ·rename_i f k h1 h2
   exact(hn _ _ h1 h2).elim
  ·cases hp
 |case7 a b f h1 ih=>
  intro k hk cs x hx
  unfold z7 at hk
  rw[h1]at hk
  obtain rfl:=aP hk
  simp only[cG]at hx ⊢
  obtain⟨ad,cap,vs,e,hl,hs,hr,hc⟩:=hx
  rw[ct]
  exact⟨ad,cap,vs,e,hl,hs,hr,hc.map λc x hx=>ih f h1 c x hx⟩
 |case8 a b h1 ih=>
  intro p hp
  unfold z7 at hp
  rw[h1]at hp
  cases hp
 |case9 a h1 h2 h3 h4=>
  intro f hf cs x hx
  rw[z7.eq_5 _ _ h1 h2 h3 h4,dif_pos rfl]at hf
  obtain rfl:=aP hf
  exact hx
 |case10 a b h1 h2 h3 h4 ga=>
  intro f hf
  rw[z7.eq_5 _ _ h1 h2 h3 h4,dif_neg ga]at hf
  cases hf
theorem Kl{t t':Ty}{f:t.den->t'.den}(hp:z7 t t'=some f):t.agg=t'.agg:=by
 unfold z7 at hp
 split at hp
 ·rfl
 ·rfl
 ·rfl
 ·rfl
 ·split at hp
  ·rename_i e;rw[e]
  ·cases hp
theorem AG{t t':Ty}{x:t.den}{y:t'.den}(h:rU t t' x=some y):t.agg=t'.agg:=by
 unfold rU at h
 split at h
 ·rename_i z hz
  obtain⟨e,_⟩:=gF hz
  rw[e]
 ·split at h
  ·rename_i f hf
   exact Kl hf
  ·cases h
theorem qK{E:Env}{t t':Ty}{x:t.den}{y:t'.den}(h:rU t t' x=some y){cs:List Value}(hx:cG E t cs x):cG E t' cs y:=by
 unfold rU at h
 split at h
 ·rename_i z hz
  obtain⟨e,hz⟩:=gF hz
  subst e
  obtain rfl:=aP h
  simp only at hz
  rw[<-hz]
  exact hx
 ·split at h
  ·rename_i f hf
   obtain rfl:=aP h
   exact cG.Qx _ _ f hf cs x hx
  ·cases h
theorem G9{E:Env}{t t':Ty}{x:List t.den}{y:List t'.den}(h:rU (.slice t) (.slice t') x=some y):y.length=x.length/\∀vs,aO (cG E t) vs x->aO (cG E t') vs y:=by
 unfold rU at h
 split at h
 ·rename_i z hz
  obtain⟨e,hz⟩:=gF hz
  have e':t=t':=by simpa using e
  subst e'
  obtain rfl:=aP h
  simp only at hz
  subst hz
  exact⟨rfl,λ_ h=>h⟩
 ·split at h
  ·rename_i p hp
   obtain rfl:=aP h
   unfold z7 at hp
   cases hd:z7 t t' with
   |none=>rw[hd]at hp;cases hp
   |some q=>
    rw[hd]at hp
    obtain rfl:=aP hp
    exact⟨ct _,λvs hc=>hc.map λc x hx=>cG.Qx _ _ q hd c x hx⟩
  ·cases h
def VO(E:Env):av->List Value->Prop
 | .vec _ t l,cs=>aO (cG E t) cs l
 |a,cs=>V E a cs
theorem VO.of{E:Env}{a:av}{cs:List Value}(h:V E a cs):VO E a cs:=by
 cases a <;> first | exact h | (simp only[V]at h)
def av.fJ:av->Bool | .vec .. =>true | .mp .. =>true | .lR .. =>true | .nH .. =>true | _=>false
theorem VO.to{E:Env}{a:av}{cs:List Value}(h:VO E a cs)(hn:a.fJ=false):V E a cs:=by
 cases a <;> first | exact h | (simp[av.fJ]at hn)
theorem VO.mono{E E':Env}(h:b6 E E'){a:av}{cs:List Value}(hv:VO E a cs):VO E' a cs:=by
 cases a <;> first | exact V.mono h hv | exact aO.mono (λ_ _ hx=>hx.mono h.mem) hv
theorem zj{t:Ty}{l:List t.den}{i:Nat}(h:i < l.length):nth t l i=l[i]:=by
 unfold nth;simp[h]
theorem zl{α:Type}(cs:List α)(n m k j:Nat)(h:k+j<=m):(((cs.drop n).take m).drop k).take j=(cs.drop (n+k)).take j:=by
 rw[lT,gS,eF]
 congr 1
 omega
theorem vz{E:Env}{t:Ty}{cs:List Value}{l:List t.den}(h:aO (cG E t) cs l){i:Nat}(hi:i < l.length):
  cG E t ((cs.drop (i*t.size)).take t.size) l[i]/\i*t.size+t.size<=cs.length:=by
 have hz:∀c x,cG E t c x->c.length=t.size:=λc x hx=>hx.size
 refine⟨h.get hz i hi,?_⟩
 rw[h.length hz,<-Nat.succ_mul]
 exact cJ _ hi
theorem lI{E:Env}:∀(p:List sW) (c:av) (cs:List Value) (n:Nat) (v:av),VO E c cs->(loc c p).eval=some (n,v)->
  (n=0/\v=c)\/(V E v ((cs.drop n).take v.size)/\n+v.size<=cs.length)
 |[],c,cs,n,v,hc,h=>by
  left
  simp only[loc,al,cd]at h
  exact⟨h.1.symm,h.2.symm⟩
 |st::p,c,cs,n,v,hc,h=>by
  by_cases lQ:st= .arr
  ·subst lQ
   have h':(loc c p).eval=some (n,v):=by cases c <;> simpa only[loc]using h
   exact lI p c cs n v hc h'
  right
  have whole:∀(c':av) (cs':List Value) (n':Nat) (v':av),V E c' cs'->(loc c' p).eval=some (n',v')->V E v' ((cs'.drop n').take v'.size)/\n'+v'.size<=cs'.length:=by
   intro c' cs' n' v' hc' hl
   rcases lI p c' cs' n' v' (VO.of hc') hl with⟨rfl,rfl⟩ | hh
   ·have:=hc'.size
    rw[aJ,bz (by omega)]
    exact⟨hc',by omega⟩
   ·exact hh
  have second:∀(a b:av) (ca cb:List Value),cs=ca++cb->ca.length=a.size->V E b cb->((loc b p).bind λ(n,v)=>Out.ok (a.size+n,v)).eval=some (n,v)->
    V E v ((cs.drop n).take v.size)/\n+v.size<=cs.length:=by
   intro a b ca cb e hl hb hh
   obtain⟨⟨n',v'⟩,h1,h2⟩:=ak.1 hh
   simp only[al,cd]at h2
   obtain⟨rfl,rfl⟩:=h2
   obtain⟨h3,h4⟩:=whole b cb n' v' hb h1
   subst e
   rw[<-hl,gJ,fv (by omega),aS,gd]
   exact⟨h3,by simp only[aq];omega⟩
  have elem:∀(t:Ty) (l:List t.den) (i:Nat),aO (cG E t) cs l->(Out.mn (decide (i < l.length)) ((loc (.d t (nth t l i)) p).bind λ(n,v)=>Out.ok (i*t.size+n,v))).eval=some (n,v)->
    V E v ((cs.drop n).take v.size)/\n+v.size<=cs.length:=by
   intro t l i mS hh
   obtain⟨hi,hh⟩:=bt.1 hh
   have hi:i < l.length:=by simpa using hi
   obtain⟨⟨n',v'⟩,h1,h2⟩:=ak.1 hh
   simp only[al,cd]at h2
   obtain⟨rfl,rfl⟩:=h2
   obtain⟨hp,hle⟩:=vz mS hi
   rw[zj hi]at h1
   have hv:V E (.d t l[i]) ((cs.drop (i*t.size)).take t.size):=by simpa only[V]using hp
   obtain⟨h3,h4⟩:=whole _ _ n' v' hv h1
   have hlen:((cs.drop (i*t.size)).take t.size).length=t.size:=hp.size
   rw[zl _ _ _ _ _ (by omega)]at h3
   exact⟨h3,by omega⟩
  cases c with
  |pr a b=>
   simp only[VO,V]at hc
   obtain⟨ca,cb,e,ha,hb⟩:=hc
   cases st with
   |arr=>exact absurd rfl lQ
   |fst=>
    simp only[loc]at h
    obtain⟨h3,h4⟩:=whole a ca n v ha h
    subst e
    refine⟨?_,by simp only[aq];omega⟩
    rw[gJ,iS,cO,ia (by omega:v.size<=ca.length - n),eY,cH]
    exact h3
   |snd=>simp only[loc]at h;exact second a b ca cb e ha.size hb h
   |idx i=>simp only[loc,ai]at h
  |d t x=>
   simp only[VO,V]at hc
   cases t with
   |pair ta tb=>
    simp only[cG]at hc
    obtain⟨ca,cb,e,ha,hb⟩:=hc
    cases st with
    |arr=>exact absurd rfl lQ
    |fst=>
     simp only[loc]at h
     obtain⟨h3,h4⟩:=whole (.d ta x.1) ca n v (by simpa only[V]using ha) h
     subst e
     refine⟨?_,by simp only[aq];omega⟩
     rw[gJ,iS,cO,ia (by omega:v.size<=ca.length - n),eY,cH]
     exact h3
    |snd=>simp only[loc]at h;exact second (.d ta x.1) (.d tb x.2) ca cb e ha.size (by simpa only[V]using hb) h
    |idx i=>simp only[loc,ai]at h
   |arr m t=>
    simp only[cG]at hc
    cases st with
    |arr=>exact absurd rfl lQ
    |idx i=>simp only[loc]at h;exact elem t x i hc.2 h
    |fst=>simp only[loc,ai]at h
    |snd=>simp only[loc,ai]at h
   |_=>cases st <;> first | exact absurd rfl lQ | (simp only[loc,ai]at h)
  |vec e t l=>
   simp only[VO]at hc
   cases st with
   |arr=>exact absurd rfl lQ
   |idx i=>simp only[loc]at h;exact elem t l i hc h
   |fst=>simp only[loc,ai]at h
   |snd=>simp only[loc,ai]at h
  |_=>cases st <;> first | exact absurd rfl lQ | (simp only[loc,ai]at h)
theorem EI{E:Env}{a b:av}{ca cb:List Value}(ha:V E a ca)(hb:V E b cb):V E (u9 a b) (ca++cb):=by
 have gen:V E (.pr a b) (ca++cb):=by simp only[V];exact⟨ca,cb,rfl,ha,hb⟩
 unfold u9
 split
 ·simp only[V]at ha hb ⊢
  simp only[cG]
  exact⟨ca,cb,rfl,ha,hb⟩
 ·exact gen
theorem xh(a b:av):(u9 a b).fJ=false:=by unfold u9;split <;> rfl
def cT(cs:List Value)(n:Nat)(vs:List Value):List Value:=cs.take n++vs++cs.drop (n+vs.length)
theorem FV{cs vs:List Value}(h:cs.length=vs.length):cT cs 0 vs=vs:=by
 simp[cT,fv (by omega:cs.length<=vs.length)]
theorem pP{ca cb vs:List Value}{n:Nat}(h:n+vs.length<=ca.length):cT (ca++cb) n vs=cT ca n vs++cb:=by
 unfold cT
 rw[iS,gJ,ia (by omega:n<=ca.length),eY,cH,ia h,aJ]
 simp only[bg]
theorem vI{ca cb vs:List Value}{n:Nat}:cT (ca++cb) (ca.length+n) vs=ca++cT cb n vs:=by
 unfold cT
 rw[iS,bz (by omega),gd,gJ,fv (by omega),aS]
 simp only[bg]
 congr 4
 omega
theorem FW{cs vs:List Value}{i z n:Nat}(hz:i+z<=cs.length)(h:n+vs.length<=z):
  cT cs (i+n) vs=cs.take i++cT ((cs.drop i).take z) n vs++cs.drop (i+z):=by
 have e:cs=cs.take i++((cs.drop i).take z++cs.drop (i+z)):=by
  rw[<-eF,cW,cW]
 have hl:(cs.take i).length=i:=by simp;omega
 have hm:((cs.drop i).take z).length=z:=by simp;omega
 conv=>lhs;rw[e,show i+n=(cs.take i).length+n by rw[hl]]
 rw[vI,pP (by omega)]
 simp only[bg]
theorem gI{cs vs:List Value}{n:Nat}(h:n+vs.length<=cs.length):(cT cs n vs).length=cs.length:=by
 simp[cT];omega
def iT:av->av->Prop
 | .vec e t l,.vec e' t' l'=>e'=e/\t'=t/\l'.length=l.length
 | .vec ..,_=>False
 |_,.vec .. =>False
 | .mp ..,_ | .lR ..,_ | .nH ..,_=>False
 |_,.mp .. | _,.lR .. | _,.nH .. =>False
 |_,_=>True
theorem iT.mg{a b:av}(h:iT a b)(ha:a.fJ=false):b.fJ=false:=by
 cases b <;> first
  |rfl
  | (cases a <;> first | (simp[av.fJ]at ha;done) | exact h.elim)
theorem iT.of{a b:av}(ha:a.fJ=false)(hb:b.fJ=false):iT a b:=by
 cases a <;> first
  | (simp[av.fJ]at ha;done)
  | (cases b <;> first | trivial | (simp[av.fJ]at hb;done))
theorem V.mg{E:Env}{a:av}{cs:List Value}(h:V E a cs):a.fJ=false:=by
 cases a <;> first | rfl | (simp only[V]at h)
theorem kr{E:Env}:∀(p:List sW) (c:av) (cs:List Value) (n:Nat) (o v c':av) (vs:List Value),VO E c cs->(loc c p).eval=some (n,o)->V E v vs->
  (nZ c p v).eval=some c'->n+vs.length<=cs.length/\VO E c' (cT cs n vs)/\
   iT c c'
 |[],c,cs,n,o,v,c',vs,hc,hl,hv,h=>by
  simp only[loc,al,cd]at hl
  obtain⟨rfl,rfl⟩:=hl
  have main:∀(O8:c.fJ=false),(Out.guard (v.dK && (c.size==v.size)) (.ok v)).eval=some c'->0+vs.length<=cs.length/\VO E c' (cT cs 0 vs)/\
   iT c c':=by
   intro O8 hg
   obtain⟨h1,h2⟩:=aw.1 hg
   obtain rfl:=al.1 h2
   simp only[ag,beq_iff_eq]at h1
   have e1:=(hc.to O8).size
   have e2:=hv.size
   refine⟨by omega,?_,?_⟩
   ·rw[FV (by omega)];exact VO.of hv
   ·exact iT.of O8 hv.mg
  cases c with
  |vec e t l=>simp only[nZ,ai]at h
  |mp k v l=>simp only[nZ,ai]at h
  |lR q ver k v rest cur=>simp only[nZ,ai]at h
  |nH k f p=>simp only[nZ,ai]at h
  |_=>exact main rfl (by simpa only[nZ]using h)
 |st::p,c,cs,n,o,v,c',vs,hc,hl,hv,h=>by
  by_cases lQ:st= .arr
  ·subst lQ
   have hl':(loc c p).eval=some (n,o):=by cases c <;> simpa only[loc]using hl
   have h':(nZ c p v).eval=some c':=by cases c <;> simpa only[nZ]using h
   exact kr p c cs n o v c' vs hc hl' hv h'
  have left:∀(a b:av) (ca cb:List Value),cs=ca++cb->V E a ca->V E b cb->(loc a p).eval=some (n,o)->((nZ a p v).bind λa'=>Out.ok (u9 a' b)).eval=some c'->
    n+vs.length<=cs.length/\VO E c' (cT cs n vs)/\c'.fJ=false:=by
   intro a b ca cb e ha hb hl hh
   obtain⟨a',h1,h2⟩:=ak.1 hh
   obtain rfl:=al.1 h2
   obtain⟨h3,h4,h5⟩:=kr p a ca n o v a' vs (VO.of ha) hl hv h1
   subst e
   refine⟨by simp only[aq];omega,?_,xh _ _⟩
   rw[pP h3]
   have QG:a'.fJ=false:=h5.mg ha.mg
   exact VO.of (EI (h4.to QG) hb)
  have right:∀(a b:av) (ca cb:List Value),cs=ca++cb->ca.length=a.size->V E a ca->V E b cb->((loc b p).bind λ(n,v)=>Out.ok (a.size+n,v)).eval=some (n,o)->
    ((nZ b p v).bind λb'=>Out.ok (u9 a b')).eval=some c'->n+vs.length<=cs.length/\VO E c' (cT cs n vs)/\c'.fJ=false:=by
   intro a b ca cb e IV ha hb hl hh
   obtain⟨⟨n',v'⟩,h1,h2⟩:=ak.1 hl
   simp only[al,cd]at h2
   obtain⟨rfl,rfl⟩:=h2
   obtain⟨b',h3,h4⟩:=ak.1 hh
   obtain rfl:=al.1 h4
   obtain⟨h5,h6,h7⟩:=kr p b cb n' v' v b' vs (VO.of hb) h1 hv h3
   subst e
   refine⟨by simp only[aq];omega,?_,xh _ _⟩
   rw[<-IV,vI]
   have QG:b'.fJ=false:=h7.mg hb.mg
   exact VO.of (EI ha (h6.to QG))
  have elem:∀(t:Ty) (l:List t.den) (i:Nat) (mk:List t.den->av),aO (cG E t) cs l->(Out.mn (decide (i < l.length)) ((loc (.d t (nth t l i)) p).bind λ(n,v)=>Out.ok (i*t.size+n,v))).eval=some (n,o)->
    (Out.mn (decide (i < l.length)) ((nZ (.d t (nth t l i)) p v).bind fun
     | .d t' y=>(Out.opt (mC t' t y)).bind λy=> .ok (mk (l.set i y))
     |_=> .fail)).eval=some c'->
    n+vs.length<=cs.length/\∃l',c'=mk l'/\l'.length=l.length/\aO (cG E t) (cT cs n vs) l':=by
   intro t l i mk mS hl hh
   obtain⟨hi,hl⟩:=bt.1 hl
   have hi:i < l.length:=by simpa using hi
   obtain⟨⟨n',v'⟩,h1,h2⟩:=ak.1 hl
   simp only[al,cd]at h2
   obtain⟨rfl,rfl⟩:=h2
   obtain⟨_,hh⟩:=bt.1 hh
   obtain⟨w,h3,h4⟩:=ak.1 hh
   obtain⟨hp,hle⟩:=vz mS hi
   rw[zj hi]at h1 h3
   have Nd:V E (.d t l[i]) ((cs.drop (i*t.size)).take t.size):=by simpa only[V]using hp
   have hlen:((cs.drop (i*t.size)).take t.size).length=t.size:=hp.size
   obtain⟨h5,h6,h7⟩:=kr p _ _ n' v' v w vs (VO.of Nd) h1 hv h3
   cases w with
   |d t' y=>
    simp only at h4
    obtain⟨y',h8,h9⟩:=ak.1 h4
    obtain⟨rfl,h8⟩:=gF (gU.1 h8)
    simp only at h8
    subst h8
    obtain rfl:=al.1 h9
    refine⟨by omega,_,rfl,by simp,?_⟩
    have hy:cG E t' (cT ((cs.drop (i*t'.size)).take t'.size) n' vs) y:=by simpa only[VO,V]using h6
    have:=aO.set (λc x hx=>cG.size hx) mS i hi hy
    rw[FW (by omega:i*t'.size+t'.size<=cs.length) (by omega)]
    rwa[hy.size]at this
   |_=>simp only[ai]at h4
  cases c with
  |pr a b=>
   simp only[VO,V]at hc
   obtain⟨ca,cb,e,ha,hb⟩:=hc
   cases st with
   |arr=>exact absurd rfl lQ
   |fst=>
    simp only[loc]at hl;simp only[nZ]at h
    obtain⟨r1,r2,r3⟩:=left a b ca cb e ha hb hl h
    exact⟨r1,r2,iT.of rfl r3⟩
   |snd=>
    simp only[loc]at hl;simp only[nZ]at h
    obtain⟨r1,r2,r3⟩:=right a b ca cb e ha.size ha hb hl h
    exact⟨r1,r2,iT.of rfl r3⟩
   |idx i=>simp only[loc,ai]at hl
  |d t x=>
   simp only[VO,V]at hc
   cases t with
   |pair ta tb=>
    simp only[cG]at hc
    obtain⟨ca,cb,e,ha,hb⟩:=hc
    have ha':V E (.d ta x.1) ca:=by simpa only[V]using ha
    have hb':V E (.d tb x.2) cb:=by simpa only[V]using hb
    cases st with
    |arr=>exact absurd rfl lQ
    |fst=>
     simp only[loc]at hl;simp only[nZ]at h
     obtain⟨r1,r2,r3⟩:=left _ _ ca cb e ha' hb' hl h
     exact⟨r1,r2,iT.of rfl r3⟩
    |snd=>
     simp only[loc]at hl;simp only[nZ]at h
     obtain⟨r1,r2,r3⟩:=right (.d ta x.1) (.d tb x.2) ca cb e ha.size ha' hb' hl h
     exact⟨r1,r2,iT.of rfl r3⟩
    |idx i=>simp only[loc,ai]at hl
   |arr m t=>
    simp only[cG]at hc
    cases st with
    |arr=>exact absurd rfl lQ
    |idx i=>
     simp only[loc]at hl;simp only[nZ]at h
     obtain⟨r1,l',e,r2,r3⟩:=elem t x i (λl=> .d (.arr m t) l) hc.2 hl h
     subst e
     refine⟨r1,?_,trivial⟩
     simp only[VO,V,cG]
     exact⟨by rw[r2];exact hc.1,r3⟩
    |fst=>simp only[loc,ai]at hl
    |snd=>simp only[loc,ai]at hl
   |_=>cases st <;> first | exact absurd rfl lQ | (simp only[loc,ai]at hl)
  |vec e t l=>
   simp only[VO]at hc
   cases st with
   |arr=>exact absurd rfl lQ
   |idx i=>
    simp only[loc]at hl;simp only[nZ]at h
    obtain⟨r1,l',e',r2,r3⟩:=elem t l i (λl=> .vec e t l) hc hl h
    subst e'
    exact⟨r1,by simpa only[VO]using r3,rfl,rfl,r2⟩
   |fst=>simp only[loc,ai]at hl
   |snd=>simp only[loc,ai]at hl
  |_=>cases st <;> first | exact absurd rfl lQ | (simp only[loc,ai]at hl)
end Go.Ab
namespace Go.Ab
def On(E:Env)(id:Id)(fr:Bool)(e:TypeId)(t:Ty)(l:List t.den):Prop:=
 0 < t.size/\match E.β id with
  |none=>l=[]
  |some pl=>∃cur k,E.w.heap[pl.b]? =some (.cells cur e (0,0))/\cur.size=pl.cap*t.size/\l.length<=pl.cap/\pl.cap<=maxLen/\E.g pl.b= .own (.id id) k/\
    k<=l.length*t.size/\(fr=false->k=0)/\aO (cG E t) (cur.toList.take (l.length*t.size)) l
def av.rQ:av->Pl->Nat->TypeId->Prop
 | .bx e' 0 _,_,_,e=>e=e'
 | .bx e' (z+1) c,pl,n,e=>e=e'/\n=pl.cap*(z+1)/\pl.cap<=maxLen/\c.size<=n
 |_,_,_,_=>True
def av.nJ:av->Nat->Nat
 | .bx _ (_+1) c,_=>c.size
 |_,n=>n
def av.Ad:av->Bool | .bx .. =>true | _=>false
theorem V.pf{E:Env}{a:av}{cs:List Value}(h:V E a cs):a.Ad=false:=by
 cases a <;> first | rfl | (simp only[V]at h)
theorem wN{c:av}(h:c.Ad=false):c.strip=c:=by
 cases c <;> first | rfl | (simp[av.Ad]at h)
theorem vW{c:av}(h:c.Ad=false)(pl:Pl)(n:Nat)(e:TypeId):c.rQ pl n e:=by
 cases c <;> first | trivial | (simp[av.Ad]at h)
theorem yh{c:av}(h:c.Ad=false)(n:Nat):c.nJ n=n:=by
 cases c <;> first | rfl | (simp[av.Ad]at h)
theorem ur(c:av){c':av}(h:c'.Ad=false):(c.wrap c').strip=c':=by
 cases c <;> first | rfl | exact wN h
theorem tI{c c':av}{pl:Pl}{n:Nat}{e:TypeId}(hc:c.rQ pl n e)(h:c'.Ad=false)(hs:c'.size=c.strip.size):(c.wrap c').rQ pl n e:=by
 cases c with
 |bx e' z c=>cases z with
  |zero=>exact hc
  |succ z=>exact⟨hc.1,hc.2.1,hc.2.2.1,by rw[hs];exact hc.2.2.2⟩
 |_=>exact vW h pl n e
theorem vV{c c':av}{n:Nat}(h:c'.Ad=false)(hs:c'.size=c.strip.size):(c.wrap c').nJ n=c.nJ n:=by
 cases c with
 |bx e' z c=>cases z with
  |zero=>rfl
  |succ z=>exact hs
 |_=>exact yh h n
theorem xL{c:av}{pl:Pl}{n:Nat}{e:TypeId}(h:c.rQ pl n e):c.nJ n<=n:=by
 cases c with
 |bx e' z c=>cases z with
  |zero=>exact ax _
  |succ z=>exact h.2.2.2
 |_=>exact ax _
def EO(id:Id)(fr:Bool):jm:=match fr with | true=> .free | false=> .own (.id id) 0
def vQ(E:Env)(id:Id)(fr:Bool)(c:av):Prop:=
 ∃pl cur e,E.β id=some pl/\E.w.heap[pl.b]? =some (.cells cur e (0,0))/\E.g pl.b=EO id fr/\c.rQ pl cur.size e/\V E c.strip (cur.toList.take (c.nJ cur.size))
def Alike{α β:Type}(R:α->β->Prop):List α->List β->Prop
 |[],[]=>True
 |x::xs,y::ys=>R x y/\Alike R xs ys
 |_,_=>False
theorem Alike.mono{α β:Type}{R R':α->β->Prop}(h:∀x y,R x y->R' x y):∀ {xs:List α} {ys:List β},Alike R xs ys->Alike R' xs ys
 |[],[],_=>trivial
 |_::_,_::_,⟨h1,h2⟩=>⟨h _ _ h1,Alike.mono h h2⟩
 |[],_::_,h=>h.elim
 |_::_,[],h=>h.elim
def ql(E:Env)(t:Ty)(v:Value)(x:t.den):Prop:=∃cs,cG E t cs x/\eC t.agg cs v
def qF(E:Env)(kt vt:Ty)(e:MapEntry)(x:kt.den×vt.den):Prop:=ql E kt e.key x.1/\ql E vt e.val x.2
theorem qF.mono{E E':Env}(h:lU E E'){kt vt:Ty}{e:MapEntry}{x:kt.den×vt.den}(he:qF E kt vt e x):qF E' kt vt e x:=
 let⟨⟨c1,a1,b1⟩,c2,a2,b2⟩:=he
 ⟨⟨c1,a1.mono h,b1⟩,c2,a2.mono h,b2⟩
def By(E:Env)(kt vt:Ty)(es:List MapEntry)(l:List (kt.den×vt.den)):Prop:=∃l',Alike (qF E kt vt) es l'/\l'.Perm l
theorem By.mono{E E':Env}(h:lU E E'){kt vt:Ty}{es:List MapEntry}{l:List (kt.den×vt.den)}(hm:By E kt vt es l):By E' kt vt es l:=
 let⟨l',h1,h2⟩:=hm
 ⟨l',h1.mono λ_ _ he=>he.mono h,h2⟩
def jY(es:List MapEntry)(clock:Nat):Prop:=(es.map (·.born)).Nodup/\∀e∈es,e.born < clock
theorem jY.nil(n:Nat):jY [] n:=⟨gQ,λ_ h=>(by cases h)⟩
theorem jY.push{es:List MapEntry}{clock:Nat}(h:jY es clock){e:MapEntry}(he:e.born=clock):jY (es++ [e]) (clock+1):=by
 refine⟨?_,λx hx=> ?_⟩
 ·rw[kW,List.nodup_append]
  refine⟨h.1,by simp,λa ha b hb=> ?_⟩
  obtain⟨x,hx,rfl⟩:=cX.1 ha
  have:=h.2 x hx
  simp only[bE,gr,bM]at hb
  omega
 ·rcases bf.1 hx with hx | hx
  ·have:=h.2 x hx;omega
  ·rw[bM]at hx;subst hx;omega
theorem jY.erase{es:List MapEntry}{clock:Nat}(h:jY es clock)(j:Nat):jY (es.eraseIdx j) clock:=
 ⟨h.1.sublist ((List.eraseIdx_sublist es j).map _),λx hx=>h.2 x ((List.eraseIdx_sublist es j).subset hx)⟩
theorem jY.set{es:List MapEntry}{clock:Nat}(h:jY es clock){j:Nat}{e x:MapEntry}(hj:es[j]? =some e)(hx:x.born=e.born):jY (es.set j x) clock:=by
 have iC:=(c6.1 hj).1
 have Sc:=(c6.1 hj).2
 have e1:(es.set j x).map (·.born)=es.map (·.born):=by
  rw[List.map_set,hx,<-Sc]
  have:es[j].born=(es.map (·.born))[j]'(by simpa using iC):=by simp
  rw[this,eU]
 refine⟨by rw[e1];exact h.1,λy hy=> ?_⟩
 rcases List.mem_or_eq_of_mem_set hy with hy | hy
 ·exact h.2 y hy
 ·rw[hy,hx,<-Sc]
  exact h.2 _ (b5 iC)
def Qi(E:Env)(id:Id)(kt vt:Ty)(l:List (kt.den×vt.den)):Prop:=
 ∃pl es clock,E.β id=some pl/\E.w.heap[pl.b]? =some (.map es clock)/\E.g pl.b= .own (.id id) 0/\(By E kt vt es.toList l/\(l.map (·.1)).Nodup)/\jY es.toList clock
def NM(E:Env)(i q:Id)(ver:Nat)(kt vt:Ty)(rest:List (kt.den×vt.den))(cur:Option (kt.den×vt.den)):Prop:=
 ∃pl mb since seen c0,E.β i=some pl/\E.w.heap[pl.b]? =some (.mapIter (some mb) since seen c0)/\E.g pl.b= .own (.id i) 0/\∀vr,ver=vr+1->E.rp q vr/\
  (E.cur q vr->(∃k v l,E.s q=some (.obj vr true (.mp k v l)))/\∃plq es clock,E.β q=some plq/\plq.b=mb/\E.w.heap[plq.b]? =some (.map es clock)/\E.g plq.b= .own (.id q) 0/\
   (∀x∈es.toList,x.born < since)/\(since<=c0/\since<=clock)/\(es.toList.map (·.born)).Nodup/\By E kt vt (es.toList.filter λe=> !seen.contains e.born) rest/\
   ∀x,cur=some x->∃(e:MapEntry) (seen':Array Nat),e∈es.toList/\seen=seen'.push e.born/\c0=clock/\qF E kt vt e x)
def D3:Nat->LoopState->Option Code->Prop
 | 0,st,pe=>st= .ready/\pe=none
 | 1,st,_=>st= .busy
 | 2,st,pe=>st= .done/\pe=some .ret
 |n+3,st,pe=>st= .done/\pe=some (.exit n)
def qG(E:Env)(f:av)(tmps:Array Value):Prop:=f.list.length=tmps.size/\∀i,VS E (f.list.getD i .undef) (tmps.getD i undef)
def Qk(E:Env)(id:Id)(c:mA)(f:av)(p:Nat):Prop:=
 ∃pl r,E.β id=some pl/\E.w.heap[pl.b]? =some (.loop r)/\E.g pl.b= .own (.id id) 0/\(r.params=c.ps/\r.assign=c.as/\r.body=c.b)/\qG E f r.tmps/\D3 p r.state r.pending
def nb(E:Env)(id:Id)(fr:Bool):av->Prop
 | .nH c f p=>Qk E id c f p
 | .vec e t l=>On E id fr e t l
 | .mp kt vt l=>Qi E id kt vt l
 | .lR q ver kt vt rest cur=>NM E id q ver kt vt rest cur
 |c=>vQ E id fr c
theorem nb.box{E:Env}{id:Id}{fr:Bool}{c:av}(h:nb E id fr c)(hn:c.fJ=false):vQ E id fr c:=by
 cases c <;> first | exact h | (simp[av.fJ]at hn)
theorem vQ.obj{E:Env}{id:Id}{fr:Bool}{c:av}(h:vQ E id fr c):nb E id fr c:=by
 cases c <;> first | exact h | (obtain⟨_,_,_,_,_,_,_,hv⟩:=h;simp only[av.strip,V]at hv)
def fT(E:Env):Prop:=∀id ver fr c,E.s id=some (.obj ver fr c)->nb E id fr c
structure Trans(w w':World)(g g':Nat->jm):Prop where
 os:w'.os=w.os
 tape:w'.tape=w.tape
 output:w'.output=w.output/\w.drawn<=w'.drawn
 size:w.heap.size<=w'.heap.size
 vS:∀b,b < w.heap.size->match g b with
  | .free=>g' b= .free/\w'.heap[b]? =w.heap[b]?
  | .own .dx k=>g' b= .own .dx k/\w'.heap[b]? =w.heap[b]?
  | .own (.id _) k=>(g' b= .free\/∃i k',g' b= .own (.id i) k'/\k<=k')/\∀off v,off < k->w.cell? ⟨b,off,none⟩=some v->w'.cell? ⟨b,off,none⟩=some v
theorem Trans.refl(w:World)(g:Nat->jm):Trans w w g g:=
 ⟨rfl,rfl,⟨rfl,ax _⟩,ax _,λb _=>by
  cases g b with
  |free=>exact⟨rfl,rfl⟩
  |own o k=>cases o with
   |dx=>exact⟨rfl,rfl⟩
   |id i=>exact⟨.inr ⟨i,k,rfl,ax _⟩,λ_ _ _ h=>h⟩⟩
theorem Trans.trans{w w' w'':World}{g g' g'':Nat->jm}(h:Trans w w' g g')(h':Trans w' w'' g' g''):Trans w w'' g g'':=by
 refine⟨h'.os.trans h.os,h'.tape.trans h.tape,⟨h'.output.1.trans h.output.1,Nat.le_trans h.output.2 h'.output.2⟩,Nat.le_trans h.size h'.size,λb hb=> ?_⟩
 have h1:=h.vS b hb
 have h2:=h'.vS b (lh hb h.size)
 cases hg:g b with
 |free=>
  rw[hg]at h1;simp only at h1 ⊢
  rw[h1.1]at h2;simp only at h2
  exact⟨h2.1,h2.2.trans h1.2⟩
 |own o k=>
  cases o with
  |dx=>
   rw[hg]at h1;simp only at h1 ⊢
   rw[h1.1]at h2;simp only at h2
   exact⟨h2.1,h2.2.trans h1.2⟩
  |id i=>
   rw[hg]at h1;simp only at h1 ⊢
   obtain⟨OE,R2⟩:=h1
   rcases OE with OE | ⟨i',k',OE,hk⟩
   ·rw[OE]at h2;simp only at h2
    exact⟨.inl h2.1,λoff v ho hv=>by
     have:=R2 off v ho hv
     simpa only[World.cell?,h2.2]using this⟩
   ·rw[OE]at h2;simp only at h2
    refine⟨?_,λoff v ho hv=>h2.2 off v (by omega) (R2 off v ho hv)⟩
    rcases h2.1 with QC | ⟨i'',k'',QC,hk'⟩
    ·exact .inl QC
    ·exact .inr ⟨i'',k'',QC,by omega⟩
theorem Trans.mem{E E':Env}(h:Trans E.w E'.w E.g E'.g):lU E E':=by
 refine⟨?_,λb ob hf ho=>by
  have h1:=h.vS b (bk.1 ho).1
  rw[hf]at h1
  exact⟨h1.1,h1.2.trans ho⟩⟩
 intro b off v ⟨hc,ho⟩
 have hb:b < E.w.heap.size:=World.block_lt_of_cell? _ _ hc
 have h1:=h.vS b hb
 unfold Env.has mr at*
 cases hg:E.g b with
 |free=>
  rw[hg]at h1;simp only at h1
  refine⟨?_,by rw[h1.1];trivial⟩
  simpa only[World.cell?,h1.2]using hc
 |own o k=>
  rw[hg]at ho;simp only at ho
  cases o with
  |dx=>
   rw[hg]at h1;simp only at h1
   refine⟨?_,by rw[h1.1];exact ho⟩
   simpa only[World.cell?,h1.2]using hc
  |id i=>
   rw[hg]at h1;simp only at h1
   refine⟨h1.2 off v ho hc,?_⟩
   rcases h1.1 with h2 | ⟨i',k',h2,hk⟩
   ·rw[h2];trivial
   ·rw[h2];show off < k';omega
theorem qG.mono{E E':Env}(h:b6 E E'){f:av}{tmps:Array Value}(hs:qG E f tmps):qG E' f tmps:=⟨hs.1,λi=>(hs.2 i).mono h⟩
theorem nb.LS{E E':Env}(h:b6 E E'){id:Id}{fr:Bool}{c:av}(ho:nb E id fr c)(hβ:E'.β id=E.β id)
    (hb:∀pl,E.β id=some pl->E'.w.heap[pl.b]? =E.w.heap[pl.b]? /\E'.g pl.b=E.g pl.b)
    (hq:∀q ver k v l,(∃kt vt rest cu,c= .lR q (ver+1) kt vt rest cu)->E.s q=some (.obj ver true (.mp k v l))->E'.cur q ver->(∃k v l,E'.s q=some (.obj ver true (.mp k v l)))/\∀pl,E.β q=some pl->E'.w.heap[pl.b]? =E.w.heap[pl.b]? /\E'.g pl.b=E.g pl.b):nb E' id fr c:=by
  by_cases hn:c.fJ=false
  · obtain⟨pl,cur,e,h1,h2,h3,h5,h4⟩:=ho.box hn
    obtain⟨b1,b2⟩:=hb pl h1
    exact vQ.obj ⟨pl,cur,e,by rw[hβ,h1],by rw[b1,h2],by rw[b2,h3],h5,h4.mono h⟩
  · cases c <;> first
      | (exact absurd rfl hn)
      | (obtain⟨pl,r,h1,h2,h3,h4,h5,h6⟩:=ho
         obtain⟨b1,b2⟩:=hb pl h1
         exact⟨pl,r,by rw[hβ,h1],by rw[b1,h2],by rw[b2,h3],h4,h5.mono h,h6⟩)
      | (obtain⟨pl,es,clock,h1,h2,h3,h4⟩:=ho
         obtain⟨b1,b2⟩:=hb pl h1
         exact⟨pl,es,clock,by rw[hβ,h1],by rw[b1,h2],by rw[b2,h3],⟨h4.1.1.mono h.mem,h4.1.2⟩,h4.2⟩)
      | (obtain⟨pl,mb,since,seen,c0,h1,h2,h3,hv⟩:=ho
         obtain⟨b1,b2⟩:=hb pl h1
         refine⟨pl,mb,since,seen,c0,by rw[hβ,h1],by rw[b1,h2],by rw[b2,h3],λvr Fi=> ?_⟩
         obtain⟨h4,h5⟩:=hv vr Fi
         refine⟨h.rp _ _ h4,λhc=> ?_⟩
         obtain⟨c1,e1⟩:=h.cur _ _ h4 hc
         obtain⟨⟨k,v,l,hk⟩,plq,es,clock,g1,g2,g3,g4,g5,g6,g7,g8,g9⟩:=h5 c1
         obtain⟨q1,q2⟩:=hq _ _ _ _ _ ⟨_,_,_,_,by rw[Fi]⟩ hk hc
         obtain⟨q3,q4⟩:=q2 plq g1
         exact⟨q1,plq,es,clock,by rw[e1,g1],g2,by rw[q3,g3],by rw[q4,g4],g5,g6,g7,g8.mono h.mem,λx hx=>
           let⟨e,se,a1,a2,a3,a4⟩:=g9 x hx
           ⟨e,se,a1,a2,a3,a4.mono h.mem⟩⟩)
      |skip
    rename_i e t l
    obtain⟨hz,ho⟩:=ho
    refine⟨hz,?_⟩
    rw[hβ]
    cases hp:E.β id with
    |none=>rw[hp]at ho;exact ho
    |some pl=>
      rw[hp]at ho
      simp only at ho ⊢
      obtain⟨b1,b2⟩:=hb pl hp
      obtain⟨cur,k,h1,h2,h3,h4,h5,h6,h7,h8⟩:=ho
      exact⟨cur,k,by rw[b1,h1],h2,h3,h4,by rw[b2,h5],h6,h7,h8.mono λc x hx=>hx.mono h.mem⟩
theorem nb.mono{E E':Env}(h:b6 E E'){id:Id}{fr:Bool}{c:av}(ho:nb E id fr c)(hβ:E'.β id=E.β id)
  (hb:∀pl,E.β id=some pl->E'.w.heap[pl.b]? =E.w.heap[pl.b]? /\E'.g pl.b=E.g pl.b)
  (hq:∀q ver k v l,E.s q=some (.obj ver true (.mp k v l))->E'.cur q ver->(∃k v l,E'.s q=some (.obj ver true (.mp k v l)))/\∀pl,E.β q=some pl->E'.w.heap[pl.b]? =E.w.heap[pl.b]? /\E'.g pl.b=E.g pl.b):nb E' id fr c:=
 ho.LS h hβ hb λq ver k v l _=>hq q ver k v l
def AS.env(s:AS)(w:World)(g:Nat->jm)(β:Id->Option Pl):Env:= {w,g,β,s:=s.bG}
structure Ctx where
 E:Env
def Ctx.ok(C:Ctx):Prop:=(∀i j,C.E.s (.new i j)=none)/\∀k v fr c,C.E.s (.dd k)=some (.obj v fr c)->v=0
def mG(D:Nat):Deferred:= {target:= .collected D,args:= #[]}
def F7(n:Nat)(ds:List Deferred)(w:World)(g:Nat->jm):Prop:=
 ds.Nodup/\∀d∈ds,∃D,d=mG D/\n<=D/\w.heap[D]? =some (.deferred (some []))/\g D= .own .dx 0
theorem F7.mono{n:Nat}{ds:List Deferred}{w w':World}{g g':Nat->jm}(h:F7 n ds w g)(ht:Trans w w' g g'):F7 n ds w' g':=
 ⟨h.1,λd hd=>by
  obtain⟨D,h1,h2,h3,h4⟩:=h.2 d hd
  have:=ht.vS D (bk.1 h3).1
  rw[h4]at this
  exact⟨D,h1,h2,this.2.trans h3,this.1⟩⟩
structure Inv(C:Ctx)(g:Nat->jm)(β:Id->Option Pl)(s:AS)(a:Act)(w:World):Prop where
 defers:F7 C.E.w.heap.size a.defers w g
 size:a.tmps.size=s.bR.length
 bR:∀i,VS (s.env w g β) (s.slot i) (a.tmps.getD i undef)
 bo:fT (s.env w g β)
 trans:Trans C.E.w w C.E.g g
 le:b6 C.E (s.env w g β)
def fF(C:Ctx)(s:AS)(a:Act)(w:World):Prop:=∃g β,Inv C g β s a w
theorem zA(s:AS)(d:Nat)(v:av)(i:Nat):(s.put (some d) v).slot i=if i=d/\d < s.bR.length then v else s.slot i:=by
 simp only[AS.put,AS.slot,ay,List.getElem?_set]
 by_cases h:d=i
 ·subst h
  by_cases hl:d < s.bR.length
  ·simp[hl]
  ·simp[hl]
 ·simp[h,Ne.symm h]
@[simp] theorem sK(s:AS)(d:Option Tmp)(v:av):(s.put d v).bG=s.bG:=by
 cases d <;> rfl
@[simp] theorem BJ(s:AS)(d:Option Tmp)(v:av)(w:World)(g:Nat->jm)(β:Id->Option Pl):(s.put d v).env w g β=s.env w g β:=by
 simp[AS.env]
theorem En(a:Act)(d:Nat)(v:Value)(i:Nat):(a.put (some d) v).tmps.getD i undef=if i=d/\d < a.tmps.size then v else a.tmps.getD i undef:=by
 simp only[Act.put,bY,df]
 by_cases h:d=i
 ·subst h
  by_cases hl:d < a.tmps.size
  ·simp[hl]
  ·simp[hl]
 ·simp[h,Ne.symm h]
theorem Inv.put{C:Ctx}{g:Nat->jm}{β:Id->Option Pl}{s:AS}{a:Act}{w:World}(h:Inv C g β s a w)(d:Option Tmp){v:av}{x:Value}(hv:VS (s.env w g β) v x):
  Inv C g β (s.put d v) (a.put d x) w:=by
 cases d with
 |none=>exact h
 |some d=>
  refine⟨h.defers,by simpa[Act.put,AS.put]using h.size,λi=> ?_,by simpa using h.bo,h.trans,by simpa using h.le⟩
  rw[BJ,zA,En,h.size]
  split
  ·exact hv
  ·exact h.bR i
theorem Inv.step{C:Ctx}{g g':Nat->jm}{β β':Id->Option Pl}{s s':AS}{a:Act}{w w':World}(h:Inv C g β s a w)(hs:s'.bR=s.bR)
  (ht:Trans w w' g g') (he:b6 (s.env w g β) (s'.env w' g' β')) (ho:fT (s'.env w' g' β')):Inv C g' β' s' a w':=
 ⟨h.defers.mono ht,by rw[hs];exact h.size,λi=>by
  have:s'.slot i=s.slot i:=by simp[AS.slot,hs]
  rw[this]
  exact(h.bR i).mono he,ho,h.trans.trans ht,h.le.trans he⟩
theorem Ir{E:Env}(v:Value):VS E (ofConst v) v:=by
 cases v with
 |bool b=>exact⟨_,by simp[ofConst,V,cG],rfl⟩
 |int k n=>exact⟨_,by simp[ofConst,V,cG],rfl⟩
 |string s=>exact⟨_,by simp[ofConst,V,cG],rfl⟩
 |slice a l c=>cases a with
  |none=>
   cases l with
   |zero=>cases c with
    |zero=>exact⟨_,by simp[ofConst,V],rfl⟩
    |succ _=>trivial
   |succ _=>trivial
  |some _=>trivial
 |pointer a=>cases a with
  |none=>exact⟨_,by simp[ofConst,V],rfl⟩
  |some _=>trivial
 |map r=>cases r with
  |none=>exact⟨_,by simp[ofConst,V],rfl⟩
  |some _=>trivial
 |nilFunc=>exact⟨_,by simp[ofConst,V],rfl⟩
 |_=>trivial
theorem Inv.ev{C:Ctx}{g:Nat->jm}{β:Id->Option Pl}{s:AS}{a:Act}{w:World}(h:Inv C g β s a w)(x:Operand):VS (s.env w g β) (s.ev x) (a.eval x):=by
 cases x with
 |tmp t=>exact h.bR t
 |const v=>exact Ir v
 |func f=>exact⟨_,by simp only[AS.ev,V];exact⟨[],rfl,by simp[VC]⟩,rfl⟩
 |global _=>trivial
theorem dF(s:AS)(id:Id)(e:de)(h:s.bG id≠none):(s.aH id e).bG id=some e:=by
 cases id with
 |dd k=>
  simp only[AS.bG,AS.aH]at*
  have hk:k < s.bT.length:=by
   rcases kf k s.bT.length with h' | h'
   ·exact h'
   ·exact absurd (c7 h') h
  simp[hk]
 |new i j=>
  simp only[AS.bG,AS.aH]at*
  have hj:j < (s.news.getD i []).length:=by
   rcases kf j (s.news.getD i []).length with h' | h'
   ·exact h'
   ·exact absurd (c7 h') h
  have hi:i < s.news.length:=by
   rcases kf i s.news.length with h' | h'
   ·exact h'
   ·simp[c7 h']at hj
  have:((s.news.set i ((s.news.getD i []).set j e)).getD i [])=(s.news.getD i []).set j e:=by
   simp[ay,hi]
  rw[this]
  simp only[List.getElem?_set,hj,if_true]
theorem cC(s:AS)(id id':Id)(e:de)(h:id'≠id):(s.aH id e).bG id'=s.bG id':=by
 cases id with
 |dd k=>
  cases id' with
  |dd k'=>
   simp only[AS.bG,AS.aH]
   rw[dJ (λe=>h (by rw[e]))]
  |new i j=>rfl
 |new i j=>
  cases id' with
  |dd k'=>rfl
  |new i' j'=>
   simp only[AS.bG,AS.aH]
   by_cases hi:i'=i
   ·subst hi
    have hj:j≠j':=λe=>h (by rw[e])
    by_cases hl:i' < s.news.length
    ·have:((s.news.set i' ((s.news.getD i' []).set j e)).getD i' [])=(s.news.getD i' []).set j e:=by
      simp[ay,hl]
     rw[this,dJ hj]
    ·rw[List.set_eq_of_length_le (by omega)]
   ·have:(s.news.set i ((s.news.getD i []).set j e)).getD i' []=s.news.getD i' []:=by
     simp only[ay]
     rw[dJ (Ne.symm hi)]
    rw[this]
@[simp] theorem cK(s:AS)(id:Id)(e:de):(s.aH id e).bR=s.bR:=by cases id <;> rfl
@[simp] theorem Ny(s:AS)(i:Nat)(es:List de):(s.born i es).bR=s.bR:=rfl
theorem dw{s:AS}{id:Id}{v:Nat}{fr:Bool}{c:av}(h:s.obj id=some (v,fr,c)):s.bG id=some (.obj v fr c):=by
 unfold AS.obj at h
 split at h
 ·rename_i h';simp at h;obtain⟨rfl,rfl,rfl⟩:=h;exact h'
 ·cases h
theorem b6.aH{s:AS}{w w':World}{g g':Nat->jm}{β β':Id->Option Pl}{id:Id}{v v':Nat}{fr fr':Bool}{c c':av}(hs:s.bG id=some (.obj v fr c))(hv:v<=v')
  (ht:Trans w w' g g') (hβ:∀i,i≠id->β' i=β i) (hβ':v'=v->β' id=β id):b6 (s.env w g β) ((s.aH id (.obj v' fr' c')).env w' g' β'):=by
 have ji:=dF s id (.obj v' fr' c') (by rw[hs];simp)
 refine⟨Trans.mem ht,λi ver hb=> ?_,λi ver hb hc=> ?_⟩
 ·by_cases hi:i=id
  ·subst hi
   obtain⟨_,h2⟩:=hb
   refine⟨by show(s.aH i (.obj v' fr' c')).bG i≠none;rw[ji];simp,λv'' fr'' c'' he=> ?_⟩
   have he':(s.aH i (.obj v' fr' c')).bG i=some (.obj v'' fr'' c''):=he
   rw[ji]at he'
   simp only[ao,de.obj.injEq]at he'
   have:=h2 v fr c hs
   omega
  ·have:=cC s id i (.obj v' fr' c') hi
   obtain⟨h1,h2⟩:=hb
   exact⟨by show(s.aH id (.obj v' fr' c')).bG i≠none;rw[this];exact h1,λv'' fr'' c'' he=>h2 v'' fr'' c'' (this.symm.trans he)⟩
 ·obtain⟨fr'',c'',hc⟩:=hc
  by_cases hi:i=id
  ·subst hi
   have hc':(s.aH i (.obj v' fr' c')).bG i=some (.obj ver fr'' c''):=hc
   rw[ji]at hc'
   simp only[ao,de.obj.injEq]at hc'
   have h2:=hb.2 v fr c hs
   have e:v'=v:=by omega
   refine⟨⟨fr,c,?_⟩,hβ' e⟩
   rw[<-hc'.1,e];exact hs
  ·have hc':(s.aH id (.obj v' fr' c')).bG i=some (.obj ver fr'' c''):=hc
   rw[cC s id i _ hi]at hc'
   exact⟨⟨fr'',c'',hc'⟩,hβ i hi⟩
theorem fT.aH{s:AS}{w w':World}{g g':Nat->jm}{β β':Id->Option Pl}{id:Id}{v':Nat}{fr':Bool}{c':av}(h:fT (s.env w g β))(ga:s.bG id≠none)
  (he:b6 (s.env w g β) ((s.aH id (.obj v' fr' c')).env w' g' β')) (hβ:∀i,i≠id->β' i=β i)
  (hb:∀i ver fr c pl,i≠id->s.bG i=some (.obj ver fr c)->β i=some pl->w'.heap[pl.b]? =w.heap[pl.b]? /\g' pl.b=g pl.b)
  (ho:nb ((s.aH id (.obj v' fr' c')).env w' g' β') id fr' c')
  (M0:∀ver k v l,s.bG id=some (.obj ver true (.mp k v l))->v'=ver/\fr'=true/\(∃k v l,c'= .mp k v l)/\∀pl,β id=some pl->w'.heap[pl.b]? =w.heap[pl.b]? /\g' pl.b=g pl.b):fT ((s.aH id (.obj v' fr' c')).env w' g' β'):=by
 intro i ver fr c hi
 by_cases cP:i=id
 ·subst cP
  have hi':(s.aH i (.obj v' fr' c')).bG i=some (.obj ver fr c):=hi
  rw[dF s i _ ga]at hi'
  simp only[ao,de.obj.injEq]at hi'
  obtain⟨rfl,rfl,rfl⟩:=hi'
  exact ho
 ·have hi':(s.aH id (.obj v' fr' c')).bG i=some (.obj ver fr c):=hi
  rw[cC s id i _ cP]at hi'
  refine(h i ver fr c hi').mono he (hβ i cP) (λpl hp=>hb i ver fr c pl cP hi' hp) λq vq k v l hq hc=> ?_
  have hq:s.bG q=some (.obj vq true (.mp k v l)):=hq
  by_cases Ri:q=id
  ·subst Ri
   obtain⟨rfl,rfl,⟨k',v',l',rfl⟩,NS⟩:=M0 _ _ _ _ hq
   exact⟨⟨k',v',l',dF s q _ ga⟩,NS⟩
  ·exact⟨⟨k,v,l,by show(s.aH id _).bG q=_;rw[cC s id q _ Ri];exact hq⟩,λpl hp=>hb q vq true _ pl Ri hq hp⟩
theorem xR{s:AS}{w:World}{g:Nat->jm}{β:Id->Option Pl}{id:Id}{v:Nat}{fr:Bool}{c:av}(hs:s.bG id=some (.obj v fr c)):
  ∀ver k v1 l,s.bG id=some (.obj ver true (.mp k v1 l))->v=ver/\true=true/\(∃k v l,c= .mp k v l)/\∀pl,β id=some pl->w.heap[pl.b]? =w.heap[pl.b]? /\g pl.b=g pl.b:=λver k v1 l hl=>by
 rw[hs]at hl
 cases hl
 exact⟨rfl,rfl,⟨_,_,_,rfl⟩,λ_ _=>⟨rfl,rfl⟩⟩
theorem kk{s:AS}{id:Id}{v:Nat}{fr:Bool}{c:av}(hs:s.bG id=some (.obj v fr c))(hc:∀k v1 l,c≠ .mp k v1 l){Q:Nat->Prop}:
  ∀ver k v1 l,s.bG id=some (.obj ver true (.mp k v1 l))->Q ver:=λver k v1 l hl=>by
 rw[hs]at hl
 cases hl
 exact absurd rfl (hc _ _ _)
theorem uY{s:AS}{id:Id}{v:Nat}{c:av}(hs:s.bG id=some (.obj v false c)){Q:Nat->Prop}:
  ∀ver k v1 l,s.bG id=some (.obj ver true (.mp k v1 l))->Q ver:=λver k v1 l hl=>by
 rw[hs]at hl
 cases hl
theorem sF{s:AS}{id:Id}{v:Nat}{fr:Bool}{c:av}(hs:s.bG id=some (.obj v fr c))(h:s.ml id=true):fr=false:=by
 have e:s.obj id=some (v,fr,c):=by simp[AS.obj,hs]
 unfold AS.ml at h
 rw[e]at h
 simpa using h
theorem nb.label{E:Env}{id:Id}{fr:Bool}{c:av}(h:nb E id fr c){pl:Pl}(hp:E.β id=some pl):
    pl.b < E.w.heap.size/\((∃k,E.g pl.b= .own (.id id) k)\/(fr=true/\E.g pl.b= .free)):=by
  by_cases hn:c.fJ=false
  · obtain⟨pl',cur,e,h1,h2,h3,h4⟩:=h.box hn
    rw[hp]at h1
    obtain rfl:pl=pl':=by simpa using h1
    refine⟨(bk.1 h2).1,?_⟩
    cases fr with
    |true=>exact .inr ⟨rfl,h3⟩
    |false=>exact .inl ⟨0,h3⟩
  · cases c <;> first
      | (exact absurd rfl hn)
      | (obtain⟨pl',r,h1,h2,h3,_,_,_⟩:=h
         rw[hp]at h1
         obtain rfl:pl=pl':=by simpa using h1
         exact⟨(bk.1 h2).1,.inl ⟨0,h3⟩⟩)
      | (obtain⟨pl',es,clock,h1,h2,h3,_⟩:=h
         rw[hp]at h1
         obtain rfl:pl=pl':=by simpa using h1
         exact⟨(bk.1 h2).1,.inl ⟨0,h3⟩⟩)
      | (obtain⟨pl',mb,since,seen,c0,h1,h2,h3,_⟩:=h
         rw[hp]at h1
         obtain rfl:pl=pl':=by simpa using h1
         exact⟨(bk.1 h2).1,.inl ⟨0,h3⟩⟩)
      |skip
    obtain⟨_,h⟩:=h
    rw[hp]at h
    obtain⟨cur,k,h1,_,_,_,h5,_⟩:=h
    exact⟨(bk.1 h1).1,.inl ⟨k,h5⟩⟩
def jv{α:Type}(f:Nat->α)(b:Nat)(x:α):Nat->α:=λb'=>if b'=b then x else f b'
@[simp] theorem ew{α:Type}(f:Nat->α)(b:Nat)(x:α):jv f b x b=x:=by simp[jv]
theorem ee{α:Type}(f:Nat->α)(b:Nat)(x:α){b':Nat}(h:b'≠b):jv f b x b'=f b':=by simp[jv,h]
def yP:av->Nat->Prop
 | .vec _ t l,j=>j < l.length*t.size
 |_,_=>True
theorem yP.of{c:av}(h:c.fJ=false)(j:Nat):yP c j:=by
 cases c <;> first | trivial | (simp[av.fJ]at h)
theorem IB{w:World}{b:Nat}{es:Array MapEntry}{clock:Nat}(h:w.heap[b]? =some (.map es clock))(j:Nat):w.cell? ⟨b,j,none⟩=none:=by
 simp[World.cell?,h]
theorem BP{C:Ctx}{g:Nat->jm}{β:Id->Option Pl}{s:AS}{a:Act}{w:World}(h:Inv C g β s a w)(id:Id):
    ∃g',Inv C g' β (s.freeze id) a w/\b6 (s.env w g β) ((s.freeze id).env w g' β)/\Trans w w g g'/\
      (∀v fr c,s.bG id=some (.obj v fr c)->∀pl,β id=some pl->∀j x,w.cell? ⟨pl.b,j,none⟩=some x->
        yP c j->mr g' pl.b j):=by
  unfold AS.freeze
  cases hs:s.bG id with
  |none=>exact⟨g,h,b6.refl _,Trans.refl _ _,λ_ _ _ hh=>by cases hh⟩
  |some e=>
    cases e with
    |dead=>exact⟨g,h,b6.refl _,Trans.refl _ _,λ_ _ _ hh=>by cases hh⟩
    |obj v fr c=>
      simp only
      have iH:nb (s.env w g β) id fr c:=h.bo id v fr c hs
      cases hp:β id with
      |none=>
        have ht:=Trans.refl w g
        have he:b6 (s.env w g β) ((s.aH id (.obj v true c)).env w g β):=b6.aH hs (ax _) ht (λ_ _=>rfl) (λ_=>rfl)
        refine⟨g,h.step (cK _ _ _) ht he ?_,he,ht,λ_ _ _ _ pl xz=>by cases xz⟩
        refine fT.aH h.bo (by rw[hs];simp) he (λ_ _=>rfl) (λ_ _ _ _ _ _ _ _=>⟨rfl,rfl⟩) ?_ (xR hs)
        by_cases hn:c.fJ=false
        · obtain⟨pl,_,_,h1,_⟩:=iH.box hn
          have h1':β id=some pl:=h1
          rw[hp]at h1';cases h1'
        · cases c <;> first
            | (exact absurd rfl hn)
            | (obtain⟨pl,_,h1,_⟩:=iH
               have h1':β id=some pl:=h1
               rw[hp]at h1';cases h1')
            | (obtain⟨pl,_,_,h1,_⟩:=iH
               have h1':β id=some pl:=h1
               rw[hp]at h1';cases h1')
            | (obtain⟨pl,_,_,_,_,h1,_⟩:=iH
               have h1':β id=some pl:=h1
               rw[hp]at h1';cases h1')
            |skip
          obtain⟨hz,ho⟩:=iH
          have ho':(match β id with
            |none=>_
            |some pl=>_):=ho
          refine⟨hz,?_⟩
          show(match β id with
            |none=>_
            |some pl=>_)
          rw[hp]at ho' ⊢
          exact ho'
      |some pl=>
        have O2:=iH.label (pl:=pl) hp
        by_cases hn:c.fJ=false
        · obtain⟨pl',cur,e,h1,h2,h3,h5,h4⟩:=iH.box hn
          have h1':β id=some pl':=h1
          rw[hp]at h1'
          obtain rfl:pl=pl':=by simpa using h1'
          have h3':g pl.b=EO id fr:=h3
          have ht:Trans w w g (jv g pl.b .free):=by
            refine⟨rfl,rfl,⟨rfl,ax _⟩,ax _,λb hb=> ?_⟩
            by_cases BQ:b=pl.b
            · subst BQ
              rw[h3',ew]
              cases fr with
              |true=>exact⟨rfl,rfl⟩
              |false=>exact⟨.inl rfl,λ_ _ _ hh=>hh⟩
            · rw[ee _ _ _ BQ]
              exact(Trans.refl w g).vS b hb
          have he:b6 (s.env w g β) ((s.aH id (.obj v true c)).env w (jv g pl.b .free) β):=b6.aH hs (ax _) ht (λ_ _=>rfl) (λ_=>rfl)
          refine⟨jv g pl.b .free,h.step (cK _ _ _) ht he ?_,he,ht,?_⟩
          · refine fT.aH h.bo (by rw[hs];simp) he (λ_ _=>rfl) (λi ver fr' c' pl' hi cj xz=>⟨rfl,?_⟩) ?_ (kk hs λk v1 l e=>by rw[e]at hn;simp[av.fJ]at hn)
            · by_cases BQ:pl'.b=pl.b
              · rw[BQ,ew]
                have hl:=(h.bo i ver fr' c' cj).label (pl:=pl') xz
                have Gu:(∃k,g pl'.b= .own (.id i) k)\/(fr'=true/\g pl'.b= .free):=hl.2
                rw[BQ,h3']at Gu
                cases fr with
                |true=>exact h3'.symm▸rfl
                |false=>
                  exfalso
                  rcases Gu with⟨k,hk⟩ | ⟨_,hk⟩
                  · simp only[EO,jm.own.injEq,Own.id.injEq]at hk
                    exact hi hk.1.symm
                  · cases hk
              · rw[ee _ _ _ BQ]
            · exact vQ.obj ⟨pl,cur,e,hp,h2,ew _ _ _,h5,V.mono he h4⟩
          · intro v1 fr1 c1 hh pl1 BU j x hx hj
            obtain rfl:pl=pl1:=by simpa using BU
            unfold mr;rw[ew];trivial
        · cases c <;> first | (exact absurd rfl hn) | skip
          rotate_left
          rotate_left
          · rename_i q vq kt vt rest cu
            have ht:=Trans.refl w g
            have he:b6 (s.env w g β) ((s.aH id (.obj v true (.lR q vq kt vt rest cu))).env w g β):=b6.aH hs (ax _) ht (λ_ _=>rfl) (λ_=>rfl)
            have hob':=iH
            obtain⟨pl',mb,since,seen,c0,h1,h2,_⟩:=iH
            have h1':β id=some pl':=h1
            rw[hp]at h1'
            obtain rfl:pl=pl':=by simpa using h1'
            refine⟨g,h.step (cK _ _ _) ht he ?_,he,ht,λ_ _ _ _ pl1 BU j x hx _=> ?_⟩
            · refine fT.aH h.bo (by rw[hs];simp) he (λ_ _=>rfl) (λ_ _ _ _ _ _ _ _=>⟨rfl,rfl⟩) ?_ (xR hs)
              exact nb.mono he (fr:=true) hob' rfl (λ_ _=>⟨rfl,rfl⟩) λq2 v2 k2 v3 l2 yJ _=>⟨⟨k2,v3,l2,by
                have yJ:s.bG q2=some (.obj v2 true (.mp k2 v3 l2)):=yJ
                have ga:q2≠id:=λe=>by rw[e,hs]at yJ;cases yJ
                show(s.aH id _).bG q2=_
                rw[cC s id q2 _ ga];exact yJ⟩,λ_ _=>⟨rfl,rfl⟩⟩
            · obtain rfl:pl=pl1:=by simpa using BU
              have h2:w.heap[pl.b]? =some (.mapIter (some mb) since seen c0):=h2
              simp[World.cell?,h2]at hx
          · rename_i k f p
            have ht:=Trans.refl w g
            have he:b6 (s.env w g β) ((s.aH id (.obj v true (.nH k f p))).env w g β):=b6.aH hs (ax _) ht (λ_ _=>rfl) (λ_=>rfl)
            obtain⟨pl',r,h1,h2,h3,h4,h5,h6⟩:=iH
            have h1':β id=some pl':=h1
            rw[hp]at h1'
            obtain rfl:pl=pl':=by simpa using h1'
            refine⟨g,h.step (cK _ _ _) ht he ?_,he,ht,λ_ _ _ _ pl1 BU j x hx _=> ?_⟩
            · exact fT.aH h.bo (by rw[hs];simp) he (λ_ _=>rfl) (λ_ _ _ _ _ _ _ _=>⟨rfl,rfl⟩) ⟨pl,r,hp,h2,h3,h4,h5.mono he,h6⟩ (xR hs)
            · obtain rfl:pl=pl1:=by simpa using BU
              have h2:w.heap[pl.b]? =some (.loop r):=h2
              simp[World.cell?,h2]at hx
          rotate_left
          · obtain⟨pl',es,clock,h1,h2,h3,h4⟩:=iH
            have h1':β id=some pl':=h1
            rw[hp]at h1'
            obtain rfl:pl=pl':=by simpa using h1'
            have ht:=Trans.refl w g
            rename_i kt vt l
            have he:b6 (s.env w g β) ((s.aH id (.obj v true (.mp kt vt l))).env w g β):=b6.aH hs (ax _) ht (λ_ _=>rfl) (λ_=>rfl)
            refine⟨g,h.step (cK _ _ _) ht he ?_,he,ht,λ_ _ _ _ pl1 BU j x hx _=> ?_⟩
            · exact fT.aH h.bo (by rw[hs];simp) he (λ_ _=>rfl) (λ_ _ _ _ _ _ _ _=>⟨rfl,rfl⟩) ⟨pl,es,clock,hp,h2,h3,⟨h4.1.1.mono he.mem,h4.1.2⟩,h4.2⟩ (xR hs)
            · obtain rfl:pl=pl1:=by simpa using BU
              have h2:w.heap[pl.b]? =some (.map es clock):=h2
              rw[IB h2]at hx
              cases hx
          rename_i e t l
          obtain⟨hz,ho⟩:=iH
          have ho':(match β id with
            |none=>l=[]
            |some pl=>∃cur k,w.heap[pl.b]? =some (.cells cur e (0,0))/\cur.size=pl.cap*t.size/\l.length<=pl.cap/\pl.cap<=maxLen/\g pl.b= .own (.id id) k/\
                k<=l.length*t.size/\(fr=false->k=0)/\aO (cG (s.env w g β) t) (cur.toList.take (l.length*t.size)) l):=ho
          rw[hp]at ho'
          obtain⟨cur,k,h1,h2,h3,h4,h5,h6,h7,h8⟩:=ho'
          have ht:Trans w w g (jv g pl.b (.own (.id id) (l.length*t.size))):=by
            refine⟨rfl,rfl,⟨rfl,ax _⟩,ax _,λb hb=> ?_⟩
            by_cases BQ:b=pl.b
            · subst BQ
              rw[h5,ew]
              exact⟨.inr ⟨id,_,rfl,h6⟩,λ_ _ _ hh=>hh⟩
            · rw[ee _ _ _ BQ]
              exact(Trans.refl w g).vS b hb
          have he:b6 (s.env w g β) ((s.aH id (.obj v true (.vec e t l))).env w (jv g pl.b (.own (.id id) (l.length*t.size))) β):=b6.aH hs (ax _) ht (λ_ _=>rfl) (λ_=>rfl)
          refine⟨_,h.step (cK _ _ _) ht he ?_,he,ht,?_⟩
          · refine fT.aH h.bo (by rw[hs];simp) he (λ_ _=>rfl) (λi ver fr' c' pl' hi cj xz=>⟨rfl,?_⟩) ?_ (kk hs λk v1 l e=>by cases e)
            · by_cases BQ:pl'.b=pl.b
              · exfalso
                have hl:=(h.bo i ver fr' c' cj).label (pl:=pl') xz
                have Gu:(∃k,g pl'.b= .own (.id i) k)\/(fr'=true/\g pl'.b= .free):=hl.2
                rw[BQ,h5]at Gu
                rcases Gu with⟨k,hk⟩ | ⟨_,hk⟩
                · simp only[jm.own.injEq,Own.id.injEq]at hk
                  exact hi hk.1.symm
                · cases hk
              · rw[ee _ _ _ BQ]
            · refine⟨hz,?_⟩
              show(match β id with
                |none=>l=[]
                |some pl=>_)
              rw[hp]
              exact⟨cur,_,h1,h2,h3,h4,ew _ _ _,ax _,(by intro hh;cases hh),h8.mono λc x hx=>hx.mono he.mem⟩
          · intro v1 fr1 c1 hh pl1 BU j x hx hj
            obtain rfl:pl=pl1:=by simpa using BU
            simp only[ao,de.obj.injEq]at hh
            obtain⟨_,_,rfl⟩:=hh
            unfold mr;rw[ew];exact hj
end Go.Ab
namespace Go.Ab
def Oi(E E':Env)(ids:List Id):Prop:=
 ∀id∈ids,∀v fr c,E.s id=some (.obj v fr c)->∀pl,E.β id=some pl->∀j x,E.w.cell? ⟨pl.b,j,none⟩=some x->
  yP c j->E'.has pl.b j x
theorem yt{s:AS}{id i:Id}{v:Nat}{fr:Bool}{c:av}(h:s.bG i=some (.obj v fr c)):∃fr',(s.freeze id).bG i=some (.obj v fr' c):=by
 unfold AS.freeze
 by_cases hi:i=id
 ·subst hi
  rw[h]
  exact⟨true,dF s i _ (by rw[h];simp)⟩
 ·split
  ·exact⟨fr,by rw[cC s id i _ hi];exact h⟩
  ·exact⟨fr,h⟩
theorem eK{C:Ctx}{β:Id->Option Pl}{a:Act}{w:World}:∀(ids:List Id) {g:Nat->jm} {s:AS},Inv C g β s a w->
  ∃g',Inv C g' β (s.aQ ids) a w/\b6 (s.env w g β) ((s.aQ ids).env w g' β)/\Trans w w g g'/\Oi (s.env w g β) ((s.aQ ids).env w g' β) ids
 |[],g,s,h=>⟨g,h,b6.refl _,Trans.refl _ _,λ_ hi=>by cases hi⟩
 |id::ids,g,s,h=>by
  obtain⟨g1,h1,e1,t1,f1⟩:=BP h id
  obtain⟨g2,h2,e2,t2,f2⟩:=eK ids h1
  refine⟨g2,h2,e1.trans e2,t1.trans t2,λi hi v fr c hs pl hp j x hx hj=> ?_⟩
  rcases cv.1 hi with rfl | hi
  ·exact e2.mem.has _ _ _ ⟨hx,f1 v fr c hs pl hp j x hx hj⟩
  ·obtain⟨fr',hs'⟩:=yt (id:=id) hs
   exact f2 i hi v fr' c hs' pl hp j x hx hj
theorem Ce(s:AS)(id:Id):(s.freeze id).bR=s.bR:=by unfold AS.freeze;split <;> simp
theorem jF:∀(ids:List Id) (s:AS),(s.aQ ids).bR=s.bR
 |[],_=>rfl
 |id::ids,s=>by rw[AS.aQ,jF ids,Ce]
theorem DN(s:AS)(id:Id)(q:Nat):(s.freeze id).di q=s.di q:=by
 unfold AS.freeze
 split
 ·rename_i v b c h
  cases id with
  |dd k=>rfl
  |new i j=>
   simp only[AS.aH,AS.di]
   by_cases hq:i=q
   ·subst hq
    simp only[AS.bG]at h
    by_cases hl:i < s.news.length
    ·rw[List.getElem?_set_self hl,bS hl]
     rw[ay,bS hl]at h ⊢
     simp only[dR]at h ⊢
     cases hh:s.news[i]with
     |nil=>rw[hh]at h;simp at h
     |cons x xs=>cases j <;> simp[List.set]
    ·rw[List.set_eq_of_length_le (by omega)]
   ·rw[dJ hq]
 ·rfl
theorem mM:∀(ids:List Id) (s:AS) (q:Nat),(s.aQ ids).di q=s.di q
 |[],_,_=>rfl
 |id::ids,s,q=>by rw[AS.aQ,mM ids,DN]
theorem y3{e:TypeId}{t:Ty}:∀ {p:List sW} {n:Nat} {v:av},(loc (.vec e t []) p).eval=some (n,v)->n=0/\v= .vec e t []
 |[],n,v,h=>by
  simp only[loc,al,cd]at h
  exact⟨h.1.symm,h.2.symm⟩
 | .arr::p,n,v,h=>by
  simp only[loc]at h
  exact y3 h
 | .idx i::p,n,v,h=>by simp[loc,bt]at h
 | .fst::p,n,v,h=>by simp only[loc,ai]at h
 | .snd::p,n,v,h=>by simp only[loc,ai]at h
theorem xU{k:mA}{f:av}{m:Nat}:∀ {p:List sW} {n:Nat} {v:av},(loc (.nH k f m) p).eval=some (n,v)->n=0/\v= .nH k f m
 |[],n,v,h=>by
  simp only[loc,al,cd]at h
  exact⟨h.1.symm,h.2.symm⟩
 | .arr::p,n,v,h=>by
  simp only[loc]at h
  exact xU h
 | .idx i::p,n,v,h=>by simp only[loc,ai]at h
 | .fst::p,n,v,h=>by simp only[loc,ai]at h
 | .snd::p,n,v,h=>by simp only[loc,ai]at h
theorem B1{k t:Ty}{l:List (k.den×t.den)}:∀ {p:List sW} {n:Nat} {v:av},(loc (.mp k t l) p).eval=some (n,v)->n=0/\v= .mp k t l
 |[],n,v,h=>by
  simp only[loc,al,cd]at h
  exact⟨h.1.symm,h.2.symm⟩
 | .arr::p,n,v,h=>by
  simp only[loc]at h
  exact B1 h
 | .idx i::p,n,v,h=>by simp only[loc,ai]at h
 | .fst::p,n,v,h=>by simp only[loc,ai]at h
 | .snd::p,n,v,h=>by simp only[loc,ai]at h
theorem xT{q:Id}{ver:Nat}{k t:Ty}{l:List (k.den×t.den)}{cu:Option (k.den×t.den)}:∀ {p:List sW} {n:Nat} {v:av},(loc (.lR q ver k t l cu) p).eval=some (n,v)->n=0/\v= .lR q ver k t l cu
 |[],n,v,h=>by
  simp only[loc,al,cd]at h
  exact⟨h.1.symm,h.2.symm⟩
 | .arr::p,n,v,h=>by
  simp only[loc]at h
  exact xT h
 | .idx i::p,n,v,h=>by simp only[loc,ai]at h
 | .fst::p,n,v,h=>by simp only[loc,ai]at h
 | .snd::p,n,v,h=>by simp only[loc,ai]at h
theorem wH{E:Env}{s:AS}(hs:E.s=s.bG)(ho:fT E){id:Id}{ver:Nat}{p:List sW}{n:Nat}{t:Ty}{l:List t.den}(h:(s.row id ver p).eval=some (n,⟨t,l⟩)):
    ∃fr c,E.s id=some (.obj ver fr c)/\((E.β id=none/\l=[]/\n=0)\/∃pl cur e,E.β id=some pl/\E.w.heap[pl.b]? =some (.cells cur e (0,0))/\n+l.length*t.size<=cur.size/\
      aO (cG E t) ((cur.toList.drop n).take (l.length*t.size)) l/\
      ∀j,j < n+l.length*t.size->yP c j):=by
  unfold AS.row at h
  cases iH:s.obj id with
  |none=>rw[iH]at h;simp only[ai]at h
  |some r=>
    obtain⟨v,fr,c⟩:=r
    rw[iH]at h
    obtain⟨h1,h2⟩:=aw.1 h
    obtain⟨⟨n',v'⟩,h3,h4⟩:=ak.1 h2
    have hv:v=ver:=by simpa using h1
    subst hv
    have cj:E.s id=some (.obj v fr c):=by rw[hs];exact dw iH
    refine⟨fr,c,cj,?_⟩
    have hO:=ho id v fr c cj
    have Fa:∀(pl:Pl) (cur:Array Value) (e:TypeId) (m:Nat) (t':Ty) (l':List t'.den) (n':Nat),E.β id=some pl->E.w.heap[pl.b]? =some (.cells cur e (0,0))->c.fJ=false->
        V E (.d (.arr m t') l') ((cur.toList.drop n').take (av.d (.arr m t') l').size)->n'+(av.d (.arr m t') l').size<=cur.toList.length->(Out.ok (n',(⟨t',l'⟩:(t:Ty)×List t.den))).eval=some (n,⟨t,l⟩)->
        ∃pl cur e,E.β id=some pl/\E.w.heap[pl.b]? =some (.cells cur e (0,0))/\n+l.length*t.size<=cur.size/\aO (cG E t) ((cur.toList.drop n).take (l.length*t.size)) l/\
          ∀j,j < n+l.length*t.size->yP c j:=by
      intro pl cur e m t' l' n' hp hh hn hv hl he
      simp only[al,cd]at he
      obtain⟨rfl,he⟩:=he
      obtain⟨rfl,he⟩:=he
      simp only[V,cG]at hv
      obtain⟨Nb,w6⟩:=hv
      have l8:∀(t:Ty) (l:List t.den),l.length=m->(av.d (.arr m t) l).size=l.length*t.size:=λt l hh=>by simp[av.size,Ty.size,hh]
      rw[l8 _ _ Nb]at w6 hl
      exact⟨pl,cur,e,hp,hh,by simpa using hl,w6,λj _=>yP.of hn j⟩
    by_cases hn:c.fJ=false
    · right
      obtain⟨pl,cur,e,hp,hh,hg,hk,hV⟩:=hO.box hn
      have hN:=xL hk
      generalize c.nJ cur.size=N at hN hV
      have hNl:(cur.toList.take N).length=N:=by rw[cz,bZ];omega
      obtain⟨u,hu⟩:∃u,c.strip=u:=⟨_,rfl⟩
      rw[hu]at hV h3
      have Kv:∀m k:Nat,m+k<=(cur.toList.take N).length->((cur.toList.take N).drop m).take k=(cur.toList.drop m).take k/\m+k<=cur.toList.length:=λm k Q6=>by
        rw[hNl]at Q6
        refine⟨?_,by rw[bZ];omega⟩
        rw[lT,gS,ei (by omega)]
      rcases lI p u (cur.toList.take N) n' v' (VO.of hV) h3 with⟨rfl,rfl⟩ | ⟨hV',hle⟩
      · cases v' with
        |d t' x=>cases t' with
          |arr m t'=>
            have hs:=hV.size
            have hc:=Kv 0 (av.d (.arr m t') x).size (by omega)
            refine Fa pl cur e m t' x 0 hp hh hn ?_ hc.2 (by simpa only using h4)
            rw[<-hc.1,aJ,bz (by omega)]
            exact hV
          |_=>simp only[ai]at h4
        |vec=>simp only[V]at hV
        |_=>simp only[ai]at h4
      · cases v' with
        |d t' x=>cases t' with
          |arr m t'=>
            have hc:=Kv _ _ hle
            exact Fa pl cur e m t' x n' hp hh hn (by rw[<-hc.1];exact hV') hc.2 (by simpa only using h4)
          |_=>simp only[ai]at h4
        |vec=>simp only[V]at hV'
        |_=>simp only[ai]at h4
    · cases c <;> first
        | (exact absurd rfl hn)
        | (obtain⟨rfl,rfl⟩:=B1 h3
           simp only[ai]at h4)
        | (obtain⟨rfl,rfl⟩:=xT h3
           simp only[ai]at h4)
        | (obtain⟨rfl,rfl⟩:=xU h3
           simp only[ai]at h4)
        |skip
      rename_i e t0 l0
      obtain⟨hz,hO⟩:=hO
      cases hp:E.β id with
      |none=>
        rw[hp]at hO
        have LC:l0=[]:=hO
        subst LC
        obtain⟨rfl,rfl⟩:=y3 h3
        simp only[al,cd]at h4
        obtain⟨rfl,he⟩:=h4
        obtain⟨rfl,he⟩:=he
        exact .inl ⟨rfl,rfl,rfl⟩
      |some pl=>
        rw[hp]at hO
        obtain⟨cur,k,q1,q2,q3,q4,q5,q6,q7,q8⟩:=hO
        right
        have hlen:(cur.toList.take (l0.length*t0.size)).length=l0.length*t0.size:=aO.length (λc x hx=>cG.size hx) q8
        have I2:l0.length*t0.size<=cur.size:=by rw[q2];exact cJ _ q3
        rcases lI (E:=E) p (.vec e t0 l0) (cur.toList.take (l0.length*t0.size)) n' v' q8 h3 with⟨rfl,rfl⟩ | ⟨hV',hle⟩
        · simp only[al,cd]at h4
          obtain⟨rfl,he⟩:=h4
          obtain⟨rfl,he⟩:=he
          exact⟨pl,cur,e,rfl,q1,by omega,by simpa using q8,λj hj=>by show j < l.length*t.size;omega⟩
        · have hle':=hle
          rw[hlen]at hle'
          rw[lT,gS,ei (by omega)]at hV'
          cases v' with
          |d t' x=>cases t' with
            |arr m t'=>
              simp only[al,cd]at h4
              obtain⟨rfl,he⟩:=h4
              obtain⟨rfl,he⟩:=he
              simp only[V,cG]at hV'
              obtain⟨Nb,w6⟩:=hV'
              have l8:∀(t:Ty) (l:List t.den),l.length=m->(av.d (.arr m t) l).size=l.length*t.size:=λt l hh=>by simp[av.size,Ty.size,hh]
              rw[l8 _ _ Nb]at w6 hle'
              refine⟨pl,cur,e,rfl,q1,by omega,w6,λj hj=> ?_⟩
              show j < l0.length*t0.size
              omega
            |_=>simp only[ai]at h4
          |vec=>simp only[V]at hV'
          |_=>simp only[ai]at h4
theorem tN{E:Env}{t:Ty}{cs:List Value}{l:List t.den}(h:aO (cG E t) cs l)(i len:Nat):aO (cG E t) ((cs.drop (i*t.size)).take (len*t.size)) (cut l i len):=
 aO.take (λ_ _ hx=>hx.size) len (aO.drop (λ_ _ hx=>hx.size) i h)
theorem oV{α:Type}{l:List α}{i len:Nat}(h:i+len<=l.length):(cut l i len).length=len:=by
 simp[cut];omega
theorem Ef{E E':Env}{s:AS}(hs:E.s=s.bG)(ho:fT E)(he:b6 E E'){id:Id}{ver c i len n:Nat}{p:List sW}{t':Ty}{l:List t'.den}{cs:List Value}
  (h1:(s.row id ver p).eval=some (n,⟨t',l⟩)) (h3:decide (n+i*t'.size=c/\i+len<=l.length)=true) (hv:V E (.cD id ver p c i len) cs) (hf:Oi E E' (av.cD id ver p c i len).shared):cG E' (.slice t') cs (cut l i len):=by
 simp only[decide_eq_true_eq]at h3
 obtain⟨hc,hlen⟩:=h3
 obtain⟨fr,c0,cj,nN⟩:=wH hs ho h1
 simp only[V]at hv
 obtain⟨a,cap,Hl,hle,ku,hb,ef⟩:=hv
 have ef:=ef ⟨fr,c0,cj⟩
 have Fj:(cut l i len).length=len:=oV hlen
 simp only[cG]
 refine⟨a,cap,?_⟩
 rcases nN with⟨hp,hl,_⟩ | ⟨pl,cur,e,hp,hh,l8,mS,hbound⟩
 ·rw[hp]at ef
  simp only at ef
  obtain⟨rfl,rfl,rfl⟩:=ef
  refine⟨[],?_,by omega,by omega,λ_ _ hh=>by simp at hh,?_⟩
  ·rw[Fj];exact Hl
  ·have:cut l i 0=[]:=by simp[cut]
   rw[this];rfl
 ·rw[hp]at ef
  simp only at ef
  refine⟨((((cur.toList.drop n).take (l.length*t'.size)).drop (i*t'.size)).take (len*t'.size)),by rw[Fj];exact Hl,by omega,by rw[Fj];exact ku,?_,(tN mS i len).mono λ_ _ hx=>hx.mono he.mem⟩
  have hmul:(i+len)*t'.size<=l.length*t'.size:=cJ _ hlen
  rw[dy]at hmul
  rw[zl _ _ _ _ _ hmul]
  intro j v hj
  rw[cI]at hj
  split at hj
  ·rename_i MW
   rw[eG,hc]at hj
   have Q2:0 < len:=by
    rcases jn len with h0 | h0
    ·subst h0;simp at MW
    ·exact h0
   refine⟨pl.b,c,ef.1 (.inl Q2),?_⟩
   refine hf id (by simp[av.shared]) ver fr c0 cj pl hp (c+j) v ?_ (hbound _ (by omega))
   rw[cell_of_row E.w pl.b (c+j) cur e (0,0) hh]
   simpa using hj
  ·cases hj
theorem nF{E E':Env}{s:AS}(hs:E.s=s.bG)(ho:fT E)(he:b6 E E'):∀(v:av) (t:Ty) (x:t.den) (cs:List Value),V E v cs->(s.fZ t v).eval=some x->Oi E E' v.shared->cG E' t cs x
 | .d t' x',t,x,cs,hv,h,_=>by
  have h':(Out.opt (rU t' t x')).eval=some x:=by cases t <;> simpa only[AS.fZ]using h
  simp only[V]at hv
  exact qK (gU.1 h') (hv.mono he.mem)
 | .db,.slice t,x,cs,hv,h,_=>by
  simp only[AS.fZ,al]at h
  subst h
  simp only[V]at hv
  simp only[cG]
  exact⟨none,0,[],by simpa using hv,by simp,by simp,λi v hh=>by simp at hh,rfl⟩
 | .db,.fD t,x,cs,hv,h,_=>by
  simp only[AS.fZ,al]at h
  subst h
  simp only[V]at hv
  simp only[cG]
  exact⟨λ_=>hv,λl hl=>(by cases hl)⟩
 | .cD id ver p c i len,.fD t,x,cs,hv,h,hf=>by
  simp only[AS.fZ]at h
  obtain⟨⟨n,t',l⟩,h1,h2⟩:=ak.1 h
  obtain⟨h3,h4⟩:=bt.1 h2
  exact qK (gU.1 h4) (Ef hs ho he h1 h3 hv hf)
 | .cD id ver p c i len,.slice t,x,cs,hv,h,hf=>by
  simp only[AS.fZ]at h
  obtain⟨⟨n,t',l⟩,h1,h2⟩:=ak.1 h
  obtain⟨h3,h4⟩:=bt.1 h2
  exact qK (gU.1 h4) (Ef hs ho he h1 h3 hv hf)
 | .pr a b,.pair ta tb,x,cs,hv,h,hf=>by
  simp only[AS.fZ]at h
  obtain⟨x1,h1,h2⟩:=ak.1 h
  obtain⟨x2,h3,h4⟩:=ak.1 h2
  obtain rfl:=al.1 h4
  simp only[V]at hv
  obtain⟨ca,cb,e,ha,hb⟩:=hv
  simp only[cG]
  exact⟨ca,cb,e,nF hs ho he a ta x1 ca ha h1 (λi hi=>hf i (by simp[av.shared,hi])),nF hs ho he b tb x2 cb hb h3 (λi hi=>hf i (by simp[av.shared,hi]))⟩
 | .db,.int _,_,_,_,h,_ | .db,.bool,_,_,_,h,_ | .db,.str,_,_,_,h,_ | .db,.unit,_,_,_,h,_ | .db,.pair _ _,_,_,_,h,_ | .db,.arr _ _,_,_,_,h,_ | .db,.l6 _,_,_,_,h,_=>by simp only[AS.fZ,ai]at h
 | .cD ..,.int _,_,_,_,h,_ | .cD ..,.bool,_,_,_,h,_ | .cD ..,.str,_,_,_,h,_ | .cD ..,.unit,_,_,_,h,_ | .cD ..,.pair _ _,_,_,_,h,_ | .cD ..,.arr _ _,_,_,_,h,_ | .cD ..,.l6 _,_,_,_,h,_=>by simp only[AS.fZ,ai]at h
 | .pr _ _,.int _,_,_,_,h,_ | .pr _ _,.bool,_,_,_,h,_ | .pr _ _,.str,_,_,_,h,_ | .pr _ _,.unit,_,_,_,h,_ | .pr _ _,.slice _,_,_,_,h,_ | .pr _ _,.arr _ _,_,_,_,h,_ | .pr _ _,.fD _,_,_,_,h,_ | .pr _ _,.l6 _,_,_,_,h,_=>by simp only[AS.fZ,ai]at h
 | .undef,t,_,_,_,h,_=>by cases t <;> simp only[AS.fZ,ai]at h
 | .gone,t,_,_,_,h,_=>by cases t <;> simp only[AS.fZ,ai]at h
 | .lP,t,_,_,_,h,_=>by cases t <;> simp only[AS.fZ,ai]at h
 | .nm,t,_,_,_,h,_=>by cases t <;> simp only[AS.fZ,ai]at h
 | .yl ..,t,_,_,_,h,_ | .nH ..,t,_,_,_,h,_=>by cases t <;> simp only[AS.fZ,ai]at h
 | .qe,t,_,_,_,h,_=>by cases t <;> simp only[AS.fZ,ai]at h
 | .sb _,t,_,_,_,h,_=>by cases t <;> simp only[AS.fZ,ai]at h
 | .ptr ..,t,_,_,_,h,_=>by cases t <;> simp only[AS.fZ,ai]at h
 | .eO ..,t,_,_,_,h,_=>by cases t <;> simp only[AS.fZ,ai]at h
 | .fn ..,t,_,_,_,h,_=>by cases t <;> simp only[AS.fZ,ai]at h
 | .cons ..,t,_,_,_,h,_=>by cases t <;> simp only[AS.fZ,ai]at h
 | .nil,t,_,_,_,h,_=>by cases t <;> simp only[AS.fZ,ai]at h
 | .vec ..,t,_,_,_,h,_=>by cases t <;> simp only[AS.fZ,ai]at h
 | .bx ..,t,_,_,_,h,_ | .lF ..,t,_,_,_,h,_ | .mp ..,t,_,_,_,h,_ | .lR ..,t,_,_,_,h,_=>by cases t <;> simp only[AS.fZ,ai]at h
theorem pS{s:AS}{t:Ty}{v:av}{x:t.den}(h:(s.fZ t v).eval=some x):v.dK=true:=by
 cases v <;> first
  |rfl
  | (cases t <;> simp only[AS.fZ,ai]at h)
theorem zL{s:AS}{t:Ty}{v:av}{x:t.den}(h:(s.fZ t v).eval=some x):v.agg=t.agg:=by
 cases v with
 |d t' x'=>
  have h':(Out.opt (rU t' t x')).eval=some x:=by cases t <;> simpa only[AS.fZ]using h
  exact AG (gU.1 h')
 |_=>cases t <;> first | rfl | (simp only[AS.fZ,ai]at h)
theorem pq{C:Ctx}{g:Nat->jm}{β:Id->Option Pl}{s:AS}{a:Act}{w:World}(h:Inv C g β s a w){v:av}{y:Value}(hv:VS (s.env w g β) v y){t:Ty}{x:t.den}(ht:(s.fZ t v).eval=some x):
  ∃g',Inv C g' β (s.aQ v.shared) a w/\b6 (s.env w g β) ((s.aQ v.shared).env w g' β)/\Trans w w g g'/\
   ∃cs,cG ((s.aQ v.shared).env w g' β) t cs x/\eC t.agg cs y:=by
 obtain⟨g',h1,h2,h3,h4⟩:=eK v.shared h
 obtain⟨cs,hV,hO⟩:=hv.dK (pS ht)
 exact⟨g',h1,h2,h3,cs,nF rfl h.bo h2 v t x cs hV ht h4,by rw[<-zL ht];exact hO⟩
theorem yr{α:Type}{R:List Value->α->Prop}{f:α->List Value->Option (List Value)}(hf:∀x cs r,f x cs=some r->∃c,cs=c++r/\R c x):
  ∀(l:List α) (cs r:List Value),IJ f l cs=some r->∃c,cs=c++r/\aO R c l
 |[],cs,r,h=>by
  simp only[IJ,ao]at h
  exact⟨[],by simp[h],rfl⟩
 |x::xs,cs,r,h=>by
  simp only[IJ]at h
  cases hx:f x cs with
  |none=>rw[hx]at h;cases h
  |some r1=>
   rw[hx]at h
   obtain⟨c1,e1,h1⟩:=hf x cs r1 hx
   obtain⟨c2,e2,h2⟩:=yr hf xs r1 r h
   exact⟨c1++c2,by rw[e1,e2,bg],c1,c2,rfl,h1,h2⟩
theorem qL(E:Env):∀(t:Ty) (x:t.den) (cs r:List Value),oe t x cs=some r->∃c,cs=c++r/\cG E t c x
 | .int k,x,cs,r,h=>by
  cases cs with
  |nil=>simp[oe]at h
  |cons v r'=>
   cases v <;> simp only[oe]at h <;> try (cases h;done)
   rename_i k' n
   split at h
   ·rename_i h1 h2
    simp at h1 h2 h
    subst h1 h2 h
    exact⟨[.int k n],rfl,by simp[cG]⟩
   ·cases h
 | .bool,x,cs,r,h=>by
  cases cs with
  |nil=>simp[oe]at h
  |cons v r'=>
   cases v <;> simp only[oe]at h <;> try (cases h;done)
   rename_i b
   split at h
   ·rename_i h1
    simp at h1 h
    subst h1 h
    exact⟨[.bool b],rfl,by simp[cG]⟩
   ·cases h
 | .str,x,cs,r,h=>by
  cases cs with
  |nil=>simp[oe]at h
  |cons v r'=>
   cases v <;> simp only[oe]at h <;> try (cases h;done)
   rename_i b
   split at h
   ·rename_i h1
    simp at h1 h
    subst h1 h
    exact⟨[.string b],rfl,by simp[cG]⟩
   ·cases h
 | .slice t,x,cs,r,h=>by
  cases x with
  |cons _ _=>simp[oe]at h
  |nil=>
   cases cs with
   |nil=>simp[oe]at h
   |cons v r'=>
    unfold oe at h
    split at h <;> try (cases h;done)
    all_goals simp_all
    exact⟨[.slice none 0 0],rfl,by simp only[cG];exact⟨none,0,[],rfl,by simp,by simp,λi v hh=>by simp at hh,rfl⟩⟩
 | .fD t,x,cs,r,h=>by
  cases x with
  |some _=>simp[oe]at h
  |none=>
   cases cs with
   |nil=>simp[oe]at h
   |cons v r'=>
    unfold oe at h
    split at h <;> try (cases h;done)
    all_goals simp_all
    exact⟨[.slice none 0 0],rfl,by simp[cG]⟩
 | .l6 t,x,cs,r,h=>by
  cases x with
  |some _=>simp[oe]at h
  |none=>
   cases cs with
   |nil=>simp[oe]at h
   |cons v r'=>
    unfold oe at h
    split at h <;> try (cases h;done)
    all_goals simp_all
    exact⟨[.pointer none],rfl,by simp[cG]⟩
 | .unit,x,cs,r,h=>by
  simp only[oe,ao]at h
  exact⟨[],by simp[h],by simp[cG]⟩
 | .pair a b,x,cs,r,h=>by
  simp only[oe]at h
  cases hx:oe a x.1 cs with
  |none=>rw[hx]at h;cases h
  |some r1=>
   rw[hx]at h
   obtain⟨c1,e1,h1⟩:=qL E a x.1 cs r1 hx
   obtain⟨c2,e2,h2⟩:=qL E b x.2 r1 r h
   exact⟨c1++c2,by rw[e1,e2,bg],by simp only[cG];exact⟨c1,c2,rfl,h1,h2⟩⟩
 | .arr n t,x,cs,r,h=>by
  simp only[oe]at h
  split at h
  ·rename_i h1
   obtain⟨c,e,hc⟩:=yr (λx cs r hh=>qL E t x cs r hh) _ _ _ h
   exact⟨c,e,by simp only[cG];exact⟨by simpa using h1,hc⟩⟩
  ·cases h
theorem E0(E:Env):∀(a:av) (cs r:List Value),xv a cs=some r->∃c,cs=c++r/\V E a c:=by
 intro a
 induction a with
 |d t x=>
  intro cs r h
  simp only[xv]at h
  obtain⟨c,e,hc⟩:=qL E t x cs r h
  exact⟨c,e,by simpa only[V]using hc⟩
 |pr a b iha ihb=>
  intro cs r h
  simp only[xv]at h
  cases hx:xv a cs with
  |none=>rw[hx]at h;cases h
  |some r1=>
   rw[hx]at h
   obtain⟨c1,e1,h1⟩:=iha cs r1 hx
   obtain⟨c2,e2,h2⟩:=ihb r1 r h
   exact⟨c1++c2,by rw[e1,e2,bg],by simp only[V];exact⟨c1,c2,rfl,h1,h2⟩⟩
 |db=>intro cs r h;unfold xv at h;split at h <;> simp_all <;> exact⟨[.slice none 0 0],rfl,by simp[V]⟩
 |lP=>intro cs r h;unfold xv at h;split at h <;> simp_all <;> exact⟨[.pointer none],rfl,by simp[V]⟩
 |nm=>intro cs r h;unfold xv at h;split at h <;> simp_all <;> exact⟨[.nilFunc],rfl,by simp[V]⟩
 |qe=>intro cs r h;unfold xv at h;split at h <;> simp_all <;> exact⟨[.map none],rfl,by simp[V]⟩
 |_=>intro cs r h;simp[xv]at h
theorem mN{P:Program}{T:TypeId}{z:av}(h:Cp P T z=true)(E:Env):
  ∃i zv,P.info? T=some i/\i.zero=some zv/\V E z zv.cells.toList/\eC z.agg zv.cells.toList zv:=by
 unfold Cp at h
 split at h <;> try (cases h;done)
 rename_i i hi
 split at h <;> try (cases h;done)
 rename_i zv hz
 simp only[ag,beq_iff_eq]at h
 obtain⟨h1,h2⟩:=h
 split at h1 <;> try (cases h1;done)
 rename_i he
 obtain⟨c,e,hV⟩:=E0 E z _ _ he
 rw[cH]at e
 rw[<-e]at hV
 refine⟨i,zv,hi,hz,hV,?_⟩
 cases Dj:z.agg with
 |true=>
  rw[Dj]at h2
  cases zv <;> simp[lB]at h2
  simp[eC,Value.cells]
 |false=>
  rw[Dj]at h2
  cases zv <;> first | (simp[lB]at h2;done) | simp[eC,Value.cells]
end Go.Ab
namespace Go.Ab
def Fr(r:Option Nat):Fence:= {Fence.wide with round:=r}
def ez(P:Program)(o:Oper)(a:Act)(w:World)(K:Act->World->Prop):Prop:=
 (∃x w',(execOp a.eval o).run P w= .ok (.value x) w'/\K (a.put o.dst x) w')\/
 (∃w',(execOp a.eval o).run P w= .ok .skip w'/\K (a.put o.dst undef) w')\/
 (∃f args w',(execOp a.eval o).run P w= .ok (.enter f args) w'/\Calls P f args w' λe w''=>∃x,e= .returned x/\K (a.put o.dst x) w'')\/
 (∃l f tmps as b w',(execOp a.eval o).run P w= .ok (.round l f tmps as b) w'/\∀r n,RoundIn (Fr r) n P l f tmps as b w' λe w''=>∃x,e= .returned x/\K (a.put o.dst x) w'')
theorem ez.plain{P:Program}{o:Oper}{a:Act}{w:World}{K:Act->World->Prop}(h:ez P o a w K)(c:Call):o.op≠ .defer c:=λho=>by
 have hd:∀x w',(execOp a.eval o).run P w= .ok x w'->∃d,x= .defer d:=λx w' hx=>by
  simp only[execOp,ho,Sem.run_bind]at hx
  cases hr:(resolve a.eval c o.type).run P w with
  |ok d w1=>
   rw[hr]at hx
   simp only[Result.andThen_ok,Sem.run_pure,Result.ok.injEq]at hx
   exact⟨d,hx.1.symm⟩
  |halt _ _=>rw[hr]at hx;simp[Result.andThen]at hx
 rcases h with⟨x,w',hr,_⟩ | ⟨w',hr,_⟩ | ⟨f,args,w',hr,_⟩ | ⟨l,f,tmps,as,b,w',hr,_⟩
 ·obtain⟨d,e⟩:=hd _ _ hr;cases e
 ·obtain⟨d,e⟩:=hd _ _ hr;cases e
 ·obtain⟨d,e⟩:=hd _ _ hr;cases e
 ·obtain⟨d,e⟩:=hd _ _ hr;cases e
theorem ez.wpIn{r:Option Nat}{n:Nat}{P:Program}{o:Oper}{a:Act}{w:World}{K:Act->World->Prop}{Q:Exit->Act->World->Prop}(h:ez P o a w K):o.wpIn (Fr r) n P a w K Q:=by
 have hp:=h.plain
 refine⟨λ_ _=>trivial,?_⟩
 rw[Oper.semAt_eq _ _ _ hp]
 rcases h with⟨x,w',hr,hk⟩ | ⟨w',hr,hk⟩ | ⟨f,args,w',hr,hk⟩ | ⟨l,f,tmps,as,b,w',hr,hk⟩
 rotate_left 3
 ·rw[hr,Oper.uponIn_round]
  refine⟨λh=>(by cases h),(hk r (n - 1)).mono λe w'' ⟨x,he,hx⟩=> ?_⟩
  subst he
  exact hx
 ·rw[hr,Oper.uponIn_value];exact hk
 ·rw[hr,Oper.uponIn_skip];exact hk
 ·rw[hr,Oper.uponIn_enter]
  refine⟨λh=>(by cases h),?_⟩
  have h1:CallsIn (Fr r) (n - 1) P f args w' _:=callsIn_wide.2 hk
  refine h1.mono λe w'' ⟨x,he,hx⟩=> ?_
  subst he
  exact hx
theorem ez.mono{P:Program}{o:Oper}{a:Act}{w:World}{K K':Act->World->Prop}(h:ez P o a w K)(hk:∀a w,K a w->K' a w):ez P o a w K':=by
 rcases h with⟨x,w',hr,h⟩ | ⟨w',hr,h⟩ | ⟨f,args,w',hr,h⟩ | ⟨l,f,tmps,as,b,w',hr,h⟩
 ·exact .inl ⟨x,w',hr,hk _ _ h⟩
 ·exact .inr (.inl ⟨w',hr,hk _ _ h⟩)
 ·exact .inr (.inr (.inl ⟨f,args,w',hr,h.mono λe w'' ⟨x,he,hx⟩=>⟨x,he,hk _ _ hx⟩⟩))
 ·exact .inr (.inr (.inr ⟨l,f,tmps,as,b,w',hr,λr n=>(h r n).mono λe w'' ⟨x,he,hx⟩=>⟨x,he,hk _ _ hx⟩⟩))
section
variable {P:Program} {C:Ctx} {g:Nat->jm} {β:Id->Option Pl} {s:AS} {a:Act} {w:World} {o:Oper}
theorem Inv.value(h:Inv C g β s a w){v:av}{x:Value}(hv:VS (s.env w g β) v x)(hr:(execOp a.eval o).run P w= .ok (.value x) w):ez P o a w (fF C (s.put o.dst v)):=
 .inl ⟨x,w,hr,g,β,h.put o.dst hv⟩
theorem dg{f:Sem Value}{x:Value}{w':World}(he:execOp a.eval o=(do pure (.value (<-f))))(hf:f.run P w= .ok x w'):(execOp a.eval o).run P w= .ok (.value x) w':=by
 rw[he,Sem.run_bind,hf];rfl
theorem AL{f:Sem Unit}{w':World}(he:execOp a.eval o=(do f;pure .skip))(hf:f.run P w= .ok () w'):(execOp a.eval o).run P w= .ok .skip w':=by
 rw[he,Sem.run_bind,hf];rfl
theorem mE{E:Env}{k:IntKind}{n:Int}{y:Value}(h:VS E (.d (.int k) n) y):y= .int k n:=by
 obtain⟨cs,hv,ho⟩:=h
 simp only[V,cG]at hv
 have ho':cs=[y]:=ho
 rw[hv]at ho'
 simpa using ho'.symm
theorem xK{E:Env}{b:Bool}{y:Value}(h:VS E (.d .bool b) y):y= .bool b:=by
 obtain⟨cs,hv,ho⟩:=h
 simp only[V,cG]at hv
 have ho':cs=[y]:=ho
 rw[hv]at ho'
 simpa using ho'.symm
theorem sC{E:Env}{b:ByteArray}{y:Value}(h:VS E (.d .str b) y):y= .string b:=by
 obtain⟨cs,hv,ho⟩:=h
 simp only[V,cG]at hv
 have ho':cs=[y]:=ho
 rw[hv]at ho'
 simpa using ho'.symm
theorem iB{E:Env}(k:IntKind)(n:Int):VS E (.d (.int k) n) (.int k n):=⟨[.int k n],by simp[V,cG],rfl⟩
theorem mP{E:Env}(b:Bool):VS E (.d .bool b) (.bool b):=⟨[.bool b],by simp[V,cG],rfl⟩
theorem Bz{E:Env}(b:ByteArray):VS E (.d .str b) (.string b):=⟨[.string b],by simp[V,cG],rfl⟩
theorem Gy{T:TypeId}{d:TypeDesc}(h:P.underlying T=some d):∃i,P.info? T=some i:=by
 unfold Program.underlying at h
 split at h
 ·rename_i h';exact⟨_,h'⟩
 ·rename_i i _ h';exact⟨_,h'⟩
 ·cases h
theorem run_sizeOf{T:TypeId}{i:TypeInfo}(h:P.info? T=some i)(w:World):(sizeOf T).run P w= .ok i.size w:=by
 simp[sizeOf,typeInfo,h]
theorem jo{T:TypeId}{i:TypeInfo}(h:P.info? T=some i):P.cellsOf T=i.size:=by simp[Program.cellsOf,h]
theorem lr{T:TypeId}{v:av}(h:fits P T v=true):v.dK=true/\∃i,P.info? T=some i/\i.size=v.size/\∀w,(isAgg T).run P w= .ok v.agg w:=by
 unfold fits at h
 simp only[ag,beq_iff_eq]at h
 obtain⟨⟨h1,h2⟩,h3⟩:=h
 cases hu:P.underlying T with
 |none=>rw[hu]at h3;cases h3
 |some d=>
  obtain⟨i,hi⟩:=Gy hu
  refine⟨h1,i,hi,by rw[jo hi]at h2;exact h2,λw=> ?_⟩
  rw[hu]at h3
  unfold isAgg
  rw[Sem.run_bind,run_underlying hu w]
  cases d <;> simp at h3 <;> simp[h3]
theorem ph{T:TypeId}{v:av}(hf:fits P T v=true){b off:Nat}{cs:List Value}(hl:cs.length=v.size)(hc:∀j x,cs[j]? =some x->w.cell? ⟨b,off+j,none⟩=some x):
  ∃y,(loadVar T ⟨b,off,none⟩).run P w= .ok y w/\eC v.agg cs y:=by
 obtain⟨_,i,hi,hs,Dj⟩:=lr hf
 unfold loadVar
 rw[Sem.run_bind,Dj w]
 simp only[Result.andThen_ok]
 have qt:∀j x,cs[j]? =some x->w.cell? ((⟨b,off,none⟩:Addr).add j)=some x:=λj x hj=>by
  rw[Addr.add_lit];exact hc j x hj
 cases ha:v.agg with
 |true=>
  refine⟨.agg cs.toArray,?_,rfl⟩
  simp only[if_true,Sem.run_bind,run_sizeOf hi,Result.andThen_ok,hs,<-hl,run_loadCells_list w _ cs qt]
  rfl
 |false=>
  have h1:v.size=1:=av.Eb ha
  obtain⟨y,rfl⟩:∃y,cs=[y]:=by
   match cs,hl with
   |[y],_=>exact⟨y,rfl⟩
   |[],hh=>simp[h1]at hh
   |_::_::_,hh=>simp[h1]at hh
  refine⟨y,?_,rfl⟩
  have:=hc 0 y rfl
  rw[cq]at this
  simp[this]
theorem rz{T:TypeId}{v:av}{E:Env}(hf:fits P T v=true){cs:List Value}{y:Value}(hV:V E v cs)(ho:eC v.agg cs y){b off:Nat}{cur:Array Value}{e:TypeId}
  (hh:w.heap[b]? =some (.cells cur e (0,0))) (hle:off+cs.length<=cur.size):
  (storeVar T ⟨b,off,none⟩ y).run P w= .ok () (w.setRow b (cT cur.toList off cs).toArray):=by
 obtain⟨_,i,hi,hs,_⟩:=lr hf
 have Hl:y.cells=cs.toArray:=ho.cells hV.one
 have hl:=hV.size
 have lQ:=run_storeCells_at P b off e cs 0 cur w hh (by simpa using hle) hV.one
 simp only[cq]at lQ
 unfold storeVar
 simp only[Hl,Sem.run_bind,run_sizeOf hi,Result.andThen_ok,fx,hl,hs,ne_eq,not_true_eq_false,if_false]
 simpa[cT]using lQ
theorem kH(w:World)(ob:Obj){b:Nat}(h:b < w.heap.size):(w.alloc ob).heap[b]? =w.heap[b]? :=by
 show(w.heap.push ob)[b]? =w.heap[b]?
 rw[Array.getElem?_push,if_neg (Nat.ne_of_lt h)]
theorem lV(w:World)(ob:Obj):(w.alloc ob).heap[w.heap.size]? =some ob:=by
 show(w.heap.push ob)[w.heap.size]? =some ob
 simp
theorem Trans.alloc(w:World)(g:Nat->jm)(ob:Obj)(l:jm):Trans w (w.alloc ob) g (jv g w.heap.size l):=by
 refine⟨rfl,rfl,⟨rfl,ax _⟩,by simp,λb hb=> ?_⟩
 rw[ee _ _ _ (by omega),kH w ob hb]
 cases g b with
 |free=>exact⟨rfl,rfl⟩
 |own o k=>cases o with
  |dx=>exact⟨rfl,rfl⟩
  |id i=>exact⟨.inr ⟨i,k,rfl,ax _⟩,λoff v _ hv=>by rw[World.cell?_alloc_lt w ob _ hb];exact hv⟩
theorem Trans.drew(w:World)(g:Nat->jm):Trans w w.drew g g:=Trans.refl w g |> λh=>⟨h.os,h.tape,⟨h.output.1,Nat.le_succ _⟩,h.size,h.vS⟩
theorem fT.same{w':World}{g':Nat->jm}(h:fT (s.env w g β))(he:b6 (s.env w g β) (s.env w' g' β))
  (hb:∀i ver fr c pl,s.bG i=some (.obj ver fr c)->β i=some pl->w'.heap[pl.b]? =w.heap[pl.b]? /\g' pl.b=g pl.b):fT (s.env w' g' β):=
 λi ver fr c hi=>(h i ver fr c hi).mono he rfl (λpl hp=>hb i ver fr c pl hi hp) λq vq k v l hq _=>⟨⟨k,v,l,hq⟩,λpl hp=>hb q vq true _ pl hq hp⟩
theorem b6.same{w':World}{g':Nat->jm}(ht:Trans w w' g g'):b6 (s.env w g β) (s.env w' g' β):=
 ⟨Trans.mem ht,λ_ _ h=>h,λ_ _ _ h=>⟨h,rfl⟩⟩
theorem Inv.sH(h:Inv C g β s a w)(ob:Obj):Inv C (jv g w.heap.size .free) β s a (w.alloc ob):=by
 have ht:=Trans.alloc w g ob .free
 have he:b6 (s.env w g β) (s.env (w.alloc ob) (jv g w.heap.size .free) β):=b6.same ht
 refine h.step rfl ht he (fT.same h.bo he λi ver fr c pl hi hp=> ?_)
 have hl:=((h.bo i ver fr c hi).label (pl:=pl) hp).1
 have hl':pl.b < w.heap.size:=hl
 exact⟨kH w ob hl',ee _ _ _ (by omega)⟩
theorem Inv.drew(h:Inv C g β s a w):Inv C g β s a w.drew:=by
 have ht:=Trans.drew w g
 have he:b6 (s.env w g β) (s.env w.drew g β):=b6.same ht
 exact h.step rfl ht he (fT.same h.bo he λ_ _ _ _ _ _ _=>⟨rfl,rfl⟩)
theorem gZ{q:Nat}(h:s.di q=true):(∀j,s.bG (.new q j)=none)/\q < s.news.length:=by
 unfold AS.di at h
 split at h
 ·rename_i hn
  refine⟨λj=> ?_,(c6.1 hn).1⟩
  simp[AS.bG,ay,hn]
 ·cases h
theorem oh{q:Nat}(hq:q < s.news.length)(es:List de)(j:Nat):(s.born q es).bG (.new q j)=es[j]? :=by
 simp[AS.bG,AS.born,ay,hq]
theorem fU{q:Nat}(es:List de){id:Id}(h:∀j,id≠ .new q j):(s.born q es).bG id=s.bG id:=by
 cases id with
 |dd k=>rfl
 |new i j=>
  have:i≠q:=λe=>h j (by rw[e])
  simp only[AS.bG,AS.born,ay]
  rw[dJ (Ne.symm this)]
def sG(β:Id->Option Pl)(id:Id)(p:Option Pl):Id->Option Pl:=λi=>if i=id then p else β i
@[simp] theorem gN(β:Id->Option Pl)(id:Id)(p:Option Pl):sG β id p id=p:=by simp[sG]
theorem pv(β:Id->Option Pl)(id:Id)(p:Option Pl){i:Id}(h:i≠id):sG β id p i=β i:=by simp[sG,h]
theorem Inv.vT(h:Inv C g β s a w){q:Nat}(hq:s.di q=true){w':World}{g':Nat->jm}{c:av}{p:Option Pl}(ht:Trans w w' g g')
  (hb:∀b,b < w.heap.size->w'.heap[b]? =w.heap[b]? /\g' b=g b)
  (ho:b6 (s.env w g β) ((s.born q [.obj 0 false c]).env w' g' (sG β (.new q 0) p))->nb ((s.born q [.obj 0 false c]).env w' g' (sG β (.new q 0) p)) (.new q 0) false c):
  Inv C g' (sG β (.new q 0) p) (s.born q [.obj 0 false c]) a w'/\b6 (s.env w g β) ((s.born q [.obj 0 false c]).env w' g' (sG β (.new q 0) p)):=by
 obtain⟨hv,hl⟩:=gZ hq
 have ga:∀id,s.bG id≠none->∀j,id≠ .new q j:=λid cP j e=>cP (by rw[e];exact hv j)
 have he:b6 (s.env w g β) ((s.born q [.obj 0 false c]).env w' g' (sG β (.new q 0) p)):=by
  refine⟨Trans.mem ht,λid ver Hj=> ?_,λid ver Hj hc=> ?_⟩
  ·have cP:=ga id Hj.1
   have e:=fU (s:=s) [.obj 0 false c] cP
   exact⟨by show(s.born q _).bG id≠none;rw[e];exact Hj.1,λv fr c' hh=>Hj.2 v fr c' (e.symm.trans hh)⟩
  ·have cP:=ga id Hj.1
   have e:=fU (s:=s) [.obj 0 false c] cP
   obtain⟨fr,c',hc⟩:=hc
   exact⟨⟨fr,c',e.symm.trans hc⟩,pv _ _ _ (cP 0)⟩
 refine⟨h.step rfl ht he λid ver fr c' cP=> ?_,he⟩
 have hid':(s.born q [.obj 0 false c]).bG id=some (.obj ver fr c'):=cP
 by_cases hi:∃j,id= .new q j
 ·obtain⟨j,rfl⟩:=hi
  rw[oh hl]at hid'
  cases j with
  |zero=>
   simp only[eB,ao,de.obj.injEq]at hid'
   obtain⟨rfl,rfl,rfl⟩:=hid'
   exact ho he
  |succ j=>simp at hid'
 ·have hi':∀j,id≠ .new q j:=λj e=>hi ⟨j,e⟩
  rw[fU _ hi']at hid'
  refine(h.bo id ver fr c' hid').mono he (pv _ _ _ (hi' 0)) (λpl hp=> ?_) λq2 vq k v l yJ _=> ?_
  ·exact hb pl.b ((h.bo id ver fr c' hid').label (pl:=pl) hp).1
  ·have Rh:s.bG q2=some (.obj vq true (.mp k v l)):=yJ
   refine⟨⟨k,v,l,by show(s.born q _).bG q2=_;rw[fU _ (ga q2 (by rw[Rh];simp))];exact Rh⟩,λpl hp=>hb pl.b ((h.bo q2 vq true _ Rh).label (pl:=pl) hp).1⟩
theorem kh{q:Nat}(hq:s.di q=true)(c:av)(w':World)(g':Nat->jm)(β':Id->Option Pl):((s.born q [.obj 0 false c]).env w' g' β').rp (.new q 0) 0:=by
 have e:=oh (s:=s) (gZ hq).2 [.obj 0 false c] 0
 refine⟨by show(s.born q [.obj 0 false c]).bG (.new q 0)≠none;rw[e];simp,λv fr c' _=>bh _⟩
theorem Inv.GI(h:Inv C g β s a w){q:Nat}(hq:s.di q=true){v:av}{cs:List Value}{e:TypeId}(hk:∀pl n,v.rQ pl n e)(hN:∀n,v.nJ n=n)(hv:V (s.env w g β) v.strip cs):
  ∃g' β',Inv C g' β' (s.born q [.obj 0 false v]) a (w.alloc (.cells cs.toArray e))/\
   VS ((s.born q [.obj 0 false v]).env (w.alloc (.cells cs.toArray e)) g' β') (.ptr (.new q 0) 0 [] 0) (.pointer (some ⟨w.heap.size,0,none⟩)):=by
 have ht:=Trans.alloc w g (.cells cs.toArray e) (.own (.id (.new q 0)) 0)
 obtain⟨h1,h2⟩:=h.vT hq (c:=v) (p:=some ⟨w.heap.size,0⟩) ht (λb hb=>⟨kH w _ hb,ee _ _ _ (by omega)⟩) (λhe=>
  vQ.obj ⟨⟨w.heap.size,0⟩,cs.toArray,e,gN _ _ _,lV w _,ew _ _ _,hk _ _,by rw[hN,show cs.toArray.toList.take cs.toArray.size=cs by simp];exact hv.mono he⟩)
 refine⟨_,_,h1,?_⟩
 refine⟨[.pointer (some ⟨w.heap.size,0,none⟩)],?_,rfl⟩
 simp only[V]
 exact⟨_,rfl,kh hq _ _ _ _,λ_=>⟨_,gN _ _ _,rfl⟩⟩
theorem Inv.Nl(h:Inv C g β s a w){q:Nat}(hq:s.di q=true){v:av}{cs:List Value}(hv:V (s.env w g β) v cs)(e:TypeId):
  ∃g' β',Inv C g' β' (s.born q [.obj 0 false v]) a (w.alloc (.cells cs.toArray e))/\
   VS ((s.born q [.obj 0 false v]).env (w.alloc (.cells cs.toArray e)) g' β') (.ptr (.new q 0) 0 [] 0) (.pointer (some ⟨w.heap.size,0,none⟩)):=
 h.GI hq (λpl n=>vW hv.pf pl n e) (λn=>yh hv.pf n) (by rw[wN hv.pf];exact hv)
theorem Iw(P:Program)(T:TypeId){z:av}{E:Env}{cs:List Value}(hv:V E z cs):(∀pl n,(boxed P T z).rQ pl n T)/\(∀n,(boxed P T z).nJ n=n)/\V E (boxed P T z).strip cs:=by
 unfold boxed
 split
 ·exact⟨λ_ _=>rfl,λ_=>rfl,hv⟩
 ·exact⟨λpl n=>vW hv.pf pl n T,λn=>yh hv.pf n,by rw[wN hv.pf];exact hv⟩
theorem Inv.KN(h:Inv C g β s a w){t:Ty}{x:t.den}{cs:List Value}(hv:cG (s.env w g β) t cs x)(e:TypeId):
  ∃g',Inv C g' β s a (w.alloc (.cells cs.toArray e))/\b6 (s.env w g β) (s.env (w.alloc (.cells cs.toArray e)) g' β)/\
   VS (s.env (w.alloc (.cells cs.toArray e)) g' β) (.eO t x) (.pointer (some ⟨w.heap.size,0,none⟩)):=by
 have ht:=Trans.alloc w g (.cells cs.toArray e) .free
 have he:b6 (s.env w g β) (s.env (w.alloc (.cells cs.toArray e)) (jv g w.heap.size .free) β):=b6.same ht
 refine⟨_,h.sH _,he,[.pointer (some ⟨w.heap.size,0,none⟩)],?_,rfl⟩
 simp only[V]
 refine⟨w.heap.size,0,cs,rfl,λi v hi=>⟨_,_,rfl,?_,?_⟩,hv.mono he.mem⟩
 ·show(w.alloc (.cells cs.toArray e)).cell? ⟨w.heap.size,0+i,none⟩=some v
  rw[World.cell?_alloc_new,aN];simpa using hi
 ·show mr (jv g w.heap.size .free) w.heap.size (0+i)
  unfold mr;rw[ew];trivial
theorem zx(T:TypeId)(y:Value)(w:World):(newVar T y).run P w= .ok ⟨w.heap.size,0,none⟩ (w.alloc (.cells y.cells T)):=by
 simp[newVar,newRow]
theorem EK(h:Inv C g β s a w){T:TypeId}(ho:o.op= .alloc T){z:av}{q:Nat}(hq:s.di q=true)(hz:Cp P T z=true):
  ez P o a w (fF C ((s.born q [.obj 0 false (boxed P T z)]).put o.dst (.ptr (.new q 0) 0 [] 0))):=by
 obtain⟨i,zv,hi,Ey,hV,hO⟩:=mN hz (s.env w g β)
 obtain⟨hk,hN,hV⟩:=Iw P T hV
 obtain⟨g',β',h1,h2⟩:=h.GI hq hk hN hV
 refine .inl ⟨.pointer (some ⟨w.heap.size,0,none⟩),w.alloc (.cells zv.cells T),?_,g',β',?_⟩
 ·refine dg (f:=Instr.alloc T true (.tuple #[])) (by simp only[execOp,ho]) ?_
  simp[Instr.alloc,zeroValue,typeInfo,hi,Ey,zx]
 ·have:=h1.put o.dst h2
  simpa using this
theorem VS.Pt{E:Env}{t:Ty}{x:t.den}{y:Value}(h:VS E (.eO t x) y)(dt:Bool):VS E (Mk dt t x) y:=by
 cases dt with
 |false=>exact h
 |true=>
  obtain⟨cs,hv,ho⟩:=h
  simp only[V]at hv
  refine⟨cs,?_,ho⟩
  simp only[Mk,V,cG]
  simpa using hv
theorem AX{E:Env}{t:Ty}{y:Value}(h:VS E (.d (.l6 t) none) y):y= .pointer none:=by
 obtain⟨cs,hv,ho⟩:=h
 simp only[V,cG]at hv
 have ho':cs=[y]:=ho
 have e:=hv.1 trivial
 rw[e]at ho'
 simpa using ho'.symm
theorem uP{E:Env}{t:Ty}{x:t.den}{y:Value}(h:VS E (.d (.l6 t) (some x)) y):VS E (.eO t x) y:=by
 obtain⟨cs,hv,ho⟩:=h
 simp only[V,cG]at hv
 refine⟨cs,?_,ho⟩
 simp only[V]
 simpa using hv
theorem Iv(h:Inv C g β s a w){T:TypeId}{x:Operand}{obj dt:Bool}(ho:o.op= .box T x){s':AS}(he:(CL P s obj dt o.dst T (s.ev x)).eval=some s'):ez P o a w (fF C s'):=by
 unfold CL at he
 cases hd:o.dst with
 |none=>rw[hd]at he;simp only[ai]at he
 |some q=>
  rw[hd]at he
  have Hm:=h.ev x
  have kj:∀cs:List Value,(a.eval x).cells=cs.toArray->(execOp a.eval o).run P w= .ok (.value (.pointer (some ⟨w.heap.size,0,none⟩))) (w.alloc (.cells cs.toArray T)):=by
   intro cs Hl
   refine dg (f:=Instr.box T (a.eval x)) (by simp only[execOp,ho]) ?_
   simp[Instr.box,zx,Hl]
  cases obj with
  |true=>
   obtain⟨hg,oo⟩:=aw.1 he
   obtain rfl:=al.1 oo
   simp only[ag]at hg
   obtain⟨hq,hf⟩:=hg
   obtain⟨hc,_⟩:=lr hf
   obtain⟨cs,hV,hO⟩:=Hm.dK hc
   obtain⟨g',β',h1,h2⟩:=h.Nl hq hV T
   refine .inl ⟨_,_,kj cs (hO.cells hV.one),g',β',?_⟩
   rw[hd]
   exact h1.put (some q) h2
  |false=>
   simp only at he
   cases ht:Es P depth T with
   |none=>rw[ht]at he;simp only[ai]at he
   |some t=>
    rw[ht]at he
    obtain⟨_,he⟩:=aw.1 he
    obtain⟨y,h1,h2⟩:=ak.1 he
    obtain rfl:=al.1 h2
    obtain⟨g1,i1,e1,t1,cs,hR,hO⟩:=pq h Hm h1
    obtain⟨g2,i2,e2,hv⟩:=i1.KN hR T
    refine .inl ⟨_,_,kj cs (hO.cells hR.one),g2,β,?_⟩
    rw[hd]
    exact i2.put (some q) (hv.Pt dt)
theorem mX{E:Env}{t:Ty}{x:t.den}{y:Value}(h:VS E (.eO t x) y):∃b off vs,y= .pointer (some ⟨b,off,none⟩)/\rn E (some ⟨b,off,none⟩) vs/\cG E t vs x:=by
 obtain⟨cs,hv,ho⟩:=h
 simp only[V]at hv
 obtain⟨b,off,vs,e,hr,hx⟩:=hv
 have ho':cs=[y]:=ho
 rw[e]at ho'
 exact⟨b,off,vs,by simpa using ho'.symm,hr,hx⟩
theorem mI{E:Env}{id:Id}{ver n:Nat}{p:List sW}{y:Value}(h:VS E (.ptr id ver p n) y):
  ∃a,y= .pointer (some a)/\E.rp id ver/\(E.cur id ver->∃pl,E.β id=some pl/\a=⟨pl.b,n,none⟩):=by
 obtain⟨cs,hv,ho⟩:=h
 simp only[V]at hv
 obtain⟨a,e,hb,hc⟩:=hv
 have ho':cs=[y]:=ho
 rw[e]at ho'
 exact⟨a,by simpa using ho'.symm,hb,hc⟩
theorem kZ{E:Env}{id:Id}{ver c i len:Nat}{p:List sW}{y:Value}(h:VS E (.cD id ver p c i len) y):
  ∃a cap,y= .slice a len cap/\len<=cap/\(0 < len->a.isSome=true)/\E.rp id ver/\
   (E.cur id ver->match E.β id with
    |some pl=>(0 < len\/i=0->a=some ⟨pl.b,c,none⟩)/\(p=[]->i=0->cap=pl.cap)
    |none=>a=none/\len=0/\cap=0):=by
 obtain⟨cs,hv,ho⟩:=h
 simp only[V]at hv
 obtain⟨a,cap,e,rest⟩:=hv
 have ho':cs=[y]:=ho
 rw[e]at ho'
 exact⟨a,cap,by simpa using ho'.symm,rest⟩
theorem mj{E:Env}{t:Ty}{l:List t.den}{y:Value}(h:VS E (.d (.slice t) l) y):
  ∃a cap vs,y= .slice a l.length cap/\l.length<=cap/\(0 < l.length->a.isSome=true)/\rn E a vs/\aO (cG E t) vs l:=by
 obtain⟨cs,hv,ho⟩:=h
 simp only[V,cG]at hv
 obtain⟨a,cap,vs,e,rest⟩:=hv
 have ho':cs=[y]:=ho
 rw[e]at ho'
 exact⟨a,cap,vs,by simpa using ho'.symm,rest⟩
theorem iw{E:Env}{y:Value}(h:VS E .db y):y= .slice none 0 0:=by
 obtain⟨cs,hv,ho⟩:=h
 simp only[V]at hv
 have ho':cs=[y]:=ho
 rw[hv]at ho'
 simpa using ho'.symm
theorem HK{E:Env}{id:Id}{fr:Bool}{c:av}(h:nb E id fr c){p:List sW}{n:Nat}{v:av}(hl:(loc c.strip p).eval=some (n,v))(hf:v.dK=true):
  ∃pl cur e,E.β id=some pl/\E.w.heap[pl.b]? =some (.cells cur e (0,0))/\V E v ((cur.toList.drop n).take v.size)/\n+v.size<=cur.size:=by
 by_cases hn:c.fJ=false
 ·obtain⟨pl,cur,e,hp,hh,hg,hk,hV⟩:=h.box hn
  have hN:=xL hk
  generalize c.nJ cur.size=N at hN hV
  have hNl:(cur.toList.take N).length=N:=by rw[cz,bZ];omega
  obtain⟨u,hu⟩:∃u,c.strip=u:=⟨_,rfl⟩
  rw[hu]at hV hl
  rcases lI p u (cur.toList.take N) n v (VO.of hV) hl with⟨rfl,rfl⟩ | ⟨h1,h2⟩
  ·have hs:=hV.size
   rw[hNl]at hs
   refine⟨pl,cur,e,hp,hh,?_,by omega⟩
   rw[aJ,<-hs]
   exact hV
  ·rw[hNl]at h2
   rw[lT,gS,ei (by omega)]at h1
   exact⟨pl,cur,e,hp,hh,h1,by omega⟩
 ·cases c <;> first | (exact absurd rfl hn) | skip
  rotate_left
  ·have hl:(loc (.mp _ _ _) p).eval=_:=hl
   obtain⟨_,rfl⟩:=B1 hl
   simp[av.dK]at hf
  ·have hl:(loc (.lR _ _ _ _ _ _) p).eval=_:=hl
   obtain⟨_,rfl⟩:=xT hl
   simp[av.dK]at hf
  ·have hl:(loc (.nH _ _ _) p).eval=_:=hl
   obtain⟨_,rfl⟩:=xU hl
   simp[av.dK]at hf
  rename_i e t l
  obtain⟨hz,h⟩:=h
  cases hp:E.β id with
  |none=>
   rw[hp]at h
   have:l=[]:=h
   subst this
   obtain⟨_,rfl⟩:=y3 hl
   simp[av.dK]at hf
  |some pl=>
   rw[hp]at h
   obtain⟨cur,k,q1,q2,q3,q4,q5,q6,q7,q8⟩:=h
   have hlen:=aO.length (λc x hx=>cG.size hx) q8
   have l8:l.length*t.size<=cur.size:=by rw[q2];exact cJ _ q3
   rcases lI (E:=E) p (.vec e t l) _ n v q8 hl with⟨rfl,rfl⟩ | ⟨h1,h2⟩
   ·simp[av.dK]at hf
   ·rw[hlen]at h2
    rw[lT,gS,ei (by omega)]at h1
    exact⟨pl,cur,e,rfl,q1,h1,by omega⟩
theorem HH{E:Env}{v v':av}(h:(Np v).eval=some v'):(∀cs,V E v cs->V E v' cs)/\v'.agg=v.agg:=by
 unfold Np at h
 split at h
 ·rename_i t l
  obtain⟨h1,h2⟩:=bt.1 h
  obtain rfl:=al.1 h2
  refine⟨λcs hv=> ?_,rfl⟩
  simp only[V,cG]at hv ⊢
  exact hv.1 (Option.isNone_iff_eq_none.1 h1)
 ·obtain rfl:=al.1 h
  exact⟨λ_ h=>h,rfl⟩
theorem yZ(h:Inv C g β s a w){T:TypeId}{x:av}{y:Value}(hx:VS (s.env w g β) x y){v:av}(he:(uZ P s T x).eval=some v):
  ∃ad z,y= .pointer (some ad)/\(loadVar T ad).run P w= .ok z w/\VS (s.env w g β) v z:=by
 unfold uZ at he
 split at he
 ·rename_i id ver p n
  cases iH:s.obj id with
  |none=>rw[iH]at he;simp only[ai]at he
  |some r=>
   obtain⟨v0,fr,c⟩:=r
   rw[iH]at he
   obtain⟨h1,h2⟩:=aw.1 he
   obtain⟨⟨n',v'⟩,h3,h4⟩:=ak.1 h2
   obtain⟨h5,h6⟩:=aw.1 h4
   obtain⟨h7,h8⟩:=bt.1 h6
   obtain⟨n1,n2⟩:=HH (E:=s.env w g β) h8
   simp only[decide_eq_true_eq]at h7
   have N2:v0=ver:=by simpa using h1
   subst N2 h7
   have cj:=dw iH
   obtain⟨ad,rfl,hb,hc⟩:=mI hx
   obtain⟨pl,hp,rfl⟩:=hc ⟨fr,c,cj⟩
   obtain⟨Fb,_⟩:=lr h5
   obtain⟨pl',cur,e,hp',hh,hV,hle⟩:=HK (h.bo id v0 fr c cj) h3 Fb
   rw[hp]at hp'
   obtain rfl:pl=pl':=by simpa using hp'
   obtain⟨z,w8,wh⟩:=ph (P:=P) (w:=w) h5 (b:=pl.b) (off:=n') hV.size (λj x hj=>by
    rw[cell_of_row w pl.b (n'+j) cur e (0,0) hh]
    rw[cI]at hj
    split at hj
    ·rw[eG]at hj;simpa using hj
    ·cases hj)
   exact⟨_,z,rfl,w8,VS.of (n1 _ hV) (by rw[n2];exact wh)⟩
 ·rename_i t x'
  obtain⟨h1,h2⟩:=aw.1 he
  obtain rfl:=al.1 h2
  obtain⟨b,off,vs,rfl,hr,hR⟩:=mX hx
  obtain⟨z,w8,wh⟩:=ph (P:=P) (w:=w) h1 (b:=b) (off:=off) hR.size (λj x hj=>by
   obtain⟨b',off',e,hh⟩:=hr j x hj
   simp only[ao,Addr.mk.injEq,and_true]at e
   obtain⟨rfl,rfl⟩:=e
   exact hh.1)
  exact⟨_,z,rfl,w8,VS.of (by simpa only[V]using hR) wh⟩
 ·rename_i t x'
  obtain⟨u,e,he⟩:=nh.1 he
  subst e
  have hx:=uP hx
  obtain⟨h1,h2⟩:=aw.1 he
  obtain rfl:=al.1 h2
  obtain⟨b,off,vs,rfl,hr,hR⟩:=mX hx
  obtain⟨z,w8,wh⟩:=ph (P:=P) (w:=w) h1 (b:=b) (off:=off) hR.size (λj x hj=>by
   obtain⟨b',off',e,hh⟩:=hr j x hj
   simp only[ao,Addr.mk.injEq,and_true]at e
   obtain⟨rfl,rfl⟩:=e
   exact hh.1)
  exact⟨_,z,rfl,w8,VS.of (by simpa only[V]using hR) wh⟩
 ·simp only[ai]at he
theorem Hx(h:Inv C g β s a w){T:TypeId}{x:Operand}(ho:o.op= .load T x){v:av}(he:(uZ P s T (s.ev x)).eval=some v):ez P o a w (fF C (s.put o.dst v)):=by
 obtain⟨ad,z,hy,hr,hv⟩:=yZ h (h.ev x) he
 refine h.value hv (dg (f:=Instr.loadAt T (a.eval x)) (by simp only[execOp,ho]) ?_)
 simp[Instr.loadAt,Instr.sureAddr,hy,hr]
theorem Trans.setRow(w:World){b:Nat}{i:Id}(hg:g b= .own (.id i) 0)(cur:Array Value):Trans w (w.setRow b cur) g g:=by
 refine⟨by simp,by simp,by simp,by simp,λb' hb=> ?_⟩
 by_cases he:b'=b
 ·subst he
  rw[hg]
  exact⟨.inr ⟨i,0,rfl,ax _⟩,λ_ _ hh=>by omega⟩
 ·rw[setRow_other w b b' cur he]
  cases xy:g b' with
  |free=>exact⟨rfl,rfl⟩
  |own o' k=>cases o' with
   |dx=>exact⟨rfl,rfl⟩
   |id i'=>exact⟨.inr ⟨i',k,rfl,ax _⟩,λoff v _ hv=>by rw[cell_setRow_other w b cur _ he];exact hv⟩
theorem Inv.apart(h:Inv C g β s a w){id:Id}{k:Nat}{b:Nat}(hg:g b= .own (.id id) k){i:Id}{ver:Nat}{fr:Bool}{c:av}{pl:Pl}(hi:i≠id)(hs:s.bG i=some (.obj ver fr c))(hp:β i=some pl):pl.b≠b:=by
 intro hb
 have hl:(∃k,g pl.b= .own (.id i) k)\/(fr=true/\g pl.b= .free):=((h.bo i ver fr c hs).label (pl:=pl) hp).2
 rw[hb,hg]at hl
 rcases hl with⟨k',hk⟩ | ⟨_,hk⟩
 ·simp only[jm.own.injEq,Own.id.injEq]at hk
  exact hi hk.1.symm
 ·cases hk
theorem Ej(h:Inv C g β s a w){T:TypeId}{x v:av}{y z:Value}(hx:VS (s.env w g β) x y)(hz:VS (s.env w g β) v z){s':AS}(he:(sB P s T x v).eval=some s'):
  ∃ad w',y= .pointer (some ad)/\(storeVar T ad z).run P w= .ok () w'/\∃g' β',Inv C g' β' s' a w':=by
 unfold sB at he
 split at he
 ·rename_i id ver p n
  cases iH:s.obj id with
  |none=>rw[iH]at he;simp only[ai]at he
  |some r=>
   obtain⟨v0,fr,c⟩:=r
   rw[iH]at he
   obtain⟨h1,h2⟩:=aw.1 he
   obtain⟨⟨n',o'⟩,h3,h4⟩:=ak.1 h2
   obtain⟨h5,h6⟩:=aw.1 h4
   obtain⟨h7,h8⟩:=bt.1 h6
   obtain⟨c',h9,OC⟩:=ak.1 h8
   obtain rfl:=al.1 OC
   simp only[decide_eq_true_eq]at h7
   simp only[ag,beq_iff_eq,bp]at h1
   obtain⟨⟨N2,MQ⟩,yI⟩:=h1
   subst N2 h7 MQ
   have cj:=dw iH
   obtain⟨ad,rfl,hb,hc⟩:=mI hx
   obtain⟨pl,hp,rfl⟩:=hc ⟨false,c,cj⟩
   have hp:β id=some pl:=hp
   obtain⟨Fb,_⟩:=lr yI
   obtain⟨cs,hV,hO⟩:=hz.dK Fb
   have hOb:=h.bo id v0 false c cj
   obtain⟨hcel',_⟩:=lr h5
   have Rx:c.fJ=false\/c.fJ=true:=by cases c.fJ <;> simp
   rcases Rx with hn | hn
   ·obtain⟨pl',cur,e,hp',hh,hg,hk,hVc⟩:=hOb.box hn
    have hp':β id=some pl':=hp'
    rw[hp]at hp'
    obtain rfl:pl=pl':=by simpa using hp'
    have hg:g pl.b= .own (.id id) 0:=hg
    have hh:w.heap[pl.b]? =some (.cells cur e (0,0)):=hh
    have hN:=xL hk
    have hNl:(cur.toList.take (c.nJ cur.size)).length=c.nJ cur.size:=by rw[cz,bZ];omega
    obtain⟨u1,u2,u3⟩:=kr p c.strip (cur.toList.take (c.nJ cur.size)) n' o' v c' cs (VO.of hVc) h3 hV h9
    have u4:=u2.to (u3.mg hVc.mg)
    have l8:c'.size=c.strip.size:=by
     have e1:=u4.size
     have e2:=hVc.size
     rw[gI u1]at e1
     omega
    rw[hNl]at u1
    have Ij:(cT cur.toList n' cs).length=cur.toList.length:=gI (by have e1:cur.toList.length=cur.size:=bZ;omega)
    have Rp:(cT cur.toList n' cs).take (c.nJ cur.size)=cT (cur.toList.take (c.nJ cur.size)) n' cs:=by
     conv=>lhs;rw[<-cW (c.nJ cur.size) cur.toList]
     rw[pP (by rw[hNl];exact u1),eR (by rw[gI (by rw[hNl];exact u1),hNl];exact ax _)]
     exact bz (by rw[gI (by rw[hNl];exact u1),hNl];exact ax _)
    have kj:=rz (P:=P) (w:=w) yI hV hO (b:=pl.b) (off:=n') hh (by have e1:cur.toList.length=cur.size:=bZ;have e2:cs.toArray.size=cs.length:=fx;omega)
    have ht:=Trans.setRow w hg (cT cur.toList n' cs).toArray
    have hle:b6 (s.env w g β) ((s.aH id (.obj v0 false (c.wrap c'))).env (w.setRow pl.b (cT cur.toList n' cs).toArray) g β):=b6.aH cj (ax _) ht (λ_ _=>rfl) (λ_=>rfl)
    refine⟨_,_,rfl,kj,g,β,h.step (cK _ _ _) ht hle (fT.aH h.bo (by rw[cj];simp) hle (λ_ _=>rfl) (λi ver fr c pl2 hi yK A0=>⟨setRow_other w pl.b pl2.b _ (h.apart hg hi yK A0),rfl⟩) ?_ (kk cj λk v1 l e=>by rw[e]at hn;simp[av.fJ]at hn))⟩
    exact vQ.obj ⟨pl,_,e,hp,setRow_heap w pl.b cur _ e (0,0) hh,hg,by rw[fx,Ij,bZ];exact tI hk u4.pf l8,by
     rw[ur c u4.pf,fx,Ij,bZ,vV u4.pf l8,show(cT cur.toList n' cs).toArray.toList=cT cur.toList n' cs from rfl,Rp]
     exact V.mono hle u4⟩
   ·cases c <;> first | (simp[av.fJ]at hn;done) | skip
    rotate_left
    ·have h3:(loc (.mp _ _ _) p).eval=_:=h3
     obtain⟨_,rfl⟩:=B1 h3
     simp[av.dK]at hcel'
    ·have h3:(loc (.lR _ _ _ _ _ _) p).eval=_:=h3
     obtain⟨_,rfl⟩:=xT h3
     simp[av.dK]at hcel'
    ·have h3:(loc (.nH _ _ _) p).eval=_:=h3
     obtain⟨_,rfl⟩:=xU h3
     simp[av.dK]at hcel'
    rename_i e t l
    obtain⟨Ez,hOb⟩:=hOb
    have hOb:(match β id with
     |none=>l=[]
     |some pl=>∃cur k,w.heap[pl.b]? =some (.cells cur e (0,0))/\cur.size=pl.cap*t.size/\l.length<=pl.cap/\pl.cap<=maxLen/\g pl.b= .own (.id id) k/\
       k<=l.length*t.size/\(false=false->k=0)/\aO (cG (s.env w g β) t) (cur.toList.take (l.length*t.size)) l):=hOb
    rw[hp]at hOb
    obtain⟨cur,k,q1,q2,q3,q4,q5,q6,q7,q8⟩:=hOb
    have hk:=q7 rfl
    subst hk
    have hlen:=aO.length (λc x hx=>cG.size hx) q8
    have l8:l.length*t.size<=cur.size:=by rw[q2];exact cJ _ q3
    obtain⟨u1,u2,u3⟩:=kr (E:=s.env w g β) p (.vec e t l) _ n' o' v c' cs q8 h3 hV h9
    rw[hlen]at u1
    have kj:=rz (P:=P) (w:=w) yI hV hO (b:=pl.b) (off:=n') q1 (by omega)
    cases c' <;> first | (exact u3.elim) | skip
    rename_i e' t' l'
    obtain⟨rfl,rfl,hl'⟩:=u3
    have ht:=Trans.setRow w q5 (cT cur.toList n' cs).toArray
    have hle:b6 (s.env w g β) ((s.aH id (.obj v0 false (.vec e' t' l'))).env (w.setRow pl.b (cT cur.toList n' cs).toArray) g β):=b6.aH cj (ax _) ht (λ_ _=>rfl) (λ_=>rfl)
    refine⟨_,_,rfl,kj,g,β,h.step (cK _ _ _) ht hle (fT.aH h.bo (by rw[cj];simp) hle (λ_ _=>rfl) (λi ver fr c pl2 hi yK A0=>⟨setRow_other w pl.b pl2.b _ (h.apart q5 hi yK A0),rfl⟩) ?_ (kk cj λk v1 l e=>by cases e))⟩
    refine⟨Ez,?_⟩
    show(match β id with
     |none=>l'=[]
     |some pl=>_)
    rw[hp]
    have Ij:(cT cur.toList n' cs).length=cur.toList.length:=gI (by simp;omega)
    refine⟨_,0,setRow_heap w pl.b cur _ e' (0,0) q1,by rw[fx,Ij];simpa using q2,by omega,q4,q5,by omega,λ_=>rfl,?_⟩
    have e2:(cT cur.toList n' cs).take (l'.length*t'.size)=cT (cur.toList.take (l.length*t'.size)) n' cs:=by
     rw[hl']
     conv=>lhs;rw[<-cW (l.length*t'.size) cur.toList]
     rw[pP (by rw[hlen];exact u1),eR (by rw[gI (by rw[hlen];exact u1),hlen];exact ax _)]
     exact bz (by rw[gI (by rw[hlen];exact u1),hlen];exact ax _)
    rw[show(cT cur.toList n' cs).toArray.toList=cT cur.toList n' cs from rfl,e2]
    exact aO.mono (λ_ _ hx=>hx.mono hle.mem) u2
 ·simp only[ai]at he
theorem FY(h:Inv C g β s a w){T:TypeId}{x v:Operand}(ho:o.op= .store T x v){s':AS}(he:(sB P s T (s.ev x) (s.ev v)).eval=some s'):ez P o a w (fF C (s'.put o.dst .undef)):=by
 obtain⟨ad,w',hy,hr,g',β',hi⟩:=Ej h (h.ev x) (h.ev v) he
 refine .inr (.inl ⟨w',AL (f:=Instr.storeAt T (a.eval x) (a.eval v)) (by simp only[execOp,ho]) ?_,g',β',hi.put o.dst VS.undef⟩)
 simp[Instr.storeAt,Instr.sureAddr,hy,hr]
end
end Go.Ab
namespace Go.Ab
section
variable {P:Program} {C:Ctx} {g:Nat->jm} {β:Id->Option Pl} {s:AS} {a:Act} {w:World} {o:Oper}
theorem Ba(h:Inv C g β s a w){x:Operand}(ho:o.op= .move x\/o.op= .assign x):ez P o a w (fF C (s.put o.dst (s.ev x))):=by
 refine h.value (h.ev x) ?_
 rcases ho with ho | ho <;> simp[execOp,ho]
theorem HM(h:Inv C g β s a w){c x y:Operand}(ho:o.op= .pick c x y){v:av}(he:(GK (s.ev c) (s.ev x) (s.ev y)).eval=some v):ez P o a w (fF C (s.put o.dst v)):=by
 have hc:=h.ev c
 have hx:=h.ev x
 have hy:=h.ev y
 unfold GK at he
 split at he
 ·rename_i b hb
  rw[hb]at hc
  have SP:=xK hc
  have hr:(execOp a.eval o).run P w= .ok (.value (if b then a.eval x else a.eval y)) w:=by
   simp[execOp,ho,SP,asBool]
  split at he
  ·rename_i bx by' SK SL
   obtain rfl:=al.1 he
   rw[SK]at hx
   rw[SL]at hy
   refine h.value ?_ hr
   cases b
   ·simpa using hy
   ·simpa using hx
  ·cases b with
   |true=>
    simp only[Out.eval,ao]at he
    subst he
    exact h.value (by simpa using hx) hr
   |false=>
    simp only[Out.eval,ao]at he
    subst he
    exact h.value (by simpa using hy) hr
 ·simp only[ai]at he
theorem Ak(h:Inv C g β s a w){x:Operand}(ho:o.op= .nilCheck x){s':AS}(he:(match s.ev x with
  | .ptr id v p n=>Out.ok (s.put o.dst (.ptr id v p n))
  | .eO t y=> .ok (s.put o.dst (.eO t y))
  | .d (.l6 t) y=> .get (y:Option t.den) λy=> .ok (s.put o.dst (.eO t y))
  | .fn f c=> .ok (s.put o.dst (.fn f c))
  |_=> .fail).eval=some s'):ez P o a w (fF C s'):=by
 have hx:=h.ev x
 split at he
 ·rename_i id v p n hv
  obtain rfl:=al.1 he
  rw[hv]at hx
  obtain⟨ad,hy,_⟩:=mI hx
  exact h.value hx (by simp[execOp,ho,hy])
 ·rename_i t y hv
  obtain rfl:=al.1 he
  rw[hv]at hx
  obtain⟨b,off,vs,hy,_⟩:=mX hx
  exact h.value hx (by simp[execOp,ho,hy])
 ·rename_i t y hv
  obtain⟨z,e,he⟩:=nh.1 he
  subst e
  obtain rfl:=al.1 he
  rw[hv]at hx
  have hx:=uP hx
  obtain⟨b,off,vs,hy,_⟩:=mX hx
  exact h.value hx (by simp[execOp,ho,hy])
 ·rename_i f c hv
  obtain rfl:=al.1 he
  rw[hv]at hx
  obtain⟨cs,hV,hO⟩:=hx.dK rfl
  simp only[V]at hV
  obtain⟨vs,e,hc⟩:=hV
  have hO':cs=[a.eval x]:=hO
  rw[e]at hO'
  have hy:a.eval x= .func (.func f) #[] vs.toArray:=by simpa using hO'.symm
  refine h.value (v:= .fn f c) ⟨cs,by simp only[V];exact⟨vs,e,hc⟩,hO⟩ (by simp[execOp,ho,hy])
 ·simp only[ai]at he
theorem Dt{op:BinOp}{k k':IntKind}{x y:Int}{v:av}(he:(I8 op k x k' y).eval=some v)(T:TypeId)(E:Env):
  ∃z,(binOp op T (.int k x) (.int k' y)).run P w= .ok z w/\VS E v z:=by
 unfold I8 at he
 have same:∀(hk:decide (k=k')=true),k=k':=λhk=>by simpa using hk
 cases op with
 |shl=>
  obtain⟨h1,h2⟩:=bt.1 he
  obtain rfl:=al.1 h2
  have h1:¬y < 0:=by simpa using h1
  exact⟨_,by simp[binOp,Op.shift,h1],iB _ _⟩
 |shr=>
  obtain⟨h1,h2⟩:=bt.1 he
  obtain rfl:=al.1 h2
  have h1:¬y < 0:=by simpa using h1
  exact⟨_,by simp[binOp,Op.shift,h1],iB _ _⟩
 |quo=>
  obtain⟨h1,h2⟩:=aw.1 he
  obtain rfl:=same h1
  obtain⟨h3,h4⟩:=bt.1 h2
  obtain rfl:=al.1 h4
  have h3:y≠0:=by simpa using h3
  exact⟨_,by simp[binOp,Op.intDiv,h3],iB _ _⟩
 |rem=>
  obtain⟨h1,h2⟩:=aw.1 he
  obtain rfl:=same h1
  obtain⟨h3,h4⟩:=bt.1 h2
  obtain rfl:=al.1 h4
  have h3:y≠0:=by simpa using h3
  exact⟨_,by simp[binOp,Op.intDiv,h3],iB _ _⟩
 |add | sub | mul=>
  obtain⟨h1,h2⟩:=aw.1 he
  obtain rfl:=same h1
  obtain rfl:=al.1 h2
  exact⟨_,by simp[binOp,Op.intArith],iB _ _⟩
 |and | or | xor | andNot=>
  obtain⟨h1,h2⟩:=aw.1 he
  obtain rfl:=same h1
  obtain rfl:=al.1 h2
  refine⟨_,?_,iB _ _⟩
  unfold binOp Op.intBits
  simp[du]
 |eql | neq | lss | leq | gtr | geq=>
  obtain⟨h1,h2⟩:=aw.1 he
  obtain rfl:=same h1
  obtain rfl:=al.1 h2
  refine⟨_,?_,mP _⟩
  simp[binOp,Op.intCmp]
theorem Ek{op:BinOp}{x y:ByteArray}{v:av}(he:(JR op x y).eval=some v)(T:TypeId)(E:Env):
  ∃z,(binOp op T (.string x) (.string y)).run P w= .ok z w/\VS E v z:=by
 unfold JR at he
 cases op <;> simp only[ai]at he
 case add=>
  obtain⟨h1,h2⟩:=bt.1 he
  obtain rfl:=al.1 h2
  have h1:¬((x.size+y.size:Nat):Int) > IntKind.i64.max:=by simpa using h1
  refine⟨.string (x++y),?_,Bz _⟩
  show(Op.stringOp .add x y).run P w=_
  unfold Op.stringOp
  simp only[h1,if_false]
  rfl
 all_goals
  obtain rfl:=al.1 he
  exact⟨_,by simp[binOp,Op.stringOp],mP _⟩
theorem jJ{op:BinOp}{T:TypeId}{x y:Operand}{u v:Value}(h1:u≠ .nilIface)(h2:lB u=false):(eqGuard op T x y u v).run P w= .ok () w:=by
 unfold eqGuard
 cases op <;> simp
 all_goals (cases u <;> simp_all [lB])
theorem ow{T:TypeId}{b:Bool}(h:tZ P T b=true):∃i,P.info? T=some i/\∀w,(isAgg T).run P w= .ok b w:=by
 unfold tZ at h
 cases hu:P.underlying T with
 |none=>rw[hu]at h;cases h
 |some d=>
  obtain⟨i,hi⟩:=Gy hu
  refine⟨i,hi,λw=> ?_⟩
  rw[hu]at h
  unfold isAgg
  rw[Sem.run_bind,run_underlying hu w]
  cases d <;> simp at h <;> simp[h]
theorem nC{T:TypeId}{b:Bool}(h:tZ P T b=true){cs:List Value}{off n:Nat}(hn:P.cellsOf T=n)(hb:b=false->n=1)(hl:off+n<=cs.length):
  ∃y,(part T cs.toArray off).run P w= .ok y w/\eC b ((cs.drop off).take n) y:=by
 obtain⟨i,hi,Dj⟩:=ow h
 rw[jo hi]at hn
 unfold part
 rw[Sem.run_bind,Dj w]
 simp only[Result.andThen_ok]
 cases b with
 |true=>
  refine⟨.agg ((cs.drop off).take n).toArray,?_,rfl⟩
  simp only[if_true,Sem.run_bind,run_sizeOf hi,Result.andThen_ok,hn,Sem.run_pure]
  simp[List.extract_eq_take_drop]
 |false=>
  have h1:=hb rfl
  subst h1
  have iC:off < cs.length:=by omega
  refine⟨cs[off],?_,?_⟩
  ·simp[iC]
  ·show(cs.drop off).take 1=[cs[off]]
   rw[aC iC,kz,eY]
theorem nD{t:Ty}(h:t.agg=false):t.size=1:=by
 cases t <;> first | rfl | (simp[Ty.agg]at h)
theorem yX{α:Type}(f:α->α->Bool)(x y:α)(xs ys:List α):jr f (x::xs) (y::ys)=(f x y && jr f xs ys):=rfl
theorem mQ(E:Env):∀(n:Nat) (T:TypeId) (t:Ty),lH P n T t=true->∀(d:Nat),n<=d->∀(cx cy:List Value) (x y:t.den) (u v:Value),cG E t cx x->cG E t cy y->eC t.agg cx u->eC t.agg cy v->
  (Op.equalIn d T u v).run P w= .ok (t.beq x y) w
 | 0,T,t,h,_,_,_,_,_,_,_,_,_,_,_,_=>by simp[lH]at h
 |n+1,T,t,h,0,hd,_,_,_,_,_,_,_,_,_,_=>by omega
 |n+1,T,t,h,d+1,hd,cx,cy,x,y,u,v,hx,hy,hu,hv=>by
  simp only[lH]at h
  split at h
  ·rename_i k k' hT
   simp only[cG]at hx hy
   have e1:cx=[u]:=hu
   have e2:cy=[v]:=hv
   rw[hx]at e1;rw[hy]at e2
   simp only[dp,and_true]at e1 e2
   subst e1 e2
   rw[run_equalIn_int w d T _ _ _ _ hT];rfl
  ·rename_i hT
   simp only[cG]at hx hy
   have e1:cx=[u]:=hu
   have e2:cy=[v]:=hv
   rw[hx]at e1;rw[hy]at e2
   simp only[dp,and_true]at e1 e2
   subst e1 e2
   rw[run_equalIn_bool' w d T _ _ hT];rfl
  ·rename_i hT
   simp only[cG]at hx hy
   have e1:cx=[u]:=hu
   have e2:cy=[v]:=hv
   rw[hx]at e1;rw[hy]at e2
   simp only[dp,and_true]at e1 e2
   subst e1 e2
   rw[run_equalIn_string w d T _ _ hT];rfl
  ·rename_i m e m' t' hT
   simp only[ag,beq_iff_eq]at h
   obtain⟨⟨⟨⟨rfl,Nf⟩,l8⟩,uC⟩,mS⟩:=h
   simp only[cG]at hx hy
   obtain⟨Q3,QO⟩:=hx
   obtain⟨Tb,SQ⟩:=hy
   have e1:u= .agg cx.toArray:=hu
   have e2:v= .agg cy.toArray:=hv
   subst e1 e2
   obtain⟨i,hi,Dj⟩:=ow uC
   have hsz':=l8
   rw[jo hi]at hsz'
   simp only[Op.equalIn,Sem.run_bind,run_underlying hT,Result.andThen_ok,run_sizeOf hi,hsz']
   simp only[Std.Legacy.Range.forIn_eq_forIn_range']
   have hm:([:m]:Std.Legacy.Range).size=m:=by simp[Std.Legacy.Range.size]
   rw[hm]
   have Ez:∀c z,cG E t' c z->c.length=t'.size:=λc z hz=>hz.size
   have bx:t'.agg=false->t'.size=1:=nD
   have key:∀(k:Nat) (x y:List t'.den) (j:Nat),x.length=k->y.length=k->aO (cG E t') (cx.drop (j*t'.size)) x->aO (cG E t') (cy.drop (j*t'.size)) y->
     (forIn (List.range' j k) ((none,()):Option Bool×Unit) λi __s=>(do
      let __do_lift <-part e cx.toArray (i*t'.size)
      let __do_lift_1 <-part e cy.toArray (i*t'.size)
      let __do_lift <-Op.equalIn d e __do_lift __do_lift_1
      if(!__do_lift)=true then pure (ForInStep.done (some false,())) else pure (ForInStep.yield (none,())):Sem (ForInStep (Option Bool×Unit)))).run P w= .ok (if jr t'.beq x y then none else some false,()) w:=by
    intro k
    induction k with
    |zero=>
     intro x y j hx hy _ _
     rw[List.length_eq_zero_iff.1 hx,List.length_eq_zero_iff.1 hy]
     rfl
    |succ k ih=>
     intro x y j hx hy hcx' hcy'
     cases x with
     |nil=>simp at hx
     |cons x0 xs=>
      cases y with
      |nil=>simp at hy
      |cons y0 ys=>
       have gx:=aO.get Ez hcx' 0 (by simp)
       have gy:=aO.get Ez hcy' 0 (by simp)
       simp only[kg,aJ,List.getElem_cons_zero]at gx gy
       have lenx:((cx.drop (j*t'.size)).take t'.size).length=t'.size:=gx.size
       have leny:((cy.drop (j*t'.size)).take t'.size).length=t'.size:=gy.size
       have w8:t'.size≠0:=by simpa using Nf
       have QY:j*t'.size+t'.size<=cx.length:=by simp only[cz,cO]at lenx;omega
       have S5:j*t'.size+t'.size<=cy.length:=by simp only[cz,cO]at leny;omega
       obtain⟨ux,h1,o1⟩:=nC (w:=w) uC l8 bx (cs:=cx) (off:=j*t'.size) QY
       obtain⟨uy,h2,o2⟩:=nC (w:=w) uC l8 bx (cs:=cy) (off:=j*t'.size) S5
       have h3:=mQ E n e t' mS d (by omega) _ _ x0 y0 ux uy gx gy o1 o2
       have nx:aO (cG E t') (cx.drop ((j+1)*t'.size)) xs:=by
        have:=aO.drop Ez 1 hcx'
        rw[eF]at this
        simpa[dy]using this
       have ny:aO (cG E t') (cy.drop ((j+1)*t'.size)) ys:=by
        have:=aO.drop Ez 1 hcy'
        rw[eF]at this
        simpa[dy]using this
       have:=ih xs ys (j+1) (by simpa using hx) (by simpa using hy) nx ny
       rw[List.range'_succ,List.forIn_cons]
       simp only[Sem.run_bind,h1,h2,h3,Result.andThen_ok,yX]
       rcases fR (t'.beq x0 y0) with hb | hb
       ·simp only[hb,b8,bK,if_false,Sem.run_pure,Result.andThen_ok,bX]
        exact this
       ·simp only[hb,dr,if_true,Sem.run_pure,Result.andThen_ok,dQ,bK,if_false]
   have:=key m x y 0 Q3 Tb (by simpa using QO) (by simpa using SQ)
   rw[this]
   show _=Result.ok (jr t'.beq x y) w
   cases jr t'.beq x y <;> rfl
  ·rename_i t0 _ _ fs hT
   simp only[ag,bp]at h
   obtain⟨lQ,MR⟩:=h
   have hF:P.fieldsOf T=fs:=by simp[Program.fieldsOf,hT]
   have hT':P.underlying T=some (.struct (P.fieldsOf T)):=by rw[hF];exact hT
   have key:∀(fl:List Field) (t:Ty) (off:Nat),tS P (lH P n) fl t off=true->∀(x y:t.den),cG E t (cx.drop off) x->cG E t (cy.drop off) y->
     (Op.eqFields d cx.toArray cy.toArray fl).run P w= .ok (t.beq x y) w:=by
    intro fl
    induction fl with
    |nil=>
     intro t off hc x y _ _
     cases t <;> first | (simp[tS]at hc;done) | rfl
    |cons f fl ih=>
     intro t off hc x y hx hy
     cases t <;> first | (simp[tS]at hc;done) | skip
     rename_i ta tb
     simp only[tS,ag,bp,beq_iff_eq,beq_eq_false_iff_ne]at hc
     obtain⟨⟨⟨⟨⟨⟨Q9,KB⟩,hz⟩,l8⟩,uC⟩,mS⟩,I0⟩:=hc
     simp only[cG]at hx hy
     obtain⟨xa,xb,ex,Pr,RA⟩:=hx
     obtain⟨ya,yb,ey,Sn,Tx⟩:=hy
     have bx:ta.agg=false->ta.size=1:=nD
     have lx:xa.length=ta.size:=Pr.size
     have ly:ya.length=ta.size:=Sn.size
     have split:∀(cs xa xb:List Value),cs.drop off=xa++xb->xa.length=ta.size->(cs.drop off).take ta.size=xa/\cs.drop (off+ta.size)=xb/\off+ta.size<=cs.length:=by
      intro cs xa xb e l
      refine⟨by rw[e];exact List.take_left' l,by rw[<-eF,e];exact List.drop_left' l,?_⟩
      have:=congrArg List.length e
      simp only[cO,aq]at this
      omega
     obtain⟨sx1,sx2,sx3⟩:=split cx xa xb ex lx
     obtain⟨sy1,sy2,sy3⟩:=split cy ya yb ey ly
     obtain⟨ux,h1,o1⟩:=nC (w:=w) uC l8 bx (cs:=cx) (off:=off) sx3
     obtain⟨uy,h2,o2⟩:=nC (w:=w) uC l8 bx (cs:=cy) (off:=off) sy3
     rw[sx1]at o1
     rw[sy1]at o2
     have h3:=mQ E n f.type ta mS d (by omega) _ _ x.1 y.1 ux uy Pr Sn o1 o2
     have h4:=ih tb (off+ta.size) I0 x.2 y.2 (by rw[sx2];exact RA) (by rw[sy2];exact Tx)
     simp only[Op.eqFields,ne_eq,Q9,not_false_eq_true,if_true,Sem.run_bind,KB,h1,h2,h3,Result.andThen_ok]
     show _=Result.ok (ta.beq x.1 y.1 && tb.beq x.2 y.2) w
     rcases fR (ta.beq x.1 y.1) with hb | hb
     ·simp only[hb,b8,bK,if_false,bX]
      exact h4
     ·simp[hb]
   have uC:t0.agg=true:=by
    cases hl:fs.toList <;> rw[hl]at MR <;> cases t0 <;> first | rfl | (simp[tS]at MR;done)
   rw[uC]at hu hv
   have e1:u= .agg cx.toArray:=hu
   have e2:v= .agg cy.toArray:=hv
   subst e1 e2
   rw[run_equalIn_struct w d T _ _ hT' lQ,hF]
   exact key fs.toList t0 0 MR x y (by simpa using hx) (by simpa using hy)
  ·cases h
end
end Go.Ab
namespace Go.Ab
section
variable {P:Program} {C:Ctx} {g:Nat->jm} {β:Id->Option Pl} {s:AS} {a:Act} {w:World} {o:Oper}
theorem Jx{E:Env}{v:av}{y c:Value}(h:VS E v y)(hc:v.dK=true)(ha:v.agg=false)(hV:∀cs,V E v cs->cs=[c]):y=c:=by
 have:=h.single hc ha
 simpa using hV _ this
theorem sT{E:Env}{y:Value}(h:VS E .lP y):y= .pointer none:=Jx h rfl rfl λcs hv=>by simpa only[V]using hv
theorem xW{E:Env}{y:Value}(h:VS E .nm y):y= .nilFunc:=Jx h rfl rfl λcs hv=>by simpa only[V]using hv
theorem AO{E:Env}{f:FuncId}{c:av}{y:Value}(h:VS E (.fn f c) y):∃vs,y= .func (.func f) #[] vs.toArray/\VC E c vs:=by
 have h1:=h.single rfl rfl
 simp only[V]at h1
 obtain⟨vs,e,hc⟩:=h1
 exact⟨vs,by simpa using e,hc⟩
theorem dZ{T:TypeId}{u v:Value}{b:Bool}(h:∀d,(Op.equalIn (d+1) T u v).run P w= .ok b w):(Op.equal T u v).run P w= .ok b w:=h 9999
theorem yu{T:TypeId}{x y:av}{u v:Value}{E:Env}(hx:VS E x u)(hy:VS E y v){b:Bool}(he:(pG P T x y).eval=some b):
  (Op.equal T u v).run P w= .ok b w/\u≠ .nilIface/\(lB u=false\/(lB v=true/\P.eqGuardType P.depth T=false))/\
   (∀op,binOp op T u v=(match op with | .eql=>do pure (.bool (<-Op.equal T u v)) | .neq=>do pure (.bool (!(<-Op.equal T u v))) | _=>binOp op T u v)):=by
 unfold pG at he
 split at he
 ·rename_i t x' t' y'
  obtain⟨y'',h1,h2⟩:=ak.1 he
  obtain⟨rfl,h1⟩:=gF (gU.1 h1)
  simp only at h1
  subst h1
  obtain⟨h3,h4⟩:=aw.1 h2
  obtain rfl:=al.1 h4
  simp only[ag,fb,bp,decide_eq_true_eq]at h3
  obtain⟨h3,h5⟩:=h3
  obtain⟨cx,hVx,hOx⟩:=hx.dK rfl
  obtain⟨cy,hVy,hOy⟩:=hy.dK rfl
  simp only[V]at hVx hVy
  have hr:=mQ (w:=w) E depth T t' h5 10000 (by decide) cx cy x' y' u v hVx hVy hOx hOy
  refine⟨hr,?_⟩
  rcases h3 with⟨uC,SZ⟩ | rfl
  ·have hOx':eC t'.agg cx u:=hOx
   have hOy':eC t'.agg cy v:=hOy
   rw[uC]at hOx' hOy'
   have e1:u= .agg cx.toArray:=hOx'
   have e2:v= .agg cy.toArray:=hOy'
   subst e1 e2
   exact⟨by simp,.inr ⟨rfl,SZ⟩,λop=>by cases op <;> rfl⟩
  ·simp only[cG]at hVx hVy
   have e1:cx=[u]:=hOx
   have e2:cy=[v]:=hOy
   rw[hVx]at e1;rw[hVy]at e2
   simp only[dp,and_true]at e1 e2
   subst e1 e2
   exact⟨by simp,.inl rfl,λop=>by cases op <;> rfl⟩
 ·obtain⟨h1,h2⟩:=aw.1 he
  obtain rfl:=al.1 h2
  rw[iw hx,iw hy]
  unfold pG.isSl at h1
  split at h1 <;> try (cases h1;done)
  rename_i e hT
  exact⟨dZ λd=>by simp[Op.equalIn,run_underlying hT],by simp,.inl rfl,λop=>by cases op <;> rfl⟩
 ·obtain⟨h1,h2⟩:=aw.1 he
  obtain⟨h3,h4⟩:=bt.1 h2
  obtain rfl:=al.1 h4
  obtain⟨ad,cap,vs,rfl,_,hs,_⟩:=mj hx
  rw[iw hy]
  have hs:=hs (by simpa using h3)
  obtain⟨ad',rfl⟩:=bF.1 hs
  unfold pG.isSl at h1
  split at h1 <;> try (cases h1;done)
  rename_i e hT
  exact⟨dZ λd=>by simp[Op.equalIn,run_underlying hT],by simp,.inl rfl,λop=>by cases op <;> rfl⟩
 ·obtain⟨h1,h2⟩:=aw.1 he
  obtain⟨h3,h4⟩:=bt.1 h2
  obtain rfl:=al.1 h4
  obtain⟨ad,cap,vs,rfl,_,hs,_⟩:=mj hy
  rw[iw hx]
  have hs:=hs (by simpa using h3)
  obtain⟨ad',rfl⟩:=bF.1 hs
  unfold pG.isSl at h1
  split at h1 <;> try (cases h1;done)
  rename_i e hT
  exact⟨dZ λd=>by simp[Op.equalIn,run_underlying hT],by simp,.inl rfl,λop=>by cases op <;> rfl⟩
 ·obtain⟨h1,h2⟩:=aw.1 he
  obtain⟨h3,h4⟩:=bt.1 h2
  obtain rfl:=al.1 h4
  obtain⟨ad,cap,rfl,_,hs,_⟩:=kZ hx
  rw[iw hy]
  have hs:=hs (by simpa using h3)
  obtain⟨ad',rfl⟩:=bF.1 hs
  unfold pG.isSl at h1
  split at h1 <;> try (cases h1;done)
  rename_i e hT
  exact⟨dZ λd=>by simp[Op.equalIn,run_underlying hT],by simp,.inl rfl,λop=>by cases op <;> rfl⟩
 ·obtain⟨h1,h2⟩:=aw.1 he
  obtain⟨h3,h4⟩:=bt.1 h2
  obtain rfl:=al.1 h4
  obtain⟨ad,cap,rfl,_,hs,_⟩:=kZ hy
  rw[iw hx]
  have hs:=hs (by simpa using h3)
  obtain⟨ad',rfl⟩:=bF.1 hs
  unfold pG.isSl at h1
  split at h1 <;> try (cases h1;done)
  rename_i e hT
  exact⟨dZ λd=>by simp[Op.equalIn,run_underlying hT],by simp,.inl rfl,λop=>by cases op <;> rfl⟩
 ·obtain⟨h1,h2⟩:=aw.1 he
  obtain rfl:=al.1 h2
  rw[sT hx,sT hy]
  unfold pG.isPt at h1
  split at h1 <;> try (cases h1;done)
  rename_i e hT
  exact⟨dZ λd=>by simp[Op.equalIn,run_underlying hT],by simp,.inl rfl,λop=>by cases op <;> rfl⟩
 ·obtain⟨h1,h2⟩:=aw.1 he
  obtain rfl:=al.1 h2
  obtain⟨ad,rfl,_⟩:=mI hx
  rw[sT hy]
  unfold pG.isPt at h1
  split at h1 <;> try (cases h1;done)
  rename_i e hT
  exact⟨dZ λd=>by simp[Op.equalIn,run_underlying hT],by simp,.inl rfl,λop=>by cases op <;> rfl⟩
 ·obtain⟨h1,h2⟩:=aw.1 he
  obtain rfl:=al.1 h2
  obtain⟨ad,rfl,_⟩:=mI hy
  rw[sT hx]
  unfold pG.isPt at h1
  split at h1 <;> try (cases h1;done)
  rename_i e hT
  exact⟨dZ λd=>by simp[Op.equalIn,run_underlying hT],by simp,.inl rfl,λop=>by cases op <;> rfl⟩
 ·rename_i t q
  obtain⟨h1,h2⟩:=aw.1 he
  obtain rfl:=al.1 h2
  unfold pG.isPt at h1
  split at h1 <;> try (cases h1;done)
  rename_i e hT
  rw[sT hy]
  cases q with
  |none=>
   rw[AX hx]
   exact⟨dZ λd=>by simp[Op.equalIn,run_underlying hT],by simp,.inl rfl,λop=>by cases op <;> rfl⟩
  |some z=>
   obtain⟨b,off,vs,rfl,_⟩:=mX (uP hx)
   exact⟨dZ λd=>by simp[Op.equalIn,run_underlying hT],by simp,.inl rfl,λop=>by cases op <;> rfl⟩
 ·rename_i t q
  obtain⟨h1,h2⟩:=aw.1 he
  obtain rfl:=al.1 h2
  unfold pG.isPt at h1
  split at h1 <;> try (cases h1;done)
  rename_i e hT
  rw[sT hx]
  cases q with
  |none=>
   rw[AX hy]
   exact⟨dZ λd=>by simp[Op.equalIn,run_underlying hT],by simp,.inl rfl,λop=>by cases op <;> rfl⟩
  |some z=>
   obtain⟨b,off,vs,rfl,_⟩:=mX (uP hy)
   exact⟨dZ λd=>by simp[Op.equalIn,run_underlying hT],by simp,.inl rfl,λop=>by cases op <;> rfl⟩
 ·obtain⟨h1,h2⟩:=aw.1 he
  obtain rfl:=al.1 h2
  rw[xW hx,xW hy]
  unfold pG.isFn at h1
  split at h1 <;> try (cases h1;done)
  rename_i hT
  exact⟨dZ λd=>by simp[Op.equalIn,run_underlying hT],by simp,.inl rfl,λop=>by cases op <;> rfl⟩
 ·obtain⟨h1,h2⟩:=aw.1 he
  obtain rfl:=al.1 h2
  obtain⟨vs,rfl,_⟩:=AO hx
  rw[xW hy]
  unfold pG.isFn at h1
  split at h1 <;> try (cases h1;done)
  rename_i hT
  exact⟨dZ λd=>by simp[Op.equalIn,run_underlying hT],by simp,.inl rfl,λop=>by cases op <;> rfl⟩
 ·obtain⟨h1,h2⟩:=aw.1 he
  obtain rfl:=al.1 h2
  obtain⟨vs,rfl,_⟩:=AO hy
  rw[xW hx]
  unfold pG.isFn at h1
  split at h1 <;> try (cases h1;done)
  rename_i hT
  exact⟨dZ λd=>by simp[Op.equalIn,run_underlying hT],by simp,.inl rfl,λop=>by cases op <;> rfl⟩
 ·simp only[ai]at he
theorem C1{op:BinOp}{T:TypeId}{x y:Operand}{u v:Value}(hu:lB u=true)(hv:lB v=true)(hm:P.eqGuardType P.depth T=false):(eqGuard op T x y u v).run P w= .ok () w:=by
 cases u <;> first | (simp[lB]at hu;done) | skip
 cases v <;> first | (simp[lB]at hv;done) | skip
 exact run_eqGuard_agg w op T x y _ _ hm
theorem EN(h:Inv C g β s a w){op:BinOp}{T U:TypeId}{x y:Operand}(ho:o.op= .binOp op T x y U){v:av}(he:(Mi P T op (s.ev x) (s.ev y)).eval=some v):ez P o a w (fF C (s.put o.dst v)):=by
 have hx:=h.ev x
 have hy:=h.ev y
 have fin:∀z,(binOp op T (a.eval x) (a.eval y)).run P w= .ok z w->(eqGuard op T x y (a.eval x) (a.eval y)).run P w= .ok () w->VS (s.env w g β) v z->ez P o a w (fF C (s.put o.dst v)):=by
  intro z h1 h2 h3
  refine h.value h3 ?_
  simp[execOp,ho,h1,h2]
 unfold Mi at he
 split at he
 ·rename_i k n k' m hn hm
  rw[hn]at hx;rw[hm]at hy
  have e1:=mE hx
  have e2:=mE hy
  obtain⟨z,h1,h2⟩:=Dt (P:=P) (w:=w) he T (s.env w g β)
  exact fin z (by rw[e1,e2];exact h1) (by rw[e1,e2];exact jJ (by simp) rfl) h2
 ·rename_i n m hn hm
  rw[hn]at hx;rw[hm]at hy
  have e1:=sC hx
  have e2:=sC hy
  obtain⟨z,h1,h2⟩:=Ek (P:=P) (w:=w) he T (s.env w g β)
  exact fin z (by rw[e1,e2];exact h1) (by rw[e1,e2];exact jJ (by simp) rfl) h2
 ·have grd:(lB (a.eval x)=false\/(lB (a.eval y)=true/\P.eqGuardType P.depth T=false))->a.eval x≠ .nilIface->(eqGuard op T x y (a.eval x) (a.eval y)).run P w= .ok () w:=by
   intro hh ga
   rcases hh with hh | ⟨hh,hm⟩
   ·exact jJ ga hh
   ·rcases fR (lB (a.eval x)) with hx | hx
    ·exact C1 hx hh hm
    ·exact jJ ga hx
  split at he
  ·obtain⟨b,h1,h2⟩:=ak.1 he
   obtain rfl:=al.1 h2
   obtain⟨q1,q2,q3,q4⟩:=yu (w:=w) hx hy h1
   refine fin (.bool b) ?_ (grd q3 q2) (mP b)
   rw[q4 .eql]
   simp[q1]
  ·obtain⟨b,h1,h2⟩:=ak.1 he
   obtain rfl:=al.1 h2
   obtain⟨q1,q2,q3,q4⟩:=yu (w:=w) hx hy h1
   refine fin (.bool (!b)) ?_ (grd q3 q2) (mP (!b))
   rw[q4 .neq]
   simp[q1]
  ·simp only[ai]at he
theorem Ia(h:Inv C g β s a w){op:UnOp}{T:TypeId}{x:Operand}(ho:o.op= .unOp op T x){v:av}(he:(Qc op (s.ev x)).eval=some v):ez P o a w (fF C (s.put o.dst v)):=by
 have hx:=h.ev x
 unfold Qc at he
 split at he
 ·rename_i b hb
  rw[hb]at hx
  obtain rfl:=al.1 he
  exact h.value (mP _) (by simp[execOp,ho,xK hx,Op.unary])
 ·rename_i k n hb
  rw[hb]at hx
  obtain rfl:=al.1 he
  exact h.value (iB _ _) (by simp[execOp,ho,mE hx,Op.unary,Op.intArith])
 ·rename_i k n hb
  rw[hb]at hx
  obtain rfl:=al.1 he
  refine h.value (iB _ _) ?_
  simp only[execOp,ho,mE hx,Op.unary,Op.intBits]
  simp[du]
 ·simp only[ai]at he
end
end Go.Ab
namespace Go.Ab
section
variable {P:Program} {C:Ctx} {g:Nat->jm} {β:Id->Option Pl} {s:AS} {a:Act} {w:World} {o:Oper}
theorem oQ{E:Env}{v:av}{y:Value}(h:VS E v y){n:Int}(he:(asInt v).eval=some n):∃k,y= .int k n:=by
 unfold asInt at he
 split at he
 ·rename_i k m
  obtain rfl:=al.1 he
  exact⟨k,mE h⟩
 ·simp only[ai]at he
theorem oN{k:IntKind}{i:Int}{y:Nat}(code:BoundsCode)(h:0<=i/\i<=(y:Int)):(Instr.sliceBound (.int k i) y code).run P w= .ok i.toNat w:=
 run_sliceBound w k i y code h.1 h.2
theorem od(h:Inv C g β s a w){n cap:Nat}(hn:n<=cap){lo hi:Option Operand}{r:Nat×Nat}(he:(bounds s n lo hi).eval=some r)(isS:Bool){mx:Option Value}{cap':Nat}
  (hm:(mx=none/\cap'=cap)\/∃k mv,hi.isSome=true/\mx=some (.int k mv)/\(r.2:Int)<=mv/\mv<=n/\cap'=mv.toNat):
  (Instr.sliceBounds isS n cap (lo.map a.eval) (hi.map a.eval) mx).run P w= .ok (r.1,r.2,cap') w/\r.1<=r.2/\r.2<=n:=by
 unfold bounds at he
 obtain⟨hh,h1,h2⟩:=ak.1 he
 obtain⟨ll,h3,h4⟩:=ak.1 h2
 obtain rfl:=al.1 h4
 have LA:hh<=n/\∀y,hi.map a.eval=some y->∃k i,y= .int k i/\0<=i/\i<=(n:Int)/\hh=i.toNat:=by
  cases hi with
  |none=>
   simp only at h1
   obtain rfl:=al.1 h1
   exact⟨ax _,λy hy=>by cases hy⟩
  |some x=>
   simp only at h1
   obtain⟨i,q1,q2⟩:=ak.1 h1
   obtain⟨q3,q4⟩:=bt.1 q2
   obtain rfl:=al.1 q4
   simp only[decide_eq_true_eq]at q3
   obtain⟨k,hk⟩:=oQ (h.ev x) q1
   refine⟨by omega,λy hy=> ?_⟩
   simp only[dq,ao]at hy
   exact⟨k,i,by rw[<-hy];exact hk,q3.1,q3.2,rfl⟩
 have Kw:hi.map a.eval=none->hh=n:=by
  intro hy
  cases hi with
  |none=>simp only at h1;exact(al.1 h1).symm
  |some x=>cases hy
 have lo1:ll<=hh/\∀y,lo.map a.eval=some y->∃k i,y= .int k i/\0<=i/\i<=(hh:Int)/\ll=i.toNat:=by
  cases lo with
  |none=>
   simp only at h3
   obtain rfl:=al.1 h3
   exact⟨bh _,λy hy=>by cases hy⟩
  |some x=>
   simp only at h3
   obtain⟨i,q1,q2⟩:=ak.1 h3
   obtain⟨q3,q4⟩:=bt.1 q2
   obtain rfl:=al.1 q4
   simp only[decide_eq_true_eq]at q3
   obtain⟨k,hk⟩:=oQ (h.ev x) q1
   refine⟨by omega,λy hy=> ?_⟩
   simp only[dq,ao]at hy
   exact⟨k,i,by rw[<-hy];exact hk,q3.1,q3.2,rfl⟩
 have lo0:lo.map a.eval=none->ll=0:=by
  intro hy
  cases lo with
  |none=>simp only at h3;exact(al.1 h3).symm
  |some x=>cases hy
 refine⟨?_,lo1.1,LA.1⟩
 unfold Instr.sliceBounds
 rcases hm with⟨rfl,rfl⟩ | ⟨k2,mv,hs,rfl,Sf,LF,rfl⟩
 ·cases P0:hi.map a.eval with
  |none=>
   obtain rfl:=Kw P0
   cases xP:lo.map a.eval with
   |none=>
    obtain rfl:=lo0 xP
    rfl
   |some y=>
    obtain⟨k,i,rfl,q1,q2,rfl⟩:=lo1.2 y xP
    simp only[Sem.run_bind,Sem.run_pure,Result.andThen_ok,oN _ ⟨q1,q2⟩]
  |some z=>
   obtain⟨k',i',rfl,p1,p2,rfl⟩:=LA.2 z P0
   have hb:∀code,(Instr.sliceBound (.int k' i') cap' code).run P w= .ok i'.toNat w:=λcode=>oN code ⟨p1,by omega⟩
   cases xP:lo.map a.eval with
   |none=>
    obtain rfl:=lo0 xP
    simp only[Sem.run_bind,Sem.run_pure,Result.andThen_ok,hb]
   |some y=>
    obtain⟨k,i,rfl,q1,q2,rfl⟩:=lo1.2 y xP
    simp only[Sem.run_bind,Sem.run_pure,Result.andThen_ok,hb,oN _ ⟨q1,q2⟩]
 ·cases P0:hi.map a.eval with
  |none=>cases hi <;> simp_all
  |some z=>
   obtain⟨k',i',rfl,p1,p2,rfl⟩:=LA.2 z P0
   have Sf:((i'.toNat:Nat):Int)<=mv:=Sf
   have h0:∀code,(Instr.sliceBound (.int k2 mv) cap code).run P w= .ok mv.toNat w:=λcode=>oN code ⟨by omega,by omega⟩
   have hb:∀code,(Instr.sliceBound (.int k' i') mv.toNat code).run P w= .ok i'.toNat w:=λcode=>oN code ⟨p1,by omega⟩
   cases xP:lo.map a.eval with
   |none=>
    obtain rfl:=lo0 xP
    simp only[Sem.run_bind,Sem.run_pure,Result.andThen_ok,hb,h0]
   |some y=>
    obtain⟨k,i,rfl,q1,q2,rfl⟩:=lo1.2 y xP
    simp only[Sem.run_bind,Sem.run_pure,Result.andThen_ok,hb,h0,oN _ ⟨q1,q2⟩]
theorem j5{T:TypeId}{z:Nat}(h1:ir P T=some z)(h2:nV P T=none):∃e,P.underlying T=some (.slice e)/\P.cellsOf e=z/\0 < z:=by
 unfold ir at h1
 unfold nV at h2
 split at h1
 ·rename_i n e hT;rw[hT]at h2;cases h2
 ·rename_i e hT
  cases hc:P.cellsOf e with
  |zero=>rw[hc]at h1;cases h1
  |succ k=>
   rw[hc]at h1
   simp only[ao]at h1
   exact⟨e,hT,by omega,by omega⟩
 ·cases h1
theorem og{T:TypeId}{z n:Nat}(h1:ir P T=some z)(h2:nV P T=some n):∃e,P.underlying T=some (.array n e)/\P.cellsOf e=z/\0 < z:=by
 unfold ir at h1
 unfold nV at h2
 split at h1
 ·rename_i n e hT
  rw[hT]at h2
  simp only[ao]at h2
  subst h2
  cases hc:P.cellsOf e with
  |zero=>rw[hc]at h1;cases h1
  |succ k=>
   rw[hc]at h1
   simp only[ao]at h1
   exact⟨e,hT,by omega,by omega⟩
 ·rename_i e hT;rw[hT]at h2;cases h2
 ·cases h1
theorem j9{e:TypeId}{z:Nat}(h:P.cellsOf e=z)(hz:0 < z)(w:World):(sizeOf e).run P w= .ok z w:=by
 unfold Program.cellsOf at h
 cases hi:P.info? e with
 |none=>rw[hi]at h;simp at h;omega
 |some i=>rw[hi]at h;rw[run_sizeOf hi];simpa using h
set_option maxHeartbeats 1000000 in
theorem zz(h:Inv C g β s a w){T:TypeId}{x:Operand}{lo hi mx:Option Operand}(ho:o.op= .slice T x lo hi mx)
  (hm:mx=none\/∃m y hv mv,mx=some m/\hi=some y/\(asInt (s.ev y)).eval=some hv/\(asInt (s.ev m)).eval=some mv/\0<=hv/\hv<=mv/\mv<=KH (s.ev x))
  {v:av} (he:(sA P s T (s.ev x) lo hi).eval=some v):ez P o a w (fF C (s.put o.dst (CW mx v))):=by
 have hx:=h.ev x
 have fin:∀z,(Instr.sliceAt T (a.eval x) (lo.map a.eval) (hi.map a.eval) (mx.map a.eval)).run P w= .ok z w->VS (s.env w g β) (CW mx v) z->ez P o a w (fF C (s.put o.dst (CW mx v))):=by
  intro z h1 h2
  exact h.value h2 (dg (f:=Instr.sliceAt T (a.eval x) (lo.map a.eval) (hi.map a.eval) (mx.map a.eval)) (by simp only[execOp,ho]) h1)
 have no:∀ {q:Prop},KH (s.ev x)= -1->(mx=none->q)->q:=by
  intro q h1 h2
  rcases hm with h3 | ⟨_,_,hv,mv,_,_,_,_,h3,h4,h5⟩
  ·exact h2 h3
  ·omega
 have sl:∀(e:TypeId) (z:Nat) (ad:Option Addr) (len cap:Nat) (b:Nat×Nat),KH (s.ev x)=(len:Int)->P.underlying T=some (.slice e)->P.cellsOf e=z->0 < z->a.eval x= .slice ad len cap->len<=cap->(bounds s len lo hi).eval=some b->
   ∃cap',(Instr.sliceAt T (a.eval x) (lo.map a.eval) (hi.map a.eval) (mx.map a.eval)).run P w= .ok (.slice (if cap'=b.1 then ad else ad.map (·.add (b.1*z))) (b.2 - b.1) (cap' - b.1)) w/\b.1<=b.2/\b.2<=len/\b.2<=cap'/\cap'<=cap/\(mx=none->cap'=cap):=by
  intro e z ad len cap b hL hT hz lv hy Ii hb
  rcases hm with rfl | ⟨m,y,hv,mv,rfl,rfl,q1,q2,q3,q4,q5⟩
  ·obtain⟨h1,h2,h3⟩:=od (P:=P) h Ii hb true (.inl ⟨rfl,rfl⟩)
   refine⟨cap,?_,h2,h3,by omega,ax _,λ_=>rfl⟩
   rw[hy]
   simp[Instr.sliceAt,Instr.slice,run_underlying hT,h1,j9 hz lv]
  ·obtain⟨k,hk⟩:=oQ (h.ev m) q2
   have xN:(b.2:Int)<=mv:=by
    obtain⟨hh,h1,h2⟩:=ak.1 hb
    obtain⟨i,r1,r2⟩:=ak.1 h1
    obtain⟨r3,r4⟩:=bt.1 r2
    obtain rfl:=al.1 r4
    obtain⟨ll,_,h4⟩:=ak.1 h2
    obtain rfl:=al.1 h4
    rw[q1]at r1
    obtain rfl:=aP r1
    show((hv.toNat:Nat):Int)<=mv
    omega
   obtain⟨h1,h2,h3⟩:=od (P:=P) h Ii hb true (mx:=some (.int k mv)) (cap':=mv.toNat) (.inr ⟨k,mv,rfl,rfl,xN,by omega,rfl⟩)
   refine⟨mv.toNat,?_,h2,h3,by omega,by omega,λh=>by cases h⟩
   rw[hy,dq (a:=m),hk]
   simp[Instr.sliceAt,Instr.slice,run_underlying hT,j9 hz lv]
   simp only[dq]at h1
   simp[h1]
 have ar:∀(e:TypeId) (z n:Nat) (ad:Addr) (b:Nat×Nat),mx=none->P.underlying T=some (.array n e)->P.cellsOf e=z->0 < z->a.eval x= .pointer (some ad)->(bounds s n lo hi).eval=some b->
   (Instr.sliceAt T (a.eval x) (lo.map a.eval) (hi.map a.eval) (mx.map a.eval)).run P w= .ok (.slice (some (if n=b.1 then ad else ad.add (b.1*z))) (b.2 - b.1) (n - b.1)) w/\b.1<=b.2/\b.2<=n:=by
  intro e z n ad b hN hT hz lv hy hb
  obtain⟨h1,h2,h3⟩:=od (P:=P) h (ax n) hb false (.inl ⟨rfl,rfl⟩)
  refine⟨?_,h2,h3⟩
  rw[hy,hN]
  simp[Instr.sliceAt,Instr.sureAddr,run_underlying hT,h1,j9 hz lv]
 have cutR:∀(t:Ty) (z:Nat) (ad ad':Option Addr) (len' cap':Nat) (vs:List Value) (l:List t.den) (b:Nat×Nat),z=t.size->rn (s.env w g β) ad vs->aO (cG (s.env w g β) t) vs l->b.1<=b.2->b.2<=l.length->
   (∀bb off,ad=some ⟨bb,off,none⟩->b.1 < b.2->ad'=some ⟨bb,off+b.1*z,none⟩)->(b.1 < b.2->ad'.isSome=true)->len'=b.2 - b.1->len'<=cap'->VS (s.env w g β) (.d (.slice t) (cut l b.1 (b.2 - b.1))) (.slice ad' len' cap'):=by
  intro t z ad ad' len' cap' vs l b hz hr hc h1 h2 QF ku hlen hle
  subst hz hlen
  have Fc:(cut l b.1 (b.2 - b.1)).length=b.2 - b.1:=oV (by omega)
  refine⟨_,?_,rfl⟩
  simp only[V,cG]
  refine⟨ad',cap',(vs.drop (b.1*t.size)).take ((b.2 - b.1)*t.size),by rw[Fc],by omega,by rw[Fc];intro hp;exact ku (by omega),?_,tN hc b.1 _⟩
  intro i v hi
  rw[cI]at hi
  split at hi
  ·rename_i S3
   rw[eG]at hi
   obtain⟨bb,off,e,hh⟩:=hr _ v hi
   have iC:b.1 < b.2:=by
    rcases kf b.1 b.2 with h' | h'
    ·exact h'
    ·rw[ia h',kg]at S3;omega
   exact⟨bb,_,QF bb off e iC,by rw[dz];exact hh⟩
  ·cases hi
 unfold sA at he
 split at he
 ·rename_i st lQ
  rw[lQ]at hx
  have e1:=sC hx
  obtain⟨h1,h2⟩:=aw.1 he
  obtain⟨b,h3,h4⟩:=ak.1 h2
  obtain rfl:=al.1 h4
  split at h1 <;> try (cases h1;done)
  rename_i hT
  obtain⟨q1,q2,q3⟩:=od (P:=P) h (ax _) h3 false (.inl ⟨rfl,rfl⟩)
  refine no (by rw[lQ];rfl) λhN=> ?_
  subst hN
  refine fin (.string (st.extract b.1 b.2)) ?_ (Bz _)
  rw[e1]
  simp[Instr.sliceAt,Instr.slice,run_underlying hT,q1]
 ·rename_i t l hl
  rw[hl]at hx
  obtain⟨ad,cap,vs,hy,Ii,ku,nN,mS⟩:=mj hx
  obtain⟨h1,h2⟩:=aw.1 he
  obtain⟨b,h3,h4⟩:=ak.1 h2
  obtain rfl:=al.1 h4
  split at h1 <;> try (cases h1;done)
  rename_i z w8 wh
  obtain⟨e,hT,hz,lv⟩:=j5 w8 wh
  have Hs:z=t.size:=by simpa using h1
  obtain⟨cap',q1,q2,q3,q4,_,_⟩:=sl e z ad _ cap b (by rw[hl];rfl) hT hz lv hy Ii h3
  refine fin _ q1 ?_
  rw[show CW mx (.d (.slice t) (cut l b.1 (b.2 - b.1)))= .d (.slice t) (cut l b.1 (b.2 - b.1)) by cases mx <;> rfl]
  refine cutR t z ad _ _ _ vs l b Hs nN mS q2 q3 ?_ ?_ rfl (by omega)
  ·intro bb off e1 iC
   rw[if_neg (by omega),e1]
   simp[Addr.add_lit]
  ·intro iC
   rw[if_neg (by omega)]
   have:=ku (by omega)
   cases ad <;> simp_all
 ·rename_i hl
  rw[hl]at hx
  have hy:=iw hx
  obtain⟨h1,h2⟩:=aw.1 he
  obtain⟨b,h3,h4⟩:=ak.1 h2
  obtain rfl:=al.1 h4
  split at h1 <;> try (cases h1;done)
  rename_i z w8 wh
  obtain⟨e,hT,hz,lv⟩:=j5 w8 wh
  obtain⟨cap',q1,q2,q3,q4,q6,q5⟩:=sl e z none 0 0 b (by rw[hl];rfl) hT hz lv hy (ax _) h3
  have vN:b.1=0:=by omega
  have xN:b.2=0:=by omega
  have xO:cap'=0:=by omega
  refine fin _ q1 ?_
  rw[show CW mx .db= .db by cases mx <;> rfl,vN,xN,xO]
  exact⟨_,by simp[V],rfl⟩
 ·rename_i id ver p c i len hl
  rw[hl]at hx
  obtain⟨ad,cap,hy,Ii,ku,yG,ef⟩:=kZ hx
  obtain⟨r,M6,he⟩:=ak.1 he
  obtain⟨h1,h2⟩:=aw.1 he
  obtain⟨b,h3,h4⟩:=ak.1 h2
  obtain rfl:=al.1 h4
  split at h1 <;> try (cases h1;done)
  rename_i z w8 wh
  obtain⟨e,hT,hz,lv⟩:=j5 w8 wh
  have Hs:z=r.2.1.size:=by simpa using h1
  obtain⟨cap',q1,q2,q3,q4,q6,q5⟩:=sl e z ad _ cap b (by rw[hl];rfl) hT hz lv hy Ii h3
  obtain⟨p',NZ,A0⟩:∃p',CW mx (.cD id ver p (c+b.1*r.2.1.size) (i+b.1) (b.2 - b.1))= .cD id ver p' (c+b.1*r.2.1.size) (i+b.1) (b.2 - b.1)/\(p'=[]->p=[]/\mx=none):=by
   cases mx with
   |none=>exact⟨p,rfl,λh=>⟨h,rfl⟩⟩
   |some m=>exact⟨p++ [.arr],rfl,λh=>by simp at h⟩
  refine fin _ q1 ?_
  rw[NZ]
  refine⟨_,?_,rfl⟩
  simp only[V]
  refine⟨_,_,rfl,by omega,?_,yG,λhc=> ?_⟩
  ·intro iC
   rw[if_neg (by omega)]
   have:=ku (by omega)
   cases ad <;> simp_all
  ·have ef:=ef hc
   cases hp:β id with
   |none=>
    have hp':(s.env w g β).β id=none:=hp
    rw[hp']at ef ⊢
    simp only at ef ⊢
    obtain⟨rfl,rfl,rfl⟩:=ef
    have xO:cap'=0:=by omega
    refine⟨by simp,by omega,by omega⟩
   |some pl=>
    have hp':(s.env w g β).β id=some pl:=hp
    rw[hp']at ef ⊢
    simp only at ef ⊢
    refine⟨λhh=> ?_,λRf Kw=> ?_⟩
    ·by_cases MN:cap'=b.1
     ·rw[if_pos MN]
      have QH:b.1=0:=by omega
      rw[QH,kg,cq]
      exact ef.1 (.inr (by omega))
     ·rw[if_neg MN,ef.1 (by omega),<-Hs]
      simp[Addr.add_lit]
    ·obtain⟨e1,e2⟩:=A0 Rf
     have:=ef.2 e1 (by omega)
     have:=q5 e2
     omega
 ·rename_i id ver p n hl
  rw[hl]at hx
  obtain⟨ad,hy,yG,ef⟩:=mI hx
  obtain⟨r,M6,he⟩:=ak.1 he
  obtain⟨h1,h2⟩:=aw.1 he
  obtain⟨h5,h6⟩:=bt.1 h2
  obtain⟨b,h3,h4⟩:=ak.1 h6
  obtain rfl:=al.1 h4
  split at h1 <;> try (cases h1;done)
  rename_i z m w8 wh
  obtain⟨e,hT,hz,lv⟩:=og w8 wh
  have Hs:z=r.2.1.size:=by simpa using h1
  rw[wh,dR]at h3
  refine no (by rw[hl];rfl) λhN=> ?_
  obtain⟨q1,q2,q3⟩:=ar e z m ad b hN hT hz lv hy h3
  subst hN
  obtain⟨fr,c0,cj,_⟩:=wH rfl h.bo M6
  obtain⟨pl,hp,Hi⟩:=ef ⟨fr,c0,cj⟩
  refine fin _ q1 ⟨_,?_,rfl⟩
  simp only[CW,V]
  refine⟨_,_,rfl,by omega,λ_=>rfl,yG,λ_=> ?_⟩
  rw[hp]
  simp only
  refine⟨λhh=> ?_,λRf=>by simp at Rf⟩
  rw[Hi]
  by_cases MN:m=b.1
  ·have QH:b.1=0:=by omega
   rw[if_pos MN,QH,kg,cq]
  ·rw[if_neg MN,<-Hs,Addr.add_lit]
 ·rename_i n t l hl
  rw[hl]at hx
  obtain⟨bb,off,vs,hy,nN,hR⟩:=mX hx
  obtain⟨h1,h2⟩:=aw.1 he
  obtain⟨b,h3,h4⟩:=ak.1 h2
  obtain rfl:=al.1 h4
  split at h1 <;> try (cases h1;done)
  rename_i z m w8 wh
  obtain⟨e,hT,hz,lv⟩:=og w8 wh
  simp only[ag,beq_iff_eq]at h1
  obtain⟨Hs,rfl⟩:=h1
  refine no (by rw[hl];rfl) λhN=> ?_
  obtain⟨q1,q2,q3⟩:=ar e z m _ b hN hT hz lv hy h3
  subst hN
  simp only[cG]at hR
  obtain⟨hlen,mS⟩:=hR
  refine fin _ q1 (cutR t z (some ⟨bb,off,none⟩) _ _ _ vs l b Hs nN mS q2 (by omega) ?_ (λ_=>rfl) rfl (by omega))
  intro bb' off' e1 iC
  simp only[ao,Addr.mk.injEq,and_true]at e1
  obtain⟨rfl,rfl⟩:=e1
  rw[if_neg (by omega),Addr.add_lit]
 ·simp only[ai]at he
end
end Go.Ab
namespace Go.Ab
section
variable {P:Program} {C:Ctx} {g:Nat->jm} {β:Id->Option Pl} {s:AS} {a:Act} {w:World} {o:Oper}
theorem yQ(h:Inv C g β s a w){T:TypeId}{x y:Operand}(ho:o.op= .indexAddr T x y){i:Int}(hi:(asInt (s.ev y)).eval=some i){v:av}(he:(lA P s T (s.ev x) i).eval=some v):ez P o a w (fF C (s.put o.dst v)):=by
 have hx:=h.ev x
 obtain⟨k,hy⟩:=oQ (h.ev y) hi
 have fin:∀z,(Instr.indexAt T (a.eval x) (a.eval y)).run P w= .ok z w->VS (s.env w g β) v z->ez P o a w (fF C (s.put o.dst v)):=by
  intro z h1 h2
  exact h.value h2 (dg (f:=Instr.indexAt T (a.eval x) (a.eval y)) (by simp only[execOp,ho]) h1)
 have sl:∀(e:TypeId) (z:Nat) (ad:Addr) (len cap:Nat),P.underlying T=some (.slice e)->P.cellsOf e=z->0 < z->a.eval x= .slice (some ad) len cap->0<=i/\i < (len:Int)->
   (Instr.indexAt T (a.eval x) (a.eval y)).run P w= .ok (.pointer (some (ad.add (i.toNat*z)))) w:=by
  intro e z ad len cap hT hz lv hv hb
  rw[hv,hy]
  simp[Instr.indexAt,asIntOf,run_underlying hT,hb,j9 hz lv]
 have ar:∀(e:TypeId) (z n:Nat) (ad:Addr),P.underlying T=some (.array n e)->P.cellsOf e=z->0 < z->a.eval x= .pointer (some ad)->0<=i/\i < (n:Int)->
   (Instr.indexAt T (a.eval x) (a.eval y)).run P w= .ok (.pointer (some (ad.add (i.toNat*z)))) w:=by
  intro e z n ad hT hz lv hv hb
  rw[hv,hy]
  simp[Instr.indexAt,Instr.sureAddr,asIntOf,run_underlying hT,hb,j9 hz lv]
 have elt:∀(t:Ty) (z:Nat) (bb off:Nat) (vs:List Value) (l:List t.den),z=t.size->rn (s.env w g β) (some ⟨bb,off,none⟩) vs->aO (cG (s.env w g β) t) vs l->0<=i/\i < (l.length:Int)->
   VS (s.env w g β) (.eO t (nth t l i.toNat)) (.pointer (some ⟨bb,off+i.toNat*z,none⟩)):=by
  intro t z bb off vs l hz hr hc hb
  subst hz
  have iC:i.toNat < l.length:=by omega
  rw[zj iC]
  obtain⟨hp,_⟩:=vz hc iC
  refine⟨_,?_,rfl⟩
  simp only[V]
  refine⟨_,_,_,rfl,λj v hj=> ?_,hp⟩
  rw[cI]at hj
  split at hj
  ·rw[eG]at hj
   obtain⟨b',o',e,hh⟩:=hr _ v hj
   simp only[ao,Addr.mk.injEq,and_true]at e
   obtain⟨rfl,rfl⟩:=e
   exact⟨_,_,rfl,by rw[dz];exact hh⟩
  ·cases hj
 unfold lA at he
 split at he
 ·rename_i t l hl
  rw[hl]at hx
  obtain⟨ad,cap,vs,hv,Ii,ku,nN,mS⟩:=mj hx
  obtain⟨h1,h2⟩:=aw.1 he
  obtain⟨h3,h4⟩:=bt.1 h2
  obtain rfl:=al.1 h4
  simp only[decide_eq_true_eq]at h3
  split at h1 <;> try (cases h1;done)
  rename_i z w8 wh
  obtain⟨e,hT,hz,lv⟩:=j5 w8 wh
  have Hs:z=t.size:=by simpa using h1
  have hlen:=aO.length (λc x hx=>cG.size hx) mS
  have iC:i.toNat < l.length:=by omega
  have h0:0 < vs.length:=by rw[hlen];exact Nat.mul_pos (by omega) (by omega)
  obtain⟨bb,off,e1,_⟩:=nN 0 vs[0] (by simp[h0])
  subst e1
  have:=sl e z _ _ cap hT hz lv hv h3
  rw[Addr.add_lit]at this
  exact fin _ this (elt t z bb off vs l Hs nN mS h3)
 ·rename_i n t l hl
  rw[hl]at hx
  obtain⟨bb,off,vs,hv,nN,hR⟩:=mX hx
  obtain⟨h1,h2⟩:=aw.1 he
  obtain⟨h3,h4⟩:=bt.1 h2
  obtain rfl:=al.1 h4
  simp only[decide_eq_true_eq]at h3
  split at h1 <;> try (cases h1;done)
  rename_i z m w8 wh
  obtain⟨e,hT,hz,lv⟩:=og w8 wh
  simp only[ag,beq_iff_eq]at h1
  obtain⟨Hs,rfl⟩:=h1
  simp only[cG]at hR
  have:=ar e z m _ hT hz lv hv h3
  rw[Addr.add_lit]at this
  exact fin _ this (elt t z bb off vs l Hs nN hR.2 (by rw[hR.1];exact h3))
 ·rename_i id ver p c j len hl
  rw[hl]at hx
  obtain⟨ad,cap,hv,Ii,ku,yG,ef⟩:=kZ hx
  obtain⟨r,M6,he⟩:=ak.1 he
  obtain⟨h1,h2⟩:=aw.1 he
  obtain⟨h3,h4⟩:=bt.1 h2
  obtain rfl:=al.1 h4
  simp only[decide_eq_true_eq]at h3
  split at h1 <;> try (cases h1;done)
  rename_i z w8 wh
  obtain⟨e,hT,hz,lv⟩:=j5 w8 wh
  have Hs:z=r.2.1.size:=by simpa using h1
  have hs:=ku (by omega)
  obtain⟨ad',rfl⟩:=bF.1 hs
  refine fin _ (sl e z ad' len cap hT hz lv hv h3) ⟨_,?_,rfl⟩
  simp only[V]
  refine⟨_,rfl,yG,λhc=> ?_⟩
  have ef:=ef hc
  cases hp:β id with
  |none=>
   have hp':(s.env w g β).β id=none:=hp
   rw[hp']at ef
   exact absurd ef.1 (by simp)
  |some pl=>
   have hp':(s.env w g β).β id=some pl:=hp
   rw[hp']at ef
   have e1:=ef.1 (.inl (by omega))
   simp only[ao]at e1
   exact⟨pl,hp,by rw[e1,Addr.add_lit,Hs]⟩
 ·rename_i id ver p n hl
  rw[hl]at hx
  obtain⟨ad,hv,yG,ef⟩:=mI hx
  obtain⟨h1,h2⟩:=aw.1 he
  obtain⟨h3,h4⟩:=bt.1 h2
  obtain rfl:=al.1 h4
  simp only[decide_eq_true_eq]at h3
  split at h1 <;> try (cases h1;done)
  rename_i z m w8 wh
  obtain⟨e,hT,hz,lv⟩:=og w8 wh
  rw[wh,dR]at h3
  refine fin _ (ar e z m ad hT hz lv hv h3) ⟨_,?_,rfl⟩
  simp only[V]
  refine⟨_,rfl,yG,λhc=> ?_⟩
  obtain⟨pl,hp,Hi⟩:=ef hc
  exact⟨pl,hp,by rw[Hi,Addr.add_lit,w8,dR]⟩
 ·simp only[ai]at he
theorem rq{T:TypeId}{f off:Nat}{ft:TypeId}(h:fieldInfo P T f=some (off,ft)):∃fs fd,P.underlying T=some (.struct fs)/\fs[f]? =some fd/\fd.offset=off/\fd.type=ft:=by
 unfold fieldInfo at h
 split at h
 ·rename_i fs hT
  split at h
  ·rename_i fd hf
   simp only[ao,cd]at h
   exact⟨fs,fd,hT,hf,h.1,h.2⟩
  ·cases h
 ·cases h
theorem qY{E:Env}:∀(x:av) (f off:Nat) (v:av) (cs:List Value),V E x cs->partOf x f=some (off,v)->V E v ((cs.drop off).take v.size)/\off+v.size<=cs.length:=by
 intro x f
 induction f generalizing x with
 |zero=>
  intro off v cs hx h
  cases x with
  |d t y=>
   cases t <;> simp only[partOf,reduceCtorEq]at h
   rename_i ta tb
   simp only[ao,cd]at h
   obtain⟨rfl,rfl⟩:=h
   simp only[V,cG]at hx ⊢
   obtain⟨ca,cb,rfl,ha,hb⟩:=hx
   have:=ha.size
   simp only[av.size,aJ,aq,aN]
   rw[List.take_left' this]
   exact⟨ha,by omega⟩
  |pr b c=>
   simp only[partOf,ao,cd]at h
   obtain⟨rfl,rfl⟩:=h
   simp only[V]at hx
   obtain⟨ca,cb,rfl,ha,hb⟩:=hx
   have:=ha.size
   simp only[aJ,aq,aN]
   rw[List.take_left' this]
   exact⟨ha,by omega⟩
  |_=>simp only[partOf,reduceCtorEq]at h
 |succ f ih=>
  intro off v cs hx h
  have second:∀(ca cb:List Value) (n:Nat) (b:av),cs=ca++cb->ca.length=n->V E b cb->(match partOf b f with | some (o,v)=>some (n+o,v) | none=>none)=some (off,v)->V E v ((cs.drop off).take v.size)/\off+v.size<=cs.length:=by
   intro ca cb n b e hl hb hh
   cases hp:partOf b f with
   |none=>rw[hp]at hh;cases hh
   |some r=>
    obtain⟨o',v'⟩:=r
    rw[hp]at hh
    simp only[ao,cd]at hh
    obtain⟨rfl,rfl⟩:=hh
    obtain⟨h1,h2⟩:=ih b o' v' cb hb hp
    subst e
    rw[<-hl,gJ,fv (by omega),aS,gd]
    exact⟨h1,by simp only[aq];omega⟩
  cases x with
  |d t y=>
   cases t with
   |pair ta tb=>
    simp only[partOf]at h
    simp only[V,cG]at hx
    obtain⟨ca,cb,e,ha,hb⟩:=hx
    exact second ca cb ta.size (.d tb y.2) e ha.size (by simpa only[V]using hb) h
   |_=>simp only[partOf,reduceCtorEq]at h
  |pr b c=>
   simp only[partOf]at h
   simp only[V]at hx
   obtain⟨ca,cb,e,ha,hb⟩:=hx
   exact second ca cb b.size c e ha.size hb h
  |_=>simp only[partOf,reduceCtorEq]at h
theorem yw(h:Inv C g β s a w){T:TypeId}{x:Operand}{f:Nat}(ho:o.op= .fieldAddr T x f){v:av}(he:(qN P T (s.ev x) f).eval=some v):ez P o a w (fF C (s.put o.dst v)):=by
 have hx:=h.ev x
 unfold qN at he
 split at he
 ·rename_i off ft hf
  obtain⟨fs,fd,hT,PW,rfl,rfl⟩:=rq hf
  obtain⟨h1,h2⟩:=aw.1 he
  have hz:P.cellsOf fd.type≠0:=by simpa using h1
  have run:∀bb n,a.eval x= .pointer (some ⟨bb,n,none⟩)->(Instr.fieldAt T (a.eval x) f).run P w= .ok (.pointer (some ⟨bb,n+fd.offset,none⟩)) w:=by
   intro bb n hy
   rw[hy]
   simp[Instr.fieldAt,run_underlying hT,PW,Instr.sureAddr,fieldPlace,j9 (P:=P) (e:=fd.type) rfl (by omega),hz,Addr.add_lit]
  have runS:∀ad,a.eval x= .pointer (some ad)->(Instr.fieldAt T (a.eval x) f).run P w= .ok (.pointer (some (ad.add fd.offset))) w:=by
   intro ad hy
   rw[hy]
   simp[Instr.fieldAt,run_underlying hT,PW,Instr.sureAddr,fieldPlace,j9 (P:=P) (e:=fd.type) rfl (by omega),hz]
  have fin:∀z,(Instr.fieldAt T (a.eval x) f).run P w= .ok z w->VS (s.env w g β) v z->ez P o a w (fF C (s.put o.dst v)):=by
   intro z h1 h2
   exact h.value h2 (dg (f:=Instr.fieldAt T (a.eval x) f) (by simp only[execOp,ho]) h1)
  split at h2
  ·rename_i id ver p n hl
   rw[hl]at hx
   obtain rfl:=al.1 h2
   obtain⟨ad,hy,yG,ef⟩:=mI hx
   refine fin _ (runS ad hy) ⟨_,?_,rfl⟩
   simp only[V]
   refine⟨_,rfl,yG,λhc=> ?_⟩
   obtain⟨pl,hp,Hi⟩:=ef hc
   exact⟨pl,hp,by rw[Hi,Addr.add_lit]⟩
  ·rename_i t y hl
   rw[hl]at hx
   obtain⟨bb,off,vs,hy,nN,hR⟩:=mX hx
   split at h2
   ·rename_i o' t' y' hp
    obtain⟨h3,h4⟩:=aw.1 h2
    obtain rfl:=al.1 h4
    have h3:fd.offset=o':=by simpa using h3
    obtain⟨hV,hle⟩:=qY (.d t y) f o' (.d t' y') vs (by simpa only[V]using hR) hp
    refine fin _ (run bb off hy) ⟨_,?_,rfl⟩
    simp only[V]at hV ⊢
    refine⟨_,_,_,rfl,λj u hj=> ?_,hV⟩
    rw[cI]at hj
    split at hj
    ·rw[eG]at hj
     obtain⟨b',o'',e,hh⟩:=nN _ u hj
     simp only[ao,Addr.mk.injEq,and_true]at e
     obtain⟨rfl,rfl⟩:=e
     exact⟨_,_,rfl,by rw[h3,dz];exact hh⟩
    ·cases hj
   ·simp only[ai]at h2
  ·rename_i t q hl
   obtain⟨y,e,h5⟩:=nh.1 h2
   subst e
   rw[hl]at hx
   have hx:=uP hx
   obtain⟨bb,off,vs,hy,nN,hR⟩:=mX hx
   split at h5
   ·rename_i o' t' y' hp
    obtain⟨h3,h4⟩:=aw.1 h5
    obtain rfl:=al.1 h4
    have h3:fd.offset=o':=by simpa using h3
    obtain⟨hV,hle⟩:=qY (.d t y) f o' (.d t' y') vs (by simpa only[V]using hR) hp
    refine fin _ (run bb off hy) ⟨_,?_,rfl⟩
    simp only[V]at hV ⊢
    refine⟨_,_,_,rfl,λj u hj=> ?_,hV⟩
    rw[cI]at hj
    split at hj
    ·rw[eG]at hj
     obtain⟨b',o'',e,hh⟩:=nN _ u hj
     simp only[ao,Addr.mk.injEq,and_true]at e
     obtain⟨rfl,rfl⟩:=e
     exact⟨_,_,rfl,by rw[h3,dz];exact hh⟩
    ·cases hj
   ·simp only[ai]at h5
  ·simp only[ai]at h2
 ·simp only[ai]at he
theorem zX{x:av}{f:Nat}{r:Nat×av}(h:partOf x f=some r):x.agg=true/\x.dK=true:=by
 cases x with
 |d t y=>cases t <;> cases f <;> simp[partOf]at h <;> exact⟨rfl,rfl⟩
 |pr b c=>exact⟨rfl,rfl⟩
 |_=>cases f <;> simp[partOf]at h
theorem rX{T:TypeId}{v:av}(h:fits P T v=true):tZ P T v.agg=true/\P.cellsOf T=v.size/\v.dK=true:=by
 unfold fits at h
 simp only[ag,beq_iff_eq]at h
 exact⟨h.2,h.1.2,h.1.1⟩
theorem E5(h:Inv C g β s a w){T:TypeId}{x:Operand}{f:Nat}(ho:o.op= .field T x f){v:av}(he:(BM P T (s.ev x) f).eval=some v):ez P o a w (fF C (s.put o.dst v)):=by
 have hx:=h.ev x
 unfold BM at he
 split at he
 ·rename_i off ft o' v' hf hp
  obtain⟨fs,fd,hT,PW,rfl,rfl⟩:=rq hf
  obtain⟨h1,h2⟩:=aw.1 he
  obtain rfl:=al.1 h2
  simp only[ag,beq_iff_eq]at h1
  obtain⟨rfl,yI⟩:=h1
  obtain⟨uC,Fb⟩:=zX hp
  obtain⟨cs,hV,hO⟩:=hx.dK Fb
  rw[uC]at hO
  have hy:a.eval x= .agg cs.toArray:=hO
  obtain⟨hVp,hle⟩:=qY _ _ _ _ cs hV hp
  obtain⟨q1,q2,q3⟩:=rX yI
  obtain⟨y,hr,hOy⟩:=nC (w:=w) q1 q2 (λhh=>av.Eb hh) hle
  refine h.value (VS.of hVp hOy) (dg (f:=Instr.field T (a.eval x) f) (by simp only[execOp,ho]) ?_)
  rw[hy]
  simp[Instr.field,run_underlying hT,PW,asAgg,hr]
 ·simp only[ai]at he
theorem Fk(h:Inv C g β s a w){T:TypeId}{x y:Operand}(ho:o.op= .index T x y){i:Int}(hi:(asInt (s.ev y)).eval=some i){v:av}(he:(BY P T (s.ev x) i).eval=some v):ez P o a w (fF C (s.put o.dst v)):=by
 have hx:=h.ev x
 obtain⟨k,hy⟩:=oQ (h.ev y) hi
 have fin:∀z,(Instr.index T (a.eval x) (a.eval y)).run P w= .ok z w->VS (s.env w g β) v z->ez P o a w (fF C (s.put o.dst v)):=by
  intro z h1 h2
  exact h.value h2 (dg (f:=Instr.index T (a.eval x) (a.eval y)) (by simp only[execOp,ho]) h1)
 unfold BY at he
 split at he
 ·rename_i n t l m e hl hT
  rw[hl]at hx
  obtain⟨h1,h2⟩:=aw.1 he
  obtain⟨h3,h4⟩:=bt.1 h2
  obtain rfl:=al.1 h4
  simp only[ag,beq_iff_eq,decide_eq_true_eq]at h1 h3
  obtain⟨rfl,yI⟩:=h1
  obtain⟨q1,q2,q3⟩:=rX yI
  obtain⟨cs,hV,hO⟩:=hx.dK rfl
  have Tz:a.eval x= .agg cs.toArray:=hO
  simp only[V,cG]at hV
  obtain⟨hlen,mS⟩:=hV
  have iC:i.toNat < l.length:=by omega
  obtain⟨hp,hle⟩:=vz mS iC
  have q2':P.cellsOf e=t.size:=q2
  have q1':tZ P e t.agg=true:=q1
  obtain⟨y',hr,hOy⟩:=nC (w:=w) q1' q2' nD hle
  obtain⟨j,hj,_⟩:=ow q1'
  rw[<-zj iC]at hp
  refine fin y' ?_ (VS.of (by simpa only[V]using hp) hOy)
  rw[Tz,hy]
  have l8:=run_sizeOf hj w
  rw[<-jo hj,q2']at l8
  simp[Instr.index,asIntOf,run_underlying hT,h3,l8,hr]
 ·rename_i st hl hT
  rw[hl]at hx
  obtain⟨h3,h4⟩:=bt.1 he
  obtain rfl:=al.1 h4
  simp only[decide_eq_true_eq]at h3
  have e1:=sC hx
  have iC:i.toNat < st.data.toList.length:=by
   have:st.size=st.data.toList.length:=by rw[bZ];rfl
   omega
  have QR:st[i.toNat]? =some (st.data.toList[i.toNat]):=by
   have hlt':i.toNat < st.size:=by omega
   rw[getElem?_pos st i.toNat hlt']
   rfl
  refine fin (.int .u8 ((st.data.toList.getD i.toNat 0).toNat:Int)) ?_ (iB _ _)
  rw[e1,hy]
  simp[Instr.index,asIntOf,run_underlying hT,h3.1,QR,ay,bS iC]
 ·simp only[ai]at he
theorem Me{E:Env}:∀(c:av) (vs:List Value) (i:Nat) (v:av),VC E c vs->c.list[i]? =some v->∃y,vs[i]? =some y/\VS E v y:=by
 intro c
 induction c with
 |cons x y _ ih=>
  intro vs i v hc hi
  simp only[VC]at hc
  obtain⟨u,vs',cs,rfl,hV,hO,hc⟩:=hc
  cases i with
  |zero=>
   simp only[av.list,eB,ao]at hi
   subst hi
   exact⟨u,rfl,VS.of hV hO⟩
  |succ i=>
   simp only[av.list,iR]at hi ⊢
   exact ih vs' i v hc hi
 |_=>intro vs i v hc hi;simp[av.list]at hi
theorem BL(h:Inv C g β s a w){x:Operand}{i:Nat}(ho:o.op= .extract x i){v:av}(he:(Out.opt ((s.ev x).list[i]?)).eval=some v):ez P o a w (fF C (s.put o.dst v)):=by
 have hx:=h.ev x
 have he:=gU.1 he
 cases hc:s.ev x with
 |cons p q=>
  rw[hc]at hx he
  obtain⟨vs,hy,hVC⟩:=hx
  obtain⟨y,hv,hVS⟩:=Me _ vs i v hVC he
  refine h.value hVS (dg (f:=Instr.extract (a.eval x) i) (by simp only[execOp,ho]) ?_)
  rw[hy]
  simp[Instr.extract,hv]
 |_=>rw[hc]at he;simp[av.list]at he
theorem Gb(h:Inv C g β s a w):∀(l:List Operand),oS (ln s l)=true->VC (s.env w g β) (ln s l) (l.map a.eval)
 |[],_=>by simp[ln,VC]
 |x::xs,hc=>by
  simp only[ln,oS,ag]at hc
  obtain⟨cs,hV,hO⟩:=(h.ev x).dK hc.1
  simp only[ln,VC,bE]
  exact⟨_,_,cs,rfl,hV,hO,Gb h xs hc.2⟩
theorem Af(h:Inv C g β s a w){f:FuncId}{first caps:Array Operand}(ho:o.op= .makeFunc (.func f) first caps)(h1:first.isEmpty=true)(h2:oS (ln s caps.toList)=true):
  ez P o a w (fF C (s.put o.dst (.fn f (ln s caps.toList)))):=by
 have hf:first= #[]:=by simpa using h1
 refine h.value (x:= .func (.func f) #[] (caps.toList.map a.eval).toArray) ⟨_,?_,rfl⟩ (dg (f:=Instr.makeFunc (.func f) (first.map a.eval) (caps.map a.eval)) (by simp only[execOp,ho]) ?_)
 ·simp only[V]
  exact⟨_,rfl,Gb h _ h2⟩
 ·subst hf
  have:caps.map a.eval=(caps.toList.map a.eval).toArray:=by apply eP;simp
  simp[Instr.makeFunc,this]
theorem F1(h:Inv C g β s a w){T:TypeId}{x:Operand}(ho:o.op= .sliceToArrayPointer T x){s':AS}(he:(uu P s o.dst T (s.ev x)).eval=some s'):ez P o a w (fF C s'):=by
 have hx:=h.ev x
 unfold uu at he
 split at he
 ·rename_i n e hT
  split at he
  ·rename_i t ht
   obtain⟨h1,h2⟩:=aw.1 he
   obtain⟨l,h3,h4⟩:=ak.1 h2
   obtain⟨h5,h6⟩:=bt.1 h4
   obtain rfl:=al.1 h6
   simp only[ag,bp,beq_iff_eq,beq_eq_false_iff_ne,decide_eq_true_eq]at h1 h5
   obtain⟨⟨hz,hn⟩,Nf⟩:=h1
   obtain⟨g1,i1,e1,t1,cs,hR,hO⟩:=pq h hx h3
   simp only[cG]at hR
   obtain⟨ad,cap,vs,rfl,Ii,ku,nN,mS⟩:=hR
   have hO': [Value.slice ad (List.length l) cap]=[a.eval x]:=hO
   have hy:a.eval x= .slice ad (List.length l) cap:=by simpa using hO'.symm
   have hlen:=aO.length (λc x hx=>cG.size hx) mS
   have h0:0 < vs.length:=by rw[hlen];exact Nat.mul_pos (by omega) (by omega)
   obtain⟨bb,off,e2,_⟩:=nN 0 vs[0] (by simp[h0])
   subst e2
   refine .inl ⟨.pointer (some ⟨bb,off,none⟩),w,?_,g1,β,i1.put o.dst ⟨_,?_,rfl⟩⟩
   ·refine dg (f:=Instr.arrayAt T (a.eval x)) (by simp only[execOp,ho]) ?_
    rw[hy]
    have:¬List.length l < n:=by omega
    simp[Instr.arrayAt,run_underlying hT,this]
   ·simp only[V]
    refine⟨bb,off,vs.take (n*t.size),rfl,λj u hj=> ?_,?_⟩
    ·rw[cI]at hj
     split at hj
     ·exact nN j u hj
     ·cases hj
    ·simp only[cG]
     exact⟨by simp;omega,aO.take (λ_ _ hx=>hx.size) n mS⟩
  ·simp only[ai]at he
 ·simp only[ai]at he
end
end Go.Ab
namespace Go.Ab
theorem yY{α:Type}{f:α->α->Bool}(hf:∀x y,f x y=true->x=y):∀ {xs ys:List α},jr f xs ys=true->xs=ys
 |[],[],_=>rfl
 |x::xs,y::ys,h=>by
  simp only[jr,ag]at h
  rw[hf _ _ h.1,yY hf h.2]
 |[],_::_,h=>by simp[jr]at h
 |_::_,[],h=>by simp[jr]at h
theorem beq_eq:∀(t:Ty) (x y:t.den),t.comp=true->t.beq x y=true->x=y
 | .int _,x,y,_,h=>by simpa[Ty.beq]using h
 | .bool,x,y,_,h=>by simpa[Ty.beq]using h
 | .str,x,y,_,h=>by
  have h:(x:ByteArray).toList=(y:ByteArray).toList:=by simpa[Ty.beq]using h
  rw[Go.ByteArray.toList_eq,Go.ByteArray.toList_eq]at h
  exact ByteArray.ext (Array.toList_inj.1 h)
 | .slice _,_,_,h,_=>by simp[Ty.comp]at h
 | .unit,_,_,_,_=>rfl
 | .pair a b,x,y,hc,h=>by
  simp only[Ty.comp,ag]at hc
  simp only[Ty.beq,ag]at h
  exact Prod.ext (beq_eq a _ _ hc.1 h.1) (beq_eq b _ _ hc.2 h.2)
 | .arr _ t,x,y,hc,h=>yY (λx y=>beq_eq t x y hc) h
def Plain(c:Value):Prop:=∀n,Instr.sameBits n c c=true
theorem cG.plain{E:Env}:∀ {t:Ty} {cs:List Value} {x:t.den},t.comp=true->cG E t cs x->∀c∈cs,Plain c
 | .int _,_,_,_,h,c,hc,n=>by simp only[cG]at h;rw[h,bM]at hc;subst hc;cases n <;> simp[Instr.sameBits]
 | .bool,_,_,_,h,c,hc,n=>by simp only[cG]at h;rw[h,bM]at hc;subst hc;cases n <;> simp[Instr.sameBits]
 | .str,_,_,_,h,c,hc,n=>by simp only[cG]at h;rw[h,bM]at hc;subst hc;cases n <;> exact(Go.MapKept.bytes_beq _ _).2 rfl
 | .slice _,_,_,hc,_,_,_,_=>by simp[Ty.comp]at hc
 | .unit,_,_,_,h,c,hc,_=>by simp only[cG]at h;rw[h]at hc;cases hc
 | .pair a b,_,_,hp,h,c,hc,n=>by
  simp only[Ty.comp,ag]at hp
  simp only[cG]at h
  obtain⟨ca,cb,rfl,ha,hb⟩:=h
  rcases bf.1 hc with hc | hc
  ·exact cG.plain hp.1 ha c hc n
  ·exact cG.plain hp.2 hb c hc n
 | .arr _ t,_,_,hp,h,c,hc,n=>by
  simp only[cG]at h
  exact aO.all (p:=Plain) (λc x hx v hv=>cG.plain (t:=t) hp hx v hv) h.2 c hc n
theorem cG.Ms{E:Env}:∀ {t:Ty} {cs cs':List Value} {x:t.den},t.comp=true->cG E t cs x->cG E t cs' x->cs=cs'
 | .int _,_,_,_,_,h,h'=>by simp only[cG]at h h';rw[h,h']
 | .bool,_,_,_,_,h,h'=>by simp only[cG]at h h';rw[h,h']
 | .str,_,_,_,_,h,h'=>by simp only[cG]at h h';rw[h,h']
 | .slice _,_,_,_,hc,_,_=>by simp[Ty.comp]at hc
 | .unit,_,_,_,_,h,h'=>by simp only[cG]at h h';rw[h,h']
 | .pair a b,_,_,_,hp,h,h'=>by
  simp only[Ty.comp,ag]at hp
  simp only[cG]at h h'
  obtain⟨ca,cb,rfl,ha,hb⟩:=h
  obtain⟨ca',cb',rfl,ha',hb'⟩:=h'
  rw[cG.Ms hp.1 ha ha',cG.Ms hp.2 hb hb']
 | .arr _ t,cs,cs',x,hp,h,h'=>by
  simp only[cG]at h h'
  have key:∀(l:List t.den) (cs cs':List Value),aO (cG E t) cs l->aO (cG E t) cs' l->cs=cs':=by
   intro l
   induction l with
   |nil=>intro cs cs' h h';have h:cs=[]:=h;have h':cs'=[]:=h';rw[h,h']
   |cons x l ih=>
    intro cs cs' h h'
    obtain⟨c,r,rfl,hx,hr⟩:=h
    obtain⟨c',r',rfl,hx',hr'⟩:=h'
    rw[cG.Ms (t:=t) hp hx hx',ih _ _ hr hr']
  exact key _ _ _ h.2 h'.2
theorem ql.Ms{E:Env}{t:Ty}{v v':Value}{x:t.den}(hc:t.comp=true)(h:ql E t v x)(h':ql E t v' x):v=v':=by
 obtain⟨cs,h1,h2⟩:=h
 obtain⟨cs',h1',h2'⟩:=h'
 have e:=cG.Ms hc h1 h1'
 subst e
 unfold eC at h2 h2'
 cases ha:t.agg with
 |true=>rw[ha]at h2 h2';rw[h2,h2']
 |false=>
  rw[ha]at h2 h2'
  have h2:cs=[v]:=h2
  have h2':cs=[v']:=h2'
  rw[h2]at h2'
  simpa using h2'
theorem ql.same{E:Env}{t:Ty}{v:Value}{x:t.den}(hc:t.comp=true)(h:ql E t v x):Instr.sameBits 10000 v v=true:=by
 obtain⟨cs,h1,h2⟩:=h
 have hp:=cG.plain hc h1
 unfold eC at h2
 cases ha:t.agg with
 |true=>
  rw[ha]at h2
  have h2:v= .agg cs.toArray:=h2
  subst h2
  simp only[Instr.sameBits,beq_self_eq_true,bX,cM]
  intro p hp'
  obtain⟨a,b⟩:=p
  have:∀(l:List Value),(a,b)∈l.zip l->a∈l/\a=b:=by
   intro l
   induction l with
   |nil=>intro h;simp at h
   |cons y l ih=>
    intro h
    simp only[List.zip_cons_cons,cv,cd]at h
    rcases h with⟨rfl,rfl⟩ | h
    ·exact⟨aG,rfl⟩
    ·exact⟨aF _ (ih h).1,(ih h).2⟩
  obtain⟨hm,rfl⟩:=this _ hp'
  exact hp a (by simpa using hm) _
 |false=>
  rw[ha]at h2
  have h2:cs=[v]:=h2
  subst h2
  exact hp v (by simp) _
theorem HT{P:Program}{w:World}{E:Env}{t:Ty}{v:Value}{x:t.den}(hc:t.comp=true)(h:ql E t v x):(Instr.keyThatStays v v).run P w= .ok v w:=by
 unfold Instr.keyThatStays
 rw[if_pos (h.same hc)]
 rfl
section
variable {P:Program} {w:World} {E:Env}
theorem oX:∀(n:Nat) (T:TypeId) (t:Ty),lH P n T t=true->t.comp=true
 | 0,T,t,h=>by simp[lH]at h
 |n+1,T,t,h=>by
  simp only[lH]at h
  split at h
  ·rfl
  ·rfl
  ·rfl
  ·rename_i m e m' t' hT
   simp only[ag]at h
   exact oX n e t' h.2
  ·rename_i t0 _ _ fs hT
   simp only[ag]at h
   have key:∀(fl:List Field) (t:Ty) (off:Nat),tS P (lH P n) fl t off=true->t.comp=true:=by
    intro fl
    induction fl with
    |nil=>intro t off hc;cases t <;> first | rfl | (simp[tS]at hc;done)
    |cons f fl ih=>
     intro t off hc
     cases t <;> first | (simp[tS]at hc;done) | skip
     rename_i ta tb
     simp only[tS,ag]at hc
     simp only[Ty.comp,ag]
     exact⟨oX n _ _ hc.1.2,ih tb _ hc.2⟩
   exact key _ _ _ h.2
  ·cases h
theorem j4(em:Bool):∀(n:Nat) (T:TypeId) (t:Ty),lH P n T t=true->∀(d:Nat),n<=d->∀(v:Value) (x:t.den),ql E t v x->(Instr.checkKey em d T v).run P w= .ok () w
 | 0,T,t,h,_,_,_,_,_=>by simp[lH]at h
 |n+1,T,t,h,0,hd,_,_,_=>by omega
 |n+1,T,t,h,d+1,hd,v,x,⟨cs,hx,hv⟩=>by
  simp only[lH]at h
  split at h
  ·rename_i hT
   simp only[cG]at hx
   have e1:cs=[v]:=hv
   rw[hx]at e1
   simp only[dp,and_true]at e1
   subst e1
   simp[Instr.checkKey,run_underlying hT]
  ·rename_i hT
   simp only[cG]at hx
   have e1:cs=[v]:=hv
   rw[hx]at e1
   simp only[dp,and_true]at e1
   subst e1
   simp[Instr.checkKey,run_underlying hT]
  ·rename_i hT
   simp only[cG]at hx
   have e1:cs=[v]:=hv
   rw[hx]at e1
   simp only[dp,and_true]at e1
   subst e1
   simp[Instr.checkKey,run_underlying hT]
  ·rename_i m e m' t' hT
   simp only[ag,beq_iff_eq]at h
   obtain⟨⟨⟨⟨rfl,Nf⟩,l8⟩,uC⟩,mS⟩:=h
   simp only[cG]at hx
   obtain⟨Q3,QO⟩:=hx
   have e1:v= .agg cs.toArray:=hv
   subst e1
   obtain⟨i,hi,Dj⟩:=ow uC
   have hsz':=l8
   rw[jo hi]at hsz'
   simp only[Instr.checkKey,Sem.run_bind,run_underlying hT,Result.andThen_ok]
   simp only[Std.Legacy.Range.forIn_eq_forIn_range']
   have hm:([:m]:Std.Legacy.Range).size=m:=by simp[Std.Legacy.Range.size]
   rw[hm]
   have Ez:∀c z,cG E t' c z->c.length=t'.size:=λc z hz=>hz.size
   have bx:t'.agg=false->t'.size=1:=nD
   have key:∀(k:Nat) (x:List t'.den) (j:Nat),x.length=k->aO (cG E t') (cs.drop (j*t'.size)) x->
     (forIn (List.range' j k) () λi __s=>(do
      let __do_lift <-sizeOf e
      let __do_lift <-part e cs.toArray (i*__do_lift)
      Instr.checkKey em d e __do_lift
      pure (ForInStep.yield ()):Sem (ForInStep Unit))).run P w= .ok () w:=by
    intro k
    induction k with
    |zero=>intro x j _ _;rfl
    |succ k ih=>
     intro x j hx hcx'
     cases x with
     |nil=>simp at hx
     |cons x0 xs=>
      have gx:=aO.get Ez hcx' 0 (by simp)
      simp only[kg,aJ,List.getElem_cons_zero]at gx
      have lenx:((cs.drop (j*t'.size)).take t'.size).length=t'.size:=gx.size
      have w8:t'.size≠0:=by simpa using Nf
      have QY:j*t'.size+t'.size<=cs.length:=by simp only[cz,cO]at lenx;omega
      obtain⟨ux,h1,o1⟩:=nC (w:=w) uC l8 bx (cs:=cs) (off:=j*t'.size) QY
      have h3:=j4 em n e t' mS d (by omega) ux x0 ⟨_,gx,o1⟩
      have nx:aO (cG E t') (cs.drop ((j+1)*t'.size)) xs:=by
       have:=aO.drop Ez 1 hcx'
       rw[eF]at this
       simpa[dy]using this
      have:=ih xs (j+1) (by simpa using hx) nx
      rw[List.range'_succ,List.forIn_cons]
      simp only[Sem.run_bind,run_sizeOf hi,hsz',h1,h3,Result.andThen_ok,Sem.run_pure]
      exact this
   exact(congrArg (λr:Result Unit=>r.andThen λ_ w'=>Sem.run P (pure ()) w') (key m x 0 Q3 (by simpa using QO))).trans rfl
  ·rename_i t0 _ _ fs hT
   simp only[ag,bp]at h
   obtain⟨lQ,MR⟩:=h
   have uC:t0.agg=true:=by
    cases hl:fs.toList <;> rw[hl]at MR <;> cases t0 <;> first | rfl | (simp[tS]at MR;done)
   rw[uC]at hv
   have e1:v= .agg cs.toArray:=hv
   subst e1
   have key:∀(fl:List Field) (t:Ty) (off:Nat),tS P (lH P n) fl t off=true->∀(x:t.den),cG E t (cs.drop off) x->
     (forIn fl () λf __s=>(do
      if f.name≠ "_" then
       let __do_lift <-part f.type cs.toArray f.offset
       Instr.checkKey em d f.type __do_lift
       pure (ForInStep.yield ())
      else pure (ForInStep.yield ()):Sem (ForInStep Unit))).run P w= .ok () w:=by
    intro fl
    induction fl with
    |nil=>intro t off _ x _;rfl
    |cons f fl ih=>
     intro t off hc x hx
     cases t <;> first | (simp[tS]at hc;done) | skip
     rename_i ta tb
     simp only[tS,ag,bp,beq_iff_eq,beq_eq_false_iff_ne]at hc
     obtain⟨⟨⟨⟨⟨⟨Q9,KB⟩,hz⟩,l8⟩,uC⟩,mS⟩,I0⟩:=hc
     simp only[cG]at hx
     obtain⟨xa,xb,ex,Pr,RA⟩:=hx
     have bx:ta.agg=false->ta.size=1:=nD
     have lx:xa.length=ta.size:=Pr.size
     have sx1:(cs.drop off).take ta.size=xa:=by rw[ex];exact List.take_left' lx
     have sx2:cs.drop (off+ta.size)=xb:=by rw[<-eF,ex];exact List.drop_left' lx
     have sx3:off+ta.size<=cs.length:=by
      have:=congrArg List.length ex
      simp only[cO,aq]at this
      omega
     obtain⟨ux,h1,o1⟩:=nC (w:=w) uC l8 bx (cs:=cs) (off:=off) sx3
     rw[sx1]at o1
     have h3:=j4 em n f.type ta mS d (by omega) ux x.1 ⟨_,Pr,o1⟩
     have h4:=ih tb (off+ta.size) I0 x.2 (by rw[sx2];exact RA)
     rw[List.forIn_cons]
     simp only[ne_eq,Q9,not_false_eq_true,if_true,Sem.run_bind,KB,h1,h3,Result.andThen_ok,Sem.run_pure]
     exact h4
   have:=key fs.toList t0 0 MR x (by simpa using hx)
   simp only[Instr.checkKey,Sem.run_bind,run_underlying hT,Result.andThen_ok,Array.forIn_toList]at this ⊢
   exact(congrArg (λr:Result Unit=>r.andThen λ_ w'=>Sem.run P (pure ()) w') this).trans rfl
  ·cases h
theorem uG{K:TypeId}{kt vt:Ty}(hK:lH P depth K kt=true){v:Value}{x:kt.den}(hx:ql E kt v x):∀(es:List MapEntry) (l:List (kt.den×vt.den)) (i:Nat),Alike (qF E kt vt) es l->
  ∃r,(Instr.findAsking K v es i).run P w= .ok r w/\match r with | none=>fP kt x l=none | some (j,u)=>∃n e,fP kt x l=some n/\j=i+n/\es[n]? =some e/\u=e.val
 |[],[],i,_=>⟨none,by simp[Instr.findAsking],rfl⟩
 |e::es,p::l,i,⟨he,hr⟩=>by
  have hx':=hx
  obtain⟨c1,r1,o1⟩:=hx'
  obtain⟨c2,r2,o2⟩:=he.1
  have heq:(Op.equal K v e.key).run P w= .ok (kt.beq x p.1) w:=mQ E depth K kt hK 10000 (by decide) c1 c2 x p.1 v e.key r1 r2 o1 o2
  cases hb:kt.beq x p.1 with
  |true=>
   rw[hb]at heq
   refine⟨some (i,e.val),by simp[Instr.findAsking,heq],0,e,by simp[fP,hb],rfl,rfl,rfl⟩
  |false=>
   rw[hb]at heq
   obtain⟨r,h1,h2⟩:=uG hK hx es l (i+1) hr
   refine⟨r,by simp[Instr.findAsking,heq,h1],?_⟩
   cases r with
   |none=>simp only at h2 ⊢;simp[fP,hb,h2]
   |some u=>
    obtain⟨j,u⟩:=u
    obtain⟨n,e',g1,g2,g3,g4⟩:=h2
    exact⟨n+1,e',by simp[fP,hb,g1],by omega,by simpa using g3,g4⟩
 |[],_::_,_,h=>h.elim
 |_::_,[],_,h=>h.elim
theorem Be{d:TypeDesc}{kt vt:Ty}{v:Value}{x:kt.den}(hd:∀u y,ql E kt u y->Instr.sameNow d v u=some (kt.beq x y)):∀(es:List MapEntry) (l:List (kt.den×vt.den)) (i:Nat),Alike (qF E kt vt) es l->
  ∃r,Instr.findNow d v es i=some r/\match r with | none=>fP kt x l=none | some (j,u)=>∃n e,fP kt x l=some n/\j=i+n/\es[n]? =some e/\u=e.val
 |[],[],i,_=>⟨none,rfl,rfl⟩
 |e::es,p::l,i,⟨he,hr⟩=>by
  have h0:=hd e.key p.1 he.1
  cases hb:kt.beq x p.1 with
  |true=>
   rw[hb]at h0
   exact⟨some (i,e.val),by simp[Instr.findNow,h0],0,e,by simp[fP,hb],rfl,rfl,rfl⟩
  |false=>
   rw[hb]at h0
   obtain⟨r,h1,h2⟩:=Be hd es l (i+1) hr
   refine⟨r,by simp[Instr.findNow,h0,h1],?_⟩
   cases r with
   |none=>simp only at h2 ⊢;simp[fP,hb,h2]
   |some u=>
    obtain⟨j,u⟩:=u
    obtain⟨n,e',g1,g2,g3,g4⟩:=h2
    exact⟨n+1,e',by simp[fP,hb,g1],by omega,by simpa using g3,g4⟩
 |[],_::_,_,h=>h.elim
 |_::_,[],_,h=>h.elim
theorem tW{K:TypeId}{kt vt:Ty}(hK:lH P depth K kt=true){v:Value}{x:kt.den}(hx:ql E kt v x){es:List MapEntry}{l:List (kt.den×vt.den)}(h:Alike (qF E kt vt) es l):
  ∃r,(Instr.findKey K v es).run P w= .ok r w/\match r with | none=>fP kt x l=none | some (j,u)=>∃e,fP kt x l=some j/\es[j]? =some e/\u=e.val:=by
 have fin:∀r:Option (Nat×Value),(match r with | none=>fP kt x l=none | some (j,u)=>∃n e,fP kt x l=some n/\j=0+n/\es[n]? =some e/\u=e.val)->match r with | none=>fP kt x l=none | some (j,u)=>∃e,fP kt x l=some j/\es[j]? =some e/\u=e.val:=by
  intro r hr
  cases r with
  |none=>exact hr
  |some u=>
   obtain⟨j,u⟩:=u
   obtain⟨n,e,g1,g2,g3,g4⟩:=hr
   obtain rfl:j=n:=by omega
   exact⟨e,g1,g3,g4⟩
 have scalar:∀d,P.underlying K=some d->(∀u y,ql E kt u y->Instr.sameNow d v u=some (kt.beq x y))->∃r,(Instr.findKey K v es).run P w= .ok r w/\match r with | none=>fP kt x l=none | some (j,u)=>∃e,fP kt x l=some j/\es[j]? =some e/\u=e.val:=by
  intro d hd hs
  obtain⟨r,h1,h2⟩:=Be hs es l 0 h
  exact⟨r,by simp[Instr.findKey,run_underlying hd,h1],fin r h2⟩
 have agg:∀d,P.underlying K=some d->(∀u y,ql E kt u y->Instr.sameNow d v u=none)->∃r,(Instr.findKey K v es).run P w= .ok r w/\match r with | none=>fP kt x l=none | some (j,u)=>∃e,fP kt x l=some j/\es[j]? =some e/\u=e.val:=by
  intro d hd hs
  cases es with
  |nil=>
   cases l with
   |nil=>exact⟨none,by simp[Instr.findKey,run_underlying hd,Instr.findNow],rfl⟩
   |cons _ _=>exact h.elim
  |cons e es=>
   cases l with
   |nil=>exact h.elim
   |cons p l=>
    have hn:Instr.findNow d v (e::es) 0=none:=by simp[Instr.findNow,hs e.key p.1 h.1.1]
    obtain⟨r,h1,h2⟩:=uG (w:=w) (vt:=vt) hK hx (e::es) (p::l) 0 h
    exact⟨r,by simp[Instr.findKey,run_underlying hd,hn,h1],fin r h2⟩
 have hK0:=hK
 unfold depth at hK0
 simp only[lH]at hK0
 obtain⟨cx,rx,ox⟩:=hx
 split at hK0
 ·rename_i k k' hT
  refine scalar _ hT λu y ⟨cy,ry,oy⟩=> ?_
  simp only[cG]at rx ry
  have e1:cx=[v]:=ox
  have e2:cy=[u]:=oy
  rw[rx]at e1;rw[ry]at e2
  simp only[dp,and_true]at e1 e2
  subst e1 e2
  simp[Instr.sameNow,Ty.beq]
 ·rename_i hT
  refine scalar _ hT λu y ⟨cy,ry,oy⟩=> ?_
  simp only[cG]at rx ry
  have e1:cx=[v]:=ox
  have e2:cy=[u]:=oy
  rw[rx]at e1;rw[ry]at e2
  simp only[dp,and_true]at e1 e2
  subst e1 e2
  simp[Instr.sameNow,Ty.beq]
 ·rename_i hT
  refine scalar _ hT λu y ⟨cy,ry,oy⟩=> ?_
  simp only[cG]at rx ry
  have e1:cx=[v]:=ox
  have e2:cy=[u]:=oy
  rw[rx]at e1;rw[ry]at e2
  simp only[dp,and_true]at e1 e2
  subst e1 e2
  have hs:∀a b:ByteArray,(a==b)=(a.toList==b.toList):=λa b=>by
   by_cases QD:a=b
   ·subst QD
    rw[(Go.MapKept.bytes_beq a a).2 rfl];simp
   ·have h1:(a==b)=false:=by
     cases h:(a==b) with
     |false=>rfl
     |true=>exact absurd ((Go.MapKept.bytes_beq a b).1 h) QD
    have h2:(a.toList==b.toList)=false:=by
     cases h:(a.toList==b.toList) with
     |false=>rfl
     |true=>exact absurd (beq_eq .str a b rfl h) QD
    rw[h1,h2]
  simp[Instr.sameNow,Ty.beq,hs]
 ·rename_i m e m' t' hT
  exact agg _ hT λu y _=>by simp[Instr.sameNow]
 ·rename_i t0 _ _ fs hT
  exact agg _ hT λu y _=>by simp[Instr.sameNow]
 ·cases hK0
end
section
variable {α β:Type} {R:α->β->Prop}
theorem Alike.get:∀ {xs:List α} {ys:List β} {i:Nat} {x:α},Alike R xs ys->xs[i]? =some x->∃y,ys[i]? =some y/\R x y
 |[],_,_,_,_,h=>by simp at h
 |_::_,[],_,_,h,_=>h.elim
 |x::xs,y::ys,0,z,⟨h1,_⟩,h=>by simp at h;subst h;exact⟨y,rfl,h1⟩
 |x::xs,y::ys,i+1,z,⟨_,h2⟩,h=>by simp at h;simpa using Alike.get h2 h
theorem Alike.set{x:α}{y:β}(hx:R x y):∀ {xs:List α} {ys:List β} (i:Nat),Alike R xs ys->Alike R (xs.set i x) (ys.set i y)
 |[],[],_,_=>trivial
 |[],_::_,_,h=>h.elim
 |_::_,[],_,h=>h.elim
 |_::_,_::_,0,⟨_,h2⟩=>⟨hx,h2⟩
 |_::_,_::_,i+1,⟨h1,h2⟩=>⟨h1,Alike.set hx i h2⟩
theorem Alike.push{x:α}{y:β}(hx:R x y):∀ {xs:List α} {ys:List β},Alike R xs ys->Alike R (xs++ [x]) (ys++ [y])
 |[],[],_=>⟨hx,trivial⟩
 |[],_::_,h=>h.elim
 |_::_,[],h=>h.elim
 |_::_,_::_,⟨h1,h2⟩=>⟨h1,Alike.push hx h2⟩
theorem Alike.erase:∀ {xs:List α} {ys:List β} (i:Nat),Alike R xs ys->Alike R (xs.eraseIdx i) (ys.eraseIdx i)
 |[],[],_,_=>by simp[Alike]
 |[],_::_,_,h=>h.elim
 |_::_,[],_,h=>h.elim
 |_::_,_::_,0,⟨_,h2⟩=>h2
 |_::_,_::_,i+1,⟨h1,h2⟩=>⟨h1,Alike.erase i h2⟩
end
theorem uX{α:Type}{f:α->α->Bool}(hf:∀x,f x x=true):∀xs:List α,jr f xs xs=true
 |[]=>rfl
 |x::xs=>by simp[jr,hf x,uX hf xs]
theorem beq_refl:∀(t:Ty) (x:t.den),t.comp=true->t.beq x x=true
 | .int _,x,_=>by simp[Ty.beq]
 | .bool,x,_=>by simp[Ty.beq]
 | .str,x,_=>by simp[Ty.beq]
 | .slice _,_,h=>by simp[Ty.comp]at h
 | .fD _,_,h | .l6 _,_,h=>by simp[Ty.comp]at h
 | .unit,_,_=>rfl
 | .pair a b,x,h=>by
  simp only[Ty.comp,ag]at h
  simp only[Ty.beq,beq_refl a _ h.1,beq_refl b _ h.2,Bool.and_self]
 | .arr _ t,x,h=>by
  simp only[Ty.comp]at h
  exact uX (λy=>beq_refl t y h) x
section
variable {β:Type} {kt:Ty}
theorem wz{x:kt.den}:dD kt x ([]:List (kt.den×β))=none:=rfl
theorem iD{x:kt.den}{p:kt.den×β}{l:List (kt.den×β)}:dD kt x (p::l)=if kt.beq x p.1=true then some p.2 else dD kt x l:=by
 unfold dD
 cases h:kt.beq x p.1 with
 |true=>simp[fP,h]
 |false=>
  simp only[fP,h]
  cases fP kt x l <;> simp
theorem HD{x:kt.den}{v:β}:gX kt x v []=[(x,v)]:=rfl
theorem uc{x:kt.den}{v:β}{p:kt.den×β}{l:List (kt.den×β)}:gX kt x v (p::l)=if kt.beq x p.1=true then(x,v)::l else p::gX kt x v l:=by
 unfold gX
 cases h:kt.beq x p.1 with
 |true=>simp[fP,h]
 |false=>
  simp only[fP,h]
  cases fP kt x l <;> simp
theorem HC{x:kt.den}:jV kt x ([]:List (kt.den×β))=[]:=rfl
theorem ub{x:kt.den}{p:kt.den×β}{l:List (kt.den×β)}:jV kt x (p::l)=if kt.beq x p.1=true then l else p::jV kt x l:=by
 unfold jV
 cases h:kt.beq x p.1 with
 |true=>simp[fP,h]
 |false=>
  simp only[fP,h]
  cases fP kt x l <;> simp
theorem sR{x:kt.den}{v:β}:∀l:List (kt.den×β),(gX kt x v l).Perm ((x,v)::jV kt x l)
 |[]=>jZ _
 |p::l=>by
  rw[uc,ub]
  split
  ·exact jZ _
  ·exact((sR l).cons p).trans (List.Perm.swap _ _ _)
theorem me(hc:kt.comp=true){x:kt.den}:∀ {l:List (kt.den×β)},(l.map (·.1)).Nodup->jV kt x l=l.filter λp=> !kt.beq x p.1
 |[],_=>rfl
 |p::l,hn=>by
  rw[bE,cV]at hn
  rw[ub,iP]
  by_cases h:kt.beq x p.1=true
  ·rw[if_pos h]
   simp only[h,b8,bK,if_false]
   have hx:=beq_eq kt _ _ hc h
   exact(gj.2 λq hq=>by
    simp only[bp]
    rw[Bool.eq_false_iff]
    intro hb
    have:=beq_eq kt _ _ hc hb
    exact hn.1 (by rw[<-hx,this];exact cX.2 ⟨q,hq,rfl⟩)).symm
  ·have h':kt.beq x p.1=false:=by simpa using h
   rw[if_neg h]
   simp only[h',dr,if_true]
   rw[me hc hn.2]
theorem km(hc:kt.comp=true){x:kt.den}{v:β}:∀ {l:List (kt.den×β)},(l.map (·.1)).Nodup->(dD kt x l=some v↔(x,v)∈l)
 |[],_=>by simp[wz]
 |p::l,hn=>by
  rw[bE,cV]at hn
  rw[iD,cv]
  by_cases h:kt.beq x p.1=true
  ·rw[if_pos h]
   have hx:=beq_eq kt _ _ hc h
   constructor
   ·intro e;left;rw[hx,<-aP e]
   ·rintro(e | e)
    ·rw[<-e]
    ·exact absurd (cX.2 ⟨_,e,rfl⟩) (by rw[<-hx]at hn;exact hn.1)
  ·rw[if_neg h,km hc hn.2]
   constructor
   ·exact .inr
   ·rintro(e | e)
    ·exact absurd (by rw[<-e];exact beq_refl kt x hc) h
    ·exact e
theorem Fv(hc:kt.comp=true){x:kt.den}{l l':List (kt.den×β)}(hn:(l.map (·.1)).Nodup)(hp:l'.Perm l):dD kt x l'=dD kt x l:=by
 apply Option.ext
 intro v
 rw[km hc ((hp.map _).nodup_iff.2 hn),km hc hn,hp.mem_iff]
theorem y7(hc:kt.comp=true){x:kt.den}{l l':List (kt.den×β)}(hn:(l.map (·.1)).Nodup)(hp:l'.Perm l):(jV kt x l').Perm (jV kt x l):=by
 rw[me hc ((hp.map _).nodup_iff.2 hn),me hc hn]
 exact hp.filter _
theorem Fw(hc:kt.comp=true){x:kt.den}{v:β}{l l':List (kt.den×β)}(hn:(l.map (·.1)).Nodup)(hp:l'.Perm l):(gX kt x v l').Perm (gX kt x v l):=
 (sR l').trans (((y7 hc hn hp).cons _).trans (sR l).symm)
theorem sm(hc:kt.comp=true){x:kt.den}{l:List (kt.den×β)}(hn:(l.map (·.1)).Nodup):((jV kt x l).map (·.1)).Nodup:=by
 rw[me hc hn]
 exact hn.sublist (List.filter_sublist.map _)
theorem xl(hc:kt.comp=true){x:kt.den}{v:β}{l:List (kt.den×β)}(hn:(l.map (·.1)).Nodup):((gX kt x v l).map (·.1)).Nodup:=by
 rw[((sR l).map _).nodup_iff,bE,cV]
 refine⟨λh=> ?_,sm hc hn⟩
 obtain⟨p,hp,he⟩:=cX.1 h
 rw[me hc hn,dE]at hp
 have:=hp.2
 have he:p.1=x:=he
 rw[he,beq_refl kt x hc]at this
 cases this
end
theorem uk{E:Env}:∀(v:av) (t:Ty) (x:t.den) (cs:List Value),V E v cs->(kC t v).eval=some x->cG E t cs x/\v.agg=t.agg/\v.dK=true
 | .d t' x',t,x,cs,hv,h=>by
  have h':(Out.opt (mC t' t x')).eval=some x:=by cases t <;> simpa only[kC]using h
  obtain⟨rfl,h'⟩:=gF (gU.1 h')
  simp only at h'
  subst h'
  simp only[V]at hv
  exact⟨hv,rfl,rfl⟩
 | .db,.slice t,x,cs,hv,h=>by
  simp only[kC,al]at h
  subst h
  simp only[V]at hv
  simp only[cG]
  exact⟨⟨none,0,[],by simpa using hv,by simp,by simp,λi v hh=>by simp at hh,rfl⟩,rfl,rfl⟩
 | .pr a b,.pair ta tb,x,cs,hv,h=>by
  simp only[kC]at h
  obtain⟨x1,h1,h2⟩:=ak.1 h
  obtain⟨x2,h3,h4⟩:=ak.1 h2
  obtain rfl:=al.1 h4
  simp only[V]at hv
  obtain⟨ca,cb,rfl,ha,hb⟩:=hv
  simp only[cG]
  exact⟨⟨ca,cb,rfl,(uk a ta x1 ca ha h1).1,(uk b tb x2 cb hb h3).1⟩,rfl,rfl⟩
 | .db,.int _,_,_,_,h | .db,.bool,_,_,_,h | .db,.str,_,_,_,h | .db,.unit,_,_,_,h | .db,.pair _ _,_,_,_,h | .db,.arr _ _,_,_,_,h=>by simp only[kC,ai]at h
 | .pr _ _,.int _,_,_,_,h | .pr _ _,.bool,_,_,_,h | .pr _ _,.str,_,_,_,h | .pr _ _,.unit,_,_,_,h | .pr _ _,.slice _,_,_,_,h | .pr _ _,.arr _ _,_,_,_,h=>by simp only[kC,ai]at h
 | .undef,t,_,_,_,h | .gone,t,_,_,_,h | .lP,t,_,_,_,h | .nm,t,_,_,_,h | .yl ..,t,_,_,_,h | .qe,t,_,_,_,h | .ptr ..,t,_,_,_,h | .eO ..,t,_,_,_,h | .cD ..,t,_,_,_,h | .fn ..,t,_,_,_,h
 | .cons ..,t,_,_,_,h | .nil,t,_,_,_,h | .vec ..,t,_,_,_,h | .sb _,t,_,_,_,h | .bx ..,t,_,_,_,h | .lF ..,t,_,_,_,h | .mp ..,t,_,_,_,h | .lR ..,t,_,_,_,h | .nH ..,t,_,_,_,h=>by cases t <;> simp only[kC,ai]at h
theorem Am{v:av}{t:Ty}{x:t.den}(h:(kC t v).eval=some x):v.dK=true:=by
 cases v <;> first | rfl | (cases t <;> simp only[kC,ai]at h)
theorem q9{E:Env}{v:av}{y:Value}(hv:VS E v y){t:Ty}{x:t.den}(h:(kC t v).eval=some x):ql E t y x:=by
 obtain⟨cs,h1,h2⟩:=hv.dK (Am h)
 obtain⟨h3,h4,_⟩:=uk v t x cs h1 h
 exact⟨cs,h3,by rw[<-h4];exact h2⟩
theorem pN{P:Program}{T K V':TypeId}{kt vt:Ty}(h:mapOf P T=some (K,V',kt,vt)):P.underlying T=some (.map K V')/\lH P depth K kt=true/\Cp P V' (.d vt vt.zero)=true:=by
 unfold mapOf at h
 split at h
 ·rename_i K0 V0 hT
  split at h
  ·split at h
   ·rename_i hc
    simp only[ao,cd]at h
    obtain⟨rfl,rfl,rfl,rfl⟩:=h
    rw[ag]at hc
    exact⟨hT,hc.1,hc.2⟩
   ·cases h
  ·cases h
 ·cases h
theorem CR{k v k' v':Ty}{l:List (k.den×v.den)}{l':List (k'.den×v'.den)}(h:EU k v k' v' l=some l'):∃(e1:k=k') (e2:v=v'),(e1▸e2▸l)=l':=by
 unfold EU at h
 split at h
 ·rename_i e;exact⟨e.1,e.2,by simpa using h⟩
 ·cases h
section
variable {P:Program} {C:Ctx} {g:Nat->jm} {β:Id->Option Pl} {s:AS} {a:Act} {w:World} {o:Oper}
theorem oD(h:Inv C g β s a w){id:Id}{ver:Nat}{kt vt:Ty}{l:List (kt.den×vt.den)}(ho:(s.mc id ver kt vt).eval=some l){y:Value}(hv:VS (s.env w g β) (.lF id ver) y):
  ∃fr pl es clock,s.bG id=some (.obj ver fr (.mp kt vt l))/\β id=some pl/\y= .map (some pl.b)/\w.heap[pl.b]? =some (.map es clock)/\g pl.b= .own (.id id) 0/\By (s.env w g β) kt vt es.toList l/\jY es.toList clock/\(l.map (·.1)).Nodup:=by
 unfold AS.mc at ho
 split at ho
 ·rename_i v fr k' v' l' iH
  obtain⟨Nc,Pa⟩:=aw.1 ho
  have Nc:v=ver:=by simpa using Nc
  obtain⟨rfl,rfl,rfl⟩:=CR (gU.1 Pa)
  subst Nc
  have cj:=dw iH
  obtain⟨pl,es,clock,h1,h2,h3,h4⟩:=h.bo id v fr _ cj
  have hs:=hv.single rfl rfl
  simp only[V]at hs
  obtain⟨b,hb,_,hc⟩:=hs
  obtain⟨pl',h5,h6⟩:=hc ⟨fr,_,cj⟩
  have h1:β id=some pl:=h1
  have h5:β id=some pl':=h5
  rw[h1]at h5
  obtain rfl:pl=pl':=by simpa using h5
  refine⟨fr,pl,es,clock,cj,h1,?_,h2,h3,h4.1.1,h4.2,h4.1.2⟩
  have hb:y= .map (some b):=by simpa using hb
  rw[hb,h6]
 ·simp only[ai]at ho
theorem B5(h:Inv C g β s a w){T:TypeId}(cQ:o.op= .makeMap T none){s':AS}(he:(sj P s o.dst T).eval=some s'):ez P o a w (fF C s'):=by
 unfold sj at he
 split at he
 ·rename_i K V' kt vt q hm hd
  obtain⟨hq,he⟩:=aw.1 he
  obtain rfl:=al.1 he
  have ht:=Trans.alloc w g (.map #[] 0) (.own (.id (.new q 0)) 0)
  obtain⟨h1,h2⟩:=h.vT hq (c:= .mp kt vt []) (p:=some ⟨w.heap.size,0⟩) ht (λb hb=>⟨kH w _ hb,ee _ _ _ (by omega)⟩) (λ_=>
   ⟨⟨w.heap.size,0⟩,#[],0,gN _ _ _,lV w _,ew _ _ _,⟨⟨[],trivial,jZ _⟩,gQ⟩,jY.nil _⟩)
  refine .inl ⟨.map (some w.heap.size),w.alloc (.map #[] 0),?_,_,_,h1.put o.dst (v:= .lF (.new q 0) 0) ⟨[.map (some w.heap.size)],?_,rfl⟩⟩
  ·refine dg (f:=Instr.makeMap T none) (by simp only[execOp,cQ];rfl) ?_
   simp[Instr.makeMap,run_newObj_alloc]
  ·simp only[V]
   exact⟨_,rfl,kh hq _ _ _ _,λ_=>⟨_,gN _ _ _,rfl⟩⟩
 ·simp only[ai]at he
theorem ql.vs{E:Env}{t:Ty}{v:Value}{x:t.den}(h:ql E t v x):VS E (.d t x) v:=by
 obtain⟨cs,h1,h2⟩:=h
 exact⟨cs,by simpa only[V]using h1,h2⟩
theorem DC(h:Inv C g β s a w){T:TypeId}{x i:Operand}{ok:Bool}(cQ:o.op= .lookup T x i ok){v:av}(he:(qR P s T (s.ev x) (s.ev i) ok).eval=some v):ez P o a w (fF C (s.put o.dst v)):=by
 unfold qR at he
 split at he
 ·rename_i K V' kt vt id ver hm hx
  obtain⟨l,h1,he⟩:=ak.1 he
  obtain⟨k,h2,he⟩:=ak.1 he
  obtain rfl:=al.1 he
  obtain⟨hT,hK,hz⟩:=pN hm
  have yM:=h.ev x
  rw[hx]at yM
  obtain⟨fr,pl,es,clock,g1,g2,g3,g4,g5,g6,g7,gn⟩:=oD h h1 yM
  have tm:=oX depth K kt hK
  obtain⟨l0,g6,gp⟩:=g6
  rw[<-Fv tm gn gp]
  clear gn h1
  generalize l0=l at g6
  have hk:=q9 (h.ev i) h2
  have Lv:=j4 (P:=P) (w:=w) es.isEmpty depth K kt hK 10000 (by decide) _ _ hk
  obtain⟨r,hf,hr⟩:=tW (P:=P) (w:=w) hK hk g6
  obtain⟨iz,zv,z1,z2,z3,z4⟩:=mN hz (s.env w g β)
  have Hr:ql (s.env w g β) vt zv vt.zero:=⟨_,by simpa only[V]using z3,z4⟩
  have hzero:(zeroValue V').run P w= .ok zv w:=by simp[zeroValue,typeInfo,z1,z2]
  obtain⟨val,kj,o7⟩:∃val:Value×Bool,(Instr.lookup T (a.eval x) (a.eval i) ok).run P w= .ok (if ok then .tuple #[val.1,.bool val.2] else val.1) w/\ql (s.env w g β) vt val.1 ((dD kt k l).getD vt.zero)/\val.2=(dD kt k l).isSome:=by
   cases r with
   |none=>
    simp only at hr
    have hg:dD kt k l=none:=by simp[dD,hr]
    refine⟨(zv,false),?_,by rw[hg];exact Hr,by rw[hg];rfl⟩
    simp[Instr.lookup,run_underlying hT,g3,Go.MapKept.run_getObj_map g4,Lv,hf,hzero]
   |some u=>
    obtain⟨j,u⟩:=u
    obtain⟨e,m1,m2,rfl⟩:=hr
    obtain⟨p,m3,m4⟩:=g6.get m2
    have hg:dD kt k l=some p.2:=by simp[dD,m1,m3]
    refine⟨(e.val,true),?_,by rw[hg];exact m4.2,by rw[hg];rfl⟩
    simp[Instr.lookup,run_underlying hT,g3,Go.MapKept.run_getObj_map g4,Lv,hf]
  refine h.value (x:=if ok then .tuple #[val.1,.bool val.2] else val.1) ?_ (dg (f:=Instr.lookup T (a.eval x) (a.eval i) ok) (by simp only[execOp,cQ]) kj)
  unfold LR
  cases ok with
  |true=>
   obtain⟨cs,c1,c2⟩:=o7.1
   refine⟨[val.1,.bool val.2],rfl,?_⟩
   simp only[VC]
   refine⟨_,_,cs,rfl,by simpa only[V]using c1,c2,_,_,[.bool val.2],rfl,?_,rfl,rfl⟩
   simp only[V,cG,o7.2]
  |false=>exact o7.1.vs
 ·simp only[ai]at he
theorem Inv.JJ(h:Inv C g β s a w){id:Id}{ver:Nat}{fr:Bool}{kt vt:Ty}{l l':List (kt.den×vt.den)}{pl:Pl}{es es':Array MapEntry}{clock clock':Nat}(cj:s.bG id=some (.obj ver fr (.mp kt vt l)))(hp:β id=some pl)
  (hb:w.heap[pl.b]? =some (.map es clock)) (hg:g pl.b= .own (.id id) 0) (hr:By (s.env w g β) kt vt es'.toList l') (Te:(l'.map (·.1)).Nodup) (OK:jY es'.toList clock') (Na:s.ml id=true):
  Inv C g β (s.aH id (.obj ver false (.mp kt vt l'))) a {w with heap:=w.heap.setIfInBounds pl.b (.map es' clock')}:=by
 have iC:pl.b < w.heap.size:=(bk.1 hb).1
 have hother:∀b',b'≠pl.b->({w with heap:=w.heap.setIfInBounds pl.b (.map es' clock')}:World).heap[b']? =w.heap[b']? :=λb' ga=>by
  show(w.heap.setIfInBounds pl.b _)[b']? =_
  rw[df,if_neg (λe=>ga e.symm)]
 have ht:Trans w {w with heap:=w.heap.setIfInBounds pl.b (.map es' clock')} g g:=by
  refine⟨rfl,rfl,⟨rfl,ax _⟩,by simp,λb' _=> ?_⟩
  by_cases he:b'=pl.b
  ·subst he
   rw[hg]
   exact⟨.inr ⟨id,0,rfl,ax _⟩,λ_ _ hh=>by omega⟩
  ·rw[hother b' he]
   cases xy:g b' with
   |free=>exact⟨rfl,rfl⟩
   |own o' k=>cases o' with
    |dx=>exact⟨rfl,rfl⟩
    |id i'=>exact⟨.inr ⟨i',k,rfl,ax _⟩,λoff v _ hv=>by simpa only[World.cell?,hother b' he]using hv⟩
 have hle:b6 (s.env w g β) ((s.aH id (.obj ver false (.mp kt vt l'))).env {w with heap:=w.heap.setIfInBounds pl.b (.map es' clock')} g β):=b6.aH cj (ax _) ht (λ_ _=>rfl) (λ_=>rfl)
 refine h.step (cK _ _ _) ht hle (fT.aH h.bo (by rw[cj];simp) hle (λ_ _=>rfl) (λi ver fr c pl2 hi yK A0=>⟨hother _ (h.apart hg hi yK A0),rfl⟩) ?_ (by obtain rfl:=sF cj Na;exact uY cj))
 refine⟨pl,es',clock',hp,?_,hg,⟨hr.mono hle.mem,Te⟩,OK⟩
 show(w.heap.setIfInBounds pl.b _)[pl.b]? =_
 rw[df,if_pos rfl,if_pos iC]
theorem DH(h:Inv C g β s a w){T:TypeId}{m k x:Operand}(cQ:o.op= .mapUpdate T m k x){s':AS}(he:(qV P s T (s.ev m) (s.ev k) (s.ev x)).eval=some s'):ez P o a w (fF C (s'.put o.dst .undef)):=by
 unfold qV at he
 split at he
 ·rename_i K V' kt vt id ver hm hx
  obtain⟨l,h1,he⟩:=ak.1 he
  obtain⟨kx,h2,he⟩:=ak.1 he
  obtain⟨vx,h3,he⟩:=ak.1 he
  obtain⟨Na,he⟩:=aw.1 he
  obtain rfl:=al.1 he
  obtain⟨hT,hK,_⟩:=pN hm
  have yM:=h.ev m
  rw[hx]at yM
  obtain⟨fr,pl,es,clock,g1,g2,g3,g4,g5,g6,g7,gn⟩:=oD h h1 yM
  obtain⟨l0,g6,gp⟩:=g6
  have hk:=q9 (h.ev k) h2
  have hv:=q9 (h.ev x) h3
  have Lv:=j4 (P:=P) (w:=w) false depth K kt hK 10000 (by decide) _ _ hk
  obtain⟨r,hf,hr⟩:=tW (P:=P) (w:=w) hK hk g6
  have tm:=oX depth K kt hK
  have fin:∀(es':Array MapEntry) (clock':Nat),(Instr.mapUpdate T (a.eval m) (a.eval k) (a.eval x)).run P w= .ok () {w with heap:=w.heap.setIfInBounds pl.b (.map es' clock')}->Alike (qF (s.env w g β) kt vt) es'.toList (gX kt kx vx l0)->jY es'.toList clock'->
    ez P o a w (fF C ((s.aH id (.obj ver false (.mp kt vt (gX kt kx vx l)))).put o.dst .undef)):=λes' clock' kj IV OK=>
   .inr (.inl ⟨_,AL (f:=Instr.mapUpdate T (a.eval m) (a.eval k) (a.eval x)) (by simp only[execOp,cQ]) kj,g,β,(h.JJ g1 g2 g4 g5 ⟨_,IV,Fw tm gn gp⟩ (xl tm gn) OK Na).put o.dst VS.undef⟩)
  cases r with
  |none=>
   simp only at hr
   refine fin (es.push {key:=a.eval k,val:=a.eval x,born:=clock}) (clock+1) ?_ ?_ (by rw[Array.toList_push];exact g7.push rfl)
   ·simp[Instr.mapUpdate,run_underlying hT,g3,Go.MapKept.run_getObj_map g4,Lv,hf,Go.MapKept.run_setObj_map _ g4]
   ·simp only[gX,hr,Array.toList_push]
    exact g6.push ⟨hk,hv⟩
  |some u=>
   obtain⟨j,u⟩:=u
   obtain⟨e,m1,m2,rfl⟩:=hr
   obtain⟨p,m3,m4⟩:=g6.get m2
   have QJ:kt.beq kx p.1=true:=by
    have:∀(l:List (kt.den×vt.den)) (j:Nat),fP kt kx l=some j->∀p,l[j]? =some p->kt.beq kx p.1=true:=by
     intro l
     induction l with
     |nil=>intro j hj;simp[fP]at hj
     |cons q l ih=>
      intro j hj p hp
      simp only[fP]at hj
      cases hb:kt.beq kx q.1 with
      |true=>
       rw[hb]at hj
       simp only[ao]at hj
       subst hj
       simp at hp
       subst hp
       exact hb
      |false=>
       rw[hb]at hj
       simp only[ea]at hj
       obtain⟨j',hj',rfl⟩:=hj
       exact ih j' hj' p (by simpa using hp)
    exact this l0 j m1 p m3
   have RB:=beq_eq kt kx p.1 tm QJ
   have QZ:e.key=a.eval k:=ql.Ms tm (RB▸m4.1) hk
   have m2':es[j]? =some e:=by simpa using m2
   refine fin (es.modify j λe=> {e with key:=a.eval k,val:=a.eval x}) clock ?_ ?_ (by rw[Array.toList_modify,Go.ChangeMaps.modify_eq_set _ _ _ _ m2];exact g7.set m2 rfl)
   ·simp[Instr.mapUpdate,run_underlying hT,g3,Go.MapKept.run_getObj_map g4,Lv,hf,m2',QZ,HT tm hk,Go.MapKept.run_setObj_map _ g4]
   ·simp only[gX,m1,Array.toList_modify]
    rw[Go.ChangeMaps.modify_eq_set _ _ _ _ m2]
    exact Alike.set (R:=qF (s.env w g β) kt vt) ⟨hk,hv⟩ j g6
 ·simp only[ai]at he
end
end Go.Ab
end
