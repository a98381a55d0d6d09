/-
  Made short by a program of mine (wip/tools/mini.py).
-/
import Derived.WalkKit
import Derived.KernelRfl
import Derived.OrdersIn
import Derived.LoopNIn
import Derived.TacticsIn
import Derived.RangeFuncCalls
import Derived.RangeFuncLeaves
import Derived.RangeFuncRecord
import Derived.MapKept
import Derived.ChangeMaps3
set_option linter.unusedVariables false
set_option linter.unusedSimpArgs false
set_option maxRecDepth 100000
set_option synthInstance.maxSize 5000
noncomputable section
namespace Go.Ab
theorem eF:type_of% @Array.ext':= @Array.ext'
theorem kA:type_of% @Array.ext_getElem?:= @Array.ext_getElem?
theorem bT:type_of% @Array.getD_eq_getD_getElem?:= @Array.getD_eq_getD_getElem?
theorem gH:type_of% @Array.getElem?_append:= @Array.getElem?_append
theorem dN:type_of% @Array.getElem?_eq_getElem:= @Array.getElem?_eq_getElem
theorem bg:type_of% @Array.getElem?_eq_some_iff:= @Array.getElem?_eq_some_iff
theorem eJ:type_of% @Array.getElem?_modify:= @Array.getElem?_modify
theorem c9:type_of% @Array.getElem?_setIfInBounds:= @Array.getElem?_setIfInBounds
theorem fo:type_of% @Array.getElem?_toList:= @Array.getElem?_toList
theorem bU:type_of% @Array.length_toList:= @Array.length_toList
theorem bp:type_of% @Array.toList_append:= @Array.toList_append
theorem jy:type_of% @BitVec.ofInt_natCast:= @BitVec.ofInt_natCast
theorem kB:type_of% @BitVec.toNat_ofInt:= @BitVec.toNat_ofInt
theorem kC:type_of% @BitVec.toNat_ofNat:= @BitVec.toNat_ofNat
theorem ae:type_of% @Bool.and_eq_true:= @Bool.and_eq_true
theorem j8:type_of% @Bool.and_true:= @Bool.and_true
theorem fC:type_of% @Bool.eq_false_or_eq_true:= @Bool.eq_false_or_eq_true
theorem eM:type_of% @Bool.false_and:= @Bool.false_and
theorem bN:type_of% @Bool.false_eq_true:= @Bool.false_eq_true
theorem bt:type_of% @Bool.not_eq_true':= @Bool.not_eq_true'
theorem dG:type_of% @Bool.not_false:= @Bool.not_false
theorem cz:type_of% @Bool.not_true:= @Bool.not_true
theorem fj:type_of% @Bool.or_eq_true:= @Bool.or_eq_true
theorem ck:type_of% @Bool.true_and:= @Bool.true_and
theorem gM:type_of% @Classical.byContradiction:= @Classical.byContradiction
theorem fw:type_of% @Int.emod_lt_of_pos:= @Int.emod_lt_of_pos
theorem fP:type_of% @Int.emod_nonneg:= @Int.emod_nonneg
theorem eo:type_of% @Int.le_refl:= @Int.le_refl
theorem lb:type_of% @Int.mul_nonneg:= @Int.mul_nonneg
theorem gw:type_of% @Int.tdiv_eq_ediv_of_nonneg:= @Int.tdiv_eq_ediv_of_nonneg
theorem fc:type_of% @Int.tmod_eq_emod_of_nonneg:= @Int.tmod_eq_emod_of_nonneg
theorem aa:type_of% @Int.toNat_natCast:= @Int.toNat_natCast
theorem cV:type_of% @Int.toNat_zero:= @Int.toNat_zero
theorem jA:type_of% @List.Perm.refl:= @List.Perm.refl
theorem fD:type_of% @List.all_cons:= @List.all_cons
theorem cG:type_of% @List.all_eq_true:= @List.all_eq_true
theorem jr:type_of% @List.any_eq_false:= @List.any_eq_false
theorem bC:type_of% @List.append_assoc:= @List.append_assoc
theorem cZ:type_of% @List.append_nil:= @List.append_nil
theorem dg:type_of% @List.cons.injEq:= @List.cons.injEq
theorem jN:type_of% @List.cons_append:= @List.cons_append
theorem gq:type_of% @List.drop_append:= @List.drop_append
theorem eu:type_of% @List.drop_drop:= @List.drop_drop
theorem aB:type_of% @List.drop_eq_getElem_cons:= @List.drop_eq_getElem_cons
theorem bG:type_of% @List.drop_length:= @List.drop_length
theorem fe:type_of% @List.drop_of_length_le:= @List.drop_of_length_le
theorem lf:type_of% @List.drop_take:= @List.drop_take
theorem aL:type_of% @List.drop_zero:= @List.drop_zero
theorem aJ:type_of% @List.eq_nil_of_length_eq_zero:= @List.eq_nil_of_length_eq_zero
theorem gQ:type_of% @List.ext_getElem?:= @List.ext_getElem?
theorem ir:type_of% @List.filter_cons:= @List.filter_cons
theorem fR:type_of% @List.filter_eq_self:= @List.filter_eq_self
theorem ff:type_of% @List.flatten_cons:= @List.flatten_cons
theorem jO:type_of% @List.flatten_nil:= @List.flatten_nil
theorem cO:type_of% @List.foldl_cons:= @List.foldl_cons
theorem jB:type_of% @List.foldl_nil:= @List.foldl_nil
theorem ij:type_of% @List.getD_cons_zero:= @List.getD_cons_zero
theorem ax:type_of% @List.getD_eq_getElem?_getD:= @List.getD_eq_getElem?_getD
theorem dO:type_of% @List.getElem?_append_left:= @List.getElem?_append_left
theorem iu:type_of% @List.getElem?_cons_succ:= @List.getElem?_cons_succ
theorem ef:type_of% @List.getElem?_cons_zero:= @List.getElem?_cons_zero
theorem ew:type_of% @List.getElem?_drop:= @List.getElem?_drop
theorem bO:type_of% @List.getElem?_eq_getElem:= @List.getElem?_eq_getElem
theorem cW:type_of% @List.getElem?_eq_none:= @List.getElem?_eq_none
theorem cT:type_of% @List.getElem?_eq_some_iff:= @List.getElem?_eq_some_iff
theorem dJ:type_of% @List.getElem?_map:= @List.getElem?_map
theorem dz:type_of% @List.getElem?_set_ne:= @List.getElem?_set_ne
theorem cD:type_of% @List.getElem?_take:= @List.getElem?_take
theorem b6:type_of% @List.getElem_mem:= @List.getElem_mem
theorem au:type_of% @List.length_append:= @List.length_append
theorem aC:type_of% @List.length_cons:= @List.length_cons
theorem cH:type_of% @List.length_drop:= @List.length_drop
theorem cj:type_of% @List.length_map:= @List.length_map
theorem aZ:type_of% @List.length_nil:= @List.length_nil
theorem cd:type_of% @List.length_replicate:= @List.length_replicate
theorem iU:type_of% @List.length_set:= @List.length_set
theorem cn:type_of% @List.length_take:= @List.length_take
theorem fi:type_of% @List.map_congr_left:= @List.map_congr_left
theorem bX:type_of% @List.map_cons:= @List.map_cons
theorem fW:type_of% @List.map_nil:= @List.map_nil
theorem aX:type_of% @List.mem_append:= @List.mem_append
theorem b8:type_of% @List.mem_cons:= @List.mem_cons
theorem aH:type_of% @List.mem_cons_of_mem:= @List.mem_cons_of_mem
theorem aI:type_of% @List.mem_cons_self:= @List.mem_cons_self
theorem dX:type_of% @List.mem_filter:= @List.mem_filter
theorem gI:type_of% @List.mem_iff_getElem?:= @List.mem_iff_getElem?
theorem cU:type_of% @List.mem_map:= @List.mem_map
theorem ik:type_of% @List.mem_map_of_mem:= @List.mem_map_of_mem
theorem cr:type_of% @List.mem_of_getElem?:= @List.mem_of_getElem?
theorem bD:type_of% @List.mem_singleton:= @List.mem_singleton
theorem aT:type_of% @List.nil_append:= @List.nil_append
theorem cP:type_of% @List.nodup_cons:= @List.nodup_cons
theorem gz:type_of% @List.nodup_nil:= @List.nodup_nil
theorem gr:type_of% @List.not_mem_nil:= @List.not_mem_nil
theorem kD:type_of% @List.pairwise_cons:= @List.pairwise_cons
theorem eK:type_of% @List.set_getElem_self:= @List.set_getElem_self
theorem fp:type_of% @List.singleton_append:= @List.singleton_append
theorem fg:type_of% @List.size_toArray:= @List.size_toArray
theorem iv:type_of% @List.take_append:= @List.take_append
theorem cQ:type_of% @List.take_append_drop:= @List.take_append_drop
theorem eH:type_of% @List.take_append_of_le_length:= @List.take_append_of_le_length
theorem cX:type_of% @List.take_length:= @List.take_length
theorem bo:type_of% @List.take_of_length_le:= @List.take_of_length_le
theorem j3:type_of% @List.take_succ_cons:= @List.take_succ_cons
theorem gA:type_of% @List.take_take:= @List.take_take
theorem eN:type_of% @List.take_zero:= @List.take_zero
theorem dB:type_of% @Nat.add_assoc:= @Nat.add_assoc
theorem dn:type_of% @Nat.add_mul:= @Nat.add_mul
theorem fM:type_of% @Nat.add_sub_cancel_left:= @Nat.add_sub_cancel_left
theorem ct:type_of% @Nat.add_zero:= @Nat.add_zero
theorem dE:type_of% @Nat.eq_of_beq_eq_true:= @Nat.eq_of_beq_eq_true
theorem iP:type_of% @Nat.eq_zero_or_pos:= @Nat.eq_zero_or_pos
theorem eL:type_of% @Nat.le_of_ble_eq_true:= @Nat.le_of_ble_eq_true
theorem aw:type_of% @Nat.le_refl:= @Nat.le_refl
theorem gg:type_of% @Nat.lt_irrefl:= @Nat.lt_irrefl
theorem kE:type_of% @Nat.lt_of_lt_of_le:= @Nat.lt_of_lt_of_le
theorem jQ:type_of% @Nat.lt_or_ge:= @Nat.lt_or_ge
theorem dY:type_of% @Nat.min_eq_left:= @Nat.min_eq_left
theorem cE:type_of% @Nat.mul_le_mul_right:= @Nat.mul_le_mul_right
theorem mq:type_of% @Nat.mul_one:= @Nat.mul_one
theorem iH:type_of% @Nat.one_mul:= @Nat.one_mul
theorem gJ:type_of% @Nat.sub_eq_zero_of_le:= @Nat.sub_eq_zero_of_le
theorem aR:type_of% @Nat.zero_add:= @Nat.zero_add
theorem bj:type_of% @Nat.zero_le:= @Nat.zero_le
theorem jR:type_of% @Nat.zero_mul:= @Nat.zero_mul
theorem dH:type_of% @Option.getD_some:= @Option.getD_some
theorem bz:type_of% @Option.isSome_iff_exists:= @Option.isSome_iff_exists
theorem dQ:type_of% @Option.map_eq_some_iff:= @Option.map_eq_some_iff
theorem dh:type_of% @Option.map_some:= @Option.map_some
theorem aN:type_of% @Option.some.inj:= @Option.some.inj
theorem al:type_of% @Option.some.injEq:= @Option.some.injEq
theorem bY:type_of% @Prod.mk.injEq:= @Prod.mk.injEq
end Go.Ab
namespace Go.Ab
inductive Ty where
 |int (k:IntKind) | bool | str | slice (t:Ty) | unit | pair (a b:Ty) | arr (n:Nat) (t:Ty)
 |fm (t:Ty)
 |lu (t:Ty)
 deriving DecidableEq,Inhabited
@[reducible] def Ty.den:Ty->Type
 | .int _=>Int
 | .bool=>Bool
 | .str=>ByteArray
 | .slice t=>List t.den
 | .unit=>Unit
 | .pair a b=>a.den×b.den
 | .arr _ t=>List t.den
 | .fm t=>Option (List t.den)
 | .lu t=>Option t.den
def Ty.size:Ty->Nat
 | .unit=>0
 | .pair a b=>a.size+b.size
 | .arr n t=>n*t.size
 | .int _ | .bool | .str | .slice _ | .fm _ | .lu _=>1
def Ty.agg:Ty->Bool
 | .unit | .pair _ _ | .arr _ _=>true
 | .int _ | .bool | .str | .slice _ | .fm _ | .lu _=>false
def Ty.zero:(t:Ty)->t.den
 | .int _=>(0:Int)
 | .bool=>false
 | .str=>ByteArray.empty
 | .slice _=> []
 | .unit=>()
 | .pair a b=>(a.zero,b.zero)
 | .arr n t=>List.replicate n t.zero
 | .fm _=>none
 | .lu _=>none
def Ty.comp:Ty->Bool
 | .slice _ | .fm _ | .lu _=>false
 | .pair a b=>a.comp && b.comp
 | .arr _ t=>t.comp
 | .int _ | .bool | .str | .unit=>true
def iS{α:Type}(f:α->α->Bool):List α->List α->Bool
 |[],[]=>true
 |x::xs,y::ys=>f x y && iS f xs ys
 |_,_=>false
def Ty.beq:(t:Ty)->t.den->t.den->Bool
 | .int _,x,y=>(x:Int)==y
 | .bool,x,y=>(x:Bool)==y
 | .str,x,y=>(x:ByteArray).toList==(y:ByteArray).toList
 | .slice t,x,y=>iS t.beq x y
 | .unit,_,_=>true
 | .pair a b,x,y=>a.beq x.1 y.1 && b.beq x.2 y.2
 | .arr _ t,x,y=>iS t.beq x y
 | .fm t,x,y=>iS t.beq (x.getD []) (y.getD [])
 | .lu _,_,_=>false
def lW(t t':Ty)(x:t.den):Option t'.den:=if h:t=t' then some (h▸x) else none
def ze:(a b:Ty)->Option (a.den->b.den)
 | .fm t,.slice t'=>if h:t=t' then some λo=>cast (congrArg (λt:Ty=>List t.den) h) (o.getD []) else none
 | .slice t,.fm t'=>if h:t=t' then some λl=>some (cast (congrArg (λt:Ty=>List t.den) h) l) else none
 | .pair a b,.pair c d=>match ze a c,ze b d with
  |some f,some k=>some λx=>(f x.1,k x.2)
  |_,_=>none
 | .slice a,.slice b=>match ze a b with
  |some f=>some (List.map f)
  |none=>none
 |a,b=>if h:a=b then some (cast (congrArg Ty.den h)) else none
def Po(a b:Ty)(x:a.den):b.den:=match ze a b with | some f=>f x | none=>b.zero
def qG(t t':Ty)(x:t.den):Option t'.den:=
 match lW t t' x with
 |some y=>some y
 |none=>match ze t t' with
  |some f=>some (f x)
  |none=>none
def nth(t:Ty)(l:List t.den)(i:Nat):t.den:=l.getD i t.zero
inductive Id where
 |c8 (k:Nat)
 |new (site j:Nat)
 deriving DecidableEq,Inhabited
inductive rN where
 |fst | snd
 |idx (i:Nat)
 |arr
structure lU where
 y:Nat
 ps:Array Tmp
 as:Code
 b:Code
inductive ao where
 |undef
 |gone
 |c6 | kY | mF | pk
 |d (t:Ty) (x:t.den)
 |pr (a b:ao)
 |ptr (id:Id) (ver:Nat) (p:List rN) (n:Nat)
 |eW (t:Ty) (x:t.den)
 |cv (id:Id) (ver:Nat) (p:List rN) (c i len:Nat)
 |fn (f:FuncId) (caps:ao)
 |cons (a b:ao)
 |nil
 |vec (e:TypeId) (t:Ty) (l:List t.den)
 |sb (l:List Int)
 |bx (e:TypeId) (z:Nat) (c:ao)
 |kT (id:Id) (ver:Nat)
 |mp (k v:Ty) (l:List (k.den×v.den))
 |la (q:Id) (ver:Nat) (k v:Ty) (rest:List (k.den×v.den)) (cur:Option (k.den×v.den))
 |yl (id:Id) (ver:Nat)
 |mV (c:lU) (frame:ao) (p:Nat)
inductive c7 where
 |dead
 |obj (ver:Nat) (fr:Bool) (c:ao)
structure AS where
 bK:List ao
 bP:List c7
 news:List (List c7)
def bE(n:Nat)(l:List ao):List ao:=List.replicate n .undef++l
def cS(n:Nat)(l:List (List c7)):List (List c7):=List.replicate n []++l
inductive Out(α:Type):Type 1 where
 |ok (a:α)
 |fail
 |lN (c:Bool) (r:Out α)
 |get {β:Type} (x:Option β) (f:β->Out α)
 |br (c:Bool) (a b:Out α)
def Out.eval{α:Type}:Out α->Option α
 | .ok a=>some a
 | .fail=>none
 | .lN c r=>match c with | true=>r.eval | false=>none
 | .get x f=>match x with | some y=>(f y).eval | none=>none
 | .br c a b=>match c with | true=>a.eval | false=>b.eval
def aO{α:Type}(c:Bool)(x y:Option α):Option α:=match c with | true=>x | false=>y
def aA{α β:Type}(x:Option α)(f:α->Option β):Option β:=match x with | some a=>f a | none=>none
def Out.run{α R:Type}:Out α->(α->Option R)->Option R
 | .ok a,k=>k a
 | .fail,_=>none
 | .lN c r,k=>aO c (r.run k) none
 | .get x f,k=>aA x λy=>(f y).run k
 | .br c a b,k=>aO c (a.run k) (b.run k)
def Out.bind{α β:Type}:Out α->(α->Out β)->Out β
 | .ok a,f=>f a
 | .fail,_=> .fail
 | .lN c r,f=> .lN c (r.bind f)
 | .get x g,f=> .get x λy=>(g y).bind f
 | .br c a b,f=> .br c (a.bind f) (b.bind f)
def Out.opt{α:Type}:Option α->Out α
 |some a=> .ok a
 |none=> .fail
def Out.guard{α:Type}(c:Bool)(r:Out α):Out α:=match c with | true=>r | false=> .fail
def ao.size:ao->Nat
 | .d t _=>t.size
 | .pr a b=>a.size+b.size
 |_=>1
def ao.agg:ao->Bool
 | .d t _=>t.agg
 | .pr _ _=>true
 |_=>false
def ao.dC:ao->Bool
 | .undef | .cons _ _ | .nil | .vec .. | .bx .. | .mp .. | .la .. | .mV .. =>false
 |_=>true
def ao.strip:ao->ao
 | .bx _ _ c=>c
 |c=>c
def ao.wrap:ao->ao->ao
 | .bx e z _,c=> .bx e z c
 |_,c=>c
def ua:ao->ao->ao
 | .d a x,.d b y=> .d (.pair a b) (x,y)
 |a,b=> .pr a b
def ofConst:Value->ao
 | .bool b=> .d .bool b
 | .int k n=> .d (.int k) n
 | .string s=> .d .str s
 | .slice none 0 0=> .c6
 | .pointer none=> .kY
 | .nilFunc=> .mF
 | .map none=> .pk
 |_=> .undef
def AS.slot(s:AS)(i:Nat):ao:=s.bK.getD i .undef
def AS.ev(s:AS):Operand->ao
 | .tmp t=>s.slot t
 | .const v=>ofConst v
 | .func f=> .fn f .nil
 | .global _=> .undef
def AS.put(s:AS)(dst:Option Tmp)(v:ao):AS:=
 match dst with
 |some t=> {s with bK:=s.bK.set t v}
 |none=>s
def AS.bA(s:AS):Id->Option c7
 | .c8 k=>s.bP[k]?
 | .new i j=>(s.news.getD i [])[j]?
def AS.aD(s:AS)(id:Id)(e:c7):AS:=
 match id with
 | .c8 k=> {s with bP:=s.bP.set k e}
 | .new i j=> {s with news:=s.news.set i ((s.news.getD i []).set j e)}
def AS.dd(s:AS)(i:Nat):Bool:=match s.news[i]? with | some []=>true | _=>false
def AS.born(s:AS)(i:Nat)(es:List c7):AS:= {s with news:=s.news.set i es}
def AS.obj(s:AS)(id:Id):Option (Nat×Bool×ao):=
 match s.bA id with
 |some (.obj v f c)=>some (v,f,c)
 |_=>none
def yX(P:Program)(nl:Bool):Nat->TypeId->Option Ty
 | 0,_=>none
 |n+1,T=>
  match P.underlying T with
  |some (.int k)=>some (.int k)
  |some .bool=>some .bool
  |some .string=>some .str
  |some (.slice e)=>match yX P false n e with | some t=>some (match nl with | true=> .fm t | false=> .slice t) | none=>none
  |some (.array k e)=>match yX P nl n e with | some t=>some (.arr k t) | none=>none
  |some (.pointer e)=>match yX P false n e with | some t=>some (.lu t) | none=>none
  |some (.struct fs)=>fs.toList.foldr (λf acc=>match yX P nl n f.type,acc with | some a,some b=>some (.pair a b) | _,_=>none) (some .unit)
  |_=>none
def Ds(P:Program):Nat->TypeId->Option Ty:=yX P false
def zeroOf(P:Program):Nat->TypeId->Option ao
 | 0,_=>none
 |n+1,T=>
  match P.underlying T with
  |some (.int k)=>some (.d (.int k) (0:Int))
  |some .bool=>some (.d .bool false)
  |some .string=>some (.d .str ByteArray.empty)
  |some (.slice _)=>some .c6
  |some (.pointer _)=>some .kY
  |some (.map _ _)=>some .pk
  |some (.func _ _ _)=>some .mF
  |some (.array k e)=>match Ds P n e with | some t=>some (.d (.arr k t) (List.replicate k t.zero)) | none=>none
  |some (.struct fs)=>fs.toList.foldr (λf acc=>match zeroOf P n f.type,acc with | some a,some b=>some (ua a b) | _,_=>none) (some (.d .unit ()))
  |_=>none
def depth:Nat:=12
def fits(P:Program)(T:TypeId)(v:ao):Bool:=
 v.dC && (P.cellsOf T==v.size) &&
 (match P.underlying T with | some (.struct _)=>v.agg | some (.array _ _)=>v.agg | some _=> !v.agg | none=>false)
def jj:Nat->List rN
 | 0=> [.fst]
 |n+1=> .snd::jj n
def loc:ao->List rN->Out (Nat×ao)
 |c,[]=> .ok (0,c)
 |c,.arr::p=>loc c p
 | .pr a _,.fst::p=>loc a p
 | .pr a b,.snd::p=>(loc b p).bind λ(n,v)=> .ok (a.size+n,v)
 | .d (.pair a _) x,.fst::p=>loc (.d a x.1) p
 | .d (.pair a b) x,.snd::p=>(loc (.d b x.2) p).bind λ(n,v)=> .ok (a.size+n,v)
 | .d (.arr _ t) l,.idx i::p=> .lN (decide (i < (l:List t.den).length)) ((loc (.d t (nth t l i)) p).bind λ(n,v)=> .ok (i*t.size+n,v))
 | .vec _ t l,.idx i::p=> .lN (decide (i < l.length)) ((loc (.d t (nth t l i)) p).bind λ(n,v)=> .ok (i*t.size+n,v))
 |_,_::_=> .fail
def ns:ao->List rN->ao->Out ao
 |c,.arr::p,v=>ns c p v
 | .vec ..,[],_=> .fail
 | .mp ..,[],_=> .fail
 | .la ..,[],_=> .fail
 | .mV ..,[],_=> .fail
 |c,[],v=> .guard (v.dC && (c.size==v.size)) (.ok v)
 | .pr a b,.fst::p,v=>(ns a p v).bind λa'=> .ok (ua a' b)
 | .pr a b,.snd::p,v=>(ns b p v).bind λb'=> .ok (ua a b')
 | .d (.pair a b) x,.fst::p,v=>(ns (.d a x.1) p v).bind λa'=> .ok (ua a' (.d b x.2))
 | .d (.pair a b) x,.snd::p,v=>(ns (.d b x.2) p v).bind λb'=> .ok (ua (.d a x.1) b')
 | .d (.arr n t) l,.idx i::p,v=> .lN (decide (i < (l:List t.den).length)) ((ns (.d t (nth t l i)) p v).bind fun
   | .d t' y=>(Out.opt (lW t' t y)).bind λy=> .ok (.d (.arr n t) ((l:List t.den).set i y))
   |_=> .fail)
 | .vec e t l,.idx i::p,v=> .lN (decide (i < l.length)) ((ns (.d t (nth t l i)) p v).bind fun
   | .d t' y=>(Out.opt (lW t' t y)).bind λy=> .ok (.vec e t (l.set i y))
   |_=> .fail)
 |_,_::_,_=> .fail
def AS.row(s:AS)(id:Id)(ver:Nat)(p:List rN):Out (Nat×(t:Ty)×List t.den):=
 match s.obj id with
 |some (v,_,c)=> .guard (v==ver) ((loc c.strip p).bind fun
  | (n,.d (.arr _ t) l)=> .ok (n,⟨t,l⟩)
  | (n,.vec _ t l)=> .ok (n,⟨t,l⟩)
  |_=> .fail)
 |none=> .fail
def cut{α:Type}(l:List α)(i len:Nat):List α:=(l.drop i).take len
def AS.fK(s:AS):(t:Ty)->ao->Out t.den
 |t,.d t' x=>Out.opt (qG t' t x)
 | .slice _,.c6=> .ok []
 | .fm _,.c6=> .ok none
 | .slice t,.cv id ver p c i len=>(s.row id ver p).bind λr=> .lN (decide (r.1+i*r.2.1.size=c/\i+len<=r.2.2.length)) (Out.opt (qG (.slice r.2.1) (.slice t) (cut r.2.2 i len)))
 | .fm t,.cv id ver p c i len=>(s.row id ver p).bind λr=> .lN (decide (r.1+i*r.2.1.size=c/\i+len<=r.2.2.length)) (Out.opt (qG (.slice r.2.1) (.fm t) (cut r.2.2 i len)))
 | .pair a b,.pr x y=>(s.fK a x).bind λx=>(s.fK b y).bind λy=> .ok (x,y)
 |_,_=> .fail
def ao.shared:ao->List Id
 | .cv id _ _ _ _ _=> [id]
 | .pr a b=>a.shared++b.shared
 |_=> []
def AS.freeze(s:AS)(id:Id):AS:=
 match s.bA id with
 |some (.obj v _ c)=>s.aD id (.obj v true c)
 |_=>s
def AS.aP(s:AS):List Id->AS
 |[]=>s
 |id::ids=>(s.freeze id).aP ids
end Go.Ab
namespace Go.Ab
def HA{α:Type}(f:α->List Value->Option (List Value)):List α->List Value->Option (List Value)
 |[],cs=>some cs
 |x::xs,cs=>match f x cs with | some r=>HA f xs r | none=>none
def nA:(t:Ty)->t.den->List Value->Option (List Value)
 | .int k,x,.int k' n::r=>match decide (k=k'),decide (n=(x:Int)) with | true,true=>some r | _,_=>none
 | .bool,x,.bool b::r=>match decide (b=(x:Bool)) with | true=>some r | false=>none
 | .str,x,.string s::r=>match decide (s=(x:ByteArray)) with | true=>some r | false=>none
 | .slice _,[],.slice none 0 0::r=>some r
 | .fm _,none,.slice none 0 0::r=>some r
 | .lu _,none,.pointer none::r=>some r
 | .unit,_,r=>some r
 | .pair a b,x,r=>match nA a x.1 r with | some r'=>nA b x.2 r' | none=>none
 | .arr n t,l,r=>match decide ((l:List t.den).length=n) with | true=>HA (nA t) l r | false=>none
 |_,_,_=>none
def wC:ao->List Value->Option (List Value)
 | .d t x,r=>nA t x r
 | .c6,.slice none 0 0::r=>some r
 | .kY,.pointer none::r=>some r
 | .mF,.nilFunc::r=>some r
 | .pk,.map none::r=>some r
 | .pr a b,r=>match wC a r with | some r'=>wC b r' | none=>none
 |_,_=>none
def kP:Value->Bool | .agg _=>true | _=>false
def By(P:Program)(T:TypeId)(z:ao):Bool:=
 match P.info? T with
 |some i=>match i.zero with
  |some zv=>(match wC z zv.cells.toList with | some []=>true | _=>false) && (kP zv==z.agg)
  |none=>false
 |none=>false
structure iq where
 val:ao
 bP:List c7
 news:List c7
structure Entry where
 params:List (Option Ty)
 X:Type
 run:List ao->List c7->Option X
 out:List ao->List c7->X->iq
 sp:X->Out X:= .ok
 KS:∀x y,(sp x).eval=some y->y=x:=by exact λx y h=>(aN h).symm
abbrev mU:=FuncId->List ao->Option Entry
def ao.ids:ao->List Id
 | .ptr id _ _ _=> [id]
 | .cv id _ _ _ _ _=> [id]
 | .pr a b=>a.ids++b.ids
 | .cons a b=>a.ids++b.ids
 | .fn _ c=>c.ids
 | .bx _ _ c=>c.ids
 | .kT id _=> [id]
 | .yl id _=> [id]
 | .mV _ f _=>f.ids
 | .la id _ _ _ _ _=> [id]
 |_=> []
def c7.ids:c7->List Id
 | .obj _ _ c=>c.ids
 | .dead=> []
def AS.reach(s:AS):Nat->List Id->List Id->List Id
 | 0,_,acc=>acc
 |_+1,[],acc=>acc
 |n+1,id::todo,acc=>if acc.contains id then s.reach n todo acc else s.reach n (((s.bA id).getD .dead).ids++todo) (acc++ [id])
def idxOf(id:Id):List Id->Option Nat
 |[]=>none
 |x::xs=>if x=id then some 0 else(idxOf id xs).map (· +1)
def ao.fE(ρ:Id->Nat->Option (Id×Nat)):ao->ao
 | .ptr id ver p n=>match ρ id ver with | some r=> .ptr r.1 r.2 p n | none=> .gone
 | .cv id ver p c i len=>match ρ id ver with | some r=> .cv r.1 r.2 p c i len | none=> .gone
 | .pr a b=> .pr (a.fE ρ) (b.fE ρ)
 | .cons a b=> .cons (a.fE ρ) (b.fE ρ)
 | .fn f c=> .fn f (c.fE ρ)
 | .bx e z c=> .bx e z (c.fE ρ)
 | .kT id ver=>match ρ id ver with | some r=> .kT r.1 r.2 | none=> .gone
 | .yl id ver=>match ρ id ver with | some r=> .yl r.1 r.2 | none=> .gone
 | .mV k f p=> .mV k (f.fE ρ) p
 | .la id _ k v rest cur=> .la id 0 k v rest cur
 |v=>v
def AS.mN(s:AS)(ids:List Id)(id:Id)(ver:Nat):Option (Id×Nat):=
 match idxOf id ids,s.obj id with
 |some k,some (v,_,_)=>if v=ver then some (.c8 k,0) else none
 |_,_=>none
def AS.iX(s:AS)(ids:List Id)(id:Id):c7:=
 match s.bA id with
 |some (.obj _ fr c)=> .obj 0 fr (c.fE (s.mN ids))
 |_=> .dead
def AS.o8(s:AS)(id:Id):Nat:=match s.obj id with | some (v,_,_)=>v | none=>0
def KF(ids:List Id)(dst:Nat):Id->Id
 | .c8 k=>ids.getD k (.c8 0)
 | .new _ j=> .new dst j
def AS.l8(s:AS)(ids:List Id)(dst:Nat):Id->Nat->Option (Id×Nat)
 | .c8 k,v=>match ids[k]? with | some id=>some (id,s.o8 id+v) | none=>none
 | .new _ j,v=>some (.new dst j,v)
def AS.kI(s:AS)(ids:List Id)(dst:Nat)(ver:Nat):c7->c7
 | .obj v fr c=> .obj (ver+v) fr (c.fE (s.l8 ids dst))
 | .dead=> .dead
def AS.conv(s:AS):List (Option Ty)->List ao->Out (List ao×List Id)
 |[],[]=> .ok ([],[])
 |some t::ps,v::vs=>(s.fK t v).bind λx=>(s.conv ps vs).bind λr=> .ok (.d t x::r.1,v.shared++r.2)
 |none::ps,v::vs=>(s.conv ps vs).bind λr=> .ok (v::r.1,r.2)
 |_,_=> .fail
def AS.gf(s0:AS)(all:List Id)(dst:Nat)(s:AS):List Id->List c7->AS
 |id::ids,e::es=>AS.gf s0 all dst (s.aD id (s0.kI all dst (s0.o8 id) e)) ids es
 |_,_=>s
def ao.list:ao->List ao
 | .cons a b=>a::b.list
 |_=> []
def AS.made(s:AS)(ids:List Id)(t:Nat):List c7->AS
 |[]=>s
 |e::es=>s.born t ((e::es).map (s.kI ids t 0))
def AS.back(s:AS)(ids:List Id)(dst:Option Tmp)(g:iq):Out AS:=
 match dst with
 |some t=> .guard ((g.bP.length==ids.length) && (g.news.isEmpty || s.dd t))
   (.ok ((AS.gf s ids t (s.made ids t g.news) ids g.bP).put dst (g.val.fE (s.l8 ids t))))
 |none=> .guard ((g.bP.length==ids.length) && g.news.isEmpty) (.ok (AS.gf s ids 0 s ids g.bP))
def AS.Fo(s:AS)(vs:List ao):List Id:=s.reach 64 (vs.flatMap ao.ids) []
def AS.xU(s:AS)(id:Id):Bool:=match s.obj id with | some (_,true,.mp ..)=>false | _=>true
def AS.enter(s:AS)(en:Entry)(dst:Option Tmp)(ids:List Id)(vs:List ao):Out AS:=
 .guard (ids.all λid=>(s.obj id).isSome && s.xU id)
  (.get (en.run (vs.map (ao.fE (s.mN ids))) (ids.map (s.iX ids))) λx=>(en.sp x).bind λx=>s.back ids dst (en.out (vs.map (ao.fE (s.mN ids))) (ids.map (s.iX ids)) x))
def AS.call(s:AS)(en:Entry)(dst:Option Tmp)(vs:List ao):Out AS:=
 (s.conv en.params vs).bind λr=>(s.aP r.2).enter en dst ((s.aP r.2).Fo r.1) r.1
def di(op:BinOp)(k:IntKind)(x y:Int):Int:=
 match op with
 | .and=>k.wrap ((BitVec.ofInt k.bits x &&& BitVec.ofInt k.bits y).toNat)
 | .or=>k.wrap ((BitVec.ofInt k.bits x ||| BitVec.ofInt k.bits y).toNat)
 | .xor=>k.wrap ((BitVec.ofInt k.bits x^^^BitVec.ofInt k.bits y).toNat)
 |_=>k.wrap ((BitVec.ofInt k.bits x &&& ~~~BitVec.ofInt k.bits y).toNat)
def HW(op:BinOp)(k:IntKind)(x:Int)(k':IntKind)(y:Int):Out ao:=
 match op with
 | .shl=> .lN (decide (0<=y)) (.ok (.d (.int k) (k.wrap (x*2^(min y.toNat k.bits)))))
 | .shr=> .lN (decide (0<=y)) (.ok (.d (.int k) (x.fdiv (2^(min y.toNat k.bits)))))
 |_=> .guard (decide (k=k')) (match op with
  | .add=> .ok (.d (.int k) (k.wrap (x+y)))
  | .sub=> .ok (.d (.int k) (k.wrap (x - y)))
  | .mul=> .ok (.d (.int k) (k.wrap (x*y)))
  | .quo=> .lN (!(decide (y=0))) (.ok (.d (.int k) (k.wrap (x.tdiv y))))
  | .rem=> .lN (!(decide (y=0))) (.ok (.d (.int k) (x.tmod y)))
  | .eql=> .ok (.d .bool (x==y))
  | .neq=> .ok (.d .bool (x !=y))
  | .lss=> .ok (.d .bool (decide (x < y)))
  | .leq=> .ok (.d .bool (decide (x<=y)))
  | .gtr=> .ok (.d .bool (decide (x > y)))
  | .geq=> .ok (.d .bool (decide (x>=y)))
  |op=> .ok (.d (.int k) (di op k x y)))
def II(op:BinOp)(x y:ByteArray):Out ao:=
 match op with
 | .add=> .lN (decide (((x.size+y.size:Nat):Int)<=IntKind.i64.max)) (.ok (.d .str (x++y)))
 | .eql=> .ok (.d .bool (x.toList==y.toList))
 | .neq=> .ok (.d .bool (!(x.toList==y.toList)))
 | .lss=> .ok (.d .bool (Op.bytesLess x.toList y.toList))
 | .geq=> .ok (.d .bool (!(Op.bytesLess x.toList y.toList)))
 |_=> .fail
def sX(P:Program)(T:TypeId)(b:Bool):Bool:=
 match P.underlying T with | some (.struct _)=>b | some (.array _ _)=>b | some _=> !b | none=>false
def sR(P:Program)(lN:TypeId->Ty->Bool):List Field->Ty->Nat->Bool
 |[],.unit,_=>true
 |f::fs,.pair a b,off=> !(f.name== "_") && (f.offset==off) && !(a.size==0) && (P.cellsOf f.type==a.size) && sX P f.type a.agg && lN f.type a && sR P lN fs b (off+a.size)
 |_,_,_=>false
def kU(P:Program):Nat->TypeId->Ty->Bool
 | 0,_,_=>false
 |n+1,T,t=>match P.underlying T,t with
  |some (.int _),.int _=>true
  |some .bool,.bool=>true
  |some .string,.str=>true
  |some (.array m e),.arr m' t'=>(m==m') && !(t'.size==0) && (P.cellsOf e==t'.size) && sX P e t'.agg && kU P n e t'
  |some (.struct fs),t=> !P.stoodInHeld T && sR P (kU P n) fs.toList t 0
  |_,_=>false
def oQ(P:Program)(T:TypeId):ao->ao->Out Bool
 | .d t x,.d t' y=>(Out.opt (lW t' t y)).bind λy=> .guard ((t.agg && !P.eqGuardType P.depth T || decide (t= .bool)) && kU P depth T t) (.ok (t.beq x y))
 | .c6,.c6=> .guard (isSl P T) (.ok true)
 | .d (.slice t) l,.c6=> .guard (isSl P T) (.lN (decide (0 < (l:List t.den).length)) (.ok false))
 | .c6,.d (.slice t) l=> .guard (isSl P T) (.lN (decide (0 < (l:List t.den).length)) (.ok false))
 | .cv _ _ _ _ _ len,.c6=> .guard (isSl P T) (.lN (decide (0 < len)) (.ok false))
 | .c6,.cv _ _ _ _ _ len=> .guard (isSl P T) (.lN (decide (0 < len)) (.ok false))
 | .kY,.kY=> .guard (isPt P T) (.ok true)
 | .ptr ..,.kY=> .guard (isPt P T) (.ok false)
 | .kY,.ptr .. => .guard (isPt P T) (.ok false)
 | .d (.lu t) x,.kY=> .guard (isPt P T) (.ok (x:Option t.den).isNone)
 | .kY,.d (.lu t) x=> .guard (isPt P T) (.ok (x:Option t.den).isNone)
 | .mF,.mF=> .guard (isFn P T) (.ok true)
 | .fn ..,.mF=> .guard (isFn P T) (.ok false)
 | .mF,.fn .. => .guard (isFn P T) (.ok false)
 |_,_=> .fail
where
 isSl (P:Program) (T:TypeId):Bool:=match P.underlying T with | some (.slice _)=>true | _=>false
 isPt (P:Program) (T:TypeId):Bool:=match P.underlying T with | some (.pointer _)=>true | _=>false
 isFn (P:Program) (T:TypeId):Bool:=match P.underlying T with | some (.func _ _ _)=>true | _=>false
def K7(P:Program)(T:TypeId)(op:BinOp)(x y:ao):Out ao:=
 match x,y with
 | .d (.int k) a,.d (.int k') b=>HW op k a k' b
 | .d .str a,.d .str b=>II op a b
 |x,y=>match op with
  | .eql=>(oQ P T x y).bind λb=> .ok (.d .bool b)
  | .neq=>(oQ P T x y).bind λb=> .ok (.d .bool (!b))
  |_=> .fail
def O2(op:UnOp)(x:ao):Out ao:=
 match op,x with
 | .not,.d .bool b=> .ok (.d .bool (!b))
 | .neg,.d (.int k) n=> .ok (.d (.int k) (k.wrap (0 - n)))
 | .xor,.d (.int k) n=> .ok (.d (.int k) (di .xor k (if k.signed then -1 else k.max) n))
 |_,_=> .fail
def bQ(s:ByteArray):List Int:=s.data.toList.map λb=>(b.toNat:Int)
def dT(l:List Int):ByteArray:=⟨(l.map λn=>UInt8.ofNat n.toNat).toArray⟩
def AS.Ey(s:AS)(t:Ty)(v:ao):Out t.den:=s.fK t v
def Hv(P:Program)(s:AS)(obj:Bool)(src dst:TypeId)(x:ao):Out ao:=
 match x,P.underlying dst,P.underlying src with
 | .d (.int _) n,some (.int k),some _=> .ok (.d (.int k) (k.wrap n))
 | .d .str a,some .string,some _=> .ok (.d .str a)
 | .d .str a,some (.slice e),some _=>match P.underlying e with
  |some (.int .u8)=>match obj with | true=> .ok (.sb (bQ a)) | false=> .ok (.d (.slice (.int .u8)) (bQ a))
  |_=> .fail
 |x,some .string,some (.slice e)=>match P.underlying e with
  |some (.int .u8)=>(s.Ey (.slice (.int .u8)) x).bind λl=> .ok (.d .str (dT l))
  |_=> .fail
 |_,_,_=> .fail
def Hw(P:Program)(src dst:TypeId)(l:List Int):Out ao:=
 match P.underlying dst,P.underlying src with
 |some (.slice e),some (.slice _)=>match P.underlying e with
  |some (.int .u8)=> .guard (src==dst) (.ok (.d (.slice (.int .u8)) l))
  |_=> .fail
 |_,_=> .fail
def zM(P:Program)(s:AS)(obj:Bool)(src dst:TypeId)(x:ao):Out ao:=
 match x with
 | .sb l=>Hw P src dst l
 |x=>Hv P s obj src dst x
def B1(P:Program)(s:AS)(d:Option Tmp)(src dst:TypeId)(id:Id)(ver len:Nat):Out AS:=
 match s.obj id,P.underlying dst with
 |some (v,false,.vec _ (.int .u8) l),some (.slice e)=>match P.underlying e with
  |some (.int .u8)=> .guard ((v==ver) && (src==dst)) (.lN (decide (0 < len/\len=(l:List Int).length)) (.ok ((s.aD id .dead).put d (.d (.slice (.int .u8)) l))))
  |_=> .fail
 |_,_=> .fail
def zN(P:Program)(s:AS)(src dst:TypeId)(id:Id)(ver:Nat):Out ao:=
 match s.obj id with
 |some (v,_,.bx e 0 c)=>match P.underlying src,P.underlying dst with
  |some (.pointer t),some .unsafePointer=> .guard ((v==ver) && !(P.cellsOf t==0) && !(c.size==0)) (.ok (.ptr id ver [] 0))
  |some .unsafePointer,some (.pointer u)=> .guard ((v==ver) && !(P.cellsOf u==0) && liesAt P P.depth e (c.size / P.cellsOf e) 0 u 1) (.ok (.ptr id ver [] 0))
  |_,_=> .fail
 |_=> .fail
def Oq(P:Program)(T:TypeId):Bool:=match P.underlying T with | some (.pointer u)=>(P.info? u).isSome | _=>false
def MI(P:Program)(s:AS)(T:TypeId)(op:BinOp)(i:Id)(v:Nat)(j:Id)(w:Nat):Out ao:=
 match s.obj i with
 |some (v',_,_)=> .guard (decide (i=j) && (v==w) && (v==v') && Oq P T) (match op with | .eql=> .ok (.d .bool true) | .neq=> .ok (.d .bool false) | _=> .fail)
 |none=> .fail
def Dm(P:Program)(s:AS)(d:Option Tmp)(T:TypeId)(id:Id)(ver:Nat)(n:Int):Out AS:=
 match s.obj id,P.underlying T with
 |some (v,false,.vec e (.int .u8) l),some (.pointer u)=> .guard ((v==ver) && (u==e) && (P.cellsOf e==1))
   (.lN (decide (0 < n/\n<=((l:List Int).length:Int))) (.ok ((s.aD id .dead).put d (.d .str (dT ((l:List Int).take n.toNat))))))
 |_,_=> .fail
def asInt:ao->Out Int
 | .d (.int _) n=> .ok n
 |_=> .fail
def bounds(s:AS)(n:Nat)(lo hi:Option Operand):Out (Nat×Nat):=
 (match hi with
  |some h=>(asInt (s.ev h)).bind λh=> .lN (decide (0<=h/\h<=(n:Int))) (.ok h.toNat)
  |none=> .ok n).bind λh=>
 (match lo with
  |some l=>(asInt (s.ev l)).bind λl=> .lN (decide (0<=l/\l<=(h:Int))) (.ok l.toNat)
  |none=> .ok 0).bind λl=> .ok (l,h)
def gS(P:Program)(T:TypeId):Option Nat:=
 match P.underlying T with
 |some (.array _ e)=>match P.cellsOf e with | 0=>none | z+1=>some (z+1)
 |some (.slice e)=>match P.cellsOf e with | 0=>none | z+1=>some (z+1)
 |_=>none
def nk(P:Program)(T:TypeId):Option Nat:=
 match P.underlying T with
 |some (.array n _)=>some n
 |_=>none
def re(P:Program)(s:AS)(T:TypeId)(x:ao)(lo hi:Option Operand):Out ao:=
 match x with
 | .d .str a=> .guard (match P.underlying T with | some .string=>true | _=>false) ((bounds s a.size lo hi).bind λb=> .ok (.d .str (a.extract b.1 b.2)))
 | .d (.slice t) l=> .guard (match gS P T,nk P T with | some z,none=>z==t.size | _,_=>false)
   ((bounds s (l:List t.den).length lo hi).bind λb=> .ok (.d (.slice t) (cut l b.1 (b.2 - b.1))))
 | .c6=> .guard (match gS P T,nk P T with | some _,none=>true | _,_=>false) ((bounds s 0 lo hi).bind λ_=> .ok .c6)
 | .cv id ver p c i len=>(s.row id ver p).bind λr=> .guard (match gS P T,nk P T with | some z,none=>z==r.2.1.size | _,_=>false)
   ((bounds s len lo hi).bind λb=> .ok (.cv id ver p (c+b.1*r.2.1.size) (i+b.1) (b.2 - b.1)))
 | .ptr id ver p n=>(s.row id ver p).bind λr=> .guard (match gS P T,nk P T with | some z,some _=>z==r.2.1.size | _,_=>false)
   (.lN (decide (nk P T=some r.2.2.length/\r.1=n)) ((bounds s ((nk P T).getD 0) lo hi).bind λb=> .ok (.cv id ver (p++ [.arr]) (n+b.1*r.2.1.size) b.1 (b.2 - b.1))))
 | .eW (.arr n t) l=> .guard (match gS P T,nk P T with | some z,some m=>(z==t.size) && (m==n) | _,_=>false)
   ((bounds s n lo hi).bind λb=> .ok (.d (.slice t) (cut l b.1 (b.2 - b.1))))
 |_=> .fail
def JK:ao->Int
 | .d (.slice t) l=>((l:List t.den).length:Int)
 | .cv _ _ _ _ _ len=>(len:Int)
 | .c6=>0
 |_=> -1
def B5:Option Operand->ao->ao
 |some _,.cv id ver p c i len=> .cv id ver (p++ [.arr]) c i len
 |_,v=>v
def uG(P:Program)(s:AS)(T:TypeId)(x:ao)(lo:Option Operand)(h m:Operand):Out ao:=
 (asInt (s.ev h)).bind λhv=>(asInt (s.ev m)).bind λmv=> .lN (decide (0<=hv/\hv<=mv/\mv<=JK x)) ((re P s T x lo (some h)).bind λv=> .ok (B5 (some m) v))
def kO(P:Program)(s:AS)(T:TypeId)(x:ao)(i:Int):Out ao:=
 match x with
 | .d (.slice t) l=> .guard (match gS P T,nk P T with | some z,none=>z==t.size | _,_=>false)
   (.lN (decide (0<=i/\i < ((l:List t.den).length:Int))) (.ok (.eW t (nth t l i.toNat))))
 | .eW (.arr n t) l=> .guard (match gS P T,nk P T with | some z,some m=>(z==t.size) && (m==n) | _,_=>false)
   (.lN (decide (0<=i/\i < (n:Int))) (.ok (.eW t (nth t l i.toNat))))
 | .cv id ver p c j len=>(s.row id ver p).bind λr=> .guard (match gS P T,nk P T with | some z,none=>z==r.2.1.size | _,_=>false)
   (.lN (decide (0<=i/\i < (len:Int))) (.ok (.ptr id ver (p++ [.idx (j+i.toNat)]) (c+i.toNat*r.2.1.size))))
 | .ptr id ver p n=> .guard (match gS P T,nk P T with | some _,some _=>true | _,_=>false)
   (.lN (decide (0<=i/\i < (((nk P T).getD 0:Nat):Int))) (.ok (.ptr id ver (p++ [.idx i.toNat]) (n+i.toNat*(gS P T).getD 0))))
 |_=> .fail
def fieldInfo(P:Program)(T:TypeId)(f:Nat):Option (Nat×TypeId):=
 match P.underlying T with
 |some (.struct fs)=>match fs[f]? with | some x=>some (x.offset,x.type) | none=>none
 |_=>none
def partOf:ao->Nat->Option (Nat×ao)
 | .d (.pair a _) x,0=>some (0,.d a x.1)
 | .d (.pair a b) x,n+1=>match partOf (.d b x.2) n with | some (o,v)=>some (a.size+o,v) | none=>none
 | .pr a _,0=>some (0,a)
 | .pr a b,n+1=>match partOf b n with | some (o,v)=>some (a.size+o,v) | none=>none
 |_,_=>none
def pL(P:Program)(T:TypeId)(x:ao)(f:Nat):Out ao:=
 match fieldInfo P T f with
 |some (o,ft)=> .guard (!(P.cellsOf ft==0)) (match x with
  | .ptr id ver p n=> .ok (.ptr id ver (p++jj f) (n+o))
  | .eW t x=>match partOf (.d t x) f with
   |some (o',.d t' y)=> .guard (o==o') (.ok (.eW t' y))
   |_=> .fail
  | .d (.lu t) x=> .get (x:Option t.den) λx=>match partOf (.d t x) f with
   |some (o',.d t' y)=> .guard (o==o') (.ok (.eW t' y))
   |_=> .fail
  |_=> .fail)
 |none=> .fail
def AW(P:Program)(T:TypeId)(x:ao)(f:Nat):Out ao:=
 match fieldInfo P T f,partOf x f with
 |some (o,ft),some (o',v)=> .guard ((o==o') && fits P ft v) (.ok v)
 |_,_=> .fail
def A8(P:Program)(T:TypeId)(x:ao)(i:Int):Out ao:=
 match x,P.underlying T with
 | .d (.arr n t) l,some (.array m e)=> .guard ((n==m) && fits P e (.d t t.zero)) (.lN (decide (0<=i/\i < (n:Int))) (.ok (.d t (nth t l i.toNat))))
 | .d .str a,some .string=> .lN (decide (0<=i/\i < (a.size:Int))) (.ok (.d (.int .u8) ((a.data.toList.getD i.toNat 0).toNat:Int)))
 |_,_=> .fail
def Mm:ao->Out ao
 | .d (.fm t) l=> .lN (l:Option (List t.den)).isNone (.ok .c6)
 |v=> .ok v
def tW(P:Program)(s:AS)(T:TypeId)(x:ao):Out ao:=
 match x with
 | .ptr id ver p n=>match s.obj id with
  |some (v,_,c)=> .guard (v==ver) ((loc c.strip p).bind λr=> .guard (fits P T r.2) (.lN (decide (r.1=n)) (Mm r.2)))
  |none=> .fail
 | .eW t y=> .guard (fits P T (.d t y)) (.ok (.d t y))
 | .d (.lu t) y=> .get (y:Option t.den) λy=> .guard (fits P T (.d t y)) (.ok (.d t y))
 |_=> .fail
def rh(P:Program)(s:AS)(T:TypeId)(x v:ao):Out AS:=
 match x with
 | .ptr id ver p n=>match s.obj id with
  |some (ve,fr,c)=> .guard ((ve==ver) && !fr && fits P T v) ((loc c.strip p).bind λr=> .guard (fits P T r.2) (.lN (decide (r.1=n)) ((ns c.strip p v).bind λc'=> .ok (s.aD id (.obj ve fr (c.wrap c'))))))
  |none=> .fail
 |_=> .fail
def JJ(P:Program)(T:TypeId)(x:ao):Out ao:=
 match P.underlying T,x with
 |some .string,.d .str a=> .ok (.d (.int .i64) (a.size:Int))
 |some (.slice _),.d (.slice t) l=> .ok (.d (.int .i64) ((l:List t.den).length:Int))
 |some (.slice _),.c6=> .ok (.d (.int .i64) (0:Int))
 |some (.slice _),.cv _ _ _ _ _ len=> .ok (.d (.int .i64) (len:Int))
 |some (.array n _),_=> .ok (.d (.int .i64) (n:Int))
 |_,_=> .fail
def qT(P:Program)(s:AS)(t:Ty)(X:TypeId)(x:ao):Out (List t.den):=
 match x with
 | .d .str a=>match P.underlying X with
  |some .string=>Out.opt (lW (.slice (.int .u8)) (.slice t) (bQ a))
  |_=> .fail
 |x=>match P.underlying X with
  |some (.slice _)=>s.Ey (.slice t) x
  |_=> .fail
def dK(n b:Nat):Bool:=decide (n*b<=140737488355328/\n<=9223372036854775807)
def pK(P:Program)(nl:Bool)(T:TypeId):Option (TypeId×Ty×Nat):=
 match P.underlying T with
 |some (.slice e)=>match yX P nl depth e with
  |some t=>match(P.cellsOf e==t.size) && !(t.size==0) && By P e (.d t t.zero) with | true=>some (e,t,P.bytesOf e) | false=>none
  |none=>none
 |_=>none
def wR(P:Program)(T:TypeId):Option (TypeId×Ty×Nat):=pK P false T
def AR(P:Program)(T:TypeId):Option (TypeId×Ty×Nat):=
 match Nat.ble 100000 T with
 |true=>pK P true (T - 100000)
 |false=>pK P false T
def Cl(P:Program)(s:AS)(dst:Option Tmp)(T X:TypeId)(n:Int):Out AS:=
 match wR P T,dst,P.underlying X with
 |some (e,t,b),some q,some (.int _)=> .guard (s.dd q) (.lN (decide (0 < n) && dK n.toNat b)
   (.ok ((s.born q [.obj 0 false (.vec e t (List.replicate n.toNat t.zero))]).put dst (.cv (.new q 0) 0 [] 0 0 n.toNat))))
 |_,_,_=> .fail
def Gs(mx:Bool):List ao->Out ao
 |[.d (.int k) x,.d (.int k') y]=> .guard (decide (k=k')) (.ok (.d (.int k) (match mx with | true=>(if x < y then y else x) | false=>(if y < x then y else x))))
 |[.d (.int k) x,.d (.int k') y,.d (.int k2) z]=> .guard (decide (k=k') && decide (k=k2)) (.ok (.d (.int k) (match mx with | true=>(if(if x < y then y else x) < z then z else(if x < y then y else x)) | false=>(if z < (if y < x then y else x) then z else(if y < x then y else x)))))
 |_=> .fail
def nu(P:Program)(s:AS)(nl dt:Bool)(dst:Option Tmp)(T X:TypeId)(x y:ao):Out AS:=
 match pK P nl T,dst with
 |some (e,t,b),some q=>(qT P s t X y).bind λm=>
  match x with
  | .c6=>match dt with
   |true=> .lN (dK m.length b && decide (0 < m.length)) (.ok (s.put dst (.d (.fm t) (some m))))
   |false=> .guard (s.dd q) (.lN (dK m.length b) (.ok ((s.born q [.obj 0 false (.vec e t m)]).put dst (.cv (.new q 0) 0 [] 0 0 m.length))))
  | .cv id ver [] 0 0 len=>match s.obj id with
   |some (v,fr,.vec e' t' l)=> .guard ((v==ver) && (e==e')) ((Out.opt (lW (.slice t') (.slice t) l)).bind λl=>
     .lN (decide (len<=l.length)) <| .lN ((!fr) || decide (len=l.length)) (.lN (dK (len+m.length) b)
      (.ok ((s.aD id (.obj (v+1) fr (.vec e t (l.take len++m)))).put dst (.cv id (v+1) [] 0 0 (len+m.length))))))
   |_=> .fail
  |_=> .fail
 |_,_=> .fail
def xp(P:Program)(s:AS)(dst:Option Tmp)(T X:TypeId)(x y:ao):Out AS:=
 match wR P T,x with
 |some (_,t,_),.cv id ver [.arr] 0 0 len=>(qT P s t X y).bind λm=>match s.obj id with
  |some (ve,false,.d (.arr n t') l)=> .guard ((ve==ver) && (len==n)) ((Out.opt (lW (.slice t') (.slice t) l)).bind λl=> .lN (decide (m.length<=n))
    (.ok ((s.aD id (.obj ve false (.d (.arr n t) (m++(l:List t.den).drop m.length)))).put dst (.d (.int .i64) (m.length:Int)))))
  |_=> .fail
 |_,_=> .fail
def fV(t:Ty)(s:AS):List (Nat×Operand)->List t.den->Out (List t.den×List Id)
 |[],l=> .ok (l,[])
 | (i,x)::ps,l=> .guard (decide (i < l.length)) ((s.fK t (s.ev x)).bind λy=>(fV t s ps (l.set i y)).bind λr=> .ok (r.1,(s.ev x).shared++r.2))
def jX(P:Program)(fs:Array Field)(s:AS):List (Nat×Operand)->ao->Out ao
 |[],v=> .ok v
 | (i,x)::ps,v=>match fs[i]?,partOf v i with
  |some f,some (o,c8)=> .guard ((f.offset==o) && fits P f.type c8 && fits P f.type (s.ev x)) ((ns v (jj i) (s.ev x)).bind λv'=>jX P fs s ps v')
  |_,_=> .fail
def qD(P:Program)(s:AS)(dst:Option Tmp)(T:TypeId)(parts:List (Nat×Operand)):Out AS:=
 match P.underlying T with
 |some (.struct fs)=>match zeroOf P depth T with
  |some z=> .guard (By P T z && z.agg && fs.toList.all λf=>(P.info? f.type).isSome)
    ((jX P fs s parts z).bind λv=> .ok (s.put dst v))
  |none=> .fail
 |some (.array n e)=>match Ds P depth e with
  |some t=> .guard ((P.cellsOf e==t.size) && By P T (.d (.arr n t) (List.replicate n t.zero))) ((fV t s parts (List.replicate n t.zero)).bind λr=> .ok ((s.aP r.2).put dst (.d (.arr n t) r.1)))
  |none=> .fail
 |_=> .fail
def iJ(P:Program)(s:AS)(nl obj:Bool)(dst:Option Tmp)(T:TypeId)(n:Nat)(parts:List (Nat×Operand)):Out AS:=
 match pK P nl T,dst with
 |some (e,t,_),some q=> .guard (decide (n*t.size<=16777216)) ((fV t s parts (List.replicate n t.zero)).bind λr=>
   match obj with
   |true=> .guard (s.dd q) (.ok (((s.aP r.2).born q [.obj 0 false (.vec e t r.1)]).put dst (.cv (.new q 0) 0 [] 0 0 r.1.length)))
   |false=> .ok ((s.aP r.2).put dst (.d (.slice t) r.1)))
 |_,_=> .fail
def kS(P:Program)(s:AS)(dst:Option Tmp)(T:TypeId)(len cap:Int):Out AS:=
 match wR P T,dst with
 |some (e,t,b),some q=> .guard (s.dd q) (.lN (decide (0<=len/\len<=cap) && dK cap.toNat b)
   (.ok ((s.born q [.obj 0 false (.vec e t (List.replicate len.toNat t.zero))]).put dst (.cv (.new q 0) 0 [] 0 0 len.toNat))))
 |_,_=> .fail
def J0(P:Program)(T:TypeId):Bool:=
 match P.underlying T with
 |some (.struct fs)=>fs.toList.any λf=>match P.underlying f.type with | some (.pointer u)=>decide (u=T) | _=>false
 |_=>false
def boxed(P:Program)(T:TypeId)(z:ao):ao:=match J0 P T with | true=> .bx T 0 z | false=>z
def K9(dt:Bool)(t:Ty)(x:t.den):ao:=match dt with | true=> .d (.lu t) (some x) | false=> .eW t x
def BS(P:Program)(s:AS)(obj dt:Bool)(dst:Option Tmp)(T:TypeId)(v:ao):Out AS:=
 match dst with
 |some q=>match obj with
  |true=> .guard (s.dd q && fits P T v) (.ok ((s.born q [.obj 0 false v]).put dst (.ptr (.new q 0) 0 [] 0)))
  |false=>match Ds P depth T with
   |some t=> .guard (fits P T (.d t t.zero)) ((s.fK t v).bind λx=> .ok ((s.aP v.shared).put dst (K9 dt t x)))
   |none=> .fail
 |none=> .fail
def tn(P:Program)(s:AS)(dst:Option Tmp)(T:TypeId)(x:ao):Out AS:=
 match P.underlying T with
 |some (.array n e)=>match Ds P depth e with
  |some t=> .guard ((P.cellsOf e==t.size) && !(n==0) && !(t.size==0)) ((s.fK (.slice t) x).bind λl=> .lN (decide (n<=(l:List t.den).length)) (.ok ((s.aP x.shared).put dst (.eW (.arr n t) (l.take n)))))
  |none=> .fail
 |_=> .fail
def kH(s:AS):List Operand->ao
 |[]=> .nil
 |x::xs=> .cons (s.ev x) (kH s xs)
def nY:ao->Bool
 | .cons a b=>a.dC && nY b
 | .nil=>true
 |_=>false
def Fz(c a b:ao):Out ao:=
 match c with
 | .d .bool c=>match a,b with
  | .d .bool x,.d .bool y=> .ok (.d .bool (bif c then x else y))
  |a,b=> .br c (.ok a) (.ok b)
 |_=> .fail
def isObj(bk:List Nat):Option Tmp->Bool
 |some q=>bk.any λx=>decide (x=q)
 |none=>false
def Gm(bk:List Nat)(dst:Option Tmp):Bool:=isObj bk (dst.map (· +100000))
def Ej(bk:List Nat)(dst:Option Tmp):Bool:=isObj bk (dst.map (· +200000))
def j6:(t:Ty)->ao->Out t.den
 |t,.d t' x=>Out.opt (lW t' t x)
 | .slice _,.c6=> .ok []
 | .pair a b,.pr x y=>(j6 a x).bind λx=>(j6 b y).bind λy=> .ok (x,y)
 |_,_=> .fail
def mapOf(P:Program)(T:TypeId):Option (TypeId×TypeId×Ty×Ty):=
 match P.underlying T with
 |some (.map K V)=>match Ds P depth K,Ds P depth V with
  |some kt,some vt=>match kU P depth K kt && By P V (.d vt vt.zero) with | true=>some (K,V,kt,vt) | false=>none
  |_,_=>none
 |_=>none
def fA{β:Type}(kt:Ty)(x:kt.den):List (kt.den×β)->Option Nat
 |[]=>none
 |p::l=>match kt.beq x p.1 with | true=>some 0 | false=>(fA kt x l).map (· +1)
def du{β:Type}(kt:Ty)(x:kt.den)(l:List (kt.den×β)):Option β:=(fA kt x l).bind λi=>(l[i]?).map (·.2)
def gE{β:Type}(kt:Ty)(x:kt.den)(v:β)(l:List (kt.den×β)):List (kt.den×β):=
 match fA kt x l with | some i=>l.set i (x,v) | none=>l++ [(x,v)]
def jx{β:Type}(kt:Ty)(x:kt.den)(l:List (kt.den×β)):List (kt.den×β):=
 match fA kt x l with | some i=>l.eraseIdx i | none=>l
def DS(k v k' v':Ty)(l:List (k.den×v.den)):Option (List (k'.den×v'.den)):=if h:k=k'/\v=v' then some (h.1▸h.2▸l) else none
def AS.lC(s:AS)(id:Id)(ver:Nat)(kt vt:Ty):Out (List (kt.den×vt.den)):=
 match s.obj id with
 |some (v,_,.mp k' v' l)=> .guard (v==ver) (Out.opt (DS k' v' kt vt l))
 |_=> .fail
def AS.lK(s:AS)(id:Id):Bool:=match s.obj id with | some (_,fr,_)=> !fr | none=>false
def KJ(vt:Ty)(ok:Bool)(r:Option vt.den):ao:=
 match ok with
 |true=> .cons (.d vt (r.getD vt.zero)) (.cons (.d .bool r.isSome) .nil)
 |false=> .d vt (r.getD vt.zero)
def qS(P:Program)(s:AS)(dst:Option Tmp)(T:TypeId):Out AS:=
 match mapOf P T,dst with
 |some (_,_,kt,vt),some q=> .guard (s.dd q) (.ok ((s.born q [.obj 0 false (.mp kt vt [])]).put dst (.kT (.new q 0) 0)))
 |_,_=> .fail
def pP(P:Program)(s:AS)(T:TypeId)(m k:ao)(ok:Bool):Out ao:=
 match mapOf P T,m with
 |some (_,_,kt,vt),.kT id ver=>(s.lC id ver kt vt).bind λl=>(j6 kt k).bind λk=> .ok (KJ vt ok (du kt k l))
 |_,_=> .fail
def pT(P:Program)(s:AS)(T:TypeId)(m k v:ao):Out AS:=
 match mapOf P T,m with
 |some (_,_,kt,vt),.kT id ver=>(s.lC id ver kt vt).bind λl=>(j6 kt k).bind λk=>(j6 vt v).bind λv=> .guard (s.lK id) (.ok (s.aD id (.obj ver false (.mp kt vt (gE kt k v l)))))
 |_,_=> .fail
def pS(P:Program)(s:AS)(T:TypeId)(m k:ao):Out AS:=
 match mapOf P T,m with
 |some (_,_,kt,vt),.kT id ver=>(s.lC id ver kt vt).bind λl=>(j6 kt k).bind λk=> .guard (s.lK id) (.ok (s.aD id (.obj ver false (.mp kt vt (jx kt k l)))))
 |_,_=> .fail
def AS.CD(s:AS)(id:Id)(ver:Nat):Bool:=match s.obj id with | some (v,true,.mp ..)=>v==ver | _=>false
def c7.HY(q:Id):c7->Bool
 | .obj _ _ (.la q' ver _ _ _ _)=>decide (q'=q) && !(ver==0)
 |_=>false
def AS.yw(s:AS)(q:Id):Bool:=s.bP.any (c7.HY q) || s.news.any λes=>es.any (c7.HY q)
def Bh(kt vt:Ty)(l:List (kt.den×vt.den))(j:Nat):kt.den×vt.den:=l.getD j (kt.zero,vt.zero)
def ED(P:Program)(s:AS)(dst:Option Tmp)(T:TypeId)(m:ao):Out AS:=
 match mapOf P T,m,dst with
 |some (_,_,kt,vt),.kT id ver,some q=>(s.lC id ver kt vt).bind λl=> .guard (s.lK id && s.dd q)
   (.ok (((s.aD id (.obj ver true (.mp kt vt l))).born q [.obj 0 false (.la id (ver+1) kt vt l none)]).put dst (.ptr (.new q 0) 0 [] 0)))
 |_,_,_=> .fail
structure FH where
 i:Id
 v:Nat
 fr:Bool
 q:Id
 vr:Nat
 kt:Ty
 vt:Ty
 rest:List (kt.den×vt.den)
 cur:Option (kt.den×vt.den)
def AS.HX(s:AS)(x:ao):Option FH:=
 match x with
 | .ptr i ver [] 0=>match s.obj i with
  |some (v,fr,.la q (vr+1) kt vt rest cur)=>match v==ver,s.CD q vr with
   |true,true=>some ⟨i,v,fr,q,vr,kt,vt,rest,cur⟩
   |_,_=>none
  |_=>none
 |_=>none
def D1(s:AS)(x:ao):Out ao:=
 match s.HX x with
 |some ⟨_,_,_,_,_,kt,vt,_,some c⟩=> .ok (.cons (.d kt c.1) (.cons (.d vt c.2) .nil))
 |_=> .fail
def AS.drawn(s:AS)(t:FH)(dst:Option Tmp)(j:Nat):AS:=
 (s.aD t.i (.obj t.v t.fr (.la t.q (t.vr+1) t.kt t.vt (t.rest.eraseIdx j) (some (Bh t.kt t.vt t.rest j))))).put dst
  (.cons (.d .bool true) (.cons (.d t.kt (Bh t.kt t.vt t.rest j).1) (.cons (.d t.vt (Bh t.kt t.vt t.rest j).2) .nil)))
def AS.unlock(s:AS)(id:Id):AS:=match s.obj id with | some (v,_,c)=>s.aD id (.obj v false c) | none=>s
def AS.JU(s:AS)(t:FH)(dst:Option Tmp):Option AS:=
 match(s.aD t.i (.obj t.v t.fr (.la t.q 0 t.kt t.vt [] none))).yw t.q with
 |false=>some (((s.aD t.i (.obj t.v t.fr (.la t.q 0 t.kt t.vt [] none))).unlock t.q).put dst (.cons (.d .bool false) .nil))
 |true=>none
open Classical in
def Pp{R:Type}(n:Nat)(k:Nat->Option R):Option R:=if h:∃r,0 < n/\∀j,j < n->k j=some r then some h.choose else none
open Classical in
def Lh{X R:Type}(S:X->Prop)(k:X->Option R):Option R:=if h:∃r,(∃x,S x)/\∀x,S x->k x=some r then some h.choose else none
def Ij{R:Type}(s:AS)(dst:Option Tmp)(t:FH)(k:AS->Option R):Option R:=
 aO (decide (0 < t.rest.length)) (Pp t.rest.length λj=>k (s.drawn t dst j)) (match s.JU t dst with | some s'=>k s' | none=>none)
def yB:Nat:=4294967296
def j4(P:Program)(Γ:mU)(bk:List Nat)(o:Oper)(s:AS):Out AS:=
 match o.op with
 | .move x=> .ok (s.put o.dst (s.ev x))
 | .assign x=> .ok (s.put o.dst (s.ev x))
 | .pick c a b=>(Fz (s.ev c) (s.ev a) (s.ev b)).bind λv=> .ok (s.put o.dst v)
 | .alloc T=>match zeroOf P depth T,o.dst with
  |some z,some q=> .guard (s.dd q && By P T z) (.ok ((s.born q [.obj 0 false (boxed P T z)]).put o.dst (.ptr (.new q 0) 0 [] 0)))
  |_,_=> .fail
 | .box T x=>BS P s (isObj bk o.dst) (Ej bk o.dst) o.dst T (s.ev x)
 | .build T parts=>qD P s o.dst T parts.toList
 | .buildSlice T n parts=>iJ P s (Gm bk o.dst) (isObj bk o.dst) o.dst T n parts.toList
 | .load T x=>(tW P s T (s.ev x)).bind λv=> .ok (s.put o.dst v)
 | .store T x v=>(rh P s T (s.ev x) (s.ev v)).bind λs'=> .ok (s'.put o.dst .undef)
 | .nilCheck x=>match s.ev x with
  | .ptr id v p n=> .ok (s.put o.dst (.ptr id v p n))
  | .eW t y=> .ok (s.put o.dst (.eW t y))
  | .d (.lu t) y=> .get (y:Option t.den) λy=> .ok (s.put o.dst (.eW t y))
  | .fn f c=> .ok (s.put o.dst (.fn f c))
  |_=> .fail
 | .binOp op T x y _=>match s.ev x,s.ev y with
  | .ptr i v [] 0,.ptr j w [] 0=>(MI P s T op i v j w).bind λv=> .ok (s.put o.dst v)
  |_,_=>(K7 P T op (s.ev x) (s.ev y)).bind λv=> .ok (s.put o.dst v)
 | .unOp op _ x=>(O2 op (s.ev x)).bind λv=> .ok (s.put o.dst v)
 | .convert src dst x=>match src==dst,s.ev x with
  |true,.cv id ver [] 0 0 len=>B1 P s o.dst src dst id ver len
  |_,.ptr id ver [] 0=>(zN P s src dst id ver).bind λv=> .ok (s.put o.dst v)
  |_,_=>(zM P s (isObj bk o.dst) src dst (s.ev x)).bind λv=> .ok (s.put o.dst v)
 | .sliceToArrayPointer T x=>tn P s o.dst T (s.ev x)
 | .makeFunc (.func f) first caps=> .guard (first.isEmpty && nY (kH s caps.toList)) (.ok (s.put o.dst (.fn f (kH s caps.toList))))
 | .makeSlice T l c=>(asInt (s.ev l)).bind λl=>(asInt (s.ev c)).bind λc=>kS P s o.dst T l c
 | .slice T x lo hi none=>(re P s T (s.ev x) lo hi).bind λv=> .ok (s.put o.dst v)
 | .slice T x lo (some h) (some m)=>(uG P s T (s.ev x) lo h m).bind λv=> .ok (s.put o.dst v)
 | .fieldAddr T x f=>(pL P T (s.ev x) f).bind λv=> .ok (s.put o.dst v)
 | .field T x f=>(AW P T (s.ev x) f).bind λv=> .ok (s.put o.dst v)
 | .indexAddr T x i=>(asInt (s.ev i)).bind λi=>(kO P s T (s.ev x) i).bind λv=> .ok (s.put o.dst v)
 | .index T x i=>(asInt (s.ev i)).bind λi=>(A8 P T (s.ev x) i).bind λv=> .ok (s.put o.dst v)
 | .extract x i=>(Out.opt ((s.ev x).list[i]?)).bind λv=> .ok (s.put o.dst v)
 | .makeMap T none=>qS P s o.dst T
 | .lookup T x i ok=>(pP P s T (s.ev x) (s.ev i) ok).bind λv=> .ok (s.put o.dst v)
 | .mapUpdate T m k x=>(pT P s T (s.ev m) (s.ev k) (s.ev x)).bind λs'=> .ok (s'.put o.dst .undef)
 | .call c=>match c.callee with
  | .builtin .delete=>match c.args.toList,c.argTypes.toList with
   |[m,k],[T,_]=>(pS P s T (s.ev m) (s.ev k)).bind λs'=> .ok (s'.put o.dst .nil)
   |_,_=> .fail
  | .builtin .copy=>match c.args.toList,c.argTypes.toList with
   |[x,y],[T,X]=>xp P s o.dst T X (s.ev x) (s.ev y)
   |_,_=> .fail
  | .builtin .len=>match c.args.toList,c.argTypes.toList with
   |[x],[T]=>(JJ P T (s.ev x)).bind λv=> .ok (s.put o.dst v)
   |_,_=> .fail
  | .builtin .append=>match c.args.toList,c.argTypes.toList with
   |[x,y],[T,X]=>match s.ev x,s.ev y with
    | .c6,.d (.int _) n=>Cl P s o.dst T X n
    |_,_=>nu P s (Gm bk o.dst) (Ej bk o.dst) o.dst T X (s.ev x) (s.ev y)
   |_,_=> .fail
  | .builtin .cap=>match c.args.toList,c.argTypes.toList with
   |[x],[T]=>match s.ev x,P.underlying T with
    | .c6,some (.slice _)=> .ok (s.put o.dst (.d (.int .i64) (0:Int)))
    |_,_=> .fail
   |_,_=> .fail
  | .builtin .max=>(Gs true (c.args.toList.map s.ev)).bind λv=> .ok (s.put o.dst v)
  | .builtin .min=>(Gs false (c.args.toList.map s.ev)).bind λv=> .ok (s.put o.dst v)
  | .builtin .unsafeSliceData=>match c.args.toList with
   |[x]=>match s.ev x with
    | .cv id ver [] 0 0 len=> .lN (decide (0 < len)) (.ok (s.put o.dst (.ptr id ver [.idx 0] 0)))
    |_=> .fail
   |_=> .fail
  | .builtin .unsafeString=>match c.args.toList,c.argTypes.toList with
   |[x,y],[T,_]=>match s.ev x,s.ev y with
    | .ptr id ver [.idx 0] 0,.d (.int .i64) n=>Dm P s o.dst T id ver n
    |_,_=> .fail
   |_,_=> .fail
  | .value f=>match s.ev f with
   | .fn f caps=>match Γ f (c.args.toList.map s.ev++caps.list) with
    |some en=> .guard (Nat.blt f yB) (s.call en o.dst (c.args.toList.map s.ev++caps.list))
    |none=> .fail
   |_=> .fail
  |_=> .fail
 |_=> .fail
def w8(xs:Array Operand):List Nat:=xs.toList.filterMap λ | .tmp t=>some t | _=>none
def vc(ops:Array Oper)(o:Oper):List Nat:=
 match o.guard with
 |some (j,_)=>match(ops[j]?).bind (·.dst) with | some t=> [t] | none=> []
 |none=> []
def Js{R:Type}(P:Program)(Γ:mU)(bk:List Nat)(ops:Array Oper)(o:Oper)(s:AS)(k:AS->Option R):Option R:=
 match o.guard with
 |none=>(j4 P Γ bk o s).run k
 |some (j,want)=>match(ops[j]?).bind (·.dst) with
  |some q=>match s.slot q with
   | .d .bool b=>match want with
    |true=>aO b ((j4 P Γ bk o (s.put (some q) (.d .bool true))).run k) (k ((s.put (some q) (.d .bool false)).put o.dst .nil))
    |false=>aO b (k ((s.put (some q) (.d .bool true)).put o.dst .nil)) ((j4 P Γ bk o (s.put (some q) (.d .bool false))).run k)
   | .nil=>k (s.put o.dst .nil)
   |_=>none
  |none=>none
def yq(s:AS)(x y:Operand):Option Nat:=
 match s.ev x,s.ev y with
 | .d (.slice t) l,.c6=>some (l:List t.den).length
 | .c6,.d (.slice t) l=>some (l:List t.den).length
 | .cv _ _ _ _ _ len,.c6=>some len
 | .c6,.cv _ _ _ _ _ len=>some len
 |_,_=>none
open Classical in
def nd{R:Type}(x y:Option R):Option R:=if x=y then x else none
def wy:Code->List (Array Tmp×Code×Code)
 | .seq a b=>wy a++wy b
 | .cond _ a b=>wy a++wy b
 | .block _ b=>wy b
 | .scope b=>wy b
 | .loop b=>wy b
 | .rangeFunc _ ps as b=> [(ps,as,b)]
 |_=> []
def Qz(fn:Func)(i y:Nat):lU:=match fn.body with
 |some c=>match(wy c)[i]? with
  |some x=>⟨y,x.1,x.2.1,x.2.2⟩
  |none=>⟨y,#[],.skip,.skip⟩
 |none=>⟨y,#[],.skip,.skip⟩
def qb(P:Program)(y:Nat):lU:=match P.funcs[y%yB / 16]? with
 |some fn=>Qz fn (y%16) y
 |none=>⟨y,#[],.skip,.skip⟩
open Classical in
def same{R:Type}(c c':lU)(x:Option R):Option R:=if c=c' then x else none
def AS.yielded(s:AS)(F:ao)(n:Nat):Option (Id×Nat×lU×ao):=
 match F with
 | .yl id ver=>match s.obj id with
  |some (v,false,.mV c f 0)=>match v==ver && n==c.ps.size && Nat.ble yB c.y with
   |true=>some (id,ver,c,f)
   |false=>none
  |_=>none
 |_=>none
def Jt{R:Type}(P:Program)(Γ:mU)(bk:List Nat)(ops:Array Oper)(o:Oper)(s:AS)(k:AS->Option R):Option R:=
 match o.guard,o.op with
 |none,.binOp .eql T x y _=>match yq s x y,oQ.isSl P T with
  |some n,true=>aO (decide (0 < n)) (k (s.put o.dst (.d .bool false))) (nd (k (s.put o.dst (.d .bool true))) (k (s.put o.dst (.d .bool false))))
  |_,_=>Js P Γ bk ops o s k
 |none,.binOp .neq T x y _=>match yq s x y,oQ.isSl P T with
  |some n,true=>aO (decide (0 < n)) (k (s.put o.dst (.d .bool true))) (nd (k (s.put o.dst (.d .bool true))) (k (s.put o.dst (.d .bool false))))
  |_,_=>Js P Γ bk ops o s k
 |none,.range T m=>(ED P s o.dst T (s.ev m)).run k
 |none,.entry x=>((D1 s (s.ev x)).bind λv=> .ok (s.put o.dst v)).run k
 |none,.next x false=>match s.HX (s.ev x) with
  |some t=>Ij s o.dst t k
  |none=>none
 |none,.call c=>match c.callee with
  | .value F=>match s.yielded (s.ev F) c.args.size with
   |some (id,ver,rc,f)=>match Γ rc.y (.yl id ver::(c.args.toList.map s.ev++f.list)) with
    |some en=>same rc (qb P rc.y) ((s.call en o.dst (.yl id ver::(c.args.toList.map s.ev++f.list))).run k)
    |none=>none
   |none=>Js P Γ bk ops o s k
  |_=>Js P Γ bk ops o s k
 |_,_=>Js P Γ bk ops o s k
def seen{α R:Type}(l:List α):(List α->R)->R:=List.rec (motive:=λ_=>(List α->R)->R) (λk=>k []) (λx _ ih k=>ih λl'=>k (x::l')) l
theorem uB{α R:Type}:∀(l:List α) (k:List α->R),seen l k=k l
 |[],_=>rfl
 |_::l,k=>uB l _
def AS.seen{R:Type}(s:AS)(k:AS->R):R:=Go.Ab.seen s.bK λl=>k ⟨l,s.bP,s.news⟩
theorem AS.uB{R:Type}(s:AS)(k:AS->R):s.seen k=k s:=Go.Ab.uB _ _
def Ju{R:Type}(P:Program)(Γ:mU)(bk:List Nat)(ops:Array Oper):List Oper->AS->(AS->Option R)->Option R
 |[],s,k=>k s
 |o::l,s,k=>Jt P Γ bk ops o s λs'=>s'.seen λs'=>Ju P Γ bk ops l s' k
def AL(acc:List Nat)(o:Oper):Nat:=(o.after.toList.filter (Region.binds .any)).foldr (λe m=>Nat.lor (Nat.lor (Nat.pow 2 e.on) (acc.getD e.on 0)) m) 0
def BN(ops:List Oper):List Nat:=ops.foldl (λacc o=>acc++ [AL acc o]) []
structure qv where
 dst:Option Tmp
 bK:List Nat
 rs:List Id
 ws:List Id
def Aj:Op->Bool
 | .move _=>true
 |_=>false
def CT(s:AS)(o:Oper):List Id:=match Aj o.op with | true=> [] | false=>(w8 o.op.operands).flatMap λi=>(s.slot i).ids
def mj:List (Option Ty)->List ao->List Id
 |none::ps,v::vs=>v.ids++mj ps vs
 |some _::ps,_::vs=>mj ps vs
 |_,_=> []
def writes(Γ:mU)(s:AS)(o:Oper):List Id:=
 match o.op with
 | .store _ x _=>(s.ev x).ids
 | .mapUpdate _ m _ _=>(s.ev m).ids
 | .convert src dst x=>match src==dst with | true=>(s.ev x).ids | false=> []
 | .call c=>match c.callee with
  | .builtin .append=>match c.args.toList with | x::_=>(s.ev x).ids | []=> []
  | .builtin .delete=>match c.args.toList with | x::_=>(s.ev x).ids | []=> []
  | .builtin .copy=>match c.args.toList with | x::_=>(s.ev x).ids | []=> []
  | .builtin .unsafeString=>match c.args.toList with | x::_=>(s.ev x).ids | []=> []
  | .value F=>match s.ev F with
   | .fn f caps=>match Γ f (c.args.toList.map s.ev++caps.list) with
    |some en=>s.reach 64 (mj en.params (c.args.toList.map s.ev++caps.list)) []
    |none=> []
   |_=> []
  |_=> []
 |_=> []
def eZ(Γ:mU)(ops:Array Oper)(s:AS)(o:Oper):qv:=
 {dst:=o.dst,bK:=w8 o.op.operands++vc ops o,rs:=CT s o++writes Γ s o,ws:=writes Γ s o}
def meets(xs ys:List Id):Bool:=xs.any λx=>ys.any λy=>decide (x=y)
def qv.NO(f g:qv):Bool:=
 match f.dst with
 |some t=>(g.bK.any λx=>decide (x=t)) || decide (g.dst=some t)
 |none=>false
def yI(d:Option Tmp)(ids:List Id):Bool:=
 match d with
 |some q=>ids.any λx=>match x with | .new i _=>decide (i=q) | .c8 _=>false
 |none=>false
def qv.indep(f g:qv):Bool:= !f.NO g && !g.NO f && !meets f.ws g.rs && !meets g.ws f.rs && !yI f.dst g.rs && !yI g.dst f.rs
def zY{R:Type}(P:Program)(Γ:mU)(bk:List Nat)(ops:Array Oper)(anc:List Nat):Nat->List Oper->List (Nat×qv)->AS->(AS->Option R)->Option R
 |_,[],_,s,k=>k s
 |i,o::l,fs,s,k=>
  match fs.all λx=>(anc.getD i 0).testBit x.1 || x.2.indep (eZ Γ ops s o) with
  |true=>Js P Γ bk ops o s λs'=>s'.seen λs'=>zY P Γ bk ops anc (i+1) l ((i,eZ Γ ops s o)::fs) s' k
  |false=>none
def AQ(ops:List Oper):Bool:=ops.zipIdx.all λx=>x.1.after.toList.all λe=> !Region.binds .any e || decide (e.on < x.2)
structure Jc where
 j:Nat
 p:List rN
 q:Nat
 T:TypeId
structure OG where
 j:Nat
 p:List rN
 t:Ty
structure jP where
 bI:List Nat:=[]
 sites:List Nat:=[]
 D8:List Id:=[]
 data:List (Nat×Ty):=[]
 owns:List Jc:=[]
 DY:List OG:=[]
 Rc:List Nat:=[]
 Nf:List Id:=[]
 Rl:List Nat:=[]
 Sh:List Nat:=[]
 K8:List (Nat×Nat):=[]
structure eS where
 X:Type
 run:AS->Option X
 out:X->Out (Exit×AS)
 set:Option (AS->X->Prop):=none
structure FI where
 an:jP
 X:Type
 OY:Exit->AS->Option X
 out:X->Out (Exit×AS)
 ok:∀e s x,OY e s=some x->(out x).eval=some (e,s)
structure rZ where
 bk:List Nat:=[]
 loops:Nat->jP:=λ_=> {}
 outs:Nat->Bool->jP:=λ_ _=> {}
 jK:Nat->Option eS:=λ_=>none
 owns:List Jc:=[]
 trim:List Nat:=[]
 res:List (Option Ty):=[]
 DY:List OG:=[]
 Oh:Nat->Option FI:=λ_=>none
 Oi:Nat->Option FI:=λ_=>none
 rf:Nat->Option (Nat×List Nat):=λ_=>none
 nN:Option Nat:=none
 K8:List (Nat×Nat):=[]
def de:Code->Nat
 | .region id _ _=>id
 | .seq a _=>de a
 | .block _ b=>de b
 | .loop b=>de b
 | .scope b=>de b
 |_=>0
def dw(bI:List Nat):Nat->List ao->List ao
 |_,[]=> []
 |i,v::vs=>(match bI.any (λx=>decide (x=i)) with | true=>v | false=> .undef)::dw bI (i+1) vs
def jk(bI:List Nat):Nat->List (List c7)->List (List c7)
 |_,[]=> []
 |i,v::vs=>(match bI.any (λx=>decide (x=i)) with | true=>v | false=> [])::jk bI (i+1) vs
def ao.head:ao->Option (Id×Nat)
 | .cv id ver [] 0 0 _=>some (id,ver)
 | .ptr id ver [] 0=>some (id,ver)
 |_=>none
def uq(es:List c7)(b q:Nat)(i:Id)(ver:Nat):Option (Id×Nat):=
 match i with
 | .c8 k=>some (.c8 k,ver)
 | .new x j=>match decide (x=b) with
  |true=>(match es[j]? with | some (.obj v _ _)=>(match ver==v with | true=>some (.new q j,0) | false=>none) | _=>none)
  |false=>(match decide (x=q) with | true=>none | false=>some (.new x j,ver))
def c7.JZ(ρ:Id->Nat->Option (Id×Nat)):c7->c7
 | .obj _ fr c=> .obj 0 fr (c.fE ρ)
 | .dead=> .dead
def ao.Mo(ρ:Id->Nat->Option (Id×Nat))(kp:Id->Bool):ao->ao
 | .la q ver k v rest cur=>match kp q with | true=> .la q ver k v rest cur | false=> .la q 0 k v rest cur
 |c=>c.fE ρ
def c7.zt(ρ:Id->Nat->Option (Id×Nat))(kp:Id->Bool):c7->c7
 | .obj v fr c=> .obj v fr (c.Mo ρ kp)
 | .dead=> .dead
def rD(b q:Nat):Id->Bool | .c8 _=>true | .new x _=> !decide (x=b) && !decide (x=q)
def AS.qZ(s:AS)(b q:Nat)(es:List c7):AS:=
 {bK:=s.bK.map (ao.fE (uq es b q)),bP:=s.bP.map (c7.zt (uq es b q) (rD b q)),
  news:=((s.news.map λes'=>es'.map (c7.zt (uq es b q) (rD b q))).set b []).set q (es.map (c7.JZ (uq es b q)))}
def AS.at(s:AS)(j:Nat):List rN->Out ao
 |[]=> .ok (s.slot j)
 |p=>match s.slot j with
  | .ptr id ver p0 _=>match s.obj id with
   |some (v,_,c)=> .guard (v==ver) ((loc c.strip (p0++p)).bind λr=> .ok r.2)
   |none=> .fail
  |_=> .fail
def AS.putAt(s:AS)(j:Nat)(v:ao):List rN->Out AS
 |[]=> .ok (s.put (some j) v)
 |p=>match s.slot j with
  | .ptr id _ p0 _=>match s.obj id with
   |some (ver,fr,c)=>match c.strip with
    | .vec .. => .fail
    |c1=>(ns c1 (p0++p) v).bind λc'=> .ok (s.aD id (.obj ver fr (c.wrap c')))
   |none=> .fail
  |_=> .fail
def AS.still(s:AS):List Nat->AS
 |[]=>s
 |q::l=>(match s.obj (.new q 0) with | some (v,fr,.la i ver k t r _)=>s.aD (.new q 0) (.obj v fr (.la i ver k t r none)) | _=>s).still l
def Iq(α:Type):Setoid (List α):=⟨List.Perm,jA,List.Perm.symm,List.Perm.trans⟩
def DR{α:Type}(l:List α):List α:=(Quotient.exists_rep (Quotient.mk (Iq α) l)).choose
def AS.canon(s:AS):List Id->AS
 |[]=>s
 |id::l=>(match s.obj id with | some (v,fr,.mp k t r)=>s.aD id (.obj v fr (.mp k t (DR r))) | _=>s).canon l
def vU(s:AS):List OG->Out AS
 |[]=> .ok s
 |o::l=>match o.p,s.slot o.j with
  |_::_,.kY=>vU s l
  |_,_=>(s.at o.j o.p).bind λu=>(s.fK o.t u).bind λx=>((s.aP u.shared).putAt o.j (.d o.t x) o.p).bind λs'=>vU s' l
def tI:(t:Ty)->t.den->Out ao
 | .fm t,x=> .lN (x:Option (List t.den)).isNone (.ok .c6)
 | .pair a b,x=>(tI a x.1).bind λu=>(tI b x.2).bind λv=> .ok (ua u v)
 |t,x=> .ok (.d t x)
def F6(s:AS):List Nat->Out AS
 |[]=> .ok s
 |j::l=>match s.slot j with
  | .ptr id ver (.idx k::p) n=>match s.obj id with
   |some (v,false,.vec e t r)=> .guard (v==ver) (.lN (decide (k < r.length)) ((tI t (nth t r k)).bind λu=>
     F6 ((s.aD id (.obj v false (.bx e t.size (.pr (.d (.arr k t) (r.take k)) (.pr u (.d (.arr (r.drop (k+1)).length t) (r.drop (k+1)))))))).put (some j) (.ptr id ver (.snd:: .fst::p) n)) l))
   |_=> .fail
  | .ptr _ _ (.snd::_) _=>F6 s l
  |_=> .fail
def IN(s:AS):List Nat->Out AS
 |[]=> .ok s
 |j::l=>match s.slot j with
  | .ptr id ver (.snd:: .fst::p) n=>match s.obj id with
   |some (v,false,.bx e z (.pr (.d (.arr k t) l1) (.pr u (.d (.arr _ t') l2))))=> .guard ((v==ver) && (z==t.size) && !(z==0) && !(u.shared.any λi=>decide (i=id)))
     ((Out.opt (lW (.slice t') (.slice t) l2)).bind λl2=>(s.fK t u).bind λx=>
      IN (((s.aP u.shared).aD id (.obj v false (.vec e t (l1++x::l2)))).put (some j) (.ptr id ver (.idx k::p) n)) l)
   |_=> .fail
  |_=> .fail
def nM(P:Program)(s:AS):List Jc->Out AS
 |[]=> .ok s
 |o::l=>match o.p,s.slot o.j with
  |_::_,.kY=>nM P s l
  |_,_=>(s.at o.j o.p).bind λu=>match u with
  | .c6=>match AR P o.T,s.dd o.q with
   |some (e,t,_),true=>((s.born o.q [.obj 0 false (.vec e t [])]).putAt o.j (.cv (.new o.q 0) 0 [] 0 0 0) o.p).bind λs'=>nM P s' l
   |_,_=> .fail
  |u=>match u.head with
   |some (.new b j,ver)=>match s.obj (.new b j),decide (o.q < s.news.length) with
    |some (v,_,_),true=>match v==ver with
     |true=>nM P (s.qZ b o.q (s.news.getD b [])) l
     |false=> .fail
    |_,_=> .fail
   |_=> .fail
def AA(s:AS):List Nat->Out AS
 |[]=> .ok s
 |j::l=>match s.slot j with
  | .cv id ver [] 0 0 len=>match s.obj id with
   |some (v,false,.vec e t r)=>match v==ver with
    |true=> .lN (decide (len<=r.length)) (AA (s.aD id (.obj v false (.vec e t (r.take len)))) l)
    |false=> .fail
   |_=> .fail
  |_=> .fail
def asData(s:AS):List (Nat×Ty)->Out AS
 |[]=> .ok s
 | (j,t)::l=>(s.fK t (s.slot j)).bind λx=>asData ((s.aP (s.slot j).shared).put (some j) (.d t x)) l
def ao.there(s:AS):ao->Bool
 | .ptr id _ _ _=>(s.obj id).isSome
 | .cv id _ _ _ _ _=>(s.obj id).isSome
 | .pr a b=>a.there s && b.there s
 | .cons a b=>a.there s && b.there s
 | .fn _ c=>c.there s
 | .bx _ _ c=>c.there s
 | .kT id _=>(s.obj id).isSome
 | .yl id _=>(s.obj id).isSome
 | .mV _ f _=>f.there s
 | .la .. =>false
 |_=>true
def c7.there(s:AS):c7->Bool
 | .obj _ _ (.la id _ _ _ _ _)=>(s.obj id).isSome
 | .obj _ _ c=>c.there s
 | .dead=>true
def tS(an:jP)(s:AS):AS:= {bK:=dw an.bI 0 s.bK,bP:=s.bP,news:=jk an.sites 0 s.news}
def AS.BK(s:AS):Bool:=(s.bK.all (ao.there s)) && (s.bP.all (c7.there s)) && (s.news.all λes=>es.all (c7.there s))
def my(k v n:Nat)(i:Id)(ver:Nat):Option (Id×Nat):=match i with
 | .c8 j=>match Nat.beq j k with
  |true=>match Nat.beq ver v with | true=>some (.c8 j,n) | false=>none
  |false=>some (.c8 j,ver)
 |i=>some (i,ver)
def c7.EH(ρ:Id->Nat->Option (Id×Nat)):c7->c7
 | .obj v fr c=> .obj v fr (c.fE ρ)
 | .dead=> .dead
def AS.Hp(s:AS)(k n:Nat):Out AS:=match s.bA (.c8 k) with
 |some (.obj v fr c)=> .guard (Nat.ble v n || Nat.ble 1 n) (.ok {bK:=s.bK.map (ao.fE (my k v n)),bP:=(s.bP.map (c7.EH (my k v n))).set k (.obj n fr (c.fE (my k v n))),news:=s.news.map λes=>es.map (c7.EH (my k v n))})
 |_=> .fail
def BW(s:AS):List (Nat×Nat)->Out AS
 |[]=> .ok s
 |x::l=>(s.Hp x.1 x.2).bind λs=>BW s l
def norm(P:Program)(an:jP)(s:AS):Out AS:=
 (BW s an.K8).bind λs=>(IN (((s.aP an.D8).still an.Rc).canon an.Nf) an.Sh).bind λs=>(vU s an.DY).bind λs=>(asData s an.data).bind λs=> .guard (tS an s).BK ((F6 (tS an s) an.Rl).bind λs=>nM P s an.owns)
def wc{R:Type}(nrm:AS->Out AS)(nrmX:Exit->AS->Out AS)(body:AS->(Exit->AS->Option R)->Option R):Nat->AS->(Exit->AS->Option R)->Option R
 | 0,_,_=>none
 |n+1,s,k=>body s λe s'=>match e with
  | .normal=>(nrm s').run λs1=>wc nrm nrmX body n s1 k
  |e=>(nrmX e s').run (k e)
def Cw:Exit->Bool | .ret=>true | _=>false
def IT{R:Type}(le:eS)(s:AS)(k:Exit->AS->Option R):Option R:=
 match le.set with
 |none=>aA (le.run s) λx=>(le.out x).run λr=>k r.1 r.2
 |some S=>Lh (S s) λx=>(le.out x).run λr=>k r.1 r.2
def vj{R:Type}(P:Program)(j:Option FI)(run: {R:Type}->(Exit->AS->Option R)->Option R)(k:Exit->AS->Option R):Option R:=
 match j with
 |none=>run k
 |some j=>aA (run λe s=>(norm P j.an s).run (j.OY e)) λx=>(j.out x).run λr=>k r.1 r.2
def oa:List ao->ao
 |[]=> .nil
 |a::l=> .cons a (oa l)
def C5(P:Program)(h:FuncId):Bool:=match P.funcs[h]? with
 |some fn=> !(fn.name== "runtime.NumGoroutine") && fn.body.isSome
 |none=>false
def pZ{R:Type}(P:Program)(Γ:mU)(an:rZ)(s:AS)(f:Operand)(ps:Array Tmp)(as b:Code)(k:Exit->AS->Option R):Option R:=
 match an.nN,an.rf (ps.getD 0 0),s.ev f with
 |none,some (y,bI),.fn h caps=>match C5 P h && s.dd (ps.getD 0 0) && Nat.blt (ps.getD 0 0) s.bK.length && Nat.blt h yB,Γ h (.yl (.new (ps.getD 0 0) 0) 0::caps.list) with
  |true,some en=>(((s.born (ps.getD 0 0) [.obj 0 false (.mV ⟨y,ps,as,b⟩ (oa (dw bI 0 s.bK)) 0)]).put (some (ps.getD 0 0)) (.yl (.new (ps.getD 0 0) 0) 0)).call en none (.yl (.new (ps.getD 0 0) 0) 0::caps.list)).run λs3=>
   match s3.bA (.new (ps.getD 0 0) 0),s3.slot (ps.getD 0 0) with
   |some (.obj 0 false (.mV _ _ p)),.yl (.new q' 0) 0=>match Nat.beq q' (ps.getD 0 0),p with
    |true,0=>k .normal ((s3.aD (.new (ps.getD 0 0) 0) .dead).put (some (ps.getD 0 0)) .undef)
    |true,2=>k .ret ((s3.aD (.new (ps.getD 0 0) 0) .dead).put (some (ps.getD 0 0)) .undef)
    |true,i+3=>k (.exit i) ((s3.aD (.new (ps.getD 0 0) 0) .dead).put (some (ps.getD 0 0)) .undef)
    |_,_=>none
   |_,_=>none
  |_,_=>none
 |_,_,_=>none
def ev(P:Program)(Γ:mU)(an:rZ)(N:Nat):Code-> {R:Type}->AS->(Exit->AS->Option R)->Option R
 | .skip,_,s,k=>k .normal s
 | .region id ops draw,_,s,k=>vj P (an.Oh id) (λk=>match draw with
  |true=>(match AQ ops.toList with
   |true=>zY P Γ an.bk ops (BN ops.toList) 0 ops.toList [] s λs'=>k .normal s'
   |false=>none)
  |false=>Ju P Γ an.bk ops ops.toList s λs'=>k .normal s') k
 | .seq a b,_,s,k=>vj P (an.Oi (de b)) (λk=>ev P Γ an N a s k) λe s'=>match e with | .normal=>ev P Γ an N b s' k | e=>k e s'
 | .cond c x y,_,s,k=>match s.ev c with
  | .d .bool b=>aO b (ev P Γ an N x s k) (ev P Γ an N y s k)
  |_=>none
 | .block id b,_,s,k=>ev P Γ an N b s λe s'=>match e with | .exit i=>(match decide (i=id) with | true=>k .normal s' | false=>k (.exit i) s') | e=>k e s'
 | .loop b,_,s,k=>(norm P (an.loops (de b)) s).run λs1=>match an.jK (de b) with
  |some le=>IT le s1 k
  |none=>wc (norm P (an.loops (de b))) (λe=>norm P (an.outs (de b) (Cw e))) (ev P Γ an N b) N s1 k
 | .scope b,_,s,k=>ev P Γ an N b s λe s'=>match e with | .goto _=>none | e=>k e s'
 | .label _,_,s,k=>k .normal s
 | .exit id,_,s,k=>k (.exit id) s
 | .ret,_,s,k=>k .ret s
 | .rangeFunc f ps as b,_,s,k=>pZ P Γ an s f ps as b k
 |_,_,_,_=>none
def yA(P:Program)(s:AS):ResultVar->Out ao
 | .tmp t=> .ok (s.slot t)
 | .cell a T=>tW P s T (s.slot a)
def yz(P:Program)(s:AS)(r:ResultVar):Option Ty->Out (AS×ao)
 |none=>(yA P s r).bind λv=> .ok (s,v)
 |some t=>(yA P s r).bind λv=>(s.fK t v).bind λx=> .ok (s.aP v.shared,.d t x)
def uv(P:Program)(s:AS):List ResultVar->List (Option Ty)->Out (AS×ao)
 |[],_=> .ok (s,.nil)
 |r::rs,ts=>(yz P s r (ts.headD none)).bind λx=> .guard x.2.dC ((uv P x.1 rs ts.tail).bind λy=> .ok (y.1,.cons x.2 y.2))
def Bl(P:Program)(fn:Func)(ts:List (Option Ty))(s:AS):Out (AS×ao):=
 match fn.results.toList with
 |[r]=>yz P s r (ts.headD none)
 |rs=>uv P s rs ts
def gU:Code->List Code
 | .seq a b=>gU a++gU b
 | .cond _ a b=>gU a++gU b
 | .block _ b=>gU b
 | .scope b=>gU b
 | .loop b=>b::gU b
 |_=> []
def kL(fn:Func)(i:Nat):Code:=match fn.body with | some c=>(gU c).getD i .skip | none=> .skip
def vl(P:Program)(Γ:mU)(an:rZ)(N:Nat)(fn:Func)(i:Nat){R:Type}(s:AS)(kn:AS->Option R)(kx:Exit->AS->Option R):Option R:=
 ev P Γ an N (kL fn i) s λe s'=>match e with
  | .normal=>(norm P (an.loops (de (kL fn i))) s').run kn
  |e=>(norm P (an.outs (de (kL fn i)) (Cw e)) s').run (kx e)
def CF(P:Program)(Γ:mU)(an:rZ)(N:Nat)(fn:Func)(i:Nat){R:Type}(n:Nat)(s:AS)(k:Exit->AS->Option R):Option R:=
 wc (norm P (an.loops (de (kL fn i)))) (λe=>norm P (an.outs (de (kL fn i)) (Cw e))) (ev P Γ an N (kL fn i)) n s k
def Id.KI:Id->Bool | .new _ _=>true | .c8 _=>false
def AS.u9(s:AS)(v:ao):List Id:=(s.reach 64 (v.ids++s.bP.flatMap c7.ids) []).filter Id.KI
def sT(ids:List Id):Id->Nat->Option (Id×Nat)
 | .c8 k,v=>some (.c8 k,v)
 |id,v=>match idxOf id ids with | some j=>some (.new 0 j,v) | none=>none
def c7.fin(ids:List Id):c7->c7
 | .obj v fr c=> .obj v fr (c.fE (sT ids))
 | .dead=> .dead
def AS.Kk(s:AS)(ids:List Id)(v:ao):iq:=
 {val:=v.fE (sT ids),bP:=s.bP.map (c7.fin ids),news:=ids.map λid=>((s.bA id).getD .dead).fin ids}
def AS.fin(s:AS)(v:ao):iq:=s.Kk (s.u9 v) v
def start(fn:Func)(args:List ao)(bP:List c7):AS:=
 {bK:=args++List.replicate (fn.ntmps - args.length) .undef,bP,news:=List.replicate fn.ntmps []}
def Ix(fn:Func):List Nat:=fn.results.toList.map λr=>match r with | .tmp t=>t | .cell a _=>a
def AS.drop(s:AS)(ks:List Nat):AS:= {bK:=dw ks 0 s.bK,bP:=s.bP,news:=s.news}
def finish(P:Program)(an:rZ)(fn:Func)(s:AS):Out iq:=
 (vU s an.DY).bind λs=>(nM P (s.drop (Ix fn)) an.owns).bind λs=>(AA s an.trim).bind λs=>(BW s an.K8).bind λs=>(Bl P fn an.res s).bind λr=> .ok (r.1.fin r.2)
def KX(P:Program)(y:Nat):Func:= {(default:Func) with body:=some (.seq (qb P y).as (qb P y).b)}
def AS.vC(s:AS)(q p:Nat):Option AS:=match s.bA (.c8 0) with
 |some (.obj 0 false (.mV c f q'))=>(match Nat.beq q q' with | true=>some (s.aD (.c8 0) (.obj 0 false (.mV c f p))) | false=>none)
 |_=>none
def nO:List (Tmp×ao)->List ao->List ao
 |[],l=>l
 |x::xs,l=>nO xs (l.set x.1 x.2)
def yN(ps:List Tmp)(args:List ao)(bP:List c7):AS:=
 {bK:=nO (ps.zip (args.take ps.length)) (args.drop ps.length),bP,news:=List.replicate (args.drop ps.length).length []}
def Kj:Exit->Option Nat
 | .normal=>some 0
 | .ret=>some 2
 | .exit i=>some (i+3)
 |_=>none
def Fb(P:Program)(an:rZ)(s:AS)(v:ao):Out iq:=
 (vU s an.DY).bind λs=>(nM P (s.drop []) an.owns).bind λs=>(AA s an.trim).bind λs=>(BW s an.K8).bind λs=> .ok (s.fin v)
def c7.first:c7->Bool
 | .obj v _ _=>Nat.beq v 0
 | .dead=>true
def Iz(P:Program)(Γ:mU)(an:rZ)(N:Nat)(c:lU)(args:List ao)(bP:List c7){R:Type}(k:iq->Option R):Option R:=
 match args with
 | .yl (.c8 0) 0::args=>match bP.all c7.first with | false=>none | true=>ev P Γ an N c.as (yN c.ps.toList args bP) λe s=>match e with
  | .normal=>aA (s.vC 0 1) λs=>ev P Γ an N c.b s λe s=>aA (Kj e) λp=>aA (s.vC 1 p) λs=>(Fb P an s (.d .bool (Nat.beq p 0))).run k
  |_=>none
 |_=>none
def FM(P:Program)(Γ:mU)(an:rZ)(N:Nat)(fn:Func)(args:List ao)(bP:List c7){R:Type}(k:iq->Option R):Option R:=
 match an.nN with
 |some y=>Iz P Γ an N (qb P y) args bP k
 |none=>match fn.body with
 |some c=>match bP.all c7.first with | false=>none | true=>ev P Γ an N c (start fn args bP) λe s=>match e with
  | .normal=>(finish P an fn s).run k
  | .ret=>(finish P an fn s).run k
  |_=>none
 |none=>none
end Go.Ab
namespace Go.Ab
inductive Own where
 |dm
 |id (i:Id)
inductive iO where
 |free
 |own (o:Own) (k:Nat)
structure Pl where
 b:Nat
 cap:Nat
structure Env where
 w:World
 g:Nat->iO
 β:Id->Option Pl
 s:Id->Option c7
def lQ(g:Nat->iO)(b off:Nat):Prop:=match g b with | .free=>True | .own _ k=>off < k
def Env.has(E:Env)(b off:Nat)(v:Value):Prop:=E.w.cell? ⟨b,off,none⟩=some v/\lQ E.g b off
def aM{α:Type}(R:List Value->α->Prop):List Value->List α->Prop
 |cs,[]=>cs=[]
 |cs,x::xs=>∃c cs',cs=c++cs'/\R c x/\aM R cs' xs
def qg(E:Env)(a:Option Addr)(vs:List Value):Prop:=
 ∀i v,vs[i]? =some v->∃b off,a=some ⟨b,off,none⟩/\E.has b (off+i) v
def cC(E:Env):(t:Ty)->List Value->t.den->Prop
 | .int k,cs,x=>cs=[.int k x]
 | .bool,cs,x=>cs=[.bool x]
 | .str,cs,x=>cs=[.string x]
 | .slice t,cs,l=>∃a cap vs,cs=[.slice a (l:List t.den).length cap]/\(l:List t.den).length<=cap/\(0 < (l:List t.den).length->a.isSome=true)/\qg E a vs/\aM (cC E t) vs l
 | .unit,cs,_=>cs=[]
 | .pair a b,cs,x=>∃ca cb,cs=ca++cb/\cC E a ca x.1/\cC E b cb x.2
 | .arr n t,cs,l=>(l:List t.den).length=n/\aM (cC E t) cs l
 | .fm t,cs,x=>((x:Option (List t.den))=none->cs=[.slice none 0 0])/\∀l:List t.den,(x:Option (List t.den))=some l->
   ∃a cap vs,cs=[.slice a l.length cap]/\l.length<=cap/\(0 < l.length->a.isSome=true)/\qg E a vs/\aM (cC E t) vs l
 | .lu t,cs,x=>((x:Option t.den)=none->cs=[.pointer none])/\∀y:t.den,(x:Option t.den)=some y->
   ∃b off vs,cs=[.pointer (some ⟨b,off,none⟩)]/\qg E (some ⟨b,off,none⟩) vs/\cC E t vs y
section
variable {α:Type} {R R':List Value->α->Prop} {z:Nat}
theorem aM.mono(h:∀c x,R c x->R' c x):∀ {cs:List Value} {l:List α},aM R cs l->aM R' cs l
 |_,[],hc=>hc
 |_,_::_,⟨c,cs',e,hx,hr⟩=>⟨c,cs',e,h _ _ hx,aM.mono h hr⟩
theorem aM.length(h:∀c x,R c x->c.length=z):∀ {cs:List Value} {l:List α},aM R cs l->cs.length=l.length*z
 |cs,[],hc=>by
  have:cs=[]:=hc
  simp[this]
 |_,x::xs,⟨c,cs',e,hx,hr⟩=>by
  rw[e,au,h c x hx,aM.length h hr,aC,dn,iH,Nat.add_comm]
theorem aM.all{p:Value->Prop}(h:∀c x,R c x->∀v∈c,p v):∀ {cs:List Value} {l:List α},aM R cs l->∀v∈cs,p v
 |cs,[],hc,v,hv=>by
  have:cs=[]:=hc
  simp[this]at hv
 |_,_::_,⟨c,cs',e,hx,hr⟩,v,hv=>by
  rw[e]at hv
  rcases aX.1 hv with hv | hv
  ·exact h _ _ hx v hv
  ·exact aM.all h hr v hv
theorem aM.append:∀ {cs:List Value} {l:List α} {cs':List Value} {l':List α},aM R cs l->aM R cs' l'->aM R (cs++cs') (l++l')
 |cs,[],_,_,hc,h'=>by
  have:cs=[]:=hc
  simpa[this]using h'
 |_,x::xs,_,_,⟨c,cs1,e,hx,hr⟩,h'=>⟨c,cs1++_,by rw[e,bC],hx,aM.append hr h'⟩
theorem aM.take(h:∀c x,R c x->c.length=z):∀ {cs:List Value} {l:List α} (n:Nat),aM R cs l->aM R (cs.take (n*z)) (l.take n)
 |cs,[],n,hc=>by
  have:cs=[]:=hc
  simp[this,aM]
 |_,x::xs,0,_=>by simp[aM]
 |_,x::xs,n+1,⟨c,cs',e,hx,hr⟩=>by
  refine⟨c,cs'.take (n*z),?_,hx,aM.take h n hr⟩
  rw[e,iv,h c x hx,dn,iH,bo (by rw[h c x hx];omega),Nat.add_sub_cancel]
theorem aM.drop(h:∀c x,R c x->c.length=z):∀ {cs:List Value} {l:List α} (n:Nat),aM R cs l->aM R (cs.drop (n*z)) (l.drop n)
 |cs,[],n,hc=>by
  have:cs=[]:=hc
  simp[this,aM]
 |_,x::xs,0,hc=>by simpa using hc
 |_,x::xs,n+1,⟨c,cs',e,hx,hr⟩=>by
  rw[e,gq,h c x hx,dn,iH,fe (by rw[h c x hx];omega),Nat.add_sub_cancel]
  simpa using aM.drop h n hr
theorem aM.get(h:∀c x,R c x->c.length=z){cs:List Value}{l:List α}(hc:aM R cs l)(i:Nat)(hi:i < l.length):R ((cs.drop (i*z)).take z) l[i]:=by
 have h1:=aM.take h 1 (aM.drop h i hc)
 rw[aB hi]at h1
 simp only[iH,j3,eN]at h1
 obtain⟨c,cs',e,hx,hr⟩:=h1
 have:cs'=[]:=hr
 rw[e,this,cZ]
 exact hx
theorem aM.set(h:∀c x,R c x->c.length=z){cs:List Value}{l:List α}(hc:aM R cs l)(i:Nat)(hi:i < l.length){c:List Value}{x:α}(hx:R c x):
  aM R (cs.take (i*z)++c++cs.drop (i*z+c.length)) (l.set i x):=by
 rw[List.set_eq_take_append_cons_drop,if_pos hi,h c x hx]
 have h1:=aM.take h i hc
 have h2:=aM.drop h (i+1) hc
 rw[dn,iH]at h2
 have h3:aM R (c++cs.drop (i*z+z)) (x::l.drop (i+1)):=⟨c,_,rfl,hx,h2⟩
 rw[bC]
 exact aM.append h1 h3
theorem aM.one{c:List Value}{x:α}(h:R c x):aM R c [x]:=⟨c,[],by simp,h,rfl⟩
end
theorem cC.size{E:Env}:∀ {t:Ty} {cs:List Value} {x:t.den},cC E t cs x->cs.length=t.size
 | .int _,_,_,h=>by simp only[cC]at h;simp[h,Ty.size]
 | .bool,_,_,h=>by simp only[cC]at h;simp[h,Ty.size]
 | .str,_,_,h=>by simp only[cC]at h;simp[h,Ty.size]
 | .slice t,_,_,h=>by simp only[cC]at h;obtain⟨a,cap,vs,rfl,_⟩:=h;simp[Ty.size]
 | .unit,_,_,h=>by simp only[cC]at h;simp[h,Ty.size]
 | .pair a b,_,_,h=>by
  simp only[cC]at h
  obtain⟨ca,cb,rfl,ha,hb⟩:=h
  simp[Ty.size,cC.size ha,cC.size hb]
 | .arr n t,_,_,h=>by
  simp only[cC]at h
  rw[aM.length (λc x hx=>cC.size hx) h.2,h.1,Ty.size]
 | .fm t,_,x,h=>by
  simp only[cC]at h
  obtain⟨h1,h2⟩:=h
  cases hx:(x:Option (List t.den)) with
  |none=>rw[h1 hx];rfl
  |some l=>obtain⟨a,cap,vs,rfl,_⟩:=h2 l hx;rfl
 | .lu t,_,x,h=>by
  simp only[cC]at h
  obtain⟨h1,h2⟩:=h
  cases hx:(x:Option t.den) with
  |none=>rw[h1 hx];rfl
  |some l=>obtain⟨b,off,vs,rfl,_⟩:=h2 l hx;rfl
theorem cC.one{E:Env}:∀ {t:Ty} {cs:List Value} {x:t.den},cC E t cs x->∀c∈cs,c.oneCell'=true
 | .int _,_,_,h=>by simp only[cC]at h;simp[h,Value.oneCell']
 | .bool,_,_,h=>by simp only[cC]at h;simp[h,Value.oneCell']
 | .str,_,_,h=>by simp only[cC]at h;simp[h,Value.oneCell']
 | .slice t,_,_,h=>by simp only[cC]at h;obtain⟨a,cap,vs,rfl,_⟩:=h;simp[Value.oneCell']
 | .unit,_,_,h=>by simp only[cC]at h;simp[h]
 | .pair a b,_,_,h=>by
  simp only[cC]at h
  obtain⟨ca,cb,rfl,ha,hb⟩:=h
  intro c hc
  rcases aX.1 hc with hc | hc
  ·exact cC.one ha c hc
  ·exact cC.one hb c hc
 | .arr n t,_,_,h=>by
  simp only[cC]at h
  exact aM.all (λc x hx=>cC.one hx) h.2
 | .fm t,_,x,h=>by
  simp only[cC]at h
  obtain⟨h1,h2⟩:=h
  cases hx:(x:Option (List t.den)) with
  |none=>rw[h1 hx];simp[Value.oneCell']
  |some l=>obtain⟨a,cap,vs,rfl,_⟩:=h2 l hx;simp[Value.oneCell']
 | .lu t,_,x,h=>by
  simp only[cC]at h
  obtain⟨h1,h2⟩:=h
  cases hx:(x:Option t.den) with
  |none=>rw[h1 hx];simp[Value.oneCell']
  |some l=>obtain⟨b,off,vs,rfl,_⟩:=h2 l hx;simp[Value.oneCell']
structure lg(E E':Env):Prop where
 has:∀b off v,E.has b off v->E'.has b off v
 fz:∀b ob,E.g b= .free->E.w.heap[b]? =some ob->E'.g b= .free/\E'.w.heap[b]? =some ob
theorem lg.refl(E:Env):lg E E:=⟨λ_ _ _ h=>h,λ_ _ h h'=>⟨h,h'⟩⟩
theorem lg.trans{E E' E'':Env}(h:lg E E')(h':lg E' E''):lg E E'':=⟨λb o v x=>h'.has b o v (h.has b o v x),λb ob h1 h2=>let⟨h3,h4⟩:=h.fz b ob h1 h2;h'.fz b ob h3 h4⟩
theorem qg.mono{E E':Env}(h:lg E E'){a:Option Addr}{vs:List Value}(hr:qg E a vs):qg E' a vs:=
 λi v hv=>let⟨b,off,ha,hh⟩:=hr i v hv;⟨b,off,ha,h.has _ _ _ hh⟩
theorem cC.mono{E E':Env}(hm:lg E E'):∀ {t:Ty} {cs:List Value} {x:t.den},cC E t cs x->cC E' t cs x
 | .int _,_,_,h=>by simpa only[cC]using h
 | .bool,_,_,h=>by simpa only[cC]using h
 | .str,_,_,h=>by simpa only[cC]using h
 | .slice t,_,_,h=>by
  simp only[cC]at h ⊢
  obtain⟨a,cap,vs,e,hl,hs,hr,hc⟩:=h
  exact⟨a,cap,vs,e,hl,hs,hr.mono hm,hc.mono λc x hx=>cC.mono hm hx⟩
 | .unit,_,_,h=>by simpa only[cC]using h
 | .pair a b,_,_,h=>by
  simp only[cC]at h ⊢
  obtain⟨ca,cb,e,ha,hb⟩:=h
  exact⟨ca,cb,e,cC.mono hm ha,cC.mono hm hb⟩
 | .arr n t,_,_,h=>by
  simp only[cC]at h ⊢
  exact⟨h.1,h.2.mono λc x hx=>cC.mono hm hx⟩
 | .fm t,_,_,h=>by
  simp only[cC]at h ⊢
  refine⟨h.1,λl hx=> ?_⟩
  obtain⟨a,cap,vs,e,hl,hs,hr,hc⟩:=h.2 l hx
  exact⟨a,cap,vs,e,hl,hs,hr.mono hm,hc.mono λc x hx=>cC.mono hm hx⟩
 | .lu t,_,_,h=>by
  simp only[cC]at h ⊢
  refine⟨h.1,λl hx=> ?_⟩
  obtain⟨b,off,vs,e,hr,hc⟩:=h.2 l hx
  exact⟨b,off,vs,e,hr.mono hm,cC.mono hm hc⟩
def Env.cur(E:Env)(id:Id)(ver:Nat):Prop:=∃fr c,E.s id=some (.obj ver fr c)
def Env.qi(E:Env)(id:Id)(ver:Nat):Prop:=E.s id≠none/\∀v fr c,E.s id=some (.obj v fr c)->ver<=v
def ei(agg:Bool)(cs:List Value)(v:Value):Prop:=match agg with | true=>v= .agg cs.toArray | false=>cs=[v]
mutual
def V(E:Env):ao->List Value->Prop
 | .undef,_=>False
 | .gone,cs=>∃v,cs=[v]/\v.oneCell'=true
 | .c6,cs=>cs=[.slice none 0 0]
 | .kY,cs=>cs=[.pointer none]
 | .mF,cs=>cs=[.nilFunc]
 | .pk,cs=>cs=[.map none]
 | .sb l,cs=>∃(b cap:Nat) (arr:Array Value) (e:TypeId),cs=[.slice (some ⟨b,0,none⟩) l.length cap]/\l.length<=cap/\E.g b= .free/\E.w.heap[b]? =some (.cells arr e (arr.size,arr.size+1))/\∀(j:Nat) (v:Value),(l.map (Value.int .u8))[j]? =some v->arr[j]? =some v
 | .d t x,cs=>cC E t cs x
 | .pr a b,cs=>∃ca cb,cs=ca++cb/\V E a ca/\V E b cb
 | .ptr id ver _ n,cs=>∃a,cs=[.pointer (some a)]/\E.qi id ver/\(E.cur id ver->∃pl,E.β id=some pl/\a=⟨pl.b,n,none⟩)
 | .eW t x,cs=>∃b off vs,cs=[.pointer (some ⟨b,off,none⟩)]/\qg E (some ⟨b,off,none⟩) vs/\cC E t vs x
 | .cv id ver p c i len,cs=>∃a cap,cs=[.slice a len cap]/\len<=cap/\(0 < len->a.isSome=true)/\E.qi id ver/\
   (E.cur id ver->match E.β id with
    |some pl=>(0 < len\/i=0->a=some ⟨pl.b,c,none⟩)/\(p=[]->i=0->cap=pl.cap)
    |none=>a=none/\len=0/\cap=0)
 | .fn f c,cs=>∃vs,cs=[.func (.func f) #[] vs.toArray]/\VC E c vs
 | .cons _ _,_=>False
 | .nil,_=>False
 | .vec ..,_=>False
 | .bx ..,_=>False
 | .yl id ver,cs=>∃l,cs=[.func (.yield l) #[] #[]]/\E.qi id ver/\(E.cur id ver->∃pl,E.β id=some pl/\l=pl.b)
 | .mV ..,_=>False
 | .kT id ver,cs=>∃b,cs=[.map (some b)]/\E.qi id ver/\(E.cur id ver->∃pl,E.β id=some pl/\b=pl.b)
 | .mp ..,_ | .la ..,_=>False
def VC(E:Env):ao->List Value->Prop
 | .nil,vs=>vs=[]
 | .cons a b,vs=>∃v vs' cs,vs=v::vs'/\V E a cs/\ei a.agg cs v/\VC E b vs'
 |_,_=>False
end
structure bV(E E':Env):Prop where
 mem:lg E E'
 qi:∀id ver,E.qi id ver->E'.qi id ver
 cur:∀id ver,E.qi id ver->E'.cur id ver->E.cur id ver/\E'.β id=E.β id
theorem bV.refl(E:Env):bV E E:=⟨lg.refl E,λ_ _ h=>h,λ_ _ _ h=>⟨h,rfl⟩⟩
theorem bV.trans{E E' E'':Env}(h:bV E E')(h':bV E' E''):bV E E'':=
 ⟨h.mem.trans h'.mem,λid v b=>h'.qi id v (h.qi id v b),λid v b c=>
  let⟨c1,e1⟩:=h'.cur id v (h.qi id v b) c
  let⟨c2,e2⟩:=h.cur id v b c1
  ⟨c2,e1.trans e2⟩⟩
mutual
theorem V.mono{E E':Env}(h:bV E E'):∀ {a:ao} {cs:List Value},V E a cs->V E' a cs
 | .undef,_,hv=>by simp only[V]at hv
 | .gone,_,hv=>by simpa only[V]using hv
 | .c6,_,hv=>by simpa only[V]using hv
 | .kY,_,hv=>by simpa only[V]using hv
 | .mF,_,hv=>by simpa only[V]using hv
 | .mV ..,_,hv=>by simp only[V]at hv
 | .pk,_,hv=>by simpa only[V]using hv
 | .sb l,_,hv=>by
  simp only[V]at hv ⊢
  obtain⟨b,cap,arr,e,h1,h2,h3,h4,h5⟩:=hv
  obtain⟨h6,h7⟩:=h.mem.fz b _ h3 h4
  exact⟨b,cap,arr,e,h1,h2,h6,h7,h5⟩
 | .d t x,_,hv=>by simp only[V]at hv ⊢;exact hv.mono h.mem
 | .pr a b,_,hv=>by
  simp only[V]at hv ⊢
  obtain⟨ca,cb,e,ha,hb⟩:=hv
  exact⟨ca,cb,e,V.mono h ha,V.mono h hb⟩
 | .ptr id ver p n,_,hv=>by
  simp only[V]at hv ⊢
  obtain⟨a,e,hb,hc⟩:=hv
  refine⟨a,e,h.qi _ _ hb,λc=> ?_⟩
  obtain⟨c1,e1⟩:=h.cur _ _ hb c
  rw[e1];exact hc c1
 | .eW t x,_,hv=>by
  simp only[V]at hv ⊢
  obtain⟨b,off,vs,e,hr,hx⟩:=hv
  exact⟨b,off,vs,e,hr.mono h.mem,hx.mono h.mem⟩
 | .cv id ver p c i len,_,hv=>by
  simp only[V]at hv ⊢
  obtain⟨a,cap,e,hl,hs,hb,hc⟩:=hv
  refine⟨a,cap,e,hl,hs,h.qi _ _ hb,λc=> ?_⟩
  obtain⟨c1,e1⟩:=h.cur _ _ hb c
  rw[e1];exact hc c1
 | .fn f c,_,hv=>by
  simp only[V]at hv ⊢
  obtain⟨vs,e,hc⟩:=hv
  exact⟨vs,e,VC.mono h hc⟩
 | .cons _ _,_,hv=>by simp only[V]at hv
 | .nil,_,hv=>by simp only[V]at hv
 | .vec ..,_,hv=>by simp only[V]at hv
 | .bx ..,_,hv=>by simp only[V]at hv
 | .yl id ver,_,hv=>by
  simp only[V]at hv ⊢
  obtain⟨b,e,hb,hc⟩:=hv
  refine⟨b,e,h.qi _ _ hb,λc=> ?_⟩
  obtain⟨c1,e1⟩:=h.cur _ _ hb c
  rw[e1];exact hc c1
 | .kT id ver,_,hv=>by
  simp only[V]at hv ⊢
  obtain⟨b,e,hb,hc⟩:=hv
  refine⟨b,e,h.qi _ _ hb,λc=> ?_⟩
  obtain⟨c1,e1⟩:=h.cur _ _ hb c
  rw[e1];exact hc c1
 | .mp ..,_,hv | .la ..,_,hv=>by simp only[V]at hv
theorem VC.mono{E E':Env}(h:bV E E'):∀ {a:ao} {vs:List Value},VC E a vs->VC E' a vs
 | .nil,_,hv=>by simpa only[VC]using hv
 | .cons a b,_,hv=>by
  simp only[VC]at hv ⊢
  obtain⟨v,vs',cs,e,ha,ho,hb⟩:=hv
  exact⟨v,vs',cs,e,V.mono h ha,ho,VC.mono h hb⟩
 | .undef,_,hv=>by simp only[VC]at hv
 | .gone,_,hv=>by simp only[VC]at hv
 | .c6,_,hv=>by simp only[VC]at hv
 | .kY,_,hv=>by simp only[VC]at hv
 | .mF,_,hv=>by simp only[VC]at hv
 | .yl ..,_,hv | .mV ..,_,hv=>by simp only[VC]at hv
 | .pk,_,hv=>by simp only[VC]at hv
 | .sb _,_,hv=>by simp only[VC]at hv
 | .d t x,_,hv=>by simp only[VC]at hv
 | .pr a b,_,hv=>by simp only[VC]at hv
 | .ptr ..,_,hv=>by simp only[VC]at hv
 | .eW ..,_,hv=>by simp only[VC]at hv
 | .cv ..,_,hv=>by simp only[VC]at hv
 | .fn ..,_,hv=>by simp only[VC]at hv
 | .vec ..,_,hv=>by simp only[VC]at hv
 | .bx ..,_,hv=>by simp only[VC]at hv
 | .kT ..,_,hv=>by simp only[VC]at hv
 | .mp ..,_,hv | .la ..,_,hv=>by simp only[VC]at hv
end
theorem V.size{E:Env}:∀ {a:ao} {cs:List Value},V E a cs->cs.length=a.size
 | .undef,_,hv=>by simp only[V]at hv
 | .gone,_,hv=>by simp only[V]at hv;obtain⟨v,rfl,_⟩:=hv;rfl
 | .c6,_,hv=>by simp only[V]at hv;rw[hv];rfl
 | .kY,_,hv=>by simp only[V]at hv;rw[hv];rfl
 | .mF,_,hv=>by simp only[V]at hv;rw[hv];rfl
 | .yl ..,_,hv=>by simp only[V]at hv;obtain⟨_,rfl,_⟩:=hv;rfl
 | .mV ..,_,hv=>by simp only[V]at hv
 | .pk,_,hv=>by simp only[V]at hv;rw[hv];rfl
 | .sb _,_,hv=>by simp only[V]at hv;obtain⟨_,_,_,_,rfl,_⟩:=hv;rfl
 | .d t x,_,hv=>by simp only[V]at hv;exact hv.size
 | .pr a b,_,hv=>by
  simp only[V]at hv
  obtain⟨ca,cb,rfl,ha,hb⟩:=hv
  simp[ao.size,V.size ha,V.size hb]
 | .ptr ..,_,hv=>by simp only[V]at hv;obtain⟨a,rfl,_⟩:=hv;rfl
 | .eW ..,_,hv=>by simp only[V]at hv;obtain⟨_,_,_,rfl,_⟩:=hv;rfl
 | .cv ..,_,hv=>by simp only[V]at hv;obtain⟨_,_,rfl,_⟩:=hv;rfl
 | .fn ..,_,hv=>by simp only[V]at hv;obtain⟨_,rfl,_⟩:=hv;rfl
 | .cons _ _,_,hv=>by simp only[V]at hv
 | .nil,_,hv=>by simp only[V]at hv
 | .vec ..,_,hv=>by simp only[V]at hv
 | .bx ..,_,hv=>by simp only[V]at hv
 | .kT ..,_,hv=>by simp only[V]at hv;obtain⟨_,rfl,_⟩:=hv;rfl
 | .mp ..,_,hv | .la ..,_,hv=>by simp only[V]at hv
theorem V.one{E:Env}:∀ {a:ao} {cs:List Value},V E a cs->∀c∈cs,c.oneCell'=true
 | .undef,_,hv=>by simp only[V]at hv
 | .gone,_,hv=>by simp only[V]at hv;obtain⟨v,rfl,h⟩:=hv;simp[h]
 | .c6,_,hv=>by simp only[V]at hv;rw[hv];simp[Value.oneCell']
 | .kY,_,hv=>by simp only[V]at hv;rw[hv];simp[Value.oneCell']
 | .mF,_,hv=>by simp only[V]at hv;rw[hv];simp[Value.oneCell']
 | .yl ..,_,hv=>by simp only[V]at hv;obtain⟨_,rfl,_⟩:=hv;simp[Value.oneCell']
 | .mV ..,_,hv=>by simp only[V]at hv
 | .pk,_,hv=>by simp only[V]at hv;rw[hv];simp[Value.oneCell']
 | .sb _,_,hv=>by simp only[V]at hv;obtain⟨_,_,_,_,rfl,_⟩:=hv;simp[Value.oneCell']
 | .d t x,_,hv=>by simp only[V]at hv;exact hv.one
 | .pr a b,_,hv=>by
  simp only[V]at hv
  obtain⟨ca,cb,rfl,ha,hb⟩:=hv
  intro c hc
  rcases aX.1 hc with hc | hc
  ·exact V.one ha c hc
  ·exact V.one hb c hc
 | .ptr ..,_,hv=>by simp only[V]at hv;obtain⟨a,rfl,_⟩:=hv;simp[Value.oneCell']
 | .eW ..,_,hv=>by simp only[V]at hv;obtain⟨_,_,_,rfl,_⟩:=hv;simp[Value.oneCell']
 | .cv ..,_,hv=>by simp only[V]at hv;obtain⟨_,_,rfl,_⟩:=hv;simp[Value.oneCell']
 | .fn ..,_,hv=>by simp only[V]at hv;obtain⟨_,rfl,_⟩:=hv;simp[Value.oneCell']
 | .cons _ _,_,hv=>by simp only[V]at hv
 | .nil,_,hv=>by simp only[V]at hv
 | .vec ..,_,hv=>by simp only[V]at hv
 | .bx ..,_,hv=>by simp only[V]at hv
 | .kT ..,_,hv=>by simp only[V]at hv;obtain⟨_,rfl,_⟩:=hv;simp[Value.oneCell']
 | .mp ..,_,hv | .la ..,_,hv=>by simp only[V]at hv
theorem ao.Db:∀ {v:ao},v.agg=false->v.size=1
 | .d (.int _) _,_ | .d .bool _,_ | .d .str _,_ | .d (.slice _) _,_ | .d (.fm _) _,_ | .d (.lu _) _,_=>rfl
 | .d .unit _,h | .d (.pair _ _) _,h | .d (.arr _ _) _,h=>by simp[ao.agg,Ty.agg]at h
 | .pr _ _,h=>by simp[ao.agg]at h
 | .undef,_ | .gone,_ | .c6,_ | .kY,_ | .mF,_ | .pk,_ | .ptr ..,_ | .eW ..,_ | .cv ..,_ | .fn ..,_ | .cons ..,_ | .nil,_ | .vec ..,_ | .sb _,_ | .bx ..,_ | .kT ..,_ | .mp ..,_ | .la ..,_ | .yl ..,_ | .mV ..,_=>rfl
def VS(E:Env):ao->Value->Prop
 | .undef,_=>True
 | .cons a b,v=>∃vs,v= .tuple vs.toArray/\VC E (.cons a b) vs
 | .nil,v=>v= .tuple #[]
 |a,v=>∃cs,V E a cs/\ei a.agg cs v
theorem VS.mono{E E':Env}(h:bV E E'):∀ {a:ao} {v:Value},VS E a v->VS E' a v:=by
 intro a v hv
 cases a <;> first
  |trivial
  |exact hv
  | (obtain⟨cs,h1,h2⟩:=hv;exact⟨cs,V.mono h h1,h2⟩)
  | (obtain⟨vs,e,hc⟩:=hv;exact⟨vs,e,VC.mono h hc⟩)
theorem VS.undef{E:Env}{v:Value}:VS E .undef v:=trivial
theorem VS.of{E:Env}{a:ao}{cs:List Value}{v:Value}(h:V E a cs)(ho:ei a.agg cs v):VS E a v:=by
 cases a <;> first
  | (simp only[V]at h;done)
  |exact⟨cs,h,ho⟩
theorem VS.dC{E:Env}{a:ao}{v:Value}(h:VS E a v)(hc:a.dC=true):∃cs,V E a cs/\ei a.agg cs v:=by
 cases a <;> first
  | (simp[ao.dC]at hc;done)
  |exact h
theorem VS.single{E:Env}{a:ao}{v:Value}(h:VS E a v)(hc:a.dC=true)(ha:a.agg=false):V E a [v]:=by
 obtain⟨cs,hv,ho⟩:=h.dC hc
 rw[ha]at ho
 have:cs=[v]:=ho
 rw[<-this];exact hv
theorem ei.cells{agg:Bool}{cs:List Value}{v:Value}(h:ei agg cs v)(h1:∀c∈cs,c.oneCell'=true):v.cells=cs.toArray:=by
 cases agg with
 |true=>have:v= .agg cs.toArray:=h;rw[this];rfl
 |false=>
  have e:cs=[v]:=h
  have:=h1 v (by simp[e])
  rw[e]
  cases v <;> first | rfl | (simp[Value.oneCell']at this;done)
end Go.Ab
namespace Go.Ab
section
variable {α β:Type}
theorem ak{a b:α}:(Out.ok a).eval=some b↔a=b:=by simp[Out.eval]
theorem ag{b:α}:(Out.fail:Out α).eval=some b↔False:=by simp[Out.eval]
theorem bl{c:Bool}{r:Out α}{b:α}:(Out.lN c r).eval=some b↔c=true/\r.eval=some b:=by cases c <;> simp[Out.eval]
theorem av{c:Bool}{r:Out α}{b:α}:(Out.guard c r).eval=some b↔c=true/\r.eval=some b:=by cases c <;> simp[Out.guard,Out.eval]
theorem mB{x:Option β}{f:β->Out α}{b:α}:(Out.get x f).eval=some b↔∃y,x=some y/\(f y).eval=some b:=by
 cases x <;> simp[Out.eval]
theorem gC{x:Option α}{b:α}:(Out.opt x).eval=some b↔x=some b:=by cases x <;> simp[Out.opt,Out.eval]
theorem AU(o:Out α)(f:α->Out β):(o.bind f).eval=o.eval.bind λa=>(f a).eval:=by
 induction o with
 |ok a=>rfl
 |fail=>rfl
 |lN c r ih=>cases c <;> simp[Out.bind,Out.eval,ih]
 |get x g ih=>cases x <;> simp[Out.bind,Out.eval,ih]
 |br c x y ih1 ih2=>cases c <;> simp[Out.bind,Out.eval,ih1,ih2]
theorem ai{o:Out α}{f:α->Out β}{b:β}:(o.bind f).eval=some b↔∃a,o.eval=some a/\(f a).eval=some b:=by
 rw[AU];simp[Option.bind_eq_some_iff]
theorem run_eq{R:Type}(o:Out α)(k:α->Option R):o.run k=o.eval.bind k:=by
 induction o with
 |ok a=>rfl
 |fail=>rfl
 |lN c r ih=>cases c <;> simp[Out.run,Out.eval,aO,ih]
 |get x g ih=>cases x <;> simp[Out.run,Out.eval,aA,ih]
 |br c x y ih1 ih2=>cases c <;> simp[Out.run,Out.eval,aO,ih1,ih2]
theorem fU{R:Type}{o:Out α}{k:α->Option R}{r:R}:o.run k=some r↔∃a,o.eval=some a/\k a=some r:=by
 rw[run_eq];simp[Option.bind_eq_some_iff]
end
theorem gh{t t':Ty}{x:t.den}{y:t'.den}(h:lW t t' x=some y):∃e:t=t',e▸x=y:=by
 unfold lW at h
 split at h
 ·rename_i e;exact⟨e,by simpa using h⟩
 ·cases h
theorem aM.map{α β:Type}{R:List Value->α->Prop}{R':List Value->β->Prop}{f:α->β}(h:∀c x,R c x->R' c (f x)):∀ {cs:List Value} {l:List α},aM R cs l->aM R' cs (l.map f)
 |_,[],hc=>hc
 |_,x::xs,⟨c,cs',e,hx,hr⟩=>⟨c,cs',e,h c x hx,aM.map h hr⟩
theorem cC.Po{E:Env}:∀(a b:Ty) (f:a.den->b.den),ze a b=some f->∀(cs:List Value) (x:a.den),cC E a cs x->cC E b cs (f x):=by
 intro a b
 induction a,b using ze.induct with
 |case1 t=>
  intro f hf cs x hx
  unfold ze at hf
  rw[dif_pos rfl]at hf
  obtain rfl:=aN hf
  simp only[cC]at hx
  obtain⟨h1,h2⟩:=hx
  show cC E (.slice t) cs ((x:Option (List t.den)).getD [])
  simp only[cC]
  cases hx:(x:Option (List t.den)) with
  |none=>exact⟨none,0,[],h1 hx,aw _,λh=>absurd h (gg 0),λi v hh=>by simp at hh,rfl⟩
  |some l=>exact h2 l hx
 |case2 t t' fL=>
  intro f hf
  unfold ze at hf
  rw[dif_neg fL]at hf
  cases hf
 |case3 t=>
  intro f hf cs x hx
  unfold ze at hf
  rw[dif_pos rfl]at hf
  obtain rfl:=aN hf
  simp only[cC]at hx ⊢
  refine⟨λh=>(by cases h),λl hl=> ?_⟩
  obtain rfl:x=l:=aN hl
  exact hx
 |case4 t t' fL=>
  intro f hf
  unfold ze at hf
  rw[dif_neg fL]at hf
  cases hf
 |case5 a b c d f g h1 h2 ih1 ih2=>
  intro k hk cs x hx
  unfold ze at hk
  rw[h2,h1]at hk
  obtain rfl:=aN hk
  simp only[cC]at hx ⊢
  obtain⟨ca,cb,e,ha,hb⟩:=hx
  exact⟨ca,cb,e,ih1 f h2 ca x.1 ha,ih2 g h1 cb x.2 hb⟩
 |case6 a b c d hn ih1 ih2=>
  intro p hp
  unfold ze at hp
  split at hp
  ·rename_i f k h1 h2
   exact(hn _ _ h1 h2).elim
  ·cases hp
 |case7 a b f h1 ih=>
  intro k hk cs x hx
  unfold ze at hk
  rw[h1]at hk
  obtain rfl:=aN hk
  simp only[cC]at hx ⊢
  obtain⟨ad,cap,vs,e,hl,hs,hr,hc⟩:=hx
  rw[cj]
  exact⟨ad,cap,vs,e,hl,hs,hr,hc.map λc x hx=>ih f h1 c x hx⟩
 |case8 a b h1 ih=>
  intro p hp
  unfold ze at hp
  rw[h1]at hp
  cases hp
 |case9 a h1 h2 h3 h4=>
  intro f hf cs x hx
  rw[ze.eq_5 _ _ h1 h2 h3 h4,dif_pos rfl]at hf
  obtain rfl:=aN hf
  exact hx
 |case10 a b h1 h2 h3 h4 fL=>
  intro f hf
  rw[ze.eq_5 _ _ h1 h2 h3 h4,dif_neg fL]at hf
  cases hf
theorem Jn{t t':Ty}{f:t.den->t'.den}(hp:ze t t'=some f):t.agg=t'.agg:=by
 unfold ze at hp
 split at hp
 ·rfl
 ·rfl
 ·rfl
 ·rfl
 ·split at hp
  ·rename_i e;rw[e]
  ·cases hp
theorem zL{t t':Ty}{x:t.den}{y:t'.den}(h:qG t t' x=some y):t.agg=t'.agg:=by
 unfold qG at h
 split at h
 ·rename_i z hz
  obtain⟨e,_⟩:=gh hz
  rw[e]
 ·split at h
  ·rename_i f hf
   exact Jn hf
  ·cases h
theorem pI{E:Env}{t t':Ty}{x:t.den}{y:t'.den}(h:qG t t' x=some y){cs:List Value}(hx:cC E t cs x):cC E t' cs y:=by
 unfold qG at h
 split at h
 ·rename_i z hz
  obtain⟨e,hz⟩:=gh hz
  subst e
  obtain rfl:=aN h
  simp only at hz
  rw[<-hz]
  exact hx
 ·split at h
  ·rename_i f hf
   obtain rfl:=aN h
   exact cC.Po _ _ f hf cs x hx
  ·cases h
theorem FY{E:Env}{t t':Ty}{x:List t.den}{y:List t'.den}(h:qG (.slice t) (.slice t') x=some y):y.length=x.length/\∀vs,aM (cC E t) vs x->aM (cC E t') vs y:=by
 unfold qG at h
 split at h
 ·rename_i z hz
  obtain⟨e,hz⟩:=gh hz
  have e':t=t':=by simpa using e
  subst e'
  obtain rfl:=aN h
  simp only at hz
  subst hz
  exact⟨rfl,λ_ h=>h⟩
 ·split at h
  ·rename_i p hp
   obtain rfl:=aN h
   unfold ze at hp
   cases hd:ze t t' with
   |none=>rw[hd]at hp;cases hp
   |some q=>
    rw[hd]at hp
    obtain rfl:=aN hp
    exact⟨cj _,λvs hc=>hc.map λc x hx=>cC.Po _ _ q hd c x hx⟩
  ·cases h
def VO(E:Env):ao->List Value->Prop
 | .vec _ t l,cs=>aM (cC E t) cs l
 |a,cs=>V E a cs
theorem VO.of{E:Env}{a:ao}{cs:List Value}(h:V E a cs):VO E a cs:=by
 cases a <;> first | exact h | (simp only[V]at h)
def ao.fu:ao->Bool | .vec .. =>true | .mp .. =>true | .la .. =>true | .mV .. =>true | _=>false
theorem VO.to{E:Env}{a:ao}{cs:List Value}(h:VO E a cs)(hn:a.fu=false):V E a cs:=by
 cases a <;> first | exact h | (simp[ao.fu]at hn)
theorem VO.mono{E E':Env}(h:bV E E'){a:ao}{cs:List Value}(hv:VO E a cs):VO E' a cs:=by
 cases a <;> first | exact V.mono h hv | exact aM.mono (λ_ _ hx=>hx.mono h.mem) hv
theorem yr{t:Ty}{l:List t.den}{i:Nat}(h:i < l.length):nth t l i=l[i]:=by
 unfold nth;simp[h]
theorem yu{α:Type}(cs:List α)(n m k j:Nat)(h:k+j<=m):(((cs.drop n).take m).drop k).take j=(cs.drop (n+k)).take j:=by
 rw[lf,gA,eu]
 congr 1
 omega
theorem uz{E:Env}{t:Ty}{cs:List Value}{l:List t.den}(h:aM (cC E t) cs l){i:Nat}(hi:i < l.length):
  cC E t ((cs.drop (i*t.size)).take t.size) l[i]/\i*t.size+t.size<=cs.length:=by
 have hz:∀c x,cC E t c x->c.length=t.size:=λc x hx=>hx.size
 refine⟨h.get hz i hi,?_⟩
 rw[h.length hz,<-Nat.succ_mul]
 exact cE _ hi
theorem kV{E:Env}:∀(p:List rN) (c:ao) (cs:List Value) (n:Nat) (v:ao),VO E c cs->(loc c p).eval=some (n,v)->
  (n=0/\v=c)\/(V E v ((cs.drop n).take v.size)/\n+v.size<=cs.length)
 |[],c,cs,n,v,hc,h=>by
  left
  simp only[loc,ak,bY]at h
  exact⟨h.1.symm,h.2.symm⟩
 |st::p,c,cs,n,v,hc,h=>by
  by_cases kZ:st= .arr
  ·subst kZ
   have h':(loc c p).eval=some (n,v):=by cases c <;> simpa only[loc]using h
   exact kV p c cs n v hc h'
  right
  have whole:∀(c':ao) (cs':List Value) (n':Nat) (v':ao),V E c' cs'->(loc c' p).eval=some (n',v')->V E v' ((cs'.drop n').take v'.size)/\n'+v'.size<=cs'.length:=by
   intro c' cs' n' v' hc' hl
   rcases kV p c' cs' n' v' (VO.of hc') hl with⟨rfl,rfl⟩ | hh
   ·have:=hc'.size
    rw[aL,bo (by omega)]
    exact⟨hc',by omega⟩
   ·exact hh
  have second:∀(a b:ao) (ca cb:List Value),cs=ca++cb->ca.length=a.size->V E b cb->((loc b p).bind λ(n,v)=>Out.ok (a.size+n,v)).eval=some (n,v)->
    V E v ((cs.drop n).take v.size)/\n+v.size<=cs.length:=by
   intro a b ca cb e hl hb hh
   obtain⟨⟨n',v'⟩,h1,h2⟩:=ai.1 hh
   simp only[ak,bY]at h2
   obtain⟨rfl,rfl⟩:=h2
   obtain⟨h3,h4⟩:=whole b cb n' v' hb h1
   subst e
   rw[<-hl,gq,fe (by omega),aT,fM]
   exact⟨h3,by simp only[au];omega⟩
  have elem:∀(t:Ty) (l:List t.den) (i:Nat),aM (cC E t) cs l->(Out.lN (decide (i < l.length)) ((loc (.d t (nth t l i)) p).bind λ(n,v)=>Out.ok (i*t.size+n,v))).eval=some (n,v)->
    V E v ((cs.drop n).take v.size)/\n+v.size<=cs.length:=by
   intro t l i mi hh
   obtain⟨hi,hh⟩:=bl.1 hh
   have hi:i < l.length:=by simpa using hi
   obtain⟨⟨n',v'⟩,h1,h2⟩:=ai.1 hh
   simp only[ak,bY]at h2
   obtain⟨rfl,rfl⟩:=h2
   obtain⟨hp,hle⟩:=uz mi hi
   rw[yr hi]at h1
   have hv:V E (.d t l[i]) ((cs.drop (i*t.size)).take t.size):=by simpa only[V]using hp
   obtain⟨h3,h4⟩:=whole _ _ n' v' hv h1
   have hlen:((cs.drop (i*t.size)).take t.size).length=t.size:=hp.size
   rw[yu _ _ _ _ _ (by omega)]at h3
   exact⟨h3,by omega⟩
  cases c with
  |pr a b=>
   simp only[VO,V]at hc
   obtain⟨ca,cb,e,ha,hb⟩:=hc
   cases st with
   |arr=>exact absurd rfl kZ
   |fst=>
    simp only[loc]at h
    obtain⟨h3,h4⟩:=whole a ca n v ha h
    subst e
    refine⟨?_,by simp only[au];omega⟩
    rw[gq,iv,cH,gJ (by omega:v.size<=ca.length - n),eN,cZ]
    exact h3
   |snd=>simp only[loc]at h;exact second a b ca cb e ha.size hb h
   |idx i=>simp only[loc,ag]at h
  |d t x=>
   simp only[VO,V]at hc
   cases t with
   |pair ta tb=>
    simp only[cC]at hc
    obtain⟨ca,cb,e,ha,hb⟩:=hc
    cases st with
    |arr=>exact absurd rfl kZ
    |fst=>
     simp only[loc]at h
     obtain⟨h3,h4⟩:=whole (.d ta x.1) ca n v (by simpa only[V]using ha) h
     subst e
     refine⟨?_,by simp only[au];omega⟩
     rw[gq,iv,cH,gJ (by omega:v.size<=ca.length - n),eN,cZ]
     exact h3
    |snd=>simp only[loc]at h;exact second (.d ta x.1) (.d tb x.2) ca cb e ha.size (by simpa only[V]using hb) h
    |idx i=>simp only[loc,ag]at h
   |arr m t=>
    simp only[cC]at hc
    cases st with
    |arr=>exact absurd rfl kZ
    |idx i=>simp only[loc]at h;exact elem t x i hc.2 h
    |fst=>simp only[loc,ag]at h
    |snd=>simp only[loc,ag]at h
   |_=>cases st <;> first | exact absurd rfl kZ | (simp only[loc,ag]at h)
  |vec e t l=>
   simp only[VO]at hc
   cases st with
   |arr=>exact absurd rfl kZ
   |idx i=>simp only[loc]at h;exact elem t l i hc h
   |fst=>simp only[loc,ag]at h
   |snd=>simp only[loc,ag]at h
  |_=>cases st <;> first | exact absurd rfl kZ | (simp only[loc,ag]at h)
theorem DH{E:Env}{a b:ao}{ca cb:List Value}(ha:V E a ca)(hb:V E b cb):V E (ua a b) (ca++cb):=by
 have gen:V E (.pr a b) (ca++cb):=by simp only[V];exact⟨ca,cb,rfl,ha,hb⟩
 unfold ua
 split
 ·simp only[V]at ha hb ⊢
  simp only[cC]
  exact⟨ca,cb,rfl,ha,hb⟩
 ·exact gen
theorem wi(a b:ao):(ua a b).fu=false:=by unfold ua;split <;> rfl
def cM(cs:List Value)(n:Nat)(vs:List Value):List Value:=cs.take n++vs++cs.drop (n+vs.length)
theorem EN{cs vs:List Value}(h:cs.length=vs.length):cM cs 0 vs=vs:=by
 simp[cM,fe (by omega:cs.length<=vs.length)]
theorem o5{ca cb vs:List Value}{n:Nat}(h:n+vs.length<=ca.length):cM (ca++cb) n vs=cM ca n vs++cb:=by
 unfold cM
 rw[iv,gq,gJ (by omega:n<=ca.length),eN,cZ,gJ h,aL]
 simp only[bC]
theorem uI{ca cb vs:List Value}{n:Nat}:cM (ca++cb) (ca.length+n) vs=ca++cM cb n vs:=by
 unfold cM
 rw[iv,bo (by omega),fM,gq,fe (by omega),aT]
 simp only[bC]
 congr 4
 omega
theorem EO{cs vs:List Value}{i z n:Nat}(hz:i+z<=cs.length)(h:n+vs.length<=z):
  cM cs (i+n) vs=cs.take i++cM ((cs.drop i).take z) n vs++cs.drop (i+z):=by
 have e:cs=cs.take i++((cs.drop i).take z++cs.drop (i+z)):=by
  rw[<-eu,cQ,cQ]
 have hl:(cs.take i).length=i:=by simp;omega
 have hm:((cs.drop i).take z).length=z:=by simp;omega
 conv=>lhs;rw[e,show i+n=(cs.take i).length+n by rw[hl]]
 rw[uI,o5 (by omega)]
 simp only[bC]
theorem gm{cs vs:List Value}{n:Nat}(h:n+vs.length<=cs.length):(cM cs n vs).length=cs.length:=by
 simp[cM];omega
def iw:ao->ao->Prop
 | .vec e t l,.vec e' t' l'=>e'=e/\t'=t/\l'.length=l.length
 | .vec ..,_=>False
 |_,.vec .. =>False
 | .mp ..,_ | .la ..,_ | .mV ..,_=>False
 |_,.mp .. | _,.la .. | _,.mV .. =>False
 |_,_=>True
theorem iw.lG{a b:ao}(h:iw a b)(ha:a.fu=false):b.fu=false:=by
 cases b <;> first
  |rfl
  | (cases a <;> first | (simp[ao.fu]at ha;done) | exact h.elim)
theorem iw.of{a b:ao}(ha:a.fu=false)(hb:b.fu=false):iw a b:=by
 cases a <;> first
  | (simp[ao.fu]at ha;done)
  | (cases b <;> first | trivial | (simp[ao.fu]at hb;done))
theorem V.lG{E:Env}{a:ao}{cs:List Value}(h:V E a cs):a.fu=false:=by
 cases a <;> first | rfl | (simp only[V]at h)
theorem jY{E:Env}:∀(p:List rN) (c:ao) (cs:List Value) (n:Nat) (o v c':ao) (vs:List Value),VO E c cs->(loc c p).eval=some (n,o)->V E v vs->
  (ns c p v).eval=some c'->n+vs.length<=cs.length/\VO E c' (cM cs n vs)/\
   iw c c'
 |[],c,cs,n,o,v,c',vs,hc,hl,hv,h=>by
  simp only[loc,ak,bY]at hl
  obtain⟨rfl,rfl⟩:=hl
  have main:∀(NW:c.fu=false),(Out.guard (v.dC && (c.size==v.size)) (.ok v)).eval=some c'->0+vs.length<=cs.length/\VO E c' (cM cs 0 vs)/\
   iw c c':=by
   intro NW hg
   obtain⟨h1,h2⟩:=av.1 hg
   obtain rfl:=ak.1 h2
   simp only[ae,beq_iff_eq]at h1
   have e1:=(hc.to NW).size
   have e2:=hv.size
   refine⟨by omega,?_,?_⟩
   ·rw[EN (by omega)];exact VO.of hv
   ·exact iw.of NW hv.lG
  cases c with
  |vec e t l=>simp only[ns,ag]at h
  |mp k v l=>simp only[ns,ag]at h
  |la q ver k v rest cur=>simp only[ns,ag]at h
  |mV k f p=>simp only[ns,ag]at h
  |_=>exact main rfl (by simpa only[ns]using h)
 |st::p,c,cs,n,o,v,c',vs,hc,hl,hv,h=>by
  by_cases kZ:st= .arr
  ·subst kZ
   have hl':(loc c p).eval=some (n,o):=by cases c <;> simpa only[loc]using hl
   have h':(ns c p v).eval=some c':=by cases c <;> simpa only[ns]using h
   exact jY p c cs n o v c' vs hc hl' hv h'
  have left:∀(a b:ao) (ca cb:List Value),cs=ca++cb->V E a ca->V E b cb->(loc a p).eval=some (n,o)->((ns a p v).bind λa'=>Out.ok (ua a' b)).eval=some c'->
    n+vs.length<=cs.length/\VO E c' (cM cs n vs)/\c'.fu=false:=by
   intro a b ca cb e ha hb hl hh
   obtain⟨a',h1,h2⟩:=ai.1 hh
   obtain rfl:=ak.1 h2
   obtain⟨h3,h4,h5⟩:=jY p a ca n o v a' vs (VO.of ha) hl hv h1
   subst e
   refine⟨by simp only[au];omega,?_,wi _ _⟩
   rw[o5 h3]
   have Px:a'.fu=false:=h5.lG ha.lG
   exact VO.of (DH (h4.to Px) hb)
  have right:∀(a b:ao) (ca cb:List Value),cs=ca++cb->ca.length=a.size->V E a ca->V E b cb->((loc b p).bind λ(n,v)=>Out.ok (a.size+n,v)).eval=some (n,o)->
    ((ns b p v).bind λb'=>Out.ok (ua a b')).eval=some c'->n+vs.length<=cs.length/\VO E c' (cM cs n vs)/\c'.fu=false:=by
   intro a b ca cb e HI ha hb hl hh
   obtain⟨⟨n',v'⟩,h1,h2⟩:=ai.1 hl
   simp only[ak,bY]at h2
   obtain⟨rfl,rfl⟩:=h2
   obtain⟨b',h3,h4⟩:=ai.1 hh
   obtain rfl:=ak.1 h4
   obtain⟨h5,h6,h7⟩:=jY p b cb n' v' v b' vs (VO.of hb) h1 hv h3
   subst e
   refine⟨by simp only[au];omega,?_,wi _ _⟩
   rw[<-HI,uI]
   have Px:b'.fu=false:=h7.lG hb.lG
   exact VO.of (DH ha (h6.to Px))
  have elem:∀(t:Ty) (l:List t.den) (i:Nat) (mk:List t.den->ao),aM (cC E t) cs l->(Out.lN (decide (i < l.length)) ((loc (.d t (nth t l i)) p).bind λ(n,v)=>Out.ok (i*t.size+n,v))).eval=some (n,o)->
    (Out.lN (decide (i < l.length)) ((ns (.d t (nth t l i)) p v).bind fun
     | .d t' y=>(Out.opt (lW t' t y)).bind λy=> .ok (mk (l.set i y))
     |_=> .fail)).eval=some c'->
    n+vs.length<=cs.length/\∃l',c'=mk l'/\l'.length=l.length/\aM (cC E t) (cM cs n vs) l':=by
   intro t l i mk mi hl hh
   obtain⟨hi,hl⟩:=bl.1 hl
   have hi:i < l.length:=by simpa using hi
   obtain⟨⟨n',v'⟩,h1,h2⟩:=ai.1 hl
   simp only[ak,bY]at h2
   obtain⟨rfl,rfl⟩:=h2
   obtain⟨_,hh⟩:=bl.1 hh
   obtain⟨w,h3,h4⟩:=ai.1 hh
   obtain⟨hp,hle⟩:=uz mi hi
   rw[yr hi]at h1 h3
   have Mc:V E (.d t l[i]) ((cs.drop (i*t.size)).take t.size):=by simpa only[V]using hp
   have hlen:((cs.drop (i*t.size)).take t.size).length=t.size:=hp.size
   obtain⟨h5,h6,h7⟩:=jY p _ _ n' v' v w vs (VO.of Mc) h1 hv h3
   cases w with
   |d t' y=>
    simp only at h4
    obtain⟨y',h8,h9⟩:=ai.1 h4
    obtain⟨rfl,h8⟩:=gh (gC.1 h8)
    simp only at h8
    subst h8
    obtain rfl:=ak.1 h9
    refine⟨by omega,_,rfl,by simp,?_⟩
    have hy:cC E t' (cM ((cs.drop (i*t'.size)).take t'.size) n' vs) y:=by simpa only[VO,V]using h6
    have:=aM.set (λc x hx=>cC.size hx) mi i hi hy
    rw[EO (by omega:i*t'.size+t'.size<=cs.length) (by omega)]
    rwa[hy.size]at this
   |_=>simp only[ag]at h4
  cases c with
  |pr a b=>
   simp only[VO,V]at hc
   obtain⟨ca,cb,e,ha,hb⟩:=hc
   cases st with
   |arr=>exact absurd rfl kZ
   |fst=>
    simp only[loc]at hl;simp only[ns]at h
    obtain⟨r1,r2,r3⟩:=left a b ca cb e ha hb hl h
    exact⟨r1,r2,iw.of rfl r3⟩
   |snd=>
    simp only[loc]at hl;simp only[ns]at h
    obtain⟨r1,r2,r3⟩:=right a b ca cb e ha.size ha hb hl h
    exact⟨r1,r2,iw.of rfl r3⟩
   |idx i=>simp only[loc,ag]at hl
  |d t x=>
   simp only[VO,V]at hc
   cases t with
   |pair ta tb=>
    simp only[cC]at hc
    obtain⟨ca,cb,e,ha,hb⟩:=hc
    have ha':V E (.d ta x.1) ca:=by simpa only[V]using ha
    have hb':V E (.d tb x.2) cb:=by simpa only[V]using hb
    cases st with
    |arr=>exact absurd rfl kZ
    |fst=>
     simp only[loc]at hl;simp only[ns]at h
     obtain⟨r1,r2,r3⟩:=left _ _ ca cb e ha' hb' hl h
     exact⟨r1,r2,iw.of rfl r3⟩
    |snd=>
     simp only[loc]at hl;simp only[ns]at h
     obtain⟨r1,r2,r3⟩:=right (.d ta x.1) (.d tb x.2) ca cb e ha.size ha' hb' hl h
     exact⟨r1,r2,iw.of rfl r3⟩
    |idx i=>simp only[loc,ag]at hl
   |arr m t=>
    simp only[cC]at hc
    cases st with
    |arr=>exact absurd rfl kZ
    |idx i=>
     simp only[loc]at hl;simp only[ns]at h
     obtain⟨r1,l',e,r2,r3⟩:=elem t x i (λl=> .d (.arr m t) l) hc.2 hl h
     subst e
     refine⟨r1,?_,trivial⟩
     simp only[VO,V,cC]
     exact⟨by rw[r2];exact hc.1,r3⟩
    |fst=>simp only[loc,ag]at hl
    |snd=>simp only[loc,ag]at hl
   |_=>cases st <;> first | exact absurd rfl kZ | (simp only[loc,ag]at hl)
  |vec e t l=>
   simp only[VO]at hc
   cases st with
   |arr=>exact absurd rfl kZ
   |idx i=>
    simp only[loc]at hl;simp only[ns]at h
    obtain⟨r1,l',e',r2,r3⟩:=elem t l i (λl=> .vec e t l) hc hl h
    subst e'
    exact⟨r1,by simpa only[VO]using r3,rfl,rfl,r2⟩
   |fst=>simp only[loc,ag]at hl
   |snd=>simp only[loc,ag]at hl
  |_=>cases st <;> first | exact absurd rfl kZ | (simp only[loc,ag]at hl)
end Go.Ab
namespace Go.Ab
def Nc(E:Env)(id:Id)(fr:Bool)(e:TypeId)(t:Ty)(l:List t.den):Prop:=
 0 < t.size/\match E.β id with
  |none=>l=[]
  |some pl=>∃cur k,E.w.heap[pl.b]? =some (.cells cur e (0,0))/\cur.size=pl.cap*t.size/\l.length<=pl.cap/\pl.cap<=maxLen/\E.g pl.b= .own (.id id) k/\
    k<=l.length*t.size/\(fr=false->k=0)/\aM (cC E t) (cur.toList.take (l.length*t.size)) l
def ao.qC:ao->Pl->Nat->TypeId->Prop
 | .bx e' 0 _,_,_,e=>e=e'
 | .bx e' (z+1) c,pl,n,e=>e=e'/\n=pl.cap*(z+1)/\pl.cap<=maxLen/\c.size<=n
 |_,_,_,_=>True
def ao.mW:ao->Nat->Nat
 | .bx _ (_+1) c,_=>c.size
 |_,n=>n
def ao.zi:ao->Bool | .bx .. =>true | _=>false
theorem V.oB{E:Env}{a:ao}{cs:List Value}(h:V E a cs):a.zi=false:=by
 cases a <;> first | rfl | (simp only[V]at h)
theorem vL{c:ao}(h:c.zi=false):c.strip=c:=by
 cases c <;> first | rfl | (simp[ao.zi]at h)
theorem uW{c:ao}(h:c.zi=false)(pl:Pl)(n:Nat)(e:TypeId):c.qC pl n e:=by
 cases c <;> first | trivial | (simp[ao.zi]at h)
theorem xi{c:ao}(h:c.zi=false)(n:Nat):c.mW n=n:=by
 cases c <;> first | rfl | (simp[ao.zi]at h)
theorem tm(c:ao){c':ao}(h:c'.zi=false):(c.wrap c').strip=c':=by
 cases c <;> first | rfl | exact vL h
theorem sG{c c':ao}{pl:Pl}{n:Nat}{e:TypeId}(hc:c.qC pl n e)(h:c'.zi=false)(hs:c'.size=c.strip.size):(c.wrap c').qC pl n e:=by
 cases c with
 |bx e' z c=>cases z with
  |zero=>exact hc
  |succ z=>exact⟨hc.1,hc.2.1,hc.2.2.1,by rw[hs];exact hc.2.2.2⟩
 |_=>exact uW h pl n e
theorem uV{c c':ao}{n:Nat}(h:c'.zi=false)(hs:c'.size=c.strip.size):(c.wrap c').mW n=c.mW n:=by
 cases c with
 |bx e' z c=>cases z with
  |zero=>rfl
  |succ z=>exact hs
 |_=>exact xi h n
theorem wQ{c:ao}{pl:Pl}{n:Nat}{e:TypeId}(h:c.qC pl n e):c.mW n<=n:=by
 cases c with
 |bx e' z c=>cases z with
  |zero=>exact aw _
  |succ z=>exact h.2.2.2
 |_=>exact aw _
def DN(id:Id)(fr:Bool):iO:=match fr with | true=> .free | false=> .own (.id id) 0
def uQ(E:Env)(id:Id)(fr:Bool)(c:ao):Prop:=
 ∃pl cur e,E.β id=some pl/\E.w.heap[pl.b]? =some (.cells cur e (0,0))/\E.g pl.b=DN id fr/\c.qC pl cur.size e/\V E c.strip (cur.toList.take (c.mW cur.size))
def Alike{α β:Type}(R:α->β->Prop):List α->List β->Prop
 |[],[]=>True
 |x::xs,y::ys=>R x y/\Alike R xs ys
 |_,_=>False
theorem Alike.mono{α β:Type}{R R':α->β->Prop}(h:∀x y,R x y->R' x y):∀ {xs:List α} {ys:List β},Alike R xs ys->Alike R' xs ys
 |[],[],_=>trivial
 |_::_,_::_,⟨h1,h2⟩=>⟨h _ _ h1,Alike.mono h h2⟩
 |[],_::_,h=>h.elim
 |_::_,[],h=>h.elim
def px(E:Env)(t:Ty)(v:Value)(x:t.den):Prop:=∃cs,cC E t cs x/\ei t.agg cs v
def pF(E:Env)(kt vt:Ty)(e:MapEntry)(x:kt.den×vt.den):Prop:=px E kt e.key x.1/\px E vt e.val x.2
theorem pF.mono{E E':Env}(h:lg E E'){kt vt:Ty}{e:MapEntry}{x:kt.den×vt.den}(he:pF E kt vt e x):pF E' kt vt e x:=
 let⟨⟨c1,a1,b1⟩,c2,a2,b2⟩:=he
 ⟨⟨c1,a1.mono h,b1⟩,c2,a2.mono h,b2⟩
def AH(E:Env)(kt vt:Ty)(es:List MapEntry)(l:List (kt.den×vt.den)):Prop:=∃l',Alike (pF E kt vt) es l'/\l'.Perm l
theorem AH.mono{E E':Env}(h:lg E E'){kt vt:Ty}{es:List MapEntry}{l:List (kt.den×vt.den)}(hm:AH E kt vt es l):AH E' kt vt es l:=
 let⟨l',h1,h2⟩:=hm
 ⟨l',h1.mono λ_ _ he=>he.mono h,h2⟩
def jz(es:List MapEntry)(clock:Nat):Prop:=(es.map (·.born)).Nodup/\∀e∈es,e.born < clock
theorem jz.nil(n:Nat):jz [] n:=⟨gz,λ_ h=>(by cases h)⟩
theorem jz.push{es:List MapEntry}{clock:Nat}(h:jz es clock){e:MapEntry}(he:e.born=clock):jz (es++ [e]) (clock+1):=by
 refine⟨?_,λx hx=> ?_⟩
 ·rw[List.map_append,List.nodup_append]
  refine⟨h.1,by simp,λa ha b hb=> ?_⟩
  obtain⟨x,hx,rfl⟩:=cU.1 ha
  have:=h.2 x hx
  simp only[bX,fW,bD]at hb
  omega
 ·rcases aX.1 hx with hx | hx
  ·have:=h.2 x hx;omega
  ·rw[bD]at hx;subst hx;omega
theorem jz.erase{es:List MapEntry}{clock:Nat}(h:jz es clock)(j:Nat):jz (es.eraseIdx j) clock:=
 ⟨h.1.sublist ((List.eraseIdx_sublist es j).map _),λx hx=>h.2 x ((List.eraseIdx_sublist es j).subset hx)⟩
theorem jz.set{es:List MapEntry}{clock:Nat}(h:jz es clock){j:Nat}{e x:MapEntry}(hj:es[j]? =some e)(hx:x.born=e.born):jz (es.set j x) clock:=by
 have gO:=(cT.1 hj).1
 have Q2:=(cT.1 hj).2
 have e1:(es.set j x).map (·.born)=es.map (·.born):=by
  rw[List.map_set,hx,<-Q2]
  have:es[j].born=(es.map (·.born))[j]'(by simpa using gO):=by simp
  rw[this,eK]
 refine⟨by rw[e1];exact h.1,λy hy=> ?_⟩
 rcases List.mem_or_eq_of_mem_set hy with hy | hy
 ·exact h.2 y hy
 ·rw[hy,hx,<-Q2]
  exact h.2 _ (b6 gO)
def O7(E:Env)(id:Id)(kt vt:Ty)(l:List (kt.den×vt.den)):Prop:=
 ∃pl es clock,E.β id=some pl/\E.w.heap[pl.b]? =some (.map es clock)/\E.g pl.b= .own (.id id) 0/\(AH E kt vt es.toList l/\(l.map (·.1)).Nodup)/\jz es.toList clock
def ME(E:Env)(i q:Id)(ver:Nat)(kt vt:Ty)(rest:List (kt.den×vt.den))(cur:Option (kt.den×vt.den)):Prop:=
 ∃pl mb since seen c0,E.β i=some pl/\E.w.heap[pl.b]? =some (.mapIter (some mb) since seen c0)/\E.g pl.b= .own (.id i) 0/\∀vr,ver=vr+1->E.qi q vr/\
  (E.cur q vr->(∃k v l,E.s q=some (.obj vr true (.mp k v l)))/\∃plq es clock,E.β q=some plq/\plq.b=mb/\E.w.heap[plq.b]? =some (.map es clock)/\E.g plq.b= .own (.id q) 0/\
   (∀x∈es.toList,x.born < since)/\(since<=c0/\since<=clock)/\(es.toList.map (·.born)).Nodup/\AH E kt vt (es.toList.filter λe=> !seen.contains e.born) rest/\
   ∀x,cur=some x->∃(e:MapEntry) (seen':Array Nat),e∈es.toList/\seen=seen'.push e.born/\c0=clock/\pF E kt vt e x)
def C3:Nat->LoopState->Option Code->Prop
 | 0,st,pe=>st= .ready/\pe=none
 | 1,st,_=>st= .busy
 | 2,st,pe=>st= .done/\pe=some .ret
 |n+3,st,pe=>st= .done/\pe=some (.exit n)
def pG(E:Env)(f:ao)(tmps:Array Value):Prop:=f.list.length=tmps.size/\∀i,VS E (f.list.getD i .undef) (tmps.getD i undef)
def O9(E:Env)(id:Id)(c:lU)(f:ao)(p:Nat):Prop:=
 ∃pl r,E.β id=some pl/\E.w.heap[pl.b]? =some (.loop r)/\E.g pl.b= .own (.id id) 0/\(r.params=c.ps/\r.assign=c.as/\r.body=c.b)/\pG E f r.tmps/\C3 p r.state r.pending
def mr(E:Env)(id:Id)(fr:Bool):ao->Prop
 | .mV c f p=>O9 E id c f p
 | .vec e t l=>Nc E id fr e t l
 | .mp kt vt l=>O7 E id kt vt l
 | .la q ver kt vt rest cur=>ME E id q ver kt vt rest cur
 |c=>uQ E id fr c
theorem mr.box{E:Env}{id:Id}{fr:Bool}{c:ao}(h:mr E id fr c)(hn:c.fu=false):uQ E id fr c:=by
 cases c <;> first | exact h | (simp[ao.fu]at hn)
theorem uQ.obj{E:Env}{id:Id}{fr:Bool}{c:ao}(h:uQ E id fr c):mr E id fr c:=by
 cases c <;> first | exact h | (obtain⟨_,_,_,_,_,_,_,hv⟩:=h;simp only[ao.strip,V]at hv)
def fF(E:Env):Prop:=∀id ver fr c,E.s id=some (.obj ver fr c)->mr E id fr c
structure Trans(w w':World)(g g':Nat->iO):Prop where
 os:w'.os=w.os
 tape:w'.tape=w.tape
 output:w'.output=w.output/\w.drawn<=w'.drawn
 size:w.heap.size<=w'.heap.size
 uS:∀b,b < w.heap.size->match g b with
  | .free=>g' b= .free/\w'.heap[b]? =w.heap[b]?
  | .own .dm k=>g' b= .own .dm k/\w'.heap[b]? =w.heap[b]?
  | .own (.id _) k=>(g' b= .free\/∃i k',g' b= .own (.id i) k'/\k<=k')/\∀off v,off < k->w.cell? ⟨b,off,none⟩=some v->w'.cell? ⟨b,off,none⟩=some v
theorem Trans.refl(w:World)(g:Nat->iO):Trans w w g g:=
 ⟨rfl,rfl,⟨rfl,aw _⟩,aw _,λb _=>by
  cases g b with
  |free=>exact⟨rfl,rfl⟩
  |own o k=>cases o with
   |dm=>exact⟨rfl,rfl⟩
   |id i=>exact⟨.inr ⟨i,k,rfl,aw _⟩,λ_ _ _ h=>h⟩⟩
theorem Trans.trans{w w' w'':World}{g g' g'':Nat->iO}(h:Trans w w' g g')(h':Trans w' w'' g' g''):Trans w w'' g g'':=by
 refine⟨h'.os.trans h.os,h'.tape.trans h.tape,⟨h'.output.1.trans h.output.1,Nat.le_trans h.output.2 h'.output.2⟩,Nat.le_trans h.size h'.size,λb hb=> ?_⟩
 have h1:=h.uS b hb
 have h2:=h'.uS b (kE hb h.size)
 cases hg:g b with
 |free=>
  rw[hg]at h1;simp only at h1 ⊢
  rw[h1.1]at h2;simp only at h2
  exact⟨h2.1,h2.2.trans h1.2⟩
 |own o k=>
  cases o with
  |dm=>
   rw[hg]at h1;simp only at h1 ⊢
   rw[h1.1]at h2;simp only at h2
   exact⟨h2.1,h2.2.trans h1.2⟩
  |id i=>
   rw[hg]at h1;simp only at h1 ⊢
   obtain⟨Nr,QR⟩:=h1
   rcases Nr with Nr | ⟨i',k',Nr,hk⟩
   ·rw[Nr]at h2;simp only at h2
    exact⟨.inl h2.1,λoff v ho hv=>by
     have:=QR off v ho hv
     simpa only[World.cell?,h2.2]using this⟩
   ·rw[Nr]at h2;simp only at h2
    refine⟨?_,λoff v ho hv=>h2.2 off v (by omega) (QR off v ho hv)⟩
    rcases h2.1 with Pt | ⟨i'',k'',Pt,hk'⟩
    ·exact .inl Pt
    ·exact .inr ⟨i'',k'',Pt,by omega⟩
theorem Trans.mem{E E':Env}(h:Trans E.w E'.w E.g E'.g):lg E E':=by
 refine⟨?_,λb ob hf ho=>by
  have h1:=h.uS b (bg.1 ho).1
  rw[hf]at h1
  exact⟨h1.1,h1.2.trans ho⟩⟩
 intro b off v ⟨hc,ho⟩
 have hb:b < E.w.heap.size:=World.block_lt_of_cell? _ _ hc
 have h1:=h.uS b hb
 unfold Env.has lQ at*
 cases hg:E.g b with
 |free=>
  rw[hg]at h1;simp only at h1
  refine⟨?_,by rw[h1.1];trivial⟩
  simpa only[World.cell?,h1.2]using hc
 |own o k=>
  rw[hg]at ho;simp only at ho
  cases o with
  |dm=>
   rw[hg]at h1;simp only at h1
   refine⟨?_,by rw[h1.1];exact ho⟩
   simpa only[World.cell?,h1.2]using hc
  |id i=>
   rw[hg]at h1;simp only at h1
   refine⟨h1.2 off v ho hc,?_⟩
   rcases h1.1 with h2 | ⟨i',k',h2,hk⟩
   ·rw[h2];trivial
   ·rw[h2];show off < k';omega
theorem pG.mono{E E':Env}(h:bV E E'){f:ao}{tmps:Array Value}(hs:pG E f tmps):pG E' f tmps:=⟨hs.1,λi=>(hs.2 i).mono h⟩
theorem mr.KK{E E':Env}(h:bV E E'){id:Id}{fr:Bool}{c:ao}(ho:mr E id fr c)(hβ:E'.β id=E.β id)
    (hb:∀pl,E.β id=some pl->E'.w.heap[pl.b]? =E.w.heap[pl.b]? /\E'.g pl.b=E.g pl.b)
    (hq:∀q ver k v l,(∃kt vt rest cu,c= .la q (ver+1) kt vt rest cu)->E.s q=some (.obj ver true (.mp k v l))->E'.cur q ver->(∃k v l,E'.s q=some (.obj ver true (.mp k v l)))/\∀pl,E.β q=some pl->E'.w.heap[pl.b]? =E.w.heap[pl.b]? /\E'.g pl.b=E.g pl.b):mr E' id fr c:=by
  by_cases hn:c.fu=false
  · obtain⟨pl,cur,e,h1,h2,h3,h5,h4⟩:=ho.box hn
    obtain⟨b1,b2⟩:=hb pl h1
    exact uQ.obj ⟨pl,cur,e,by rw[hβ,h1],by rw[b1,h2],by rw[b2,h3],h5,h4.mono h⟩
  · cases c <;> first
      | (exact absurd rfl hn)
      | (obtain⟨pl,r,h1,h2,h3,h4,h5,h6⟩:=ho
         obtain⟨b1,b2⟩:=hb pl h1
         exact⟨pl,r,by rw[hβ,h1],by rw[b1,h2],by rw[b2,h3],h4,h5.mono h,h6⟩)
      | (obtain⟨pl,es,clock,h1,h2,h3,h4⟩:=ho
         obtain⟨b1,b2⟩:=hb pl h1
         exact⟨pl,es,clock,by rw[hβ,h1],by rw[b1,h2],by rw[b2,h3],⟨h4.1.1.mono h.mem,h4.1.2⟩,h4.2⟩)
      | (obtain⟨pl,mb,since,seen,c0,h1,h2,h3,hv⟩:=ho
         obtain⟨b1,b2⟩:=hb pl h1
         refine⟨pl,mb,since,seen,c0,by rw[hβ,h1],by rw[b1,h2],by rw[b2,h3],λvr Eh=> ?_⟩
         obtain⟨h4,h5⟩:=hv vr Eh
         refine⟨h.qi _ _ h4,λhc=> ?_⟩
         obtain⟨c1,e1⟩:=h.cur _ _ h4 hc
         obtain⟨⟨k,v,l,hk⟩,plq,es,clock,g1,g2,g3,g4,g5,g6,g7,g8,g9⟩:=h5 c1
         obtain⟨q1,q2⟩:=hq _ _ _ _ _ ⟨_,_,_,_,by rw[Eh]⟩ hk hc
         obtain⟨q3,q4⟩:=q2 plq g1
         exact⟨q1,plq,es,clock,by rw[e1,g1],g2,by rw[q3,g3],by rw[q4,g4],g5,g6,g7,g8.mono h.mem,λx hx=>
           let⟨e,se,a1,a2,a3,a4⟩:=g9 x hx
           ⟨e,se,a1,a2,a3,a4.mono h.mem⟩⟩)
      |skip
    rename_i e t l
    obtain⟨hz,ho⟩:=ho
    refine⟨hz,?_⟩
    rw[hβ]
    cases hp:E.β id with
    |none=>rw[hp]at ho;exact ho
    |some pl=>
      rw[hp]at ho
      simp only at ho ⊢
      obtain⟨b1,b2⟩:=hb pl hp
      obtain⟨cur,k,h1,h2,h3,h4,h5,h6,h7,h8⟩:=ho
      exact⟨cur,k,by rw[b1,h1],h2,h3,h4,by rw[b2,h5],h6,h7,h8.mono λc x hx=>hx.mono h.mem⟩
theorem mr.mono{E E':Env}(h:bV E E'){id:Id}{fr:Bool}{c:ao}(ho:mr E id fr c)(hβ:E'.β id=E.β id)
  (hb:∀pl,E.β id=some pl->E'.w.heap[pl.b]? =E.w.heap[pl.b]? /\E'.g pl.b=E.g pl.b)
  (hq:∀q ver k v l,E.s q=some (.obj ver true (.mp k v l))->E'.cur q ver->(∃k v l,E'.s q=some (.obj ver true (.mp k v l)))/\∀pl,E.β q=some pl->E'.w.heap[pl.b]? =E.w.heap[pl.b]? /\E'.g pl.b=E.g pl.b):mr E' id fr c:=
 ho.KK h hβ hb λq ver k v l _=>hq q ver k v l
def AS.env(s:AS)(w:World)(g:Nat->iO)(β:Id->Option Pl):Env:= {w,g,β,s:=s.bA}
structure Ctx where
 E:Env
def Ctx.ok(C:Ctx):Prop:=(∀i j,C.E.s (.new i j)=none)/\∀k v fr c,C.E.s (.c8 k)=some (.obj v fr c)->v=0
def l5(D:Nat):Deferred:= {target:= .collected D,args:= #[]}
def E1(n:Nat)(ds:List Deferred)(w:World)(g:Nat->iO):Prop:=
 ds.Nodup/\∀d∈ds,∃D,d=l5 D/\n<=D/\w.heap[D]? =some (.deferred (some []))/\g D= .own .dm 0
theorem E1.mono{n:Nat}{ds:List Deferred}{w w':World}{g g':Nat->iO}(h:E1 n ds w g)(ht:Trans w w' g g'):E1 n ds w' g':=
 ⟨h.1,λd hd=>by
  obtain⟨D,h1,h2,h3,h4⟩:=h.2 d hd
  have:=ht.uS D (bg.1 h3).1
  rw[h4]at this
  exact⟨D,h1,h2,this.2.trans h3,this.1⟩⟩
structure Inv(C:Ctx)(g:Nat->iO)(β:Id->Option Pl)(s:AS)(a:Act)(w:World):Prop where
 defers:E1 C.E.w.heap.size a.defers w g
 size:a.tmps.size=s.bK.length
 bK:∀i,VS (s.env w g β) (s.slot i) (a.tmps.getD i undef)
 bk:fF (s.env w g β)
 trans:Trans C.E.w w C.E.g g
 le:bV C.E (s.env w g β)
def fq(C:Ctx)(s:AS)(a:Act)(w:World):Prop:=∃g β,Inv C g β s a w
theorem yK(s:AS)(d:Nat)(v:ao)(i:Nat):(s.put (some d) v).slot i=if i=d/\d < s.bK.length then v else s.slot i:=by
 simp only[AS.put,AS.slot,ax,List.getElem?_set]
 by_cases h:d=i
 ·subst h
  by_cases hl:d < s.bK.length
  ·simp[hl]
  ·simp[hl]
 ·simp[h,Ne.symm h]
@[simp] theorem rz(s:AS)(d:Option Tmp)(v:ao):(s.put d v).bA=s.bA:=by
 cases d <;> rfl
@[simp] theorem AT(s:AS)(d:Option Tmp)(v:ao)(w:World)(g:Nat->iO)(β:Id->Option Pl):(s.put d v).env w g β=s.env w g β:=by
 simp[AS.env]
theorem Dn(a:Act)(d:Nat)(v:Value)(i:Nat):(a.put (some d) v).tmps.getD i undef=if i=d/\d < a.tmps.size then v else a.tmps.getD i undef:=by
 simp only[Act.put,bT,c9]
 by_cases h:d=i
 ·subst h
  by_cases hl:d < a.tmps.size
  ·simp[hl]
  ·simp[hl]
 ·simp[h,Ne.symm h]
theorem Inv.put{C:Ctx}{g:Nat->iO}{β:Id->Option Pl}{s:AS}{a:Act}{w:World}(h:Inv C g β s a w)(d:Option Tmp){v:ao}{x:Value}(hv:VS (s.env w g β) v x):
  Inv C g β (s.put d v) (a.put d x) w:=by
 cases d with
 |none=>exact h
 |some d=>
  refine⟨h.defers,by simpa[Act.put,AS.put]using h.size,λi=> ?_,by simpa using h.bk,h.trans,by simpa using h.le⟩
  rw[AT,yK,Dn,h.size]
  split
  ·exact hv
  ·exact h.bK i
theorem Inv.step{C:Ctx}{g g':Nat->iO}{β β':Id->Option Pl}{s s':AS}{a:Act}{w w':World}(h:Inv C g β s a w)(hs:s'.bK=s.bK)
  (ht:Trans w w' g g') (he:bV (s.env w g β) (s'.env w' g' β')) (ho:fF (s'.env w' g' β')):Inv C g' β' s' a w':=
 ⟨h.defers.mono ht,by rw[hs];exact h.size,λi=>by
  have:s'.slot i=s.slot i:=by simp[AS.slot,hs]
  rw[this]
  exact(h.bK i).mono he,ho,h.trans.trans ht,h.le.trans he⟩
theorem Hi{E:Env}(v:Value):VS E (ofConst v) v:=by
 cases v with
 |bool b=>exact⟨_,by simp[ofConst,V,cC],rfl⟩
 |int k n=>exact⟨_,by simp[ofConst,V,cC],rfl⟩
 |string s=>exact⟨_,by simp[ofConst,V,cC],rfl⟩
 |slice a l c=>cases a with
  |none=>
   cases l with
   |zero=>cases c with
    |zero=>exact⟨_,by simp[ofConst,V],rfl⟩
    |succ _=>trivial
   |succ _=>trivial
  |some _=>trivial
 |pointer a=>cases a with
  |none=>exact⟨_,by simp[ofConst,V],rfl⟩
  |some _=>trivial
 |map r=>cases r with
  |none=>exact⟨_,by simp[ofConst,V],rfl⟩
  |some _=>trivial
 |nilFunc=>exact⟨_,by simp[ofConst,V],rfl⟩
 |_=>trivial
theorem Inv.ev{C:Ctx}{g:Nat->iO}{β:Id->Option Pl}{s:AS}{a:Act}{w:World}(h:Inv C g β s a w)(x:Operand):VS (s.env w g β) (s.ev x) (a.eval x):=by
 cases x with
 |tmp t=>exact h.bK t
 |const v=>exact Hi v
 |func f=>exact⟨_,by simp only[AS.ev,V];exact⟨[],rfl,by simp[VC]⟩,rfl⟩
 |global _=>trivial
theorem dv(s:AS)(id:Id)(e:c7)(h:s.bA id≠none):(s.aD id e).bA id=some e:=by
 cases id with
 |c8 k=>
  simp only[AS.bA,AS.aD]at*
  have hk:k < s.bP.length:=by
   rcases jQ k s.bP.length with h' | h'
   ·exact h'
   ·exact absurd (cW h') h
  simp[hk]
 |new i j=>
  simp only[AS.bA,AS.aD]at*
  have hj:j < (s.news.getD i []).length:=by
   rcases jQ j (s.news.getD i []).length with h' | h'
   ·exact h'
   ·exact absurd (cW h') h
  have hi:i < s.news.length:=by
   rcases jQ i s.news.length with h' | h'
   ·exact h'
   ·simp[cW h']at hj
  have:((s.news.set i ((s.news.getD i []).set j e)).getD i [])=(s.news.getD i []).set j e:=by
   simp[ax,hi]
  rw[this]
  simp only[List.getElem?_set,hj,if_true]
theorem cq(s:AS)(id id':Id)(e:c7)(h:id'≠id):(s.aD id e).bA id'=s.bA id':=by
 cases id with
 |c8 k=>
  cases id' with
  |c8 k'=>
   simp only[AS.bA,AS.aD]
   rw[dz (λe=>h (by rw[e]))]
  |new i j=>rfl
 |new i j=>
  cases id' with
  |c8 k'=>rfl
  |new i' j'=>
   simp only[AS.bA,AS.aD]
   by_cases hi:i'=i
   ·subst hi
    have hj:j≠j':=λe=>h (by rw[e])
    by_cases hl:i' < s.news.length
    ·have:((s.news.set i' ((s.news.getD i' []).set j e)).getD i' [])=(s.news.getD i' []).set j e:=by
      simp[ax,hl]
     rw[this,dz hj]
    ·rw[List.set_eq_of_length_le (by omega)]
   ·have:(s.news.set i ((s.news.getD i []).set j e)).getD i' []=s.news.getD i' []:=by
     simp only[ax]
     rw[dz (Ne.symm hi)]
    rw[this]
@[simp] theorem cF(s:AS)(id:Id)(e:c7):(s.aD id e).bK=s.bK:=by cases id <;> rfl
@[simp] theorem Mu(s:AS)(i:Nat)(es:List c7):(s.born i es).bK=s.bK:=rfl
theorem dj{s:AS}{id:Id}{v:Nat}{fr:Bool}{c:ao}(h:s.obj id=some (v,fr,c)):s.bA id=some (.obj v fr c):=by
 unfold AS.obj at h
 split at h
 ·rename_i h';simp at h;obtain⟨rfl,rfl,rfl⟩:=h;exact h'
 ·cases h
theorem bV.aD{s:AS}{w w':World}{g g':Nat->iO}{β β':Id->Option Pl}{id:Id}{v v':Nat}{fr fr':Bool}{c c':ao}(hs:s.bA id=some (.obj v fr c))(hv:v<=v')
  (ht:Trans w w' g g') (hβ:∀i,i≠id->β' i=β i) (hβ':v'=v->β' id=β id):bV (s.env w g β) ((s.aD id (.obj v' fr' c')).env w' g' β'):=by
 have iL:=dv s id (.obj v' fr' c') (by rw[hs];simp)
 refine⟨Trans.mem ht,λi ver hb=> ?_,λi ver hb hc=> ?_⟩
 ·by_cases hi:i=id
  ·subst hi
   obtain⟨_,h2⟩:=hb
   refine⟨by show(s.aD i (.obj v' fr' c')).bA i≠none;rw[iL];simp,λv'' fr'' c'' he=> ?_⟩
   have he':(s.aD i (.obj v' fr' c')).bA i=some (.obj v'' fr'' c''):=he
   rw[iL]at he'
   simp only[al,c7.obj.injEq]at he'
   have:=h2 v fr c hs
   omega
  ·have:=cq s id i (.obj v' fr' c') hi
   obtain⟨h1,h2⟩:=hb
   exact⟨by show(s.aD id (.obj v' fr' c')).bA i≠none;rw[this];exact h1,λv'' fr'' c'' he=>h2 v'' fr'' c'' (this.symm.trans he)⟩
 ·obtain⟨fr'',c'',hc⟩:=hc
  by_cases hi:i=id
  ·subst hi
   have hc':(s.aD i (.obj v' fr' c')).bA i=some (.obj ver fr'' c''):=hc
   rw[iL]at hc'
   simp only[al,c7.obj.injEq]at hc'
   have h2:=hb.2 v fr c hs
   have e:v'=v:=by omega
   refine⟨⟨fr,c,?_⟩,hβ' e⟩
   rw[<-hc'.1,e];exact hs
  ·have hc':(s.aD id (.obj v' fr' c')).bA i=some (.obj ver fr'' c''):=hc
   rw[cq s id i _ hi]at hc'
   exact⟨⟨fr'',c'',hc'⟩,hβ i hi⟩
theorem fF.aD{s:AS}{w w':World}{g g':Nat->iO}{β β':Id->Option Pl}{id:Id}{v':Nat}{fr':Bool}{c':ao}(h:fF (s.env w g β))(fL:s.bA id≠none)
  (he:bV (s.env w g β) ((s.aD id (.obj v' fr' c')).env w' g' β')) (hβ:∀i,i≠id->β' i=β i)
  (hb:∀i ver fr c pl,i≠id->s.bA i=some (.obj ver fr c)->β i=some pl->w'.heap[pl.b]? =w.heap[pl.b]? /\g' pl.b=g pl.b)
  (ho:mr ((s.aD id (.obj v' fr' c')).env w' g' β') id fr' c')
  (LU:∀ver k v l,s.bA id=some (.obj ver true (.mp k v l))->v'=ver/\fr'=true/\(∃k v l,c'= .mp k v l)/\∀pl,β id=some pl->w'.heap[pl.b]? =w.heap[pl.b]? /\g' pl.b=g pl.b):fF ((s.aD id (.obj v' fr' c')).env w' g' β'):=by
 intro i ver fr c hi
 by_cases cI:i=id
 ·subst cI
  have hi':(s.aD i (.obj v' fr' c')).bA i=some (.obj ver fr c):=hi
  rw[dv s i _ fL]at hi'
  simp only[al,c7.obj.injEq]at hi'
  obtain⟨rfl,rfl,rfl⟩:=hi'
  exact ho
 ·have hi':(s.aD id (.obj v' fr' c')).bA i=some (.obj ver fr c):=hi
  rw[cq s id i _ cI]at hi'
  refine(h i ver fr c hi').mono he (hβ i cI) (λpl hp=>hb i ver fr c pl cI hi' hp) λq vq k v l hq hc=> ?_
  have hq:s.bA q=some (.obj vq true (.mp k v l)):=hq
  by_cases P8:q=id
  ·subst P8
   obtain⟨rfl,rfl,⟨k',v',l',rfl⟩,MK⟩:=LU _ _ _ _ hq
   exact⟨⟨k',v',l',dv s q _ fL⟩,MK⟩
  ·exact⟨⟨k,v,l,by show(s.aD id _).bA q=_;rw[cq s id q _ P8];exact hq⟩,λpl hp=>hb q vq true _ pl P8 hq hp⟩
theorem wX{s:AS}{w:World}{g:Nat->iO}{β:Id->Option Pl}{id:Id}{v:Nat}{fr:Bool}{c:ao}(hs:s.bA id=some (.obj v fr c)):
  ∀ver k v1 l,s.bA id=some (.obj ver true (.mp k v1 l))->v=ver/\true=true/\(∃k v l,c= .mp k v l)/\∀pl,β id=some pl->w.heap[pl.b]? =w.heap[pl.b]? /\g pl.b=g pl.b:=λver k v1 l hl=>by
 rw[hs]at hl
 cases hl
 exact⟨rfl,rfl,⟨_,_,_,rfl⟩,λ_ _=>⟨rfl,rfl⟩⟩
theorem jU{s:AS}{id:Id}{v:Nat}{fr:Bool}{c:ao}(hs:s.bA id=some (.obj v fr c))(hc:∀k v1 l,c≠ .mp k v1 l){Q:Nat->Prop}:
  ∀ver k v1 l,s.bA id=some (.obj ver true (.mp k v1 l))->Q ver:=λver k v1 l hl=>by
 rw[hs]at hl
 cases hl
 exact absurd rfl (hc _ _ _)
theorem tV{s:AS}{id:Id}{v:Nat}{c:ao}(hs:s.bA id=some (.obj v false c)){Q:Nat->Prop}:
  ∀ver k v1 l,s.bA id=some (.obj ver true (.mp k v1 l))->Q ver:=λver k v1 l hl=>by
 rw[hs]at hl
 cases hl
theorem rn{s:AS}{id:Id}{v:Nat}{fr:Bool}{c:ao}(hs:s.bA id=some (.obj v fr c))(h:s.lK id=true):fr=false:=by
 have e:s.obj id=some (v,fr,c):=by simp[AS.obj,hs]
 unfold AS.lK at h
 rw[e]at h
 simpa using h
theorem mr.label{E:Env}{id:Id}{fr:Bool}{c:ao}(h:mr E id fr c){pl:Pl}(hp:E.β id=some pl):
    pl.b < E.w.heap.size/\((∃k,E.g pl.b= .own (.id id) k)\/(fr=true/\E.g pl.b= .free)):=by
  by_cases hn:c.fu=false
  · obtain⟨pl',cur,e,h1,h2,h3,h4⟩:=h.box hn
    rw[hp]at h1
    obtain rfl:pl=pl':=by simpa using h1
    refine⟨(bg.1 h2).1,?_⟩
    cases fr with
    |true=>exact .inr ⟨rfl,h3⟩
    |false=>exact .inl ⟨0,h3⟩
  · cases c <;> first
      | (exact absurd rfl hn)
      | (obtain⟨pl',r,h1,h2,h3,_,_,_⟩:=h
         rw[hp]at h1
         obtain rfl:pl=pl':=by simpa using h1
         exact⟨(bg.1 h2).1,.inl ⟨0,h3⟩⟩)
      | (obtain⟨pl',es,clock,h1,h2,h3,_⟩:=h
         rw[hp]at h1
         obtain rfl:pl=pl':=by simpa using h1
         exact⟨(bg.1 h2).1,.inl ⟨0,h3⟩⟩)
      | (obtain⟨pl',mb,since,seen,c0,h1,h2,h3,_⟩:=h
         rw[hp]at h1
         obtain rfl:pl=pl':=by simpa using h1
         exact⟨(bg.1 h2).1,.inl ⟨0,h3⟩⟩)
      |skip
    obtain⟨_,h⟩:=h
    rw[hp]at h
    obtain⟨cur,k,h1,_,_,_,h5,_⟩:=h
    exact⟨(bg.1 h1).1,.inl ⟨k,h5⟩⟩
def iT{α:Type}(f:Nat->α)(b:Nat)(x:α):Nat->α:=λb'=>if b'=b then x else f b'
@[simp] theorem eb{α:Type}(f:Nat->α)(b:Nat)(x:α):iT f b x b=x:=by simp[iT]
theorem dU{α:Type}(f:Nat->α)(b:Nat)(x:α){b':Nat}(h:b'≠b):iT f b x b'=f b':=by simp[iT,h]
def xN:ao->Nat->Prop
 | .vec _ t l,j=>j < l.length*t.size
 |_,_=>True
theorem xN.of{c:ao}(h:c.fu=false)(j:Nat):xN c j:=by
 cases c <;> first | trivial | (simp[ao.fu]at h)
theorem Hs{w:World}{b:Nat}{es:Array MapEntry}{clock:Nat}(h:w.heap[b]? =some (.map es clock))(j:Nat):w.cell? ⟨b,j,none⟩=none:=by
 simp[World.cell?,h]
theorem AZ{C:Ctx}{g:Nat->iO}{β:Id->Option Pl}{s:AS}{a:Act}{w:World}(h:Inv C g β s a w)(id:Id):
    ∃g',Inv C g' β (s.freeze id) a w/\bV (s.env w g β) ((s.freeze id).env w g' β)/\Trans w w g g'/\
      (∀v fr c,s.bA id=some (.obj v fr c)->∀pl,β id=some pl->∀j x,w.cell? ⟨pl.b,j,none⟩=some x->
        xN c j->lQ g' pl.b j):=by
  unfold AS.freeze
  cases hs:s.bA id with
  |none=>exact⟨g,h,bV.refl _,Trans.refl _ _,λ_ _ _ hh=>by cases hh⟩
  |some e=>
    cases e with
    |dead=>exact⟨g,h,bV.refl _,Trans.refl _ _,λ_ _ _ hh=>by cases hh⟩
    |obj v fr c=>
      simp only
      have ia:mr (s.env w g β) id fr c:=h.bk id v fr c hs
      cases hp:β id with
      |none=>
        have ht:=Trans.refl w g
        have he:bV (s.env w g β) ((s.aD id (.obj v true c)).env w g β):=bV.aD hs (aw _) ht (λ_ _=>rfl) (λ_=>rfl)
        refine⟨g,h.step (cF _ _ _) ht he ?_,he,ht,λ_ _ _ _ pl wF=>by cases wF⟩
        refine fF.aD h.bk (by rw[hs];simp) he (λ_ _=>rfl) (λ_ _ _ _ _ _ _ _=>⟨rfl,rfl⟩) ?_ (wX hs)
        by_cases hn:c.fu=false
        · obtain⟨pl,_,_,h1,_⟩:=ia.box hn
          have h1':β id=some pl:=h1
          rw[hp]at h1';cases h1'
        · cases c <;> first
            | (exact absurd rfl hn)
            | (obtain⟨pl,_,h1,_⟩:=ia
               have h1':β id=some pl:=h1
               rw[hp]at h1';cases h1')
            | (obtain⟨pl,_,_,h1,_⟩:=ia
               have h1':β id=some pl:=h1
               rw[hp]at h1';cases h1')
            | (obtain⟨pl,_,_,_,_,h1,_⟩:=ia
               have h1':β id=some pl:=h1
               rw[hp]at h1';cases h1')
            |skip
          obtain⟨hz,ho⟩:=ia
          have ho':(match β id with
            |none=>_
            |some pl=>_):=ho
          refine⟨hz,?_⟩
          show(match β id with
            |none=>_
            |some pl=>_)
          rw[hp]at ho' ⊢
          exact ho'
      |some pl=>
        have NQ:=ia.label (pl:=pl) hp
        by_cases hn:c.fu=false
        · obtain⟨pl',cur,e,h1,h2,h3,h5,h4⟩:=ia.box hn
          have h1':β id=some pl':=h1
          rw[hp]at h1'
          obtain rfl:pl=pl':=by simpa using h1'
          have h3':g pl.b=DN id fr:=h3
          have ht:Trans w w g (iT g pl.b .free):=by
            refine⟨rfl,rfl,⟨rfl,aw _⟩,aw _,λb hb=> ?_⟩
            by_cases A0:b=pl.b
            · subst A0
              rw[h3',eb]
              cases fr with
              |true=>exact⟨rfl,rfl⟩
              |false=>exact⟨.inl rfl,λ_ _ _ hh=>hh⟩
            · rw[dU _ _ _ A0]
              exact(Trans.refl w g).uS b hb
          have he:bV (s.env w g β) ((s.aD id (.obj v true c)).env w (iT g pl.b .free) β):=bV.aD hs (aw _) ht (λ_ _=>rfl) (λ_=>rfl)
          refine⟨iT g pl.b .free,h.step (cF _ _ _) ht he ?_,he,ht,?_⟩
          · refine fF.aD h.bk (by rw[hs];simp) he (λ_ _=>rfl) (λi ver fr' c' pl' hi b5 wF=>⟨rfl,?_⟩) ?_ (jU hs λk v1 l e=>by rw[e]at hn;simp[ao.fu]at hn)
            · by_cases A0:pl'.b=pl.b
              · rw[A0,eb]
                have hl:=(h.bk i ver fr' c' b5).label (pl:=pl') wF
                have JA:(∃k,g pl'.b= .own (.id i) k)\/(fr'=true/\g pl'.b= .free):=hl.2
                rw[A0,h3']at JA
                cases fr with
                |true=>exact h3'.symm▸rfl
                |false=>
                  exfalso
                  rcases JA with⟨k,hk⟩ | ⟨_,hk⟩
                  · simp only[DN,iO.own.injEq,Own.id.injEq]at hk
                    exact hi hk.1.symm
                  · cases hk
              · rw[dU _ _ _ A0]
            · exact uQ.obj ⟨pl,cur,e,hp,h2,eb _ _ _,h5,V.mono he h4⟩
          · intro v1 fr1 c1 hh pl1 A5 j x hx hj
            obtain rfl:pl=pl1:=by simpa using A5
            unfold lQ;rw[eb];trivial
        · cases c <;> first | (exact absurd rfl hn) | skip
          rotate_left
          rotate_left
          · rename_i q vq kt vt rest cu
            have ht:=Trans.refl w g
            have he:bV (s.env w g β) ((s.aD id (.obj v true (.la q vq kt vt rest cu))).env w g β):=bV.aD hs (aw _) ht (λ_ _=>rfl) (λ_=>rfl)
            have hob':=ia
            obtain⟨pl',mb,since,seen,c0,h1,h2,_⟩:=ia
            have h1':β id=some pl':=h1
            rw[hp]at h1'
            obtain rfl:pl=pl':=by simpa using h1'
            refine⟨g,h.step (cF _ _ _) ht he ?_,he,ht,λ_ _ _ _ pl1 A5 j x hx _=> ?_⟩
            · refine fF.aD h.bk (by rw[hs];simp) he (λ_ _=>rfl) (λ_ _ _ _ _ _ _ _=>⟨rfl,rfl⟩) ?_ (wX hs)
              exact mr.mono he (fr:=true) hob' rfl (λ_ _=>⟨rfl,rfl⟩) λq2 v2 k2 v3 l2 xH _=>⟨⟨k2,v3,l2,by
                have xH:s.bA q2=some (.obj v2 true (.mp k2 v3 l2)):=xH
                have fL:q2≠id:=λe=>by rw[e,hs]at xH;cases xH
                show(s.aD id _).bA q2=_
                rw[cq s id q2 _ fL];exact xH⟩,λ_ _=>⟨rfl,rfl⟩⟩
            · obtain rfl:pl=pl1:=by simpa using A5
              have h2:w.heap[pl.b]? =some (.mapIter (some mb) since seen c0):=h2
              simp[World.cell?,h2]at hx
          · rename_i k f p
            have ht:=Trans.refl w g
            have he:bV (s.env w g β) ((s.aD id (.obj v true (.mV k f p))).env w g β):=bV.aD hs (aw _) ht (λ_ _=>rfl) (λ_=>rfl)
            obtain⟨pl',r,h1,h2,h3,h4,h5,h6⟩:=ia
            have h1':β id=some pl':=h1
            rw[hp]at h1'
            obtain rfl:pl=pl':=by simpa using h1'
            refine⟨g,h.step (cF _ _ _) ht he ?_,he,ht,λ_ _ _ _ pl1 A5 j x hx _=> ?_⟩
            · exact fF.aD h.bk (by rw[hs];simp) he (λ_ _=>rfl) (λ_ _ _ _ _ _ _ _=>⟨rfl,rfl⟩) ⟨pl,r,hp,h2,h3,h4,h5.mono he,h6⟩ (wX hs)
            · obtain rfl:pl=pl1:=by simpa using A5
              have h2:w.heap[pl.b]? =some (.loop r):=h2
              simp[World.cell?,h2]at hx
          rotate_left
          · obtain⟨pl',es,clock,h1,h2,h3,h4⟩:=ia
            have h1':β id=some pl':=h1
            rw[hp]at h1'
            obtain rfl:pl=pl':=by simpa using h1'
            have ht:=Trans.refl w g
            rename_i kt vt l
            have he:bV (s.env w g β) ((s.aD id (.obj v true (.mp kt vt l))).env w g β):=bV.aD hs (aw _) ht (λ_ _=>rfl) (λ_=>rfl)
            refine⟨g,h.step (cF _ _ _) ht he ?_,he,ht,λ_ _ _ _ pl1 A5 j x hx _=> ?_⟩
            · exact fF.aD h.bk (by rw[hs];simp) he (λ_ _=>rfl) (λ_ _ _ _ _ _ _ _=>⟨rfl,rfl⟩) ⟨pl,es,clock,hp,h2,h3,⟨h4.1.1.mono he.mem,h4.1.2⟩,h4.2⟩ (wX hs)
            · obtain rfl:pl=pl1:=by simpa using A5
              have h2:w.heap[pl.b]? =some (.map es clock):=h2
              rw[Hs h2]at hx
              cases hx
          rename_i e t l
          obtain⟨hz,ho⟩:=ia
          have ho':(match β id with
            |none=>l=[]
            |some pl=>∃cur k,w.heap[pl.b]? =some (.cells cur e (0,0))/\cur.size=pl.cap*t.size/\l.length<=pl.cap/\pl.cap<=maxLen/\g pl.b= .own (.id id) k/\
                k<=l.length*t.size/\(fr=false->k=0)/\aM (cC (s.env w g β) t) (cur.toList.take (l.length*t.size)) l):=ho
          rw[hp]at ho'
          obtain⟨cur,k,h1,h2,h3,h4,h5,h6,h7,h8⟩:=ho'
          have ht:Trans w w g (iT g pl.b (.own (.id id) (l.length*t.size))):=by
            refine⟨rfl,rfl,⟨rfl,aw _⟩,aw _,λb hb=> ?_⟩
            by_cases A0:b=pl.b
            · subst A0
              rw[h5,eb]
              exact⟨.inr ⟨id,_,rfl,h6⟩,λ_ _ _ hh=>hh⟩
            · rw[dU _ _ _ A0]
              exact(Trans.refl w g).uS b hb
          have he:bV (s.env w g β) ((s.aD id (.obj v true (.vec e t l))).env w (iT g pl.b (.own (.id id) (l.length*t.size))) β):=bV.aD hs (aw _) ht (λ_ _=>rfl) (λ_=>rfl)
          refine⟨_,h.step (cF _ _ _) ht he ?_,he,ht,?_⟩
          · refine fF.aD h.bk (by rw[hs];simp) he (λ_ _=>rfl) (λi ver fr' c' pl' hi b5 wF=>⟨rfl,?_⟩) ?_ (jU hs λk v1 l e=>by cases e)
            · by_cases A0:pl'.b=pl.b
              · exfalso
                have hl:=(h.bk i ver fr' c' b5).label (pl:=pl') wF
                have JA:(∃k,g pl'.b= .own (.id i) k)\/(fr'=true/\g pl'.b= .free):=hl.2
                rw[A0,h5]at JA
                rcases JA with⟨k,hk⟩ | ⟨_,hk⟩
                · simp only[iO.own.injEq,Own.id.injEq]at hk
                  exact hi hk.1.symm
                · cases hk
              · rw[dU _ _ _ A0]
            · refine⟨hz,?_⟩
              show(match β id with
                |none=>l=[]
                |some pl=>_)
              rw[hp]
              exact⟨cur,_,h1,h2,h3,h4,eb _ _ _,aw _,(by intro hh;cases hh),h8.mono λc x hx=>hx.mono he.mem⟩
          · intro v1 fr1 c1 hh pl1 A5 j x hx hj
            obtain rfl:pl=pl1:=by simpa using A5
            simp only[al,c7.obj.injEq]at hh
            obtain⟨_,_,rfl⟩:=hh
            unfold lQ;rw[eb];exact hj
end Go.Ab
namespace Go.Ab
def M8(E E':Env)(ids:List Id):Prop:=
 ∀id∈ids,∀v fr c,E.s id=some (.obj v fr c)->∀pl,E.β id=some pl->∀j x,E.w.cell? ⟨pl.b,j,none⟩=some x->
  xN c j->E'.has pl.b j x
theorem xt{s:AS}{id i:Id}{v:Nat}{fr:Bool}{c:ao}(h:s.bA i=some (.obj v fr c)):∃fr',(s.freeze id).bA i=some (.obj v fr' c):=by
 unfold AS.freeze
 by_cases hi:i=id
 ·subst hi
  rw[h]
  exact⟨true,dv s i _ (by rw[h];simp)⟩
 ·split
  ·exact⟨fr,by rw[cq s id i _ hi];exact h⟩
  ·exact⟨fr,h⟩
theorem eA{C:Ctx}{β:Id->Option Pl}{a:Act}{w:World}:∀(ids:List Id) {g:Nat->iO} {s:AS},Inv C g β s a w->
  ∃g',Inv C g' β (s.aP ids) a w/\bV (s.env w g β) ((s.aP ids).env w g' β)/\Trans w w g g'/\M8 (s.env w g β) ((s.aP ids).env w g' β) ids
 |[],g,s,h=>⟨g,h,bV.refl _,Trans.refl _ _,λ_ hi=>by cases hi⟩
 |id::ids,g,s,h=>by
  obtain⟨g1,h1,e1,t1,f1⟩:=AZ h id
  obtain⟨g2,h2,e2,t2,f2⟩:=eA ids h1
  refine⟨g2,h2,e1.trans e2,t1.trans t2,λi hi v fr c hs pl hp j x hx hj=> ?_⟩
  rcases b8.1 hi with rfl | hi
  ·exact e2.mem.has _ _ _ ⟨hx,f1 v fr c hs pl hp j x hx hj⟩
  ·obtain⟨fr',hs'⟩:=xt (id:=id) hs
   exact f2 i hi v fr' c hs' pl hp j x hx hj
theorem Bm(s:AS)(id:Id):(s.freeze id).bK=s.bK:=by unfold AS.freeze;split <;> simp
theorem je:∀(ids:List Id) (s:AS),(s.aP ids).bK=s.bK
 |[],_=>rfl
 |id::ids,s=>by rw[AS.aP,je ids,Bm]
theorem CP(s:AS)(id:Id)(q:Nat):(s.freeze id).dd q=s.dd q:=by
 unfold AS.freeze
 split
 ·rename_i v b c h
  cases id with
  |c8 k=>rfl
  |new i j=>
   simp only[AS.aD,AS.dd]
   by_cases hq:i=q
   ·subst hq
    simp only[AS.bA]at h
    by_cases hl:i < s.news.length
    ·rw[List.getElem?_set_self hl,bO hl]
     rw[ax,bO hl]at h ⊢
     simp only[dH]at h ⊢
     cases hh:s.news[i]with
     |nil=>rw[hh]at h;simp at h
     |cons x xs=>cases j <;> simp[List.set]
    ·rw[List.set_eq_of_length_le (by omega)]
   ·rw[dz hq]
 ·rfl
theorem mc:∀(ids:List Id) (s:AS) (q:Nat),(s.aP ids).dd q=s.dd q
 |[],_,_=>rfl
 |id::ids,s,q=>by rw[AS.aP,mc ids,CP]
theorem xY{e:TypeId}{t:Ty}:∀ {p:List rN} {n:Nat} {v:ao},(loc (.vec e t []) p).eval=some (n,v)->n=0/\v= .vec e t []
 |[],n,v,h=>by
  simp only[loc,ak,bY]at h
  exact⟨h.1.symm,h.2.symm⟩
 | .arr::p,n,v,h=>by
  simp only[loc]at h
  exact xY h
 | .idx i::p,n,v,h=>by simp[loc,bl]at h
 | .fst::p,n,v,h=>by simp only[loc,ag]at h
 | .snd::p,n,v,h=>by simp only[loc,ag]at h
theorem w5{k:lU}{f:ao}{m:Nat}:∀ {p:List rN} {n:Nat} {v:ao},(loc (.mV k f m) p).eval=some (n,v)->n=0/\v= .mV k f m
 |[],n,v,h=>by
  simp only[loc,ak,bY]at h
  exact⟨h.1.symm,h.2.symm⟩
 | .arr::p,n,v,h=>by
  simp only[loc]at h
  exact w5 h
 | .idx i::p,n,v,h=>by simp only[loc,ag]at h
 | .fst::p,n,v,h=>by simp only[loc,ag]at h
 | .snd::p,n,v,h=>by simp only[loc,ag]at h
theorem Bb{k t:Ty}{l:List (k.den×t.den)}:∀ {p:List rN} {n:Nat} {v:ao},(loc (.mp k t l) p).eval=some (n,v)->n=0/\v= .mp k t l
 |[],n,v,h=>by
  simp only[loc,ak,bY]at h
  exact⟨h.1.symm,h.2.symm⟩
 | .arr::p,n,v,h=>by
  simp only[loc]at h
  exact Bb h
 | .idx i::p,n,v,h=>by simp only[loc,ag]at h
 | .fst::p,n,v,h=>by simp only[loc,ag]at h
 | .snd::p,n,v,h=>by simp only[loc,ag]at h
theorem wZ{q:Id}{ver:Nat}{k t:Ty}{l:List (k.den×t.den)}{cu:Option (k.den×t.den)}:∀ {p:List rN} {n:Nat} {v:ao},(loc (.la q ver k t l cu) p).eval=some (n,v)->n=0/\v= .la q ver k t l cu
 |[],n,v,h=>by
  simp only[loc,ak,bY]at h
  exact⟨h.1.symm,h.2.symm⟩
 | .arr::p,n,v,h=>by
  simp only[loc]at h
  exact wZ h
 | .idx i::p,n,v,h=>by simp only[loc,ag]at h
 | .fst::p,n,v,h=>by simp only[loc,ag]at h
 | .snd::p,n,v,h=>by simp only[loc,ag]at h
theorem vF{E:Env}{s:AS}(hs:E.s=s.bA)(ho:fF E){id:Id}{ver:Nat}{p:List rN}{n:Nat}{t:Ty}{l:List t.den}(h:(s.row id ver p).eval=some (n,⟨t,l⟩)):
    ∃fr c,E.s id=some (.obj ver fr c)/\((E.β id=none/\l=[]/\n=0)\/∃pl cur e,E.β id=some pl/\E.w.heap[pl.b]? =some (.cells cur e (0,0))/\n+l.length*t.size<=cur.size/\
      aM (cC E t) ((cur.toList.drop n).take (l.length*t.size)) l/\
      ∀j,j < n+l.length*t.size->xN c j):=by
  unfold AS.row at h
  cases ia:s.obj id with
  |none=>rw[ia]at h;simp only[ag]at h
  |some r=>
    obtain⟨v,fr,c⟩:=r
    rw[ia]at h
    obtain⟨h1,h2⟩:=av.1 h
    obtain⟨⟨n',v'⟩,h3,h4⟩:=ai.1 h2
    have hv:v=ver:=by simpa using h1
    subst hv
    have b5:E.s id=some (.obj v fr c):=by rw[hs];exact dj ia
    refine⟨fr,c,b5,?_⟩
    have hO:=ho id v fr c b5
    have Ea:∀(pl:Pl) (cur:Array Value) (e:TypeId) (m:Nat) (t':Ty) (l':List t'.den) (n':Nat),E.β id=some pl->E.w.heap[pl.b]? =some (.cells cur e (0,0))->c.fu=false->
        V E (.d (.arr m t') l') ((cur.toList.drop n').take (ao.d (.arr m t') l').size)->n'+(ao.d (.arr m t') l').size<=cur.toList.length->(Out.ok (n',(⟨t',l'⟩:(t:Ty)×List t.den))).eval=some (n,⟨t,l⟩)->
        ∃pl cur e,E.β id=some pl/\E.w.heap[pl.b]? =some (.cells cur e (0,0))/\n+l.length*t.size<=cur.size/\aM (cC E t) ((cur.toList.drop n).take (l.length*t.size)) l/\
          ∀j,j < n+l.length*t.size->xN c j:=by
      intro pl cur e m t' l' n' hp hh hn hv hl he
      simp only[ak,bY]at he
      obtain⟨rfl,he⟩:=he
      obtain⟨rfl,he⟩:=he
      simp only[V,cC]at hv
      obtain⟨Ma,v7⟩:=hv
      have lz:∀(t:Ty) (l:List t.den),l.length=m->(ao.d (.arr m t) l).size=l.length*t.size:=λt l hh=>by simp[ao.size,Ty.size,hh]
      rw[lz _ _ Ma]at v7 hl
      exact⟨pl,cur,e,hp,hh,by simpa using hl,v7,λj _=>xN.of hn j⟩
    by_cases hn:c.fu=false
    · right
      obtain⟨pl,cur,e,hp,hh,hg,hk,hV⟩:=hO.box hn
      have hN:=wQ hk
      generalize c.mW cur.size=N at hN hV
      have hNl:(cur.toList.take N).length=N:=by rw[cn,bU];omega
      obtain⟨u,hu⟩:∃u,c.strip=u:=⟨_,rfl⟩
      rw[hu]at hV h3
      have Jx:∀m k:Nat,m+k<=(cur.toList.take N).length->((cur.toList.take N).drop m).take k=(cur.toList.drop m).take k/\m+k<=cur.toList.length:=λm k PX=>by
        rw[hNl]at PX
        refine⟨?_,by rw[bU];omega⟩
        rw[lf,gA,dY (by omega)]
      rcases kV p u (cur.toList.take N) n' v' (VO.of hV) h3 with⟨rfl,rfl⟩ | ⟨hV',hle⟩
      · cases v' with
        |d t' x=>cases t' with
          |arr m t'=>
            have hs:=hV.size
            have hc:=Jx 0 (ao.d (.arr m t') x).size (by omega)
            refine Ea pl cur e m t' x 0 hp hh hn ?_ hc.2 (by simpa only using h4)
            rw[<-hc.1,aL,bo (by omega)]
            exact hV
          |_=>simp only[ag]at h4
        |vec=>simp only[V]at hV
        |_=>simp only[ag]at h4
      · cases v' with
        |d t' x=>cases t' with
          |arr m t'=>
            have hc:=Jx _ _ hle
            exact Ea pl cur e m t' x n' hp hh hn (by rw[<-hc.1];exact hV') hc.2 (by simpa only using h4)
          |_=>simp only[ag]at h4
        |vec=>simp only[V]at hV'
        |_=>simp only[ag]at h4
    · cases c <;> first
        | (exact absurd rfl hn)
        | (obtain⟨rfl,rfl⟩:=Bb h3
           simp only[ag]at h4)
        | (obtain⟨rfl,rfl⟩:=wZ h3
           simp only[ag]at h4)
        | (obtain⟨rfl,rfl⟩:=w5 h3
           simp only[ag]at h4)
        |skip
      rename_i e t0 l0
      obtain⟨hz,hO⟩:=hO
      cases hp:E.β id with
      |none=>
        rw[hp]at hO
        have Ku:l0=[]:=hO
        subst Ku
        obtain⟨rfl,rfl⟩:=xY h3
        simp only[ak,bY]at h4
        obtain⟨rfl,he⟩:=h4
        obtain⟨rfl,he⟩:=he
        exact .inl ⟨rfl,rfl,rfl⟩
      |some pl=>
        rw[hp]at hO
        obtain⟨cur,k,q1,q2,q3,q4,q5,q6,q7,q8⟩:=hO
        right
        have hlen:(cur.toList.take (l0.length*t0.size)).length=l0.length*t0.size:=aM.length (λc x hx=>cC.size hx) q8
        have HP:l0.length*t0.size<=cur.size:=by rw[q2];exact cE _ q3
        rcases kV (E:=E) p (.vec e t0 l0) (cur.toList.take (l0.length*t0.size)) n' v' q8 h3 with⟨rfl,rfl⟩ | ⟨hV',hle⟩
        · simp only[ak,bY]at h4
          obtain⟨rfl,he⟩:=h4
          obtain⟨rfl,he⟩:=he
          exact⟨pl,cur,e,rfl,q1,by omega,by simpa using q8,λj hj=>by show j < l.length*t.size;omega⟩
        · have hle':=hle
          rw[hlen]at hle'
          rw[lf,gA,dY (by omega)]at hV'
          cases v' with
          |d t' x=>cases t' with
            |arr m t'=>
              simp only[ak,bY]at h4
              obtain⟨rfl,he⟩:=h4
              obtain⟨rfl,he⟩:=he
              simp only[V,cC]at hV'
              obtain⟨Ma,v7⟩:=hV'
              have lz:∀(t:Ty) (l:List t.den),l.length=m->(ao.d (.arr m t) l).size=l.length*t.size:=λt l hh=>by simp[ao.size,Ty.size,hh]
              rw[lz _ _ Ma]at v7 hle'
              refine⟨pl,cur,e,rfl,q1,by omega,v7,λj hj=> ?_⟩
              show j < l0.length*t0.size
              omega
            |_=>simp only[ag]at h4
          |vec=>simp only[V]at hV'
          |_=>simp only[ag]at h4
theorem sM{E:Env}{t:Ty}{cs:List Value}{l:List t.den}(h:aM (cC E t) cs l)(i len:Nat):aM (cC E t) ((cs.drop (i*t.size)).take (len*t.size)) (cut l i len):=
 aM.take (λ_ _ hx=>hx.size) len (aM.drop (λ_ _ hx=>hx.size) i h)
theorem oc{α:Type}{l:List α}{i len:Nat}(h:i+len<=l.length):(cut l i len).length=len:=by
 simp[cut];omega
theorem Df{E E':Env}{s:AS}(hs:E.s=s.bA)(ho:fF E)(he:bV E E'){id:Id}{ver c i len n:Nat}{p:List rN}{t':Ty}{l:List t'.den}{cs:List Value}
  (h1:(s.row id ver p).eval=some (n,⟨t',l⟩)) (h3:decide (n+i*t'.size=c/\i+len<=l.length)=true) (hv:V E (.cv id ver p c i len) cs) (hf:M8 E E' (ao.cv id ver p c i len).shared):cC E' (.slice t') cs (cut l i len):=by
 simp only[decide_eq_true_eq]at h3
 obtain⟨hc,hlen⟩:=h3
 obtain⟨fr,c0,b5,na⟩:=vF hs ho h1
 simp only[V]at hv
 obtain⟨a,cap,Gc,hle,jZ,hb,dV⟩:=hv
 have dV:=dV ⟨fr,c0,b5⟩
 have I3:(cut l i len).length=len:=oc hlen
 simp only[cC]
 refine⟨a,cap,?_⟩
 rcases na with⟨hp,hl,_⟩ | ⟨pl,cur,e,hp,hh,lz,mi,hbound⟩
 ·rw[hp]at dV
  simp only at dV
  obtain⟨rfl,rfl,rfl⟩:=dV
  refine⟨[],?_,by omega,by omega,λ_ _ hh=>by simp at hh,?_⟩
  ·rw[I3];exact Gc
  ·have:cut l i 0=[]:=by simp[cut]
   rw[this];rfl
 ·rw[hp]at dV
  simp only at dV
  refine⟨((((cur.toList.drop n).take (l.length*t'.size)).drop (i*t'.size)).take (len*t'.size)),by rw[I3];exact Gc,by omega,by rw[I3];exact jZ,?_,(sM mi i len).mono λ_ _ hx=>hx.mono he.mem⟩
  have hmul:(i+len)*t'.size<=l.length*t'.size:=cE _ hlen
  rw[dn]at hmul
  rw[yu _ _ _ _ _ hmul]
  intro j v hj
  rw[cD]at hj
  split at hj
  ·rename_i LQ
   rw[ew,hc]at hj
   have PT:0 < len:=by
    rcases iP len with h0 | h0
    ·subst h0;simp at LQ
    ·exact h0
   refine⟨pl.b,c,dV.1 (.inl PT),?_⟩
   refine hf id (by simp[ao.shared]) ver fr c0 b5 pl hp (c+j) v ?_ (hbound _ (by omega))
   rw[cell_of_row E.w pl.b (c+j) cur e (0,0) hh]
   simpa using hj
  ·cases hj
theorem mS{E E':Env}{s:AS}(hs:E.s=s.bA)(ho:fF E)(he:bV E E'):∀(v:ao) (t:Ty) (x:t.den) (cs:List Value),V E v cs->(s.fK t v).eval=some x->M8 E E' v.shared->cC E' t cs x
 | .d t' x',t,x,cs,hv,h,_=>by
  have h':(Out.opt (qG t' t x')).eval=some x:=by cases t <;> simpa only[AS.fK]using h
  simp only[V]at hv
  exact pI (gC.1 h') (hv.mono he.mem)
 | .c6,.slice t,x,cs,hv,h,_=>by
  simp only[AS.fK,ak]at h
  subst h
  simp only[V]at hv
  simp only[cC]
  exact⟨none,0,[],by simpa using hv,by simp,by simp,λi v hh=>by simp at hh,rfl⟩
 | .c6,.fm t,x,cs,hv,h,_=>by
  simp only[AS.fK,ak]at h
  subst h
  simp only[V]at hv
  simp only[cC]
  exact⟨λ_=>hv,λl hl=>(by cases hl)⟩
 | .cv id ver p c i len,.fm t,x,cs,hv,h,hf=>by
  simp only[AS.fK]at h
  obtain⟨⟨n,t',l⟩,h1,h2⟩:=ai.1 h
  obtain⟨h3,h4⟩:=bl.1 h2
  exact pI (gC.1 h4) (Df hs ho he h1 h3 hv hf)
 | .cv id ver p c i len,.slice t,x,cs,hv,h,hf=>by
  simp only[AS.fK]at h
  obtain⟨⟨n,t',l⟩,h1,h2⟩:=ai.1 h
  obtain⟨h3,h4⟩:=bl.1 h2
  exact pI (gC.1 h4) (Df hs ho he h1 h3 hv hf)
 | .pr a b,.pair ta tb,x,cs,hv,h,hf=>by
  simp only[AS.fK]at h
  obtain⟨x1,h1,h2⟩:=ai.1 h
  obtain⟨x2,h3,h4⟩:=ai.1 h2
  obtain rfl:=ak.1 h4
  simp only[V]at hv
  obtain⟨ca,cb,e,ha,hb⟩:=hv
  simp only[cC]
  exact⟨ca,cb,e,mS hs ho he a ta x1 ca ha h1 (λi hi=>hf i (by simp[ao.shared,hi])),mS hs ho he b tb x2 cb hb h3 (λi hi=>hf i (by simp[ao.shared,hi]))⟩
 | .c6,.int _,_,_,_,h,_ | .c6,.bool,_,_,_,h,_ | .c6,.str,_,_,_,h,_ | .c6,.unit,_,_,_,h,_ | .c6,.pair _ _,_,_,_,h,_ | .c6,.arr _ _,_,_,_,h,_ | .c6,.lu _,_,_,_,h,_=>by simp only[AS.fK,ag]at h
 | .cv ..,.int _,_,_,_,h,_ | .cv ..,.bool,_,_,_,h,_ | .cv ..,.str,_,_,_,h,_ | .cv ..,.unit,_,_,_,h,_ | .cv ..,.pair _ _,_,_,_,h,_ | .cv ..,.arr _ _,_,_,_,h,_ | .cv ..,.lu _,_,_,_,h,_=>by simp only[AS.fK,ag]at h
 | .pr _ _,.int _,_,_,_,h,_ | .pr _ _,.bool,_,_,_,h,_ | .pr _ _,.str,_,_,_,h,_ | .pr _ _,.unit,_,_,_,h,_ | .pr _ _,.slice _,_,_,_,h,_ | .pr _ _,.arr _ _,_,_,_,h,_ | .pr _ _,.fm _,_,_,_,h,_ | .pr _ _,.lu _,_,_,_,h,_=>by simp only[AS.fK,ag]at h
 | .undef,t,_,_,_,h,_=>by cases t <;> simp only[AS.fK,ag]at h
 | .gone,t,_,_,_,h,_=>by cases t <;> simp only[AS.fK,ag]at h
 | .kY,t,_,_,_,h,_=>by cases t <;> simp only[AS.fK,ag]at h
 | .mF,t,_,_,_,h,_=>by cases t <;> simp only[AS.fK,ag]at h
 | .yl ..,t,_,_,_,h,_ | .mV ..,t,_,_,_,h,_=>by cases t <;> simp only[AS.fK,ag]at h
 | .pk,t,_,_,_,h,_=>by cases t <;> simp only[AS.fK,ag]at h
 | .sb _,t,_,_,_,h,_=>by cases t <;> simp only[AS.fK,ag]at h
 | .ptr ..,t,_,_,_,h,_=>by cases t <;> simp only[AS.fK,ag]at h
 | .eW ..,t,_,_,_,h,_=>by cases t <;> simp only[AS.fK,ag]at h
 | .fn ..,t,_,_,_,h,_=>by cases t <;> simp only[AS.fK,ag]at h
 | .cons ..,t,_,_,_,h,_=>by cases t <;> simp only[AS.fK,ag]at h
 | .nil,t,_,_,_,h,_=>by cases t <;> simp only[AS.fK,ag]at h
 | .vec ..,t,_,_,_,h,_=>by cases t <;> simp only[AS.fK,ag]at h
 | .bx ..,t,_,_,_,h,_ | .kT ..,t,_,_,_,h,_ | .mp ..,t,_,_,_,h,_ | .la ..,t,_,_,_,h,_=>by cases t <;> simp only[AS.fK,ag]at h
theorem o7{s:AS}{t:Ty}{v:ao}{x:t.den}(h:(s.fK t v).eval=some x):v.dC=true:=by
 cases v <;> first
  |rfl
  | (cases t <;> simp only[AS.fK,ag]at h)
theorem yU{s:AS}{t:Ty}{v:ao}{x:t.den}(h:(s.fK t v).eval=some x):v.agg=t.agg:=by
 cases v with
 |d t' x'=>
  have h':(Out.opt (qG t' t x')).eval=some x:=by cases t <;> simpa only[AS.fK]using h
  exact zL (gC.1 h')
 |_=>cases t <;> first | rfl | (simp only[AS.fK,ag]at h)
theorem oJ{C:Ctx}{g:Nat->iO}{β:Id->Option Pl}{s:AS}{a:Act}{w:World}(h:Inv C g β s a w){v:ao}{y:Value}(hv:VS (s.env w g β) v y){t:Ty}{x:t.den}(ht:(s.fK t v).eval=some x):
  ∃g',Inv C g' β (s.aP v.shared) a w/\bV (s.env w g β) ((s.aP v.shared).env w g' β)/\Trans w w g g'/\
   ∃cs,cC ((s.aP v.shared).env w g' β) t cs x/\ei t.agg cs y:=by
 obtain⟨g',h1,h2,h3,h4⟩:=eA v.shared h
 obtain⟨cs,hV,hO⟩:=hv.dC (o7 ht)
 exact⟨g',h1,h2,h3,cs,mS rfl h.bk h2 v t x cs hV ht h4,by rw[<-yU ht];exact hO⟩
theorem xr{α:Type}{R:List Value->α->Prop}{f:α->List Value->Option (List Value)}(hf:∀x cs r,f x cs=some r->∃c,cs=c++r/\R c x):
  ∀(l:List α) (cs r:List Value),HA f l cs=some r->∃c,cs=c++r/\aM R c l
 |[],cs,r,h=>by
  simp only[HA,al]at h
  exact⟨[],by simp[h],rfl⟩
 |x::xs,cs,r,h=>by
  simp only[HA]at h
  cases hx:f x cs with
  |none=>rw[hx]at h;cases h
  |some r1=>
   rw[hx]at h
   obtain⟨c1,e1,h1⟩:=hf x cs r1 hx
   obtain⟨c2,e2,h2⟩:=xr hf xs r1 r h
   exact⟨c1++c2,by rw[e1,e2,bC],c1,c2,rfl,h1,h2⟩
theorem pJ(E:Env):∀(t:Ty) (x:t.den) (cs r:List Value),nA t x cs=some r->∃c,cs=c++r/\cC E t c x
 | .int k,x,cs,r,h=>by
  cases cs with
  |nil=>simp[nA]at h
  |cons v r'=>
   cases v <;> simp only[nA]at h <;> try (cases h;done)
   rename_i k' n
   split at h
   ·rename_i h1 h2
    simp at h1 h2 h
    subst h1 h2 h
    exact⟨[.int k n],rfl,by simp[cC]⟩
   ·cases h
 | .bool,x,cs,r,h=>by
  cases cs with
  |nil=>simp[nA]at h
  |cons v r'=>
   cases v <;> simp only[nA]at h <;> try (cases h;done)
   rename_i b
   split at h
   ·rename_i h1
    simp at h1 h
    subst h1 h
    exact⟨[.bool b],rfl,by simp[cC]⟩
   ·cases h
 | .str,x,cs,r,h=>by
  cases cs with
  |nil=>simp[nA]at h
  |cons v r'=>
   cases v <;> simp only[nA]at h <;> try (cases h;done)
   rename_i b
   split at h
   ·rename_i h1
    simp at h1 h
    subst h1 h
    exact⟨[.string b],rfl,by simp[cC]⟩
   ·cases h
 | .slice t,x,cs,r,h=>by
  cases x with
  |cons _ _=>simp[nA]at h
  |nil=>
   cases cs with
   |nil=>simp[nA]at h
   |cons v r'=>
    unfold nA at h
    split at h <;> try (cases h;done)
    all_goals simp_all
    exact⟨[.slice none 0 0],rfl,by simp only[cC];exact⟨none,0,[],rfl,by simp,by simp,λi v hh=>by simp at hh,rfl⟩⟩
 | .fm t,x,cs,r,h=>by
  cases x with
  |some _=>simp[nA]at h
  |none=>
   cases cs with
   |nil=>simp[nA]at h
   |cons v r'=>
    unfold nA at h
    split at h <;> try (cases h;done)
    all_goals simp_all
    exact⟨[.slice none 0 0],rfl,by simp[cC]⟩
 | .lu t,x,cs,r,h=>by
  cases x with
  |some _=>simp[nA]at h
  |none=>
   cases cs with
   |nil=>simp[nA]at h
   |cons v r'=>
    unfold nA at h
    split at h <;> try (cases h;done)
    all_goals simp_all
    exact⟨[.pointer none],rfl,by simp[cC]⟩
 | .unit,x,cs,r,h=>by
  simp only[nA,al]at h
  exact⟨[],by simp[h],by simp[cC]⟩
 | .pair a b,x,cs,r,h=>by
  simp only[nA]at h
  cases hx:nA a x.1 cs with
  |none=>rw[hx]at h;cases h
  |some r1=>
   rw[hx]at h
   obtain⟨c1,e1,h1⟩:=pJ E a x.1 cs r1 hx
   obtain⟨c2,e2,h2⟩:=pJ E b x.2 r1 r h
   exact⟨c1++c2,by rw[e1,e2,bC],by simp only[cC];exact⟨c1,c2,rfl,h1,h2⟩⟩
 | .arr n t,x,cs,r,h=>by
  simp only[nA]at h
  split at h
  ·rename_i h1
   obtain⟨c,e,hc⟩:=xr (λx cs r hh=>pJ E t x cs r hh) _ _ _ h
   exact⟨c,e,by simp only[cC];exact⟨by simpa using h1,hc⟩⟩
  ·cases h
theorem DZ(E:Env):∀(a:ao) (cs r:List Value),wC a cs=some r->∃c,cs=c++r/\V E a c:=by
 intro a
 induction a with
 |d t x=>
  intro cs r h
  simp only[wC]at h
  obtain⟨c,e,hc⟩:=pJ E t x cs r h
  exact⟨c,e,by simpa only[V]using hc⟩
 |pr a b iha ihb=>
  intro cs r h
  simp only[wC]at h
  cases hx:wC a cs with
  |none=>rw[hx]at h;cases h
  |some r1=>
   rw[hx]at h
   obtain⟨c1,e1,h1⟩:=iha cs r1 hx
   obtain⟨c2,e2,h2⟩:=ihb r1 r h
   exact⟨c1++c2,by rw[e1,e2,bC],by simp only[V];exact⟨c1,c2,rfl,h1,h2⟩⟩
 |c6=>intro cs r h;unfold wC at h;split at h <;> simp_all <;> exact⟨[.slice none 0 0],rfl,by simp[V]⟩
 |kY=>intro cs r h;unfold wC at h;split at h <;> simp_all <;> exact⟨[.pointer none],rfl,by simp[V]⟩
 |mF=>intro cs r h;unfold wC at h;split at h <;> simp_all <;> exact⟨[.nilFunc],rfl,by simp[V]⟩
 |pk=>intro cs r h;unfold wC at h;split at h <;> simp_all <;> exact⟨[.map none],rfl,by simp[V]⟩
 |_=>intro cs r h;simp[wC]at h
theorem me{P:Program}{T:TypeId}{z:ao}(h:By P T z=true)(E:Env):
  ∃i zv,P.info? T=some i/\i.zero=some zv/\V E z zv.cells.toList/\ei z.agg zv.cells.toList zv:=by
 unfold By at h
 split at h <;> try (cases h;done)
 rename_i i hi
 split at h <;> try (cases h;done)
 rename_i zv hz
 simp only[ae,beq_iff_eq]at h
 obtain⟨h1,h2⟩:=h
 split at h1 <;> try (cases h1;done)
 rename_i he
 obtain⟨c,e,hV⟩:=DZ E z _ _ he
 rw[cZ]at e
 rw[<-e]at hV
 refine⟨i,zv,hi,hz,hV,?_⟩
 cases Cn:z.agg with
 |true=>
  rw[Cn]at h2
  cases zv <;> simp[kP]at h2
  simp[ei,Value.cells]
 |false=>
  rw[Cn]at h2
  cases zv <;> first | (simp[kP]at h2;done) | simp[ei,Value.cells]
end Go.Ab
namespace Go.Ab
def Fr(r:Option Nat):Fence:= {Fence.wide with round:=r}
def ed(P:Program)(o:Oper)(a:Act)(w:World)(K:Act->World->Prop):Prop:=
 (∃x w',(execOp a.eval o).run P w= .ok (.value x) w'/\K (a.put o.dst x) w')\/
 (∃w',(execOp a.eval o).run P w= .ok .skip w'/\K (a.put o.dst undef) w')\/
 (∃f args w',(execOp a.eval o).run P w= .ok (.enter f args) w'/\Calls P f args w' λe w''=>∃x,e= .returned x/\K (a.put o.dst x) w'')\/
 (∃l f tmps as b w',(execOp a.eval o).run P w= .ok (.round l f tmps as b) w'/\∀r n,RoundIn (Fr r) n P l f tmps as b w' λe w''=>∃x,e= .returned x/\K (a.put o.dst x) w'')
theorem ed.plain{P:Program}{o:Oper}{a:Act}{w:World}{K:Act->World->Prop}(h:ed P o a w K)(c:Call):o.op≠ .defer c:=λho=>by
 have hd:∀x w',(execOp a.eval o).run P w= .ok x w'->∃d,x= .defer d:=λx w' hx=>by
  simp only[execOp,ho,Sem.run_bind]at hx
  cases hr:(resolve a.eval c o.type).run P w with
  |ok d w1=>
   rw[hr]at hx
   simp only[Result.andThen_ok,Sem.run_pure,Result.ok.injEq]at hx
   exact⟨d,hx.1.symm⟩
  |halt _ _=>rw[hr]at hx;simp[Result.andThen]at hx
 rcases h with⟨x,w',hr,_⟩ | ⟨w',hr,_⟩ | ⟨f,args,w',hr,_⟩ | ⟨l,f,tmps,as,b,w',hr,_⟩
 ·obtain⟨d,e⟩:=hd _ _ hr;cases e
 ·obtain⟨d,e⟩:=hd _ _ hr;cases e
 ·obtain⟨d,e⟩:=hd _ _ hr;cases e
 ·obtain⟨d,e⟩:=hd _ _ hr;cases e
theorem ed.wpIn{r:Option Nat}{n:Nat}{P:Program}{o:Oper}{a:Act}{w:World}{K:Act->World->Prop}{Q:Exit->Act->World->Prop}(h:ed P o a w K):o.wpIn (Fr r) n P a w K Q:=by
 have hp:=h.plain
 refine⟨λ_ _=>trivial,?_⟩
 rw[Oper.semAt_eq _ _ _ hp]
 rcases h with⟨x,w',hr,hk⟩ | ⟨w',hr,hk⟩ | ⟨f,args,w',hr,hk⟩ | ⟨l,f,tmps,as,b,w',hr,hk⟩
 rotate_left 3
 ·rw[hr,Oper.uponIn_round]
  refine⟨λh=>(by cases h),(hk r (n - 1)).mono λe w'' ⟨x,he,hx⟩=> ?_⟩
  subst he
  exact hx
 ·rw[hr,Oper.uponIn_value];exact hk
 ·rw[hr,Oper.uponIn_skip];exact hk
 ·rw[hr,Oper.uponIn_enter]
  refine⟨λh=>(by cases h),?_⟩
  have h1:CallsIn (Fr r) (n - 1) P f args w' _:=callsIn_wide.2 hk
  refine h1.mono λe w'' ⟨x,he,hx⟩=> ?_
  subst he
  exact hx
theorem ed.mono{P:Program}{o:Oper}{a:Act}{w:World}{K K':Act->World->Prop}(h:ed P o a w K)(hk:∀a w,K a w->K' a w):ed P o a w K':=by
 rcases h with⟨x,w',hr,h⟩ | ⟨w',hr,h⟩ | ⟨f,args,w',hr,h⟩ | ⟨l,f,tmps,as,b,w',hr,h⟩
 ·exact .inl ⟨x,w',hr,hk _ _ h⟩
 ·exact .inr (.inl ⟨w',hr,hk _ _ h⟩)
 ·exact .inr (.inr (.inl ⟨f,args,w',hr,h.mono λe w'' ⟨x,he,hx⟩=>⟨x,he,hk _ _ hx⟩⟩))
 ·exact .inr (.inr (.inr ⟨l,f,tmps,as,b,w',hr,λr n=>(h r n).mono λe w'' ⟨x,he,hx⟩=>⟨x,he,hk _ _ hx⟩⟩))
section
variable {P:Program} {C:Ctx} {g:Nat->iO} {β:Id->Option Pl} {s:AS} {a:Act} {w:World} {o:Oper}
theorem Inv.value(h:Inv C g β s a w){v:ao}{x:Value}(hv:VS (s.env w g β) v x)(hr:(execOp a.eval o).run P w= .ok (.value x) w):ed P o a w (fq C (s.put o.dst v)):=
 .inl ⟨x,w,hr,g,β,h.put o.dst hv⟩
theorem da{f:Sem Value}{x:Value}{w':World}(he:execOp a.eval o=(do pure (.value (<-f))))(hf:f.run P w= .ok x w'):(execOp a.eval o).run P w= .ok (.value x) w':=by
 rw[he,Sem.run_bind,hf];rfl
theorem zQ{f:Sem Unit}{w':World}(he:execOp a.eval o=(do f;pure .skip))(hf:f.run P w= .ok () w'):(execOp a.eval o).run P w= .ok .skip w':=by
 rw[he,Sem.run_bind,hf];rfl
theorem lY{E:Env}{k:IntKind}{n:Int}{y:Value}(h:VS E (.d (.int k) n) y):y= .int k n:=by
 obtain⟨cs,hv,ho⟩:=h
 simp only[V,cC]at hv
 have ho':cs=[y]:=ho
 rw[hv]at ho'
 simpa using ho'.symm
theorem wP{E:Env}{b:Bool}{y:Value}(h:VS E (.d .bool b) y):y= .bool b:=by
 obtain⟨cs,hv,ho⟩:=h
 simp only[V,cC]at hv
 have ho':cs=[y]:=ho
 rw[hv]at ho'
 simpa using ho'.symm
theorem ri{E:Env}{b:ByteArray}{y:Value}(h:VS E (.d .str b) y):y= .string b:=by
 obtain⟨cs,hv,ho⟩:=h
 simp only[V,cC]at hv
 have ho':cs=[y]:=ho
 rw[hv]at ho'
 simpa using ho'.symm
theorem gY{E:Env}(k:IntKind)(n:Int):VS E (.d (.int k) n) (.int k n):=⟨[.int k n],by simp[V,cC],rfl⟩
theorem mg{E:Env}(b:Bool):VS E (.d .bool b) (.bool b):=⟨[.bool b],by simp[V,cC],rfl⟩
theorem AI{E:Env}(b:ByteArray):VS E (.d .str b) (.string b):=⟨[.string b],by simp[V,cC],rfl⟩
theorem Fl{T:TypeId}{d:TypeDesc}(h:P.underlying T=some d):∃i,P.info? T=some i:=by
 unfold Program.underlying at h
 split at h
 ·rename_i h';exact⟨_,h'⟩
 ·rename_i i _ h';exact⟨_,h'⟩
 ·cases h
theorem run_sizeOf{T:TypeId}{i:TypeInfo}(h:P.info? T=some i)(w:World):(sizeOf T).run P w= .ok i.size w:=by
 simp[sizeOf,typeInfo,h]
theorem iQ{T:TypeId}{i:TypeInfo}(h:P.info? T=some i):P.cellsOf T=i.size:=by simp[Program.cellsOf,h]
theorem kK{T:TypeId}{v:ao}(h:fits P T v=true):v.dC=true/\∃i,P.info? T=some i/\i.size=v.size/\∀w,(isAgg T).run P w= .ok v.agg w:=by
 unfold fits at h
 simp only[ae,beq_iff_eq]at h
 obtain⟨⟨h1,h2⟩,h3⟩:=h
 cases hu:P.underlying T with
 |none=>rw[hu]at h3;cases h3
 |some d=>
  obtain⟨i,hi⟩:=Fl hu
  refine⟨h1,i,hi,by rw[iQ hi]at h2;exact h2,λw=> ?_⟩
  rw[hu]at h3
  unfold isAgg
  rw[Sem.run_bind,run_underlying hu w]
  cases d <;> simp at h3 <;> simp[h3]
theorem oE{T:TypeId}{v:ao}(hf:fits P T v=true){b off:Nat}{cs:List Value}(hl:cs.length=v.size)(hc:∀j x,cs[j]? =some x->w.cell? ⟨b,off+j,none⟩=some x):
  ∃y,(loadVar T ⟨b,off,none⟩).run P w= .ok y w/\ei v.agg cs y:=by
 obtain⟨_,i,hi,hs,Cn⟩:=kK hf
 unfold loadVar
 rw[Sem.run_bind,Cn w]
 simp only[Result.andThen_ok]
 have py:∀j x,cs[j]? =some x->w.cell? ((⟨b,off,none⟩:Addr).add j)=some x:=λj x hj=>by
  rw[Addr.add_lit];exact hc j x hj
 cases ha:v.agg with
 |true=>
  refine⟨.agg cs.toArray,?_,rfl⟩
  simp only[if_true,Sem.run_bind,run_sizeOf hi,Result.andThen_ok,hs,<-hl,run_loadCells_list w _ cs py]
  rfl
 |false=>
  have h1:v.size=1:=ao.Db ha
  obtain⟨y,rfl⟩:∃y,cs=[y]:=by
   match cs,hl with
   |[y],_=>exact⟨y,rfl⟩
   |[],hh=>simp[h1]at hh
   |_::_::_,hh=>simp[h1]at hh
  refine⟨y,?_,rfl⟩
  have:=hc 0 y rfl
  rw[ct]at this
  simp[this]
theorem qm{T:TypeId}{v:ao}{E:Env}(hf:fits P T v=true){cs:List Value}{y:Value}(hV:V E v cs)(ho:ei v.agg cs y){b off:Nat}{cur:Array Value}{e:TypeId}
  (hh:w.heap[b]? =some (.cells cur e (0,0))) (hle:off+cs.length<=cur.size):
  (storeVar T ⟨b,off,none⟩ y).run P w= .ok () (w.setRow b (cM cur.toList off cs).toArray):=by
 obtain⟨_,i,hi,hs,_⟩:=kK hf
 have Gc:y.cells=cs.toArray:=ho.cells hV.one
 have hl:=hV.size
 have kZ:=run_storeCells_at P b off e cs 0 cur w hh (by simpa using hle) hV.one
 simp only[ct]at kZ
 unfold storeVar
 simp only[Gc,Sem.run_bind,run_sizeOf hi,Result.andThen_ok,fg,hl,hs,ne_eq,not_true_eq_false,if_false]
 simpa[cM]using kZ
theorem ka(w:World)(ob:Obj){b:Nat}(h:b < w.heap.size):(w.alloc ob).heap[b]? =w.heap[b]? :=by
 show(w.heap.push ob)[b]? =w.heap[b]?
 rw[Array.getElem?_push,if_neg (Nat.ne_of_lt h)]
theorem lh(w:World)(ob:Obj):(w.alloc ob).heap[w.heap.size]? =some ob:=by
 show(w.heap.push ob)[w.heap.size]? =some ob
 simp
theorem Trans.alloc(w:World)(g:Nat->iO)(ob:Obj)(l:iO):Trans w (w.alloc ob) g (iT g w.heap.size l):=by
 refine⟨rfl,rfl,⟨rfl,aw _⟩,by simp,λb hb=> ?_⟩
 rw[dU _ _ _ (by omega),ka w ob hb]
 cases g b with
 |free=>exact⟨rfl,rfl⟩
 |own o k=>cases o with
  |dm=>exact⟨rfl,rfl⟩
  |id i=>exact⟨.inr ⟨i,k,rfl,aw _⟩,λoff v _ hv=>by rw[World.cell?_alloc_lt w ob _ hb];exact hv⟩
theorem Trans.drew(w:World)(g:Nat->iO):Trans w w.drew g g:=Trans.refl w g |> λh=>⟨h.os,h.tape,⟨h.output.1,Nat.le_succ _⟩,h.size,h.uS⟩
theorem fF.same{w':World}{g':Nat->iO}(h:fF (s.env w g β))(he:bV (s.env w g β) (s.env w' g' β))
  (hb:∀i ver fr c pl,s.bA i=some (.obj ver fr c)->β i=some pl->w'.heap[pl.b]? =w.heap[pl.b]? /\g' pl.b=g pl.b):fF (s.env w' g' β):=
 λi ver fr c hi=>(h i ver fr c hi).mono he rfl (λpl hp=>hb i ver fr c pl hi hp) λq vq k v l hq _=>⟨⟨k,v,l,hq⟩,λpl hp=>hb q vq true _ pl hq hp⟩
theorem bV.same{w':World}{g':Nat->iO}(ht:Trans w w' g g'):bV (s.env w g β) (s.env w' g' β):=
 ⟨Trans.mem ht,λ_ _ h=>h,λ_ _ _ h=>⟨h,rfl⟩⟩
theorem Inv.rr(h:Inv C g β s a w)(ob:Obj):Inv C (iT g w.heap.size .free) β s a (w.alloc ob):=by
 have ht:=Trans.alloc w g ob .free
 have he:bV (s.env w g β) (s.env (w.alloc ob) (iT g w.heap.size .free) β):=bV.same ht
 refine h.step rfl ht he (fF.same h.bk he λi ver fr c pl hi hp=> ?_)
 have hl:=((h.bk i ver fr c hi).label (pl:=pl) hp).1
 have hl':pl.b < w.heap.size:=hl
 exact⟨ka w ob hl',dU _ _ _ (by omega)⟩
theorem Inv.drew(h:Inv C g β s a w):Inv C g β s a w.drew:=by
 have ht:=Trans.drew w g
 have he:bV (s.env w g β) (s.env w.drew g β):=bV.same ht
 exact h.step rfl ht he (fF.same h.bk he λ_ _ _ _ _ _ _=>⟨rfl,rfl⟩)
theorem gG{q:Nat}(h:s.dd q=true):(∀j,s.bA (.new q j)=none)/\q < s.news.length:=by
 unfold AS.dd at h
 split at h
 ·rename_i hn
  refine⟨λj=> ?_,(cT.1 hn).1⟩
  simp[AS.bA,ax,hn]
 ·cases h
theorem nC{q:Nat}(hq:q < s.news.length)(es:List c7)(j:Nat):(s.born q es).bA (.new q j)=es[j]? :=by
 simp[AS.bA,AS.born,ax,hq]
theorem fG{q:Nat}(es:List c7){id:Id}(h:∀j,id≠ .new q j):(s.born q es).bA id=s.bA id:=by
 cases id with
 |c8 k=>rfl
 |new i j=>
  have:i≠q:=λe=>h j (by rw[e])
  simp only[AS.bA,AS.born,ax]
  rw[dz (Ne.symm this)]
def rp(β:Id->Option Pl)(id:Id)(p:Option Pl):Id->Option Pl:=λi=>if i=id then p else β i
@[simp] theorem gv(β:Id->Option Pl)(id:Id)(p:Option Pl):rp β id p id=p:=by simp[rp]
theorem oL(β:Id->Option Pl)(id:Id)(p:Option Pl){i:Id}(h:i≠id):rp β id p i=β i:=by simp[rp,h]
theorem Inv.uT(h:Inv C g β s a w){q:Nat}(hq:s.dd q=true){w':World}{g':Nat->iO}{c:ao}{p:Option Pl}(ht:Trans w w' g g')
  (hb:∀b,b < w.heap.size->w'.heap[b]? =w.heap[b]? /\g' b=g b)
  (ho:bV (s.env w g β) ((s.born q [.obj 0 false c]).env w' g' (rp β (.new q 0) p))->mr ((s.born q [.obj 0 false c]).env w' g' (rp β (.new q 0) p)) (.new q 0) false c):
  Inv C g' (rp β (.new q 0) p) (s.born q [.obj 0 false c]) a w'/\bV (s.env w g β) ((s.born q [.obj 0 false c]).env w' g' (rp β (.new q 0) p)):=by
 obtain⟨hv,hl⟩:=gG hq
 have fL:∀id,s.bA id≠none->∀j,id≠ .new q j:=λid cI j e=>cI (by rw[e];exact hv j)
 have he:bV (s.env w g β) ((s.born q [.obj 0 false c]).env w' g' (rp β (.new q 0) p)):=by
  refine⟨Trans.mem ht,λid ver Ga=> ?_,λid ver Ga hc=> ?_⟩
  ·have cI:=fL id Ga.1
   have e:=fG (s:=s) [.obj 0 false c] cI
   exact⟨by show(s.born q _).bA id≠none;rw[e];exact Ga.1,λv fr c' hh=>Ga.2 v fr c' (e.symm.trans hh)⟩
  ·have cI:=fL id Ga.1
   have e:=fG (s:=s) [.obj 0 false c] cI
   obtain⟨fr,c',hc⟩:=hc
   exact⟨⟨fr,c',e.symm.trans hc⟩,oL _ _ _ (cI 0)⟩
 refine⟨h.step rfl ht he λid ver fr c' cI=> ?_,he⟩
 have hid':(s.born q [.obj 0 false c]).bA id=some (.obj ver fr c'):=cI
 by_cases hi:∃j,id= .new q j
 ·obtain⟨j,rfl⟩:=hi
  rw[nC hl]at hid'
  cases j with
  |zero=>
   simp only[ef,al,c7.obj.injEq]at hid'
   obtain⟨rfl,rfl,rfl⟩:=hid'
   exact ho he
  |succ j=>simp at hid'
 ·have hi':∀j,id≠ .new q j:=λj e=>hi ⟨j,e⟩
  rw[fG _ hi']at hid'
  refine(h.bk id ver fr c' hid').mono he (oL _ _ _ (hi' 0)) (λpl hp=> ?_) λq2 vq k v l xH _=> ?_
  ·exact hb pl.b ((h.bk id ver fr c' hid').label (pl:=pl) hp).1
  ·have P7:s.bA q2=some (.obj vq true (.mp k v l)):=xH
   refine⟨⟨k,v,l,by show(s.born q _).bA q2=_;rw[fG _ (fL q2 (by rw[P7];simp))];exact P7⟩,λpl hp=>hb pl.b ((h.bk q2 vq true _ P7).label (pl:=pl) hp).1⟩
theorem jS{q:Nat}(hq:s.dd q=true)(c:ao)(w':World)(g':Nat->iO)(β':Id->Option Pl):((s.born q [.obj 0 false c]).env w' g' β').qi (.new q 0) 0:=by
 have e:=nC (s:=s) (gG hq).2 [.obj 0 false c] 0
 refine⟨by show(s.born q [.obj 0 false c]).bA (.new q 0)≠none;rw[e];simp,λv fr c' _=>bj _⟩
theorem Inv.Fx(h:Inv C g β s a w){q:Nat}(hq:s.dd q=true){v:ao}{cs:List Value}{e:TypeId}(hk:∀pl n,v.qC pl n e)(hN:∀n,v.mW n=n)(hv:V (s.env w g β) v.strip cs):
  ∃g' β',Inv C g' β' (s.born q [.obj 0 false v]) a (w.alloc (.cells cs.toArray e))/\
   VS ((s.born q [.obj 0 false v]).env (w.alloc (.cells cs.toArray e)) g' β') (.ptr (.new q 0) 0 [] 0) (.pointer (some ⟨w.heap.size,0,none⟩)):=by
 have ht:=Trans.alloc w g (.cells cs.toArray e) (.own (.id (.new q 0)) 0)
 obtain⟨h1,h2⟩:=h.uT hq (c:=v) (p:=some ⟨w.heap.size,0⟩) ht (λb hb=>⟨ka w _ hb,dU _ _ _ (by omega)⟩) (λhe=>
  uQ.obj ⟨⟨w.heap.size,0⟩,cs.toArray,e,gv _ _ _,lh w _,eb _ _ _,hk _ _,by rw[hN,show cs.toArray.toList.take cs.toArray.size=cs by simp];exact hv.mono he⟩)
 refine⟨_,_,h1,?_⟩
 refine⟨[.pointer (some ⟨w.heap.size,0,none⟩)],?_,rfl⟩
 simp only[V]
 exact⟨_,rfl,jS hq _ _ _ _,λ_=>⟨_,gv _ _ _,rfl⟩⟩
theorem Inv.Mj(h:Inv C g β s a w){q:Nat}(hq:s.dd q=true){v:ao}{cs:List Value}(hv:V (s.env w g β) v cs)(e:TypeId):
  ∃g' β',Inv C g' β' (s.born q [.obj 0 false v]) a (w.alloc (.cells cs.toArray e))/\
   VS ((s.born q [.obj 0 false v]).env (w.alloc (.cells cs.toArray e)) g' β') (.ptr (.new q 0) 0 [] 0) (.pointer (some ⟨w.heap.size,0,none⟩)):=
 h.Fx hq (λpl n=>uW hv.oB pl n e) (λn=>xi hv.oB n) (by rw[vL hv.oB];exact hv)
theorem Hn(P:Program)(T:TypeId){z:ao}{E:Env}{cs:List Value}(hv:V E z cs):(∀pl n,(boxed P T z).qC pl n T)/\(∀n,(boxed P T z).mW n=n)/\V E (boxed P T z).strip cs:=by
 unfold boxed
 split
 ·exact⟨λ_ _=>rfl,λ_=>rfl,hv⟩
 ·exact⟨λpl n=>uW hv.oB pl n T,λn=>xi hv.oB n,by rw[vL hv.oB];exact hv⟩
theorem Inv.JQ(h:Inv C g β s a w){t:Ty}{x:t.den}{cs:List Value}(hv:cC (s.env w g β) t cs x)(e:TypeId):
  ∃g',Inv C g' β s a (w.alloc (.cells cs.toArray e))/\bV (s.env w g β) (s.env (w.alloc (.cells cs.toArray e)) g' β)/\
   VS (s.env (w.alloc (.cells cs.toArray e)) g' β) (.eW t x) (.pointer (some ⟨w.heap.size,0,none⟩)):=by
 have ht:=Trans.alloc w g (.cells cs.toArray e) .free
 have he:bV (s.env w g β) (s.env (w.alloc (.cells cs.toArray e)) (iT g w.heap.size .free) β):=bV.same ht
 refine⟨_,h.rr _,he,[.pointer (some ⟨w.heap.size,0,none⟩)],?_,rfl⟩
 simp only[V]
 refine⟨w.heap.size,0,cs,rfl,λi v hi=>⟨_,_,rfl,?_,?_⟩,hv.mono he.mem⟩
 ·show(w.alloc (.cells cs.toArray e)).cell? ⟨w.heap.size,0+i,none⟩=some v
  rw[World.cell?_alloc_new,aR];simpa using hi
 ·show lQ (iT g w.heap.size .free) w.heap.size (0+i)
  unfold lQ;rw[eb];trivial
theorem yH(T:TypeId)(y:Value)(w:World):(newVar T y).run P w= .ok ⟨w.heap.size,0,none⟩ (w.alloc (.cells y.cells T)):=by
 simp[newVar,newRow]
theorem DJ(h:Inv C g β s a w){T:TypeId}(ho:o.op= .alloc T){z:ao}{q:Nat}(hq:s.dd q=true)(hz:By P T z=true):
  ed P o a w (fq C ((s.born q [.obj 0 false (boxed P T z)]).put o.dst (.ptr (.new q 0) 0 [] 0))):=by
 obtain⟨i,zv,hi,Dy,hV,hO⟩:=me hz (s.env w g β)
 obtain⟨hk,hN,hV⟩:=Hn P T hV
 obtain⟨g',β',h1,h2⟩:=h.Fx hq hk hN hV
 refine .inl ⟨.pointer (some ⟨w.heap.size,0,none⟩),w.alloc (.cells zv.cells T),?_,g',β',?_⟩
 ·refine da (f:=Instr.alloc T true (.tuple #[])) (by simp only[execOp,ho]) ?_
  simp[Instr.alloc,zeroValue,typeInfo,hi,Dy,yH]
 ·have:=h1.put o.dst h2
  simpa using this
theorem VS.Oe{E:Env}{t:Ty}{x:t.den}{y:Value}(h:VS E (.eW t x) y)(dt:Bool):VS E (K9 dt t x) y:=by
 cases dt with
 |false=>exact h
 |true=>
  obtain⟨cs,hv,ho⟩:=h
  simp only[V]at hv
  refine⟨cs,?_,ho⟩
  simp only[K9,V,cC]
  simpa using hv
theorem z6{E:Env}{t:Ty}{y:Value}(h:VS E (.d (.lu t) none) y):y= .pointer none:=by
 obtain⟨cs,hv,ho⟩:=h
 simp only[V,cC]at hv
 have ho':cs=[y]:=ho
 have e:=hv.1 trivial
 rw[e]at ho'
 simpa using ho'.symm
theorem tK{E:Env}{t:Ty}{x:t.den}{y:Value}(h:VS E (.d (.lu t) (some x)) y):VS E (.eW t x) y:=by
 obtain⟨cs,hv,ho⟩:=h
 simp only[V,cC]at hv
 refine⟨cs,?_,ho⟩
 simp only[V]
 simpa using hv
theorem Hm(h:Inv C g β s a w){T:TypeId}{x:Operand}{obj dt:Bool}(ho:o.op= .box T x){s':AS}(he:(BS P s obj dt o.dst T (s.ev x)).eval=some s'):ed P o a w (fq C s'):=by
 unfold BS at he
 cases hd:o.dst with
 |none=>rw[hd]at he;simp only[ag]at he
 |some q=>
  rw[hd]at he
  have Gd:=h.ev x
  have jT:∀cs:List Value,(a.eval x).cells=cs.toArray->(execOp a.eval o).run P w= .ok (.value (.pointer (some ⟨w.heap.size,0,none⟩))) (w.alloc (.cells cs.toArray T)):=by
   intro cs Gc
   refine da (f:=Instr.box T (a.eval x)) (by simp only[execOp,ho]) ?_
   simp[Instr.box,yH,Gc]
  cases obj with
  |true=>
   obtain⟨hg,nE⟩:=av.1 he
   obtain rfl:=ak.1 nE
   simp only[ae]at hg
   obtain⟨hq,hf⟩:=hg
   obtain⟨hc,_⟩:=kK hf
   obtain⟨cs,hV,hO⟩:=Gd.dC hc
   obtain⟨g',β',h1,h2⟩:=h.Mj hq hV T
   refine .inl ⟨_,_,jT cs (hO.cells hV.one),g',β',?_⟩
   rw[hd]
   exact h1.put (some q) h2
  |false=>
   simp only at he
   cases ht:Ds P depth T with
   |none=>rw[ht]at he;simp only[ag]at he
   |some t=>
    rw[ht]at he
    obtain⟨_,he⟩:=av.1 he
    obtain⟨y,h1,h2⟩:=ai.1 he
    obtain rfl:=ak.1 h2
    obtain⟨g1,i1,e1,t1,cs,hR,hO⟩:=oJ h Gd h1
    obtain⟨g2,i2,e2,hv⟩:=i1.JQ hR T
    refine .inl ⟨_,_,jT cs (hO.cells hR.one),g2,β,?_⟩
    rw[hd]
    exact i2.put (some q) (hv.Oe dt)
theorem mm{E:Env}{t:Ty}{x:t.den}{y:Value}(h:VS E (.eW t x) y):∃b off vs,y= .pointer (some ⟨b,off,none⟩)/\qg E (some ⟨b,off,none⟩) vs/\cC E t vs x:=by
 obtain⟨cs,hv,ho⟩:=h
 simp only[V]at hv
 obtain⟨b,off,vs,e,hr,hx⟩:=hv
 have ho':cs=[y]:=ho
 rw[e]at ho'
 exact⟨b,off,vs,by simpa using ho'.symm,hr,hx⟩
theorem l7{E:Env}{id:Id}{ver n:Nat}{p:List rN}{y:Value}(h:VS E (.ptr id ver p n) y):
  ∃a,y= .pointer (some a)/\E.qi id ver/\(E.cur id ver->∃pl,E.β id=some pl/\a=⟨pl.b,n,none⟩):=by
 obtain⟨cs,hv,ho⟩:=h
 simp only[V]at hv
 obtain⟨a,e,hb,hc⟩:=hv
 have ho':cs=[y]:=ho
 rw[e]at ho'
 exact⟨a,by simpa using ho'.symm,hb,hc⟩
theorem kz{E:Env}{id:Id}{ver c i len:Nat}{p:List rN}{y:Value}(h:VS E (.cv id ver p c i len) y):
  ∃a cap,y= .slice a len cap/\len<=cap/\(0 < len->a.isSome=true)/\E.qi id ver/\
   (E.cur id ver->match E.β id with
    |some pl=>(0 < len\/i=0->a=some ⟨pl.b,c,none⟩)/\(p=[]->i=0->cap=pl.cap)
    |none=>a=none/\len=0/\cap=0):=by
 obtain⟨cs,hv,ho⟩:=h
 simp only[V]at hv
 obtain⟨a,cap,e,rest⟩:=hv
 have ho':cs=[y]:=ho
 rw[e]at ho'
 exact⟨a,cap,by simpa using ho'.symm,rest⟩
theorem lJ{E:Env}{t:Ty}{l:List t.den}{y:Value}(h:VS E (.d (.slice t) l) y):
  ∃a cap vs,y= .slice a l.length cap/\l.length<=cap/\(0 < l.length->a.isSome=true)/\qg E a vs/\aM (cC E t) vs l:=by
 obtain⟨cs,hv,ho⟩:=h
 simp only[V,cC]at hv
 obtain⟨a,cap,vs,e,rest⟩:=hv
 have ho':cs=[y]:=ho
 rw[e]at ho'
 exact⟨a,cap,vs,by simpa using ho'.symm,rest⟩
theorem gV{E:Env}{y:Value}(h:VS E .c6 y):y= .slice none 0 0:=by
 obtain⟨cs,hv,ho⟩:=h
 simp only[V]at hv
 have ho':cs=[y]:=ho
 rw[hv]at ho'
 simpa using ho'.symm
theorem GD{E:Env}{id:Id}{fr:Bool}{c:ao}(h:mr E id fr c){p:List rN}{n:Nat}{v:ao}(hl:(loc c.strip p).eval=some (n,v))(hf:v.dC=true):
  ∃pl cur e,E.β id=some pl/\E.w.heap[pl.b]? =some (.cells cur e (0,0))/\V E v ((cur.toList.drop n).take v.size)/\n+v.size<=cur.size:=by
 by_cases hn:c.fu=false
 ·obtain⟨pl,cur,e,hp,hh,hg,hk,hV⟩:=h.box hn
  have hN:=wQ hk
  generalize c.mW cur.size=N at hN hV
  have hNl:(cur.toList.take N).length=N:=by rw[cn,bU];omega
  obtain⟨u,hu⟩:∃u,c.strip=u:=⟨_,rfl⟩
  rw[hu]at hV hl
  rcases kV p u (cur.toList.take N) n v (VO.of hV) hl with⟨rfl,rfl⟩ | ⟨h1,h2⟩
  ·have hs:=hV.size
   rw[hNl]at hs
   refine⟨pl,cur,e,hp,hh,?_,by omega⟩
   rw[aL,<-hs]
   exact hV
  ·rw[hNl]at h2
   rw[lf,gA,dY (by omega)]at h1
   exact⟨pl,cur,e,hp,hh,h1,by omega⟩
 ·cases c <;> first | (exact absurd rfl hn) | skip
  rotate_left
  ·have hl:(loc (.mp _ _ _) p).eval=_:=hl
   obtain⟨_,rfl⟩:=Bb hl
   simp[ao.dC]at hf
  ·have hl:(loc (.la _ _ _ _ _ _) p).eval=_:=hl
   obtain⟨_,rfl⟩:=wZ hl
   simp[ao.dC]at hf
  ·have hl:(loc (.mV _ _ _) p).eval=_:=hl
   obtain⟨_,rfl⟩:=w5 hl
   simp[ao.dC]at hf
  rename_i e t l
  obtain⟨hz,h⟩:=h
  cases hp:E.β id with
  |none=>
   rw[hp]at h
   have:l=[]:=h
   subst this
   obtain⟨_,rfl⟩:=xY hl
   simp[ao.dC]at hf
  |some pl=>
   rw[hp]at h
   obtain⟨cur,k,q1,q2,q3,q4,q5,q6,q7,q8⟩:=h
   have hlen:=aM.length (λc x hx=>cC.size hx) q8
   have lz:l.length*t.size<=cur.size:=by rw[q2];exact cE _ q3
   rcases kV (E:=E) p (.vec e t l) _ n v q8 hl with⟨rfl,rfl⟩ | ⟨h1,h2⟩
   ·simp[ao.dC]at hf
   ·rw[hlen]at h2
    rw[lf,gA,dY (by omega)]at h1
    exact⟨pl,cur,e,rfl,q1,h1,by omega⟩
theorem GA{E:Env}{v v':ao}(h:(Mm v).eval=some v'):(∀cs,V E v cs->V E v' cs)/\v'.agg=v.agg:=by
 unfold Mm at h
 split at h
 ·rename_i t l
  obtain⟨h1,h2⟩:=bl.1 h
  obtain rfl:=ak.1 h2
  refine⟨λcs hv=> ?_,rfl⟩
  simp only[V,cC]at hv ⊢
  exact hv.1 (Option.isNone_iff_eq_none.1 h1)
 ·obtain rfl:=ak.1 h
  exact⟨λ_ h=>h,rfl⟩
theorem xX(h:Inv C g β s a w){T:TypeId}{x:ao}{y:Value}(hx:VS (s.env w g β) x y){v:ao}(he:(tW P s T x).eval=some v):
  ∃ad z,y= .pointer (some ad)/\(loadVar T ad).run P w= .ok z w/\VS (s.env w g β) v z:=by
 unfold tW at he
 split at he
 ·rename_i id ver p n
  cases ia:s.obj id with
  |none=>rw[ia]at he;simp only[ag]at he
  |some r=>
   obtain⟨v0,fr,c⟩:=r
   rw[ia]at he
   obtain⟨h1,h2⟩:=av.1 he
   obtain⟨⟨n',v'⟩,h3,h4⟩:=ai.1 h2
   obtain⟨h5,h6⟩:=av.1 h4
   obtain⟨h7,h8⟩:=bl.1 h6
   obtain⟨n1,n2⟩:=GA (E:=s.env w g β) h8
   simp only[decide_eq_true_eq]at h7
   have MT:v0=ver:=by simpa using h1
   subst MT h7
   have b5:=dj ia
   obtain⟨ad,rfl,hb,hc⟩:=l7 hx
   obtain⟨pl,hp,rfl⟩:=hc ⟨fr,c,b5⟩
   obtain⟨Eb,_⟩:=kK h5
   obtain⟨pl',cur,e,hp',hh,hV,hle⟩:=GD (h.bk id v0 fr c b5) h3 Eb
   rw[hp]at hp'
   obtain rfl:pl=pl':=by simpa using hp'
   obtain⟨z,wa,vd⟩:=oE (P:=P) (w:=w) h5 (b:=pl.b) (off:=n') hV.size (λj x hj=>by
    rw[cell_of_row w pl.b (n'+j) cur e (0,0) hh]
    rw[cD]at hj
    split at hj
    ·rw[ew]at hj;simpa using hj
    ·cases hj)
   exact⟨_,z,rfl,wa,VS.of (n1 _ hV) (by rw[n2];exact vd)⟩
 ·rename_i t x'
  obtain⟨h1,h2⟩:=av.1 he
  obtain rfl:=ak.1 h2
  obtain⟨b,off,vs,rfl,hr,hR⟩:=mm hx
  obtain⟨z,wa,vd⟩:=oE (P:=P) (w:=w) h1 (b:=b) (off:=off) hR.size (λj x hj=>by
   obtain⟨b',off',e,hh⟩:=hr j x hj
   simp only[al,Addr.mk.injEq,and_true]at e
   obtain⟨rfl,rfl⟩:=e
   exact hh.1)
  exact⟨_,z,rfl,wa,VS.of (by simpa only[V]using hR) vd⟩
 ·rename_i t x'
  obtain⟨u,e,he⟩:=mB.1 he
  subst e
  have hx:=tK hx
  obtain⟨h1,h2⟩:=av.1 he
  obtain rfl:=ak.1 h2
  obtain⟨b,off,vs,rfl,hr,hR⟩:=mm hx
  obtain⟨z,wa,vd⟩:=oE (P:=P) (w:=w) h1 (b:=b) (off:=off) hR.size (λj x hj=>by
   obtain⟨b',off',e,hh⟩:=hr j x hj
   simp only[al,Addr.mk.injEq,and_true]at e
   obtain⟨rfl,rfl⟩:=e
   exact hh.1)
  exact⟨_,z,rfl,wa,VS.of (by simpa only[V]using hR) vd⟩
 ·simp only[ag]at he
theorem Gq(h:Inv C g β s a w){T:TypeId}{x:Operand}(ho:o.op= .load T x){v:ao}(he:(tW P s T (s.ev x)).eval=some v):ed P o a w (fq C (s.put o.dst v)):=by
 obtain⟨ad,z,hy,hr,hv⟩:=xX h (h.ev x) he
 refine h.value hv (da (f:=Instr.loadAt T (a.eval x)) (by simp only[execOp,ho]) ?_)
 simp[Instr.loadAt,Instr.sureAddr,hy,hr]
theorem Trans.setRow(w:World){b:Nat}{i:Id}(hg:g b= .own (.id i) 0)(cur:Array Value):Trans w (w.setRow b cur) g g:=by
 refine⟨by simp,by simp,by simp,by simp,λb' hb=> ?_⟩
 by_cases he:b'=b
 ·subst he
  rw[hg]
  exact⟨.inr ⟨i,0,rfl,aw _⟩,λ_ _ hh=>by omega⟩
 ·rw[setRow_other w b b' cur he]
  cases wE:g b' with
  |free=>exact⟨rfl,rfl⟩
  |own o' k=>cases o' with
   |dm=>exact⟨rfl,rfl⟩
   |id i'=>exact⟨.inr ⟨i',k,rfl,aw _⟩,λoff v _ hv=>by rw[cell_setRow_other w b cur _ he];exact hv⟩
theorem Inv.apart(h:Inv C g β s a w){id:Id}{k:Nat}{b:Nat}(hg:g b= .own (.id id) k){i:Id}{ver:Nat}{fr:Bool}{c:ao}{pl:Pl}(hi:i≠id)(hs:s.bA i=some (.obj ver fr c))(hp:β i=some pl):pl.b≠b:=by
 intro hb
 have hl:(∃k,g pl.b= .own (.id i) k)\/(fr=true/\g pl.b= .free):=((h.bk i ver fr c hs).label (pl:=pl) hp).2
 rw[hb,hg]at hl
 rcases hl with⟨k',hk⟩ | ⟨_,hk⟩
 ·simp only[iO.own.injEq,Own.id.injEq]at hk
  exact hi hk.1.symm
 ·cases hk
theorem Dj(h:Inv C g β s a w){T:TypeId}{x v:ao}{y z:Value}(hx:VS (s.env w g β) x y)(hz:VS (s.env w g β) v z){s':AS}(he:(rh P s T x v).eval=some s'):
  ∃ad w',y= .pointer (some ad)/\(storeVar T ad z).run P w= .ok () w'/\∃g' β',Inv C g' β' s' a w':=by
 unfold rh at he
 split at he
 ·rename_i id ver p n
  cases ia:s.obj id with
  |none=>rw[ia]at he;simp only[ag]at he
  |some r=>
   obtain⟨v0,fr,c⟩:=r
   rw[ia]at he
   obtain⟨h1,h2⟩:=av.1 he
   obtain⟨⟨n',o'⟩,h3,h4⟩:=ai.1 h2
   obtain⟨h5,h6⟩:=av.1 h4
   obtain⟨h7,h8⟩:=bl.1 h6
   obtain⟨c',h9,Np⟩:=ai.1 h8
   obtain rfl:=ak.1 Np
   simp only[decide_eq_true_eq]at h7
   simp only[ae,beq_iff_eq,bt]at h1
   obtain⟨⟨MT,LJ⟩,xG⟩:=h1
   subst MT h7 LJ
   have b5:=dj ia
   obtain⟨ad,rfl,hb,hc⟩:=l7 hx
   obtain⟨pl,hp,rfl⟩:=hc ⟨false,c,b5⟩
   have hp:β id=some pl:=hp
   obtain⟨Eb,_⟩:=kK xG
   obtain⟨cs,hV,hO⟩:=hz.dC Eb
   have hOb:=h.bk id v0 false c b5
   obtain⟨hcel',_⟩:=kK h5
   have Qm:c.fu=false\/c.fu=true:=by cases c.fu <;> simp
   rcases Qm with hn | hn
   ·obtain⟨pl',cur,e,hp',hh,hg,hk,hVc⟩:=hOb.box hn
    have hp':β id=some pl':=hp'
    rw[hp]at hp'
    obtain rfl:pl=pl':=by simpa using hp'
    have hg:g pl.b= .own (.id id) 0:=hg
    have hh:w.heap[pl.b]? =some (.cells cur e (0,0)):=hh
    have hN:=wQ hk
    have hNl:(cur.toList.take (c.mW cur.size)).length=c.mW cur.size:=by rw[cn,bU];omega
    obtain⟨u1,u2,u3⟩:=jY p c.strip (cur.toList.take (c.mW cur.size)) n' o' v c' cs (VO.of hVc) h3 hV h9
    have u4:=u2.to (u3.lG hVc.lG)
    have lz:c'.size=c.strip.size:=by
     have e1:=u4.size
     have e2:=hVc.size
     rw[gm u1]at e1
     omega
    rw[hNl]at u1
    have HR:(cM cur.toList n' cs).length=cur.toList.length:=gm (by have e1:cur.toList.length=cur.size:=bU;omega)
    have Qe:(cM cur.toList n' cs).take (c.mW cur.size)=cM (cur.toList.take (c.mW cur.size)) n' cs:=by
     conv=>lhs;rw[<-cQ (c.mW cur.size) cur.toList]
     rw[o5 (by rw[hNl];exact u1),eH (by rw[gm (by rw[hNl];exact u1),hNl];exact aw _)]
     exact bo (by rw[gm (by rw[hNl];exact u1),hNl];exact aw _)
    have jT:=qm (P:=P) (w:=w) xG hV hO (b:=pl.b) (off:=n') hh (by have e1:cur.toList.length=cur.size:=bU;have e2:cs.toArray.size=cs.length:=fg;omega)
    have ht:=Trans.setRow w hg (cM cur.toList n' cs).toArray
    have hle:bV (s.env w g β) ((s.aD id (.obj v0 false (c.wrap c'))).env (w.setRow pl.b (cM cur.toList n' cs).toArray) g β):=bV.aD b5 (aw _) ht (λ_ _=>rfl) (λ_=>rfl)
    refine⟨_,_,rfl,jT,g,β,h.step (cF _ _ _) ht hle (fF.aD h.bk (by rw[b5];simp) hle (λ_ _=>rfl) (λi ver fr c pl2 hi xI Aa=>⟨setRow_other w pl.b pl2.b _ (h.apart hg hi xI Aa),rfl⟩) ?_ (jU b5 λk v1 l e=>by rw[e]at hn;simp[ao.fu]at hn))⟩
    exact uQ.obj ⟨pl,_,e,hp,setRow_heap w pl.b cur _ e (0,0) hh,hg,by rw[fg,HR,bU];exact sG hk u4.oB lz,by
     rw[tm c u4.oB,fg,HR,bU,uV u4.oB lz,show(cM cur.toList n' cs).toArray.toList=cM cur.toList n' cs from rfl,Qe]
     exact V.mono hle u4⟩
   ·cases c <;> first | (simp[ao.fu]at hn;done) | skip
    rotate_left
    ·have h3:(loc (.mp _ _ _) p).eval=_:=h3
     obtain⟨_,rfl⟩:=Bb h3
     simp[ao.dC]at hcel'
    ·have h3:(loc (.la _ _ _ _ _ _) p).eval=_:=h3
     obtain⟨_,rfl⟩:=wZ h3
     simp[ao.dC]at hcel'
    ·have h3:(loc (.mV _ _ _) p).eval=_:=h3
     obtain⟨_,rfl⟩:=w5 h3
     simp[ao.dC]at hcel'
    rename_i e t l
    obtain⟨Dz,hOb⟩:=hOb
    have hOb:(match β id with
     |none=>l=[]
     |some pl=>∃cur k,w.heap[pl.b]? =some (.cells cur e (0,0))/\cur.size=pl.cap*t.size/\l.length<=pl.cap/\pl.cap<=maxLen/\g pl.b= .own (.id id) k/\
       k<=l.length*t.size/\(false=false->k=0)/\aM (cC (s.env w g β) t) (cur.toList.take (l.length*t.size)) l):=hOb
    rw[hp]at hOb
    obtain⟨cur,k,q1,q2,q3,q4,q5,q6,q7,q8⟩:=hOb
    have hk:=q7 rfl
    subst hk
    have hlen:=aM.length (λc x hx=>cC.size hx) q8
    have lz:l.length*t.size<=cur.size:=by rw[q2];exact cE _ q3
    obtain⟨u1,u2,u3⟩:=jY (E:=s.env w g β) p (.vec e t l) _ n' o' v c' cs q8 h3 hV h9
    rw[hlen]at u1
    have jT:=qm (P:=P) (w:=w) xG hV hO (b:=pl.b) (off:=n') q1 (by omega)
    cases c' <;> first | (exact u3.elim) | skip
    rename_i e' t' l'
    obtain⟨rfl,rfl,hl'⟩:=u3
    have ht:=Trans.setRow w q5 (cM cur.toList n' cs).toArray
    have hle:bV (s.env w g β) ((s.aD id (.obj v0 false (.vec e' t' l'))).env (w.setRow pl.b (cM cur.toList n' cs).toArray) g β):=bV.aD b5 (aw _) ht (λ_ _=>rfl) (λ_=>rfl)
    refine⟨_,_,rfl,jT,g,β,h.step (cF _ _ _) ht hle (fF.aD h.bk (by rw[b5];simp) hle (λ_ _=>rfl) (λi ver fr c pl2 hi xI Aa=>⟨setRow_other w pl.b pl2.b _ (h.apart q5 hi xI Aa),rfl⟩) ?_ (jU b5 λk v1 l e=>by cases e))⟩
    refine⟨Dz,?_⟩
    show(match β id with
     |none=>l'=[]
     |some pl=>_)
    rw[hp]
    have HR:(cM cur.toList n' cs).length=cur.toList.length:=gm (by simp;omega)
    refine⟨_,0,setRow_heap w pl.b cur _ e' (0,0) q1,by rw[fg,HR];simpa using q2,by omega,q4,q5,by omega,λ_=>rfl,?_⟩
    have e2:(cM cur.toList n' cs).take (l'.length*t'.size)=cM (cur.toList.take (l.length*t'.size)) n' cs:=by
     rw[hl']
     conv=>lhs;rw[<-cQ (l.length*t'.size) cur.toList]
     rw[o5 (by rw[hlen];exact u1),eH (by rw[gm (by rw[hlen];exact u1),hlen];exact aw _)]
     exact bo (by rw[gm (by rw[hlen];exact u1),hlen];exact aw _)
    rw[show(cM cur.toList n' cs).toArray.toList=cM cur.toList n' cs from rfl,e2]
    exact aM.mono (λ_ _ hx=>hx.mono hle.mem) u2
 ·simp only[ag]at he
theorem ER(h:Inv C g β s a w){T:TypeId}{x v:Operand}(ho:o.op= .store T x v){s':AS}(he:(rh P s T (s.ev x) (s.ev v)).eval=some s'):ed P o a w (fq C (s'.put o.dst .undef)):=by
 obtain⟨ad,w',hy,hr,g',β',hi⟩:=Dj h (h.ev x) (h.ev v) he
 refine .inr (.inl ⟨w',zQ (f:=Instr.storeAt T (a.eval x) (a.eval v)) (by simp only[execOp,ho]) ?_,g',β',hi.put o.dst VS.undef⟩)
 simp[Instr.storeAt,Instr.sureAddr,hy,hr]
end
end Go.Ab
namespace Go.Ab
section
variable {P:Program} {C:Ctx} {g:Nat->iO} {β:Id->Option Pl} {s:AS} {a:Act} {w:World} {o:Oper}
theorem Ak(h:Inv C g β s a w){x:Operand}(ho:o.op= .move x\/o.op= .assign x):ed P o a w (fq C (s.put o.dst (s.ev x))):=by
 refine h.value (h.ev x) ?_
 rcases ho with ho | ho <;> simp[execOp,ho]
theorem GG(h:Inv C g β s a w){c x y:Operand}(ho:o.op= .pick c x y){v:ao}(he:(Fz (s.ev c) (s.ev x) (s.ev y)).eval=some v):ed P o a w (fq C (s.put o.dst v)):=by
 have hc:=h.ev c
 have hx:=h.ev x
 have hy:=h.ev y
 unfold Fz at he
 split at he
 ·rename_i b hb
  rw[hb]at hc
  have Rw:=wP hc
  have hr:(execOp a.eval o).run P w= .ok (.value (if b then a.eval x else a.eval y)) w:=by
   simp[execOp,ho,Rw,asBool]
  split at he
  ·rename_i bx by' Rr Rs
   obtain rfl:=ak.1 he
   rw[Rr]at hx
   rw[Rs]at hy
   refine h.value ?_ hr
   cases b
   ·simpa using hy
   ·simpa using hx
  ·cases b with
   |true=>
    simp only[Out.eval,al]at he
    subst he
    exact h.value (by simpa using hx) hr
   |false=>
    simp only[Out.eval,al]at he
    subst he
    exact h.value (by simpa using hy) hr
 ·simp only[ag]at he
theorem zp(h:Inv C g β s a w){x:Operand}(ho:o.op= .nilCheck x){s':AS}(he:(match s.ev x with
  | .ptr id v p n=>Out.ok (s.put o.dst (.ptr id v p n))
  | .eW t y=> .ok (s.put o.dst (.eW t y))
  | .d (.lu t) y=> .get (y:Option t.den) λy=> .ok (s.put o.dst (.eW t y))
  | .fn f c=> .ok (s.put o.dst (.fn f c))
  |_=> .fail).eval=some s'):ed P o a w (fq C s'):=by
 have hx:=h.ev x
 split at he
 ·rename_i id v p n hv
  obtain rfl:=ak.1 he
  rw[hv]at hx
  obtain⟨ad,hy,_⟩:=l7 hx
  exact h.value hx (by simp[execOp,ho,hy])
 ·rename_i t y hv
  obtain rfl:=ak.1 he
  rw[hv]at hx
  obtain⟨b,off,vs,hy,_⟩:=mm hx
  exact h.value hx (by simp[execOp,ho,hy])
 ·rename_i t y hv
  obtain⟨z,e,he⟩:=mB.1 he
  subst e
  obtain rfl:=ak.1 he
  rw[hv]at hx
  have hx:=tK hx
  obtain⟨b,off,vs,hy,_⟩:=mm hx
  exact h.value hx (by simp[execOp,ho,hy])
 ·rename_i f c hv
  obtain rfl:=ak.1 he
  rw[hv]at hx
  obtain⟨cs,hV,hO⟩:=hx.dC rfl
  simp only[V]at hV
  obtain⟨vs,e,hc⟩:=hV
  have hO':cs=[a.eval x]:=hO
  rw[e]at hO'
  have hy:a.eval x= .func (.func f) #[] vs.toArray:=by simpa using hO'.symm
  refine h.value (v:= .fn f c) ⟨cs,by simp only[V];exact⟨vs,e,hc⟩,hO⟩ (by simp[execOp,ho,hy])
 ·simp only[ag]at he
theorem Cv{op:BinOp}{k k':IntKind}{x y:Int}{v:ao}(he:(HW op k x k' y).eval=some v)(T:TypeId)(E:Env):
  ∃z,(binOp op T (.int k x) (.int k' y)).run P w= .ok z w/\VS E v z:=by
 unfold HW at he
 have same:∀(hk:decide (k=k')=true),k=k':=λhk=>by simpa using hk
 cases op with
 |shl=>
  obtain⟨h1,h2⟩:=bl.1 he
  obtain rfl:=ak.1 h2
  have h1:¬y < 0:=by simpa using h1
  exact⟨_,by simp[binOp,Op.shift,h1],gY _ _⟩
 |shr=>
  obtain⟨h1,h2⟩:=bl.1 he
  obtain rfl:=ak.1 h2
  have h1:¬y < 0:=by simpa using h1
  exact⟨_,by simp[binOp,Op.shift,h1],gY _ _⟩
 |quo=>
  obtain⟨h1,h2⟩:=av.1 he
  obtain rfl:=same h1
  obtain⟨h3,h4⟩:=bl.1 h2
  obtain rfl:=ak.1 h4
  have h3:y≠0:=by simpa using h3
  exact⟨_,by simp[binOp,Op.intDiv,h3],gY _ _⟩
 |rem=>
  obtain⟨h1,h2⟩:=av.1 he
  obtain rfl:=same h1
  obtain⟨h3,h4⟩:=bl.1 h2
  obtain rfl:=ak.1 h4
  have h3:y≠0:=by simpa using h3
  exact⟨_,by simp[binOp,Op.intDiv,h3],gY _ _⟩
 |add | sub | mul=>
  obtain⟨h1,h2⟩:=av.1 he
  obtain rfl:=same h1
  obtain rfl:=ak.1 h2
  exact⟨_,by simp[binOp,Op.intArith],gY _ _⟩
 |and | or | xor | andNot=>
  obtain⟨h1,h2⟩:=av.1 he
  obtain rfl:=same h1
  obtain rfl:=ak.1 h2
  refine⟨_,?_,gY _ _⟩
  unfold binOp Op.intBits
  simp[di]
 |eql | neq | lss | leq | gtr | geq=>
  obtain⟨h1,h2⟩:=av.1 he
  obtain rfl:=same h1
  obtain rfl:=ak.1 h2
  refine⟨_,?_,mg _⟩
  simp[binOp,Op.intCmp]
theorem Dk{op:BinOp}{x y:ByteArray}{v:ao}(he:(II op x y).eval=some v)(T:TypeId)(E:Env):
  ∃z,(binOp op T (.string x) (.string y)).run P w= .ok z w/\VS E v z:=by
 unfold II at he
 cases op <;> simp only[ag]at he
 case add=>
  obtain⟨h1,h2⟩:=bl.1 he
  obtain rfl:=ak.1 h2
  have h1:¬((x.size+y.size:Nat):Int) > IntKind.i64.max:=by simpa using h1
  refine⟨.string (x++y),?_,AI _⟩
  show(Op.stringOp .add x y).run P w=_
  unfold Op.stringOp
  simp only[h1,if_false]
  rfl
 all_goals
  obtain rfl:=ak.1 he
  exact⟨_,by simp[binOp,Op.stringOp],mg _⟩
theorem ji{op:BinOp}{T:TypeId}{x y:Operand}{u v:Value}(h1:u≠ .nilIface)(h2:kP u=false):(eqGuard op T x y u v).run P w= .ok () w:=by
 unfold eqGuard
 cases op <;> simp
 all_goals (cases u <;> simp_all [kP])
theorem nI{T:TypeId}{b:Bool}(h:sX P T b=true):∃i,P.info? T=some i/\∀w,(isAgg T).run P w= .ok b w:=by
 unfold sX at h
 cases hu:P.underlying T with
 |none=>rw[hu]at h;cases h
 |some d=>
  obtain⟨i,hi⟩:=Fl hu
  refine⟨i,hi,λw=> ?_⟩
  rw[hu]at h
  unfold isAgg
  rw[Sem.run_bind,run_underlying hu w]
  cases d <;> simp at h <;> simp[h]
theorem mP{T:TypeId}{b:Bool}(h:sX P T b=true){cs:List Value}{off n:Nat}(hn:P.cellsOf T=n)(hb:b=false->n=1)(hl:off+n<=cs.length):
  ∃y,(part T cs.toArray off).run P w= .ok y w/\ei b ((cs.drop off).take n) y:=by
 obtain⟨i,hi,Cn⟩:=nI h
 rw[iQ hi]at hn
 unfold part
 rw[Sem.run_bind,Cn w]
 simp only[Result.andThen_ok]
 cases b with
 |true=>
  refine⟨.agg ((cs.drop off).take n).toArray,?_,rfl⟩
  simp only[if_true,Sem.run_bind,run_sizeOf hi,Result.andThen_ok,hn,Sem.run_pure]
  simp[List.extract_eq_take_drop]
 |false=>
  have h1:=hb rfl
  subst h1
  have gO:off < cs.length:=by omega
  refine⟨cs[off],?_,?_⟩
  ·simp[gO]
  ·show(cs.drop off).take 1=[cs[off]]
   rw[aB gO,j3,eN]
theorem mQ{t:Ty}(h:t.agg=false):t.size=1:=by
 cases t <;> first | rfl | (simp[Ty.agg]at h)
theorem xV{α:Type}(f:α->α->Bool)(x y:α)(xs ys:List α):iS f (x::xs) (y::ys)=(f x y && iS f xs ys):=rfl
theorem mh(E:Env):∀(n:Nat) (T:TypeId) (t:Ty),kU P n T t=true->∀(d:Nat),n<=d->∀(cx cy:List Value) (x y:t.den) (u v:Value),cC E t cx x->cC E t cy y->ei t.agg cx u->ei t.agg cy v->
  (Op.equalIn d T u v).run P w= .ok (t.beq x y) w
 | 0,T,t,h,_,_,_,_,_,_,_,_,_,_,_,_=>by simp[kU]at h
 |n+1,T,t,h,0,hd,_,_,_,_,_,_,_,_,_,_=>by omega
 |n+1,T,t,h,d+1,hd,cx,cy,x,y,u,v,hx,hy,hu,hv=>by
  simp only[kU]at h
  split at h
  ·rename_i k k' hT
   simp only[cC]at hx hy
   have e1:cx=[u]:=hu
   have e2:cy=[v]:=hv
   rw[hx]at e1;rw[hy]at e2
   simp only[dg,and_true]at e1 e2
   subst e1 e2
   rw[run_equalIn_int w d T _ _ _ _ hT];rfl
  ·rename_i hT
   simp only[cC]at hx hy
   have e1:cx=[u]:=hu
   have e2:cy=[v]:=hv
   rw[hx]at e1;rw[hy]at e2
   simp only[dg,and_true]at e1 e2
   subst e1 e2
   rw[run_equalIn_bool' w d T _ _ hT];rfl
  ·rename_i hT
   simp only[cC]at hx hy
   have e1:cx=[u]:=hu
   have e2:cy=[v]:=hv
   rw[hx]at e1;rw[hy]at e2
   simp only[dg,and_true]at e1 e2
   subst e1 e2
   rw[run_equalIn_string w d T _ _ hT];rfl
  ·rename_i m e m' t' hT
   simp only[ae,beq_iff_eq]at h
   obtain⟨⟨⟨⟨rfl,Md⟩,lz⟩,tx⟩,mi⟩:=h
   simp only[cC]at hx hy
   obtain⟨PU,PF⟩:=hx
   obtain⟨RN,Rx⟩:=hy
   have e1:u= .agg cx.toArray:=hu
   have e2:v= .agg cy.toArray:=hv
   subst e1 e2
   obtain⟨i,hi,Cn⟩:=nI tx
   have hsz':=lz
   rw[iQ hi]at hsz'
   simp only[Op.equalIn,Sem.run_bind,run_underlying hT,Result.andThen_ok,run_sizeOf hi,hsz']
   simp only[Std.Legacy.Range.forIn_eq_forIn_range']
   have hm:([:m]:Std.Legacy.Range).size=m:=by simp[Std.Legacy.Range.size]
   rw[hm]
   have Dz:∀c z,cC E t' c z->c.length=t'.size:=λc z hz=>hz.size
   have bx:t'.agg=false->t'.size=1:=mQ
   have key:∀(k:Nat) (x y:List t'.den) (j:Nat),x.length=k->y.length=k->aM (cC E t') (cx.drop (j*t'.size)) x->aM (cC E t') (cy.drop (j*t'.size)) y->
     (forIn (List.range' j k) ((none,()):Option Bool×Unit) λi __s=>(do
      let __do_lift <-part e cx.toArray (i*t'.size)
      let __do_lift_1 <-part e cy.toArray (i*t'.size)
      let __do_lift <-Op.equalIn d e __do_lift __do_lift_1
      if(!__do_lift)=true then pure (ForInStep.done (some false,())) else pure (ForInStep.yield (none,())):Sem (ForInStep (Option Bool×Unit)))).run P w= .ok (if iS t'.beq x y then none else some false,()) w:=by
    intro k
    induction k with
    |zero=>
     intro x y j hx hy _ _
     rw[List.length_eq_zero_iff.1 hx,List.length_eq_zero_iff.1 hy]
     rfl
    |succ k ih=>
     intro x y j hx hy hcx' hcy'
     cases x with
     |nil=>simp at hx
     |cons x0 xs=>
      cases y with
      |nil=>simp at hy
      |cons y0 ys=>
       have gx:=aM.get Dz hcx' 0 (by simp)
       have gy:=aM.get Dz hcy' 0 (by simp)
       simp only[jR,aL,List.getElem_cons_zero]at gx gy
       have lenx:((cx.drop (j*t'.size)).take t'.size).length=t'.size:=gx.size
       have leny:((cy.drop (j*t'.size)).take t'.size).length=t'.size:=gy.size
       have wa:t'.size≠0:=by simpa using Md
       have PQ:j*t'.size+t'.size<=cx.length:=by simp only[cn,cH]at lenx;omega
       have RI:j*t'.size+t'.size<=cy.length:=by simp only[cn,cH]at leny;omega
       obtain⟨ux,h1,o1⟩:=mP (w:=w) tx lz bx (cs:=cx) (off:=j*t'.size) PQ
       obtain⟨uy,h2,o2⟩:=mP (w:=w) tx lz bx (cs:=cy) (off:=j*t'.size) RI
       have h3:=mh E n e t' mi d (by omega) _ _ x0 y0 ux uy gx gy o1 o2
       have nx:aM (cC E t') (cx.drop ((j+1)*t'.size)) xs:=by
        have:=aM.drop Dz 1 hcx'
        rw[eu]at this
        simpa[dn]using this
       have ny:aM (cC E t') (cy.drop ((j+1)*t'.size)) ys:=by
        have:=aM.drop Dz 1 hcy'
        rw[eu]at this
        simpa[dn]using this
       have:=ih xs ys (j+1) (by simpa using hx) (by simpa using hy) nx ny
       rw[List.range'_succ,List.forIn_cons]
       simp only[Sem.run_bind,h1,h2,h3,Result.andThen_ok,xV]
       rcases fC (t'.beq x0 y0) with hb | hb
       ·simp only[hb,cz,bN,if_false,Sem.run_pure,Result.andThen_ok,ck]
        exact this
       ·simp only[hb,dG,if_true,Sem.run_pure,Result.andThen_ok,eM,bN,if_false]
   have:=key m x y 0 PU RN (by simpa using PF) (by simpa using Rx)
   rw[this]
   show _=Result.ok (iS t'.beq x y) w
   cases iS t'.beq x y <;> rfl
  ·rename_i t0 _ _ fs hT
   simp only[ae,bt]at h
   obtain⟨kZ,LK⟩:=h
   have hF:P.fieldsOf T=fs:=by simp[Program.fieldsOf,hT]
   have hT':P.underlying T=some (.struct (P.fieldsOf T)):=by rw[hF];exact hT
   have key:∀(fl:List Field) (t:Ty) (off:Nat),sR P (kU P n) fl t off=true->∀(x y:t.den),cC E t (cx.drop off) x->cC E t (cy.drop off) y->
     (Op.eqFields d cx.toArray cy.toArray fl).run P w= .ok (t.beq x y) w:=by
    intro fl
    induction fl with
    |nil=>
     intro t off hc x y _ _
     cases t <;> first | (simp[sR]at hc;done) | rfl
    |cons f fl ih=>
     intro t off hc x y hx hy
     cases t <;> first | (simp[sR]at hc;done) | skip
     rename_i ta tb
     simp only[sR,ae,bt,beq_iff_eq,beq_eq_false_iff_ne]at hc
     obtain⟨⟨⟨⟨⟨⟨P0,JE⟩,hz⟩,lz⟩,tx⟩,mi⟩,HN⟩:=hc
     simp only[cC]at hx hy
     obtain⟨xa,xb,ex,Oc,Qq⟩:=hx
     obtain⟨ya,yb,ey,Ra,R9⟩:=hy
     have bx:ta.agg=false->ta.size=1:=mQ
     have lx:xa.length=ta.size:=Oc.size
     have ly:ya.length=ta.size:=Ra.size
     have split:∀(cs xa xb:List Value),cs.drop off=xa++xb->xa.length=ta.size->(cs.drop off).take ta.size=xa/\cs.drop (off+ta.size)=xb/\off+ta.size<=cs.length:=by
      intro cs xa xb e l
      refine⟨by rw[e];exact List.take_left' l,by rw[<-eu,e];exact List.drop_left' l,?_⟩
      have:=congrArg List.length e
      simp only[cH,au]at this
      omega
     obtain⟨sx1,sx2,sx3⟩:=split cx xa xb ex lx
     obtain⟨sy1,sy2,sy3⟩:=split cy ya yb ey ly
     obtain⟨ux,h1,o1⟩:=mP (w:=w) tx lz bx (cs:=cx) (off:=off) sx3
     obtain⟨uy,h2,o2⟩:=mP (w:=w) tx lz bx (cs:=cy) (off:=off) sy3
     rw[sx1]at o1
     rw[sy1]at o2
     have h3:=mh E n f.type ta mi d (by omega) _ _ x.1 y.1 ux uy Oc Ra o1 o2
     have h4:=ih tb (off+ta.size) HN x.2 y.2 (by rw[sx2];exact Qq) (by rw[sy2];exact R9)
     simp only[Op.eqFields,ne_eq,P0,not_false_eq_true,if_true,Sem.run_bind,JE,h1,h2,h3,Result.andThen_ok]
     show _=Result.ok (ta.beq x.1 y.1 && tb.beq x.2 y.2) w
     rcases fC (ta.beq x.1 y.1) with hb | hb
     ·simp only[hb,cz,bN,if_false,ck]
      exact h4
     ·simp[hb]
   have tx:t0.agg=true:=by
    cases hl:fs.toList <;> rw[hl]at LK <;> cases t0 <;> first | rfl | (simp[sR]at LK;done)
   rw[tx]at hu hv
   have e1:u= .agg cx.toArray:=hu
   have e2:v= .agg cy.toArray:=hv
   subst e1 e2
   rw[run_equalIn_struct w d T _ _ hT' kZ,hF]
   exact key fs.toList t0 0 LK x y (by simpa using hx) (by simpa using hy)
  ·cases h
end
end Go.Ab
namespace Go.Ab
section
variable {P:Program} {C:Ctx} {g:Nat->iO} {β:Id->Option Pl} {s:AS} {a:Act} {w:World} {o:Oper}
theorem Io{E:Env}{v:ao}{y c:Value}(h:VS E v y)(hc:v.dC=true)(ha:v.agg=false)(hV:∀cs,V E v cs->cs=[c]):y=c:=by
 have:=h.single hc ha
 simpa using hV _ this
theorem rI{E:Env}{y:Value}(h:VS E .kY y):y= .pointer none:=Io h rfl rfl λcs hv=>by simpa only[V]using hv
theorem w7{E:Env}{y:Value}(h:VS E .mF y):y= .nilFunc:=Io h rfl rfl λcs hv=>by simpa only[V]using hv
theorem zT{E:Env}{f:FuncId}{c:ao}{y:Value}(h:VS E (.fn f c) y):∃vs,y= .func (.func f) #[] vs.toArray/\VC E c vs:=by
 have h1:=h.single rfl rfl
 simp only[V]at h1
 obtain⟨vs,e,hc⟩:=h1
 exact⟨vs,by simpa using e,hc⟩
theorem dP{T:TypeId}{u v:Value}{b:Bool}(h:∀d,(Op.equalIn (d+1) T u v).run P w= .ok b w):(Op.equal T u v).run P w= .ok b w:=h 9999
theorem xu{T:TypeId}{x y:ao}{u v:Value}{E:Env}(hx:VS E x u)(hy:VS E y v){b:Bool}(he:(oQ P T x y).eval=some b):
  (Op.equal T u v).run P w= .ok b w/\u≠ .nilIface/\(kP u=false\/(kP v=true/\P.eqGuardType P.depth T=false))/\
   (∀op,binOp op T u v=(match op with | .eql=>do pure (.bool (<-Op.equal T u v)) | .neq=>do pure (.bool (!(<-Op.equal T u v))) | _=>binOp op T u v)):=by
 unfold oQ at he
 split at he
 ·rename_i t x' t' y'
  obtain⟨y'',h1,h2⟩:=ai.1 he
  obtain⟨rfl,h1⟩:=gh (gC.1 h1)
  simp only at h1
  subst h1
  obtain⟨h3,h4⟩:=av.1 h2
  obtain rfl:=ak.1 h4
  simp only[ae,fj,bt,decide_eq_true_eq]at h3
  obtain⟨h3,h5⟩:=h3
  obtain⟨cx,hVx,hOx⟩:=hx.dC rfl
  obtain⟨cy,hVy,hOy⟩:=hy.dC rfl
  simp only[V]at hVx hVy
  have hr:=mh (w:=w) E depth T t' h5 10000 (by decide) cx cy x' y' u v hVx hVy hOx hOy
  refine⟨hr,?_⟩
  rcases h3 with⟨tx,RE⟩ | rfl
  ·have hOx':ei t'.agg cx u:=hOx
   have hOy':ei t'.agg cy v:=hOy
   rw[tx]at hOx' hOy'
   have e1:u= .agg cx.toArray:=hOx'
   have e2:v= .agg cy.toArray:=hOy'
   subst e1 e2
   exact⟨by simp,.inr ⟨rfl,RE⟩,λop=>by cases op <;> rfl⟩
  ·simp only[cC]at hVx hVy
   have e1:cx=[u]:=hOx
   have e2:cy=[v]:=hOy
   rw[hVx]at e1;rw[hVy]at e2
   simp only[dg,and_true]at e1 e2
   subst e1 e2
   exact⟨by simp,.inl rfl,λop=>by cases op <;> rfl⟩
 ·obtain⟨h1,h2⟩:=av.1 he
  obtain rfl:=ak.1 h2
  rw[gV hx,gV hy]
  unfold oQ.isSl at h1
  split at h1 <;> try (cases h1;done)
  rename_i e hT
  exact⟨dP λd=>by simp[Op.equalIn,run_underlying hT],by simp,.inl rfl,λop=>by cases op <;> rfl⟩
 ·obtain⟨h1,h2⟩:=av.1 he
  obtain⟨h3,h4⟩:=bl.1 h2
  obtain rfl:=ak.1 h4
  obtain⟨ad,cap,vs,rfl,_,hs,_⟩:=lJ hx
  rw[gV hy]
  have hs:=hs (by simpa using h3)
  obtain⟨ad',rfl⟩:=bz.1 hs
  unfold oQ.isSl at h1
  split at h1 <;> try (cases h1;done)
  rename_i e hT
  exact⟨dP λd=>by simp[Op.equalIn,run_underlying hT],by simp,.inl rfl,λop=>by cases op <;> rfl⟩
 ·obtain⟨h1,h2⟩:=av.1 he
  obtain⟨h3,h4⟩:=bl.1 h2
  obtain rfl:=ak.1 h4
  obtain⟨ad,cap,vs,rfl,_,hs,_⟩:=lJ hy
  rw[gV hx]
  have hs:=hs (by simpa using h3)
  obtain⟨ad',rfl⟩:=bz.1 hs
  unfold oQ.isSl at h1
  split at h1 <;> try (cases h1;done)
  rename_i e hT
  exact⟨dP λd=>by simp[Op.equalIn,run_underlying hT],by simp,.inl rfl,λop=>by cases op <;> rfl⟩
 ·obtain⟨h1,h2⟩:=av.1 he
  obtain⟨h3,h4⟩:=bl.1 h2
  obtain rfl:=ak.1 h4
  obtain⟨ad,cap,rfl,_,hs,_⟩:=kz hx
  rw[gV hy]
  have hs:=hs (by simpa using h3)
  obtain⟨ad',rfl⟩:=bz.1 hs
  unfold oQ.isSl at h1
  split at h1 <;> try (cases h1;done)
  rename_i e hT
  exact⟨dP λd=>by simp[Op.equalIn,run_underlying hT],by simp,.inl rfl,λop=>by cases op <;> rfl⟩
 ·obtain⟨h1,h2⟩:=av.1 he
  obtain⟨h3,h4⟩:=bl.1 h2
  obtain rfl:=ak.1 h4
  obtain⟨ad,cap,rfl,_,hs,_⟩:=kz hy
  rw[gV hx]
  have hs:=hs (by simpa using h3)
  obtain⟨ad',rfl⟩:=bz.1 hs
  unfold oQ.isSl at h1
  split at h1 <;> try (cases h1;done)
  rename_i e hT
  exact⟨dP λd=>by simp[Op.equalIn,run_underlying hT],by simp,.inl rfl,λop=>by cases op <;> rfl⟩
 ·obtain⟨h1,h2⟩:=av.1 he
  obtain rfl:=ak.1 h2
  rw[rI hx,rI hy]
  unfold oQ.isPt at h1
  split at h1 <;> try (cases h1;done)
  rename_i e hT
  exact⟨dP λd=>by simp[Op.equalIn,run_underlying hT],by simp,.inl rfl,λop=>by cases op <;> rfl⟩
 ·obtain⟨h1,h2⟩:=av.1 he
  obtain rfl:=ak.1 h2
  obtain⟨ad,rfl,_⟩:=l7 hx
  rw[rI hy]
  unfold oQ.isPt at h1
  split at h1 <;> try (cases h1;done)
  rename_i e hT
  exact⟨dP λd=>by simp[Op.equalIn,run_underlying hT],by simp,.inl rfl,λop=>by cases op <;> rfl⟩
 ·obtain⟨h1,h2⟩:=av.1 he
  obtain rfl:=ak.1 h2
  obtain⟨ad,rfl,_⟩:=l7 hy
  rw[rI hx]
  unfold oQ.isPt at h1
  split at h1 <;> try (cases h1;done)
  rename_i e hT
  exact⟨dP λd=>by simp[Op.equalIn,run_underlying hT],by simp,.inl rfl,λop=>by cases op <;> rfl⟩
 ·rename_i t q
  obtain⟨h1,h2⟩:=av.1 he
  obtain rfl:=ak.1 h2
  unfold oQ.isPt at h1
  split at h1 <;> try (cases h1;done)
  rename_i e hT
  rw[rI hy]
  cases q with
  |none=>
   rw[z6 hx]
   exact⟨dP λd=>by simp[Op.equalIn,run_underlying hT],by simp,.inl rfl,λop=>by cases op <;> rfl⟩
  |some z=>
   obtain⟨b,off,vs,rfl,_⟩:=mm (tK hx)
   exact⟨dP λd=>by simp[Op.equalIn,run_underlying hT],by simp,.inl rfl,λop=>by cases op <;> rfl⟩
 ·rename_i t q
  obtain⟨h1,h2⟩:=av.1 he
  obtain rfl:=ak.1 h2
  unfold oQ.isPt at h1
  split at h1 <;> try (cases h1;done)
  rename_i e hT
  rw[rI hx]
  cases q with
  |none=>
   rw[z6 hy]
   exact⟨dP λd=>by simp[Op.equalIn,run_underlying hT],by simp,.inl rfl,λop=>by cases op <;> rfl⟩
  |some z=>
   obtain⟨b,off,vs,rfl,_⟩:=mm (tK hy)
   exact⟨dP λd=>by simp[Op.equalIn,run_underlying hT],by simp,.inl rfl,λop=>by cases op <;> rfl⟩
 ·obtain⟨h1,h2⟩:=av.1 he
  obtain rfl:=ak.1 h2
  rw[w7 hx,w7 hy]
  unfold oQ.isFn at h1
  split at h1 <;> try (cases h1;done)
  rename_i hT
  exact⟨dP λd=>by simp[Op.equalIn,run_underlying hT],by simp,.inl rfl,λop=>by cases op <;> rfl⟩
 ·obtain⟨h1,h2⟩:=av.1 he
  obtain rfl:=ak.1 h2
  obtain⟨vs,rfl,_⟩:=zT hx
  rw[w7 hy]
  unfold oQ.isFn at h1
  split at h1 <;> try (cases h1;done)
  rename_i hT
  exact⟨dP λd=>by simp[Op.equalIn,run_underlying hT],by simp,.inl rfl,λop=>by cases op <;> rfl⟩
 ·obtain⟨h1,h2⟩:=av.1 he
  obtain rfl:=ak.1 h2
  obtain⟨vs,rfl,_⟩:=zT hy
  rw[w7 hx]
  unfold oQ.isFn at h1
  split at h1 <;> try (cases h1;done)
  rename_i hT
  exact⟨dP λd=>by simp[Op.equalIn,run_underlying hT],by simp,.inl rfl,λop=>by cases op <;> rfl⟩
 ·simp only[ag]at he
theorem Ca{op:BinOp}{T:TypeId}{x y:Operand}{u v:Value}(hu:kP u=true)(hv:kP v=true)(hm:P.eqGuardType P.depth T=false):(eqGuard op T x y u v).run P w= .ok () w:=by
 cases u <;> first | (simp[kP]at hu;done) | skip
 cases v <;> first | (simp[kP]at hv;done) | skip
 exact run_eqGuard_agg w op T x y _ _ hm
theorem DM(h:Inv C g β s a w){op:BinOp}{T U:TypeId}{x y:Operand}(ho:o.op= .binOp op T x y U){v:ao}(he:(K7 P T op (s.ev x) (s.ev y)).eval=some v):ed P o a w (fq C (s.put o.dst v)):=by
 have hx:=h.ev x
 have hy:=h.ev y
 have fin:∀z,(binOp op T (a.eval x) (a.eval y)).run P w= .ok z w->(eqGuard op T x y (a.eval x) (a.eval y)).run P w= .ok () w->VS (s.env w g β) v z->ed P o a w (fq C (s.put o.dst v)):=by
  intro z h1 h2 h3
  refine h.value h3 ?_
  simp[execOp,ho,h1,h2]
 unfold K7 at he
 split at he
 ·rename_i k n k' m hn hm
  rw[hn]at hx;rw[hm]at hy
  have e1:=lY hx
  have e2:=lY hy
  obtain⟨z,h1,h2⟩:=Cv (P:=P) (w:=w) he T (s.env w g β)
  exact fin z (by rw[e1,e2];exact h1) (by rw[e1,e2];exact ji (by simp) rfl) h2
 ·rename_i n m hn hm
  rw[hn]at hx;rw[hm]at hy
  have e1:=ri hx
  have e2:=ri hy
  obtain⟨z,h1,h2⟩:=Dk (P:=P) (w:=w) he T (s.env w g β)
  exact fin z (by rw[e1,e2];exact h1) (by rw[e1,e2];exact ji (by simp) rfl) h2
 ·have grd:(kP (a.eval x)=false\/(kP (a.eval y)=true/\P.eqGuardType P.depth T=false))->a.eval x≠ .nilIface->(eqGuard op T x y (a.eval x) (a.eval y)).run P w= .ok () w:=by
   intro hh fL
   rcases hh with hh | ⟨hh,hm⟩
   ·exact ji fL hh
   ·rcases fC (kP (a.eval x)) with hx | hx
    ·exact Ca hx hh hm
    ·exact ji fL hx
  split at he
  ·obtain⟨b,h1,h2⟩:=ai.1 he
   obtain rfl:=ak.1 h2
   obtain⟨q1,q2,q3,q4⟩:=xu (w:=w) hx hy h1
   refine fin (.bool b) ?_ (grd q3 q2) (mg b)
   rw[q4 .eql]
   simp[q1]
  ·obtain⟨b,h1,h2⟩:=ai.1 he
   obtain rfl:=ak.1 h2
   obtain⟨q1,q2,q3,q4⟩:=xu (w:=w) hx hy h1
   refine fin (.bool (!b)) ?_ (grd q3 q2) (mg (!b))
   rw[q4 .neq]
   simp[q1]
  ·simp only[ag]at he
theorem G3(h:Inv C g β s a w){op:UnOp}{T:TypeId}{x:Operand}(ho:o.op= .unOp op T x){v:ao}(he:(O2 op (s.ev x)).eval=some v):ed P o a w (fq C (s.put o.dst v)):=by
 have hx:=h.ev x
 unfold O2 at he
 split at he
 ·rename_i b hb
  rw[hb]at hx
  obtain rfl:=ak.1 he
  exact h.value (mg _) (by simp[execOp,ho,wP hx,Op.unary])
 ·rename_i k n hb
  rw[hb]at hx
  obtain rfl:=ak.1 he
  exact h.value (gY _ _) (by simp[execOp,ho,lY hx,Op.unary,Op.intArith])
 ·rename_i k n hb
  rw[hb]at hx
  obtain rfl:=ak.1 he
  refine h.value (gY _ _) ?_
  simp only[execOp,ho,lY hx,Op.unary,Op.intBits]
  simp[di]
 ·simp only[ag]at he
end
end Go.Ab
namespace Go.Ab
section
variable {P:Program} {C:Ctx} {g:Nat->iO} {β:Id->Option Pl} {s:AS} {a:Act} {w:World} {o:Oper}
theorem nV{E:Env}{v:ao}{y:Value}(h:VS E v y){n:Int}(he:(asInt v).eval=some n):∃k,y= .int k n:=by
 unfold asInt at he
 split at he
 ·rename_i k m
  obtain rfl:=ak.1 he
  exact⟨k,lY h⟩
 ·simp only[ag]at he
theorem nT{k:IntKind}{i:Int}{y:Nat}(code:BoundsCode)(h:0<=i/\i<=(y:Int)):(Instr.sliceBound (.int k i) y code).run P w= .ok i.toNat w:=
 run_sliceBound w k i y code h.1 h.2
theorem nw(h:Inv C g β s a w){n cap:Nat}(hn:n<=cap){lo hi:Option Operand}{r:Nat×Nat}(he:(bounds s n lo hi).eval=some r)(isS:Bool){mx:Option Value}{cap':Nat}
  (hm:(mx=none/\cap'=cap)\/∃k mv,hi.isSome=true/\mx=some (.int k mv)/\(r.2:Int)<=mv/\mv<=n/\cap'=mv.toNat):
  (Instr.sliceBounds isS n cap (lo.map a.eval) (hi.map a.eval) mx).run P w= .ok (r.1,r.2,cap') w/\r.1<=r.2/\r.2<=n:=by
 unfold bounds at he
 obtain⟨hh,h1,h2⟩:=ai.1 he
 obtain⟨ll,h3,h4⟩:=ai.1 h2
 obtain rfl:=ak.1 h4
 have Ks:hh<=n/\∀y,hi.map a.eval=some y->∃k i,y= .int k i/\0<=i/\i<=(n:Int)/\hh=i.toNat:=by
  cases hi with
  |none=>
   simp only at h1
   obtain rfl:=ak.1 h1
   exact⟨aw _,λy hy=>by cases hy⟩
  |some x=>
   simp only at h1
   obtain⟨i,q1,q2⟩:=ai.1 h1
   obtain⟨q3,q4⟩:=bl.1 q2
   obtain rfl:=ak.1 q4
   simp only[decide_eq_true_eq]at q3
   obtain⟨k,hk⟩:=nV (h.ev x) q1
   refine⟨by omega,λy hy=> ?_⟩
   simp only[dh,al]at hy
   exact⟨k,i,by rw[<-hy];exact hk,q3.1,q3.2,rfl⟩
 have Jy:hi.map a.eval=none->hh=n:=by
  intro hy
  cases hi with
  |none=>simp only at h1;exact(ak.1 h1).symm
  |some x=>cases hy
 have lo1:ll<=hh/\∀y,lo.map a.eval=some y->∃k i,y= .int k i/\0<=i/\i<=(hh:Int)/\ll=i.toNat:=by
  cases lo with
  |none=>
   simp only at h3
   obtain rfl:=ak.1 h3
   exact⟨bj _,λy hy=>by cases hy⟩
  |some x=>
   simp only at h3
   obtain⟨i,q1,q2⟩:=ai.1 h3
   obtain⟨q3,q4⟩:=bl.1 q2
   obtain rfl:=ak.1 q4
   simp only[decide_eq_true_eq]at q3
   obtain⟨k,hk⟩:=nV (h.ev x) q1
   refine⟨by omega,λy hy=> ?_⟩
   simp only[dh,al]at hy
   exact⟨k,i,by rw[<-hy];exact hk,q3.1,q3.2,rfl⟩
 have lo0:lo.map a.eval=none->ll=0:=by
  intro hy
  cases lo with
  |none=>simp only at h3;exact(ak.1 h3).symm
  |some x=>cases hy
 refine⟨?_,lo1.1,Ks.1⟩
 unfold Instr.sliceBounds
 rcases hm with⟨rfl,rfl⟩ | ⟨k2,mv,hs,rfl,Q4,Kw,rfl⟩
 ·cases OQ:hi.map a.eval with
  |none=>
   obtain rfl:=Jy OQ
   cases wU:lo.map a.eval with
   |none=>
    obtain rfl:=lo0 wU
    rfl
   |some y=>
    obtain⟨k,i,rfl,q1,q2,rfl⟩:=lo1.2 y wU
    simp only[Sem.run_bind,Sem.run_pure,Result.andThen_ok,nT _ ⟨q1,q2⟩]
  |some z=>
   obtain⟨k',i',rfl,p1,p2,rfl⟩:=Ks.2 z OQ
   have hb:∀code,(Instr.sliceBound (.int k' i') cap' code).run P w= .ok i'.toNat w:=λcode=>nT code ⟨p1,by omega⟩
   cases wU:lo.map a.eval with
   |none=>
    obtain rfl:=lo0 wU
    simp only[Sem.run_bind,Sem.run_pure,Result.andThen_ok,hb]
   |some y=>
    obtain⟨k,i,rfl,q1,q2,rfl⟩:=lo1.2 y wU
    simp only[Sem.run_bind,Sem.run_pure,Result.andThen_ok,hb,nT _ ⟨q1,q2⟩]
 ·cases OQ:hi.map a.eval with
  |none=>cases hi <;> simp_all
  |some z=>
   obtain⟨k',i',rfl,p1,p2,rfl⟩:=Ks.2 z OQ
   have Q4:((i'.toNat:Nat):Int)<=mv:=Q4
   have h0:∀code,(Instr.sliceBound (.int k2 mv) cap code).run P w= .ok mv.toNat w:=λcode=>nT code ⟨by omega,by omega⟩
   have hb:∀code,(Instr.sliceBound (.int k' i') mv.toNat code).run P w= .ok i'.toNat w:=λcode=>nT code ⟨p1,by omega⟩
   cases wU:lo.map a.eval with
   |none=>
    obtain rfl:=lo0 wU
    simp only[Sem.run_bind,Sem.run_pure,Result.andThen_ok,hb,h0]
   |some y=>
    obtain⟨k,i,rfl,q1,q2,rfl⟩:=lo1.2 y wU
    simp only[Sem.run_bind,Sem.run_pure,Result.andThen_ok,hb,h0,nT _ ⟨q1,q2⟩]
theorem jE{T:TypeId}{z:Nat}(h1:gS P T=some z)(h2:nk P T=none):∃e,P.underlying T=some (.slice e)/\P.cellsOf e=z/\0 < z:=by
 unfold gS at h1
 unfold nk at h2
 split at h1
 ·rename_i n e hT;rw[hT]at h2;cases h2
 ·rename_i e hT
  cases hc:P.cellsOf e with
  |zero=>rw[hc]at h1;cases h1
  |succ k=>
   rw[hc]at h1
   simp only[al]at h1
   exact⟨e,hT,by omega,by omega⟩
 ·cases h1
theorem nB{T:TypeId}{z n:Nat}(h1:gS P T=some z)(h2:nk P T=some n):∃e,P.underlying T=some (.array n e)/\P.cellsOf e=z/\0 < z:=by
 unfold gS at h1
 unfold nk at h2
 split at h1
 ·rename_i n e hT
  rw[hT]at h2
  simp only[al]at h2
  subst h2
  cases hc:P.cellsOf e with
  |zero=>rw[hc]at h1;cases h1
  |succ k=>
   rw[hc]at h1
   simp only[al]at h1
   exact⟨e,hT,by omega,by omega⟩
 ·rename_i e hT;rw[hT]at h2;cases h2
 ·cases h1
theorem jJ{e:TypeId}{z:Nat}(h:P.cellsOf e=z)(hz:0 < z)(w:World):(sizeOf e).run P w= .ok z w:=by
 unfold Program.cellsOf at h
 cases hi:P.info? e with
 |none=>rw[hi]at h;simp at h;omega
 |some i=>rw[hi]at h;rw[run_sizeOf hi];simpa using h
set_option maxHeartbeats 1000000 in
theorem yJ(h:Inv C g β s a w){T:TypeId}{x:Operand}{lo hi mx:Option Operand}(ho:o.op= .slice T x lo hi mx)
  (hm:mx=none\/∃m y hv mv,mx=some m/\hi=some y/\(asInt (s.ev y)).eval=some hv/\(asInt (s.ev m)).eval=some mv/\0<=hv/\hv<=mv/\mv<=JK (s.ev x))
  {v:ao} (he:(re P s T (s.ev x) lo hi).eval=some v):ed P o a w (fq C (s.put o.dst (B5 mx v))):=by
 have hx:=h.ev x
 have fin:∀z,(Instr.sliceAt T (a.eval x) (lo.map a.eval) (hi.map a.eval) (mx.map a.eval)).run P w= .ok z w->VS (s.env w g β) (B5 mx v) z->ed P o a w (fq C (s.put o.dst (B5 mx v))):=by
  intro z h1 h2
  exact h.value h2 (da (f:=Instr.sliceAt T (a.eval x) (lo.map a.eval) (hi.map a.eval) (mx.map a.eval)) (by simp only[execOp,ho]) h1)
 have no:∀ {q:Prop},JK (s.ev x)= -1->(mx=none->q)->q:=by
  intro q h1 h2
  rcases hm with h3 | ⟨_,_,hv,mv,_,_,_,_,h3,h4,h5⟩
  ·exact h2 h3
  ·omega
 have sl:∀(e:TypeId) (z:Nat) (ad:Option Addr) (len cap:Nat) (b:Nat×Nat),JK (s.ev x)=(len:Int)->P.underlying T=some (.slice e)->P.cellsOf e=z->0 < z->a.eval x= .slice ad len cap->len<=cap->(bounds s len lo hi).eval=some b->
   ∃cap',(Instr.sliceAt T (a.eval x) (lo.map a.eval) (hi.map a.eval) (mx.map a.eval)).run P w= .ok (.slice (if cap'=b.1 then ad else ad.map (·.add (b.1*z))) (b.2 - b.1) (cap' - b.1)) w/\b.1<=b.2/\b.2<=len/\b.2<=cap'/\cap'<=cap/\(mx=none->cap'=cap):=by
  intro e z ad len cap b hL hT hz kM hy Ha hb
  rcases hm with rfl | ⟨m,y,hv,mv,rfl,rfl,q1,q2,q3,q4,q5⟩
  ·obtain⟨h1,h2,h3⟩:=nw (P:=P) h Ha hb true (.inl ⟨rfl,rfl⟩)
   refine⟨cap,?_,h2,h3,by omega,aw _,λ_=>rfl⟩
   rw[hy]
   simp[Instr.sliceAt,Instr.slice,run_underlying hT,h1,jJ hz kM]
  ·obtain⟨k,hk⟩:=nV (h.ev m) q2
   have wS:(b.2:Int)<=mv:=by
    obtain⟨hh,h1,h2⟩:=ai.1 hb
    obtain⟨i,r1,r2⟩:=ai.1 h1
    obtain⟨r3,r4⟩:=bl.1 r2
    obtain rfl:=ak.1 r4
    obtain⟨ll,_,h4⟩:=ai.1 h2
    obtain rfl:=ak.1 h4
    rw[q1]at r1
    obtain rfl:=aN r1
    show((hv.toNat:Nat):Int)<=mv
    omega
   obtain⟨h1,h2,h3⟩:=nw (P:=P) h Ha hb true (mx:=some (.int k mv)) (cap':=mv.toNat) (.inr ⟨k,mv,rfl,rfl,wS,by omega,rfl⟩)
   refine⟨mv.toNat,?_,h2,h3,by omega,by omega,λh=>by cases h⟩
   rw[hy,dh (a:=m),hk]
   simp[Instr.sliceAt,Instr.slice,run_underlying hT,jJ hz kM]
   simp only[dh]at h1
   simp[h1]
 have ar:∀(e:TypeId) (z n:Nat) (ad:Addr) (b:Nat×Nat),mx=none->P.underlying T=some (.array n e)->P.cellsOf e=z->0 < z->a.eval x= .pointer (some ad)->(bounds s n lo hi).eval=some b->
   (Instr.sliceAt T (a.eval x) (lo.map a.eval) (hi.map a.eval) (mx.map a.eval)).run P w= .ok (.slice (some (if n=b.1 then ad else ad.add (b.1*z))) (b.2 - b.1) (n - b.1)) w/\b.1<=b.2/\b.2<=n:=by
  intro e z n ad b hN hT hz kM hy hb
  obtain⟨h1,h2,h3⟩:=nw (P:=P) h (aw n) hb false (.inl ⟨rfl,rfl⟩)
  refine⟨?_,h2,h3⟩
  rw[hy,hN]
  simp[Instr.sliceAt,Instr.sureAddr,run_underlying hT,h1,jJ hz kM]
 have cutR:∀(t:Ty) (z:Nat) (ad ad':Option Addr) (len' cap':Nat) (vs:List Value) (l:List t.den) (b:Nat×Nat),z=t.size->qg (s.env w g β) ad vs->aM (cC (s.env w g β) t) vs l->b.1<=b.2->b.2<=l.length->
   (∀bb off,ad=some ⟨bb,off,none⟩->b.1 < b.2->ad'=some ⟨bb,off+b.1*z,none⟩)->(b.1 < b.2->ad'.isSome=true)->len'=b.2 - b.1->len'<=cap'->VS (s.env w g β) (.d (.slice t) (cut l b.1 (b.2 - b.1))) (.slice ad' len' cap'):=by
  intro t z ad ad' len' cap' vs l b hz hr hc h1 h2 Pw jZ hlen hle
  subst hz hlen
  have G7:(cut l b.1 (b.2 - b.1)).length=b.2 - b.1:=oc (by omega)
  refine⟨_,?_,rfl⟩
  simp only[V,cC]
  refine⟨ad',cap',(vs.drop (b.1*t.size)).take ((b.2 - b.1)*t.size),by rw[G7],by omega,by rw[G7];intro hp;exact jZ (by omega),?_,sM hc b.1 _⟩
  intro i v hi
  rw[cD]at hi
  split at hi
  ·rename_i RG
   rw[ew]at hi
   obtain⟨bb,off,e,hh⟩:=hr _ v hi
   have gO:b.1 < b.2:=by
    rcases jQ b.1 b.2 with h' | h'
    ·exact h'
    ·rw[gJ h',jR]at RG;omega
   exact⟨bb,_,Pw bb off e gO,by rw[dB];exact hh⟩
  ·cases hi
 unfold re at he
 split at he
 ·rename_i st kZ
  rw[kZ]at hx
  have e1:=ri hx
  obtain⟨h1,h2⟩:=av.1 he
  obtain⟨b,h3,h4⟩:=ai.1 h2
  obtain rfl:=ak.1 h4
  split at h1 <;> try (cases h1;done)
  rename_i hT
  obtain⟨q1,q2,q3⟩:=nw (P:=P) h (aw _) h3 false (.inl ⟨rfl,rfl⟩)
  refine no (by rw[kZ];rfl) λhN=> ?_
  subst hN
  refine fin (.string (st.extract b.1 b.2)) ?_ (AI _)
  rw[e1]
  simp[Instr.sliceAt,Instr.slice,run_underlying hT,q1]
 ·rename_i t l hl
  rw[hl]at hx
  obtain⟨ad,cap,vs,hy,Ha,jZ,na,mi⟩:=lJ hx
  obtain⟨h1,h2⟩:=av.1 he
  obtain⟨b,h3,h4⟩:=ai.1 h2
  obtain rfl:=ak.1 h4
  split at h1 <;> try (cases h1;done)
  rename_i z wa vd
  obtain⟨e,hT,hz,kM⟩:=jE wa vd
  have Gj:z=t.size:=by simpa using h1
  obtain⟨cap',q1,q2,q3,q4,_,_⟩:=sl e z ad _ cap b (by rw[hl];rfl) hT hz kM hy Ha h3
  refine fin _ q1 ?_
  rw[show B5 mx (.d (.slice t) (cut l b.1 (b.2 - b.1)))= .d (.slice t) (cut l b.1 (b.2 - b.1)) by cases mx <;> rfl]
  refine cutR t z ad _ _ _ vs l b Gj na mi q2 q3 ?_ ?_ rfl (by omega)
  ·intro bb off e1 gO
   rw[if_neg (by omega),e1]
   simp[Addr.add_lit]
  ·intro gO
   rw[if_neg (by omega)]
   have:=jZ (by omega)
   cases ad <;> simp_all
 ·rename_i hl
  rw[hl]at hx
  have hy:=gV hx
  obtain⟨h1,h2⟩:=av.1 he
  obtain⟨b,h3,h4⟩:=ai.1 h2
  obtain rfl:=ak.1 h4
  split at h1 <;> try (cases h1;done)
  rename_i z wa vd
  obtain⟨e,hT,hz,kM⟩:=jE wa vd
  obtain⟨cap',q1,q2,q3,q4,q6,q5⟩:=sl e z none 0 0 b (by rw[hl];rfl) hT hz kM hy (aw _) h3
  have uN:b.1=0:=by omega
  have wS:b.2=0:=by omega
  have wT:cap'=0:=by omega
  refine fin _ q1 ?_
  rw[show B5 mx .c6= .c6 by cases mx <;> rfl,uN,wS,wT]
  exact⟨_,by simp[V],rfl⟩
 ·rename_i id ver p c i len hl
  rw[hl]at hx
  obtain⟨ad,cap,hy,Ha,jZ,xE,dV⟩:=kz hx
  obtain⟨r,LZ,he⟩:=ai.1 he
  obtain⟨h1,h2⟩:=av.1 he
  obtain⟨b,h3,h4⟩:=ai.1 h2
  obtain rfl:=ak.1 h4
  split at h1 <;> try (cases h1;done)
  rename_i z wa vd
  obtain⟨e,hT,hz,kM⟩:=jE wa vd
  have Gj:z=r.2.1.size:=by simpa using h1
  obtain⟨cap',q1,q2,q3,q4,q6,q5⟩:=sl e z ad _ cap b (by rw[hl];rfl) hT hz kM hy Ha h3
  obtain⟨p',MR,Aa⟩:∃p',B5 mx (.cv id ver p (c+b.1*r.2.1.size) (i+b.1) (b.2 - b.1))= .cv id ver p' (c+b.1*r.2.1.size) (i+b.1) (b.2 - b.1)/\(p'=[]->p=[]/\mx=none):=by
   cases mx with
   |none=>exact⟨p,rfl,λh=>⟨h,rfl⟩⟩
   |some m=>exact⟨p++ [.arr],rfl,λh=>by simp at h⟩
  refine fin _ q1 ?_
  rw[MR]
  refine⟨_,?_,rfl⟩
  simp only[V]
  refine⟨_,_,rfl,by omega,?_,xE,λhc=> ?_⟩
  ·intro gO
   rw[if_neg (by omega)]
   have:=jZ (by omega)
   cases ad <;> simp_all
  ·have dV:=dV hc
   cases hp:β id with
   |none=>
    have hp':(s.env w g β).β id=none:=hp
    rw[hp']at dV ⊢
    simp only at dV ⊢
    obtain⟨rfl,rfl,rfl⟩:=dV
    have wT:cap'=0:=by omega
    refine⟨by simp,by omega,by omega⟩
   |some pl=>
    have hp':(s.env w g β).β id=some pl:=hp
    rw[hp']at dV ⊢
    simp only at dV ⊢
    refine⟨λhh=> ?_,λP5 Jy=> ?_⟩
    ·by_cases LG:cap'=b.1
     ·rw[if_pos LG]
      have Py:b.1=0:=by omega
      rw[Py,jR,ct]
      exact dV.1 (.inr (by omega))
     ·rw[if_neg LG,dV.1 (by omega),<-Gj]
      simp[Addr.add_lit]
    ·obtain⟨e1,e2⟩:=Aa P5
     have:=dV.2 e1 (by omega)
     have:=q5 e2
     omega
 ·rename_i id ver p n hl
  rw[hl]at hx
  obtain⟨ad,hy,xE,dV⟩:=l7 hx
  obtain⟨r,LZ,he⟩:=ai.1 he
  obtain⟨h1,h2⟩:=av.1 he
  obtain⟨h5,h6⟩:=bl.1 h2
  obtain⟨b,h3,h4⟩:=ai.1 h6
  obtain rfl:=ak.1 h4
  split at h1 <;> try (cases h1;done)
  rename_i z m wa vd
  obtain⟨e,hT,hz,kM⟩:=nB wa vd
  have Gj:z=r.2.1.size:=by simpa using h1
  rw[vd,dH]at h3
  refine no (by rw[hl];rfl) λhN=> ?_
  obtain⟨q1,q2,q3⟩:=ar e z m ad b hN hT hz kM hy h3
  subst hN
  obtain⟨fr,c0,b5,_⟩:=vF rfl h.bk LZ
  obtain⟨pl,hp,F9⟩:=dV ⟨fr,c0,b5⟩
  refine fin _ q1 ⟨_,?_,rfl⟩
  simp only[B5,V]
  refine⟨_,_,rfl,by omega,λ_=>rfl,xE,λ_=> ?_⟩
  rw[hp]
  simp only
  refine⟨λhh=> ?_,λP5=>by simp at P5⟩
  rw[F9]
  by_cases LG:m=b.1
  ·have Py:b.1=0:=by omega
   rw[if_pos LG,Py,jR,ct]
  ·rw[if_neg LG,<-Gj,Addr.add_lit]
 ·rename_i n t l hl
  rw[hl]at hx
  obtain⟨bb,off,vs,hy,na,hR⟩:=mm hx
  obtain⟨h1,h2⟩:=av.1 he
  obtain⟨b,h3,h4⟩:=ai.1 h2
  obtain rfl:=ak.1 h4
  split at h1 <;> try (cases h1;done)
  rename_i z m wa vd
  obtain⟨e,hT,hz,kM⟩:=nB wa vd
  simp only[ae,beq_iff_eq]at h1
  obtain⟨Gj,rfl⟩:=h1
  refine no (by rw[hl];rfl) λhN=> ?_
  obtain⟨q1,q2,q3⟩:=ar e z m _ b hN hT hz kM hy h3
  subst hN
  simp only[cC]at hR
  obtain⟨hlen,mi⟩:=hR
  refine fin _ q1 (cutR t z (some ⟨bb,off,none⟩) _ _ _ vs l b Gj na mi q2 (by omega) ?_ (λ_=>rfl) rfl (by omega))
  intro bb' off' e1 gO
  simp only[al,Addr.mk.injEq,and_true]at e1
  obtain⟨rfl,rfl⟩:=e1
  rw[if_neg (by omega),Addr.add_lit]
 ·simp only[ag]at he
end
end Go.Ab
namespace Go.Ab
section
variable {P:Program} {C:Ctx} {g:Nat->iO} {β:Id->Option Pl} {s:AS} {a:Act} {w:World} {o:Oper}
theorem xO(h:Inv C g β s a w){T:TypeId}{x y:Operand}(ho:o.op= .indexAddr T x y){i:Int}(hi:(asInt (s.ev y)).eval=some i){v:ao}(he:(kO P s T (s.ev x) i).eval=some v):ed P o a w (fq C (s.put o.dst v)):=by
 have hx:=h.ev x
 obtain⟨k,hy⟩:=nV (h.ev y) hi
 have fin:∀z,(Instr.indexAt T (a.eval x) (a.eval y)).run P w= .ok z w->VS (s.env w g β) v z->ed P o a w (fq C (s.put o.dst v)):=by
  intro z h1 h2
  exact h.value h2 (da (f:=Instr.indexAt T (a.eval x) (a.eval y)) (by simp only[execOp,ho]) h1)
 have sl:∀(e:TypeId) (z:Nat) (ad:Addr) (len cap:Nat),P.underlying T=some (.slice e)->P.cellsOf e=z->0 < z->a.eval x= .slice (some ad) len cap->0<=i/\i < (len:Int)->
   (Instr.indexAt T (a.eval x) (a.eval y)).run P w= .ok (.pointer (some (ad.add (i.toNat*z)))) w:=by
  intro e z ad len cap hT hz kM hv hb
  rw[hv,hy]
  simp[Instr.indexAt,asIntOf,run_underlying hT,hb,jJ hz kM]
 have ar:∀(e:TypeId) (z n:Nat) (ad:Addr),P.underlying T=some (.array n e)->P.cellsOf e=z->0 < z->a.eval x= .pointer (some ad)->0<=i/\i < (n:Int)->
   (Instr.indexAt T (a.eval x) (a.eval y)).run P w= .ok (.pointer (some (ad.add (i.toNat*z)))) w:=by
  intro e z n ad hT hz kM hv hb
  rw[hv,hy]
  simp[Instr.indexAt,Instr.sureAddr,asIntOf,run_underlying hT,hb,jJ hz kM]
 have elt:∀(t:Ty) (z:Nat) (bb off:Nat) (vs:List Value) (l:List t.den),z=t.size->qg (s.env w g β) (some ⟨bb,off,none⟩) vs->aM (cC (s.env w g β) t) vs l->0<=i/\i < (l.length:Int)->
   VS (s.env w g β) (.eW t (nth t l i.toNat)) (.pointer (some ⟨bb,off+i.toNat*z,none⟩)):=by
  intro t z bb off vs l hz hr hc hb
  subst hz
  have gO:i.toNat < l.length:=by omega
  rw[yr gO]
  obtain⟨hp,_⟩:=uz hc gO
  refine⟨_,?_,rfl⟩
  simp only[V]
  refine⟨_,_,_,rfl,λj v hj=> ?_,hp⟩
  rw[cD]at hj
  split at hj
  ·rw[ew]at hj
   obtain⟨b',o',e,hh⟩:=hr _ v hj
   simp only[al,Addr.mk.injEq,and_true]at e
   obtain⟨rfl,rfl⟩:=e
   exact⟨_,_,rfl,by rw[dB];exact hh⟩
  ·cases hj
 unfold kO at he
 split at he
 ·rename_i t l hl
  rw[hl]at hx
  obtain⟨ad,cap,vs,hv,Ha,jZ,na,mi⟩:=lJ hx
  obtain⟨h1,h2⟩:=av.1 he
  obtain⟨h3,h4⟩:=bl.1 h2
  obtain rfl:=ak.1 h4
  simp only[decide_eq_true_eq]at h3
  split at h1 <;> try (cases h1;done)
  rename_i z wa vd
  obtain⟨e,hT,hz,kM⟩:=jE wa vd
  have Gj:z=t.size:=by simpa using h1
  have hlen:=aM.length (λc x hx=>cC.size hx) mi
  have gO:i.toNat < l.length:=by omega
  have h0:0 < vs.length:=by rw[hlen];exact Nat.mul_pos (by omega) (by omega)
  obtain⟨bb,off,e1,_⟩:=na 0 vs[0] (by simp[h0])
  subst e1
  have:=sl e z _ _ cap hT hz kM hv h3
  rw[Addr.add_lit]at this
  exact fin _ this (elt t z bb off vs l Gj na mi h3)
 ·rename_i n t l hl
  rw[hl]at hx
  obtain⟨bb,off,vs,hv,na,hR⟩:=mm hx
  obtain⟨h1,h2⟩:=av.1 he
  obtain⟨h3,h4⟩:=bl.1 h2
  obtain rfl:=ak.1 h4
  simp only[decide_eq_true_eq]at h3
  split at h1 <;> try (cases h1;done)
  rename_i z m wa vd
  obtain⟨e,hT,hz,kM⟩:=nB wa vd
  simp only[ae,beq_iff_eq]at h1
  obtain⟨Gj,rfl⟩:=h1
  simp only[cC]at hR
  have:=ar e z m _ hT hz kM hv h3
  rw[Addr.add_lit]at this
  exact fin _ this (elt t z bb off vs l Gj na hR.2 (by rw[hR.1];exact h3))
 ·rename_i id ver p c j len hl
  rw[hl]at hx
  obtain⟨ad,cap,hv,Ha,jZ,xE,dV⟩:=kz hx
  obtain⟨r,LZ,he⟩:=ai.1 he
  obtain⟨h1,h2⟩:=av.1 he
  obtain⟨h3,h4⟩:=bl.1 h2
  obtain rfl:=ak.1 h4
  simp only[decide_eq_true_eq]at h3
  split at h1 <;> try (cases h1;done)
  rename_i z wa vd
  obtain⟨e,hT,hz,kM⟩:=jE wa vd
  have Gj:z=r.2.1.size:=by simpa using h1
  have hs:=jZ (by omega)
  obtain⟨ad',rfl⟩:=bz.1 hs
  refine fin _ (sl e z ad' len cap hT hz kM hv h3) ⟨_,?_,rfl⟩
  simp only[V]
  refine⟨_,rfl,xE,λhc=> ?_⟩
  have dV:=dV hc
  cases hp:β id with
  |none=>
   have hp':(s.env w g β).β id=none:=hp
   rw[hp']at dV
   exact absurd dV.1 (by simp)
  |some pl=>
   have hp':(s.env w g β).β id=some pl:=hp
   rw[hp']at dV
   have e1:=dV.1 (.inl (by omega))
   simp only[al]at e1
   exact⟨pl,hp,by rw[e1,Addr.add_lit,Gj]⟩
 ·rename_i id ver p n hl
  rw[hl]at hx
  obtain⟨ad,hv,xE,dV⟩:=l7 hx
  obtain⟨h1,h2⟩:=av.1 he
  obtain⟨h3,h4⟩:=bl.1 h2
  obtain rfl:=ak.1 h4
  simp only[decide_eq_true_eq]at h3
  split at h1 <;> try (cases h1;done)
  rename_i z m wa vd
  obtain⟨e,hT,hz,kM⟩:=nB wa vd
  rw[vd,dH]at h3
  refine fin _ (ar e z m ad hT hz kM hv h3) ⟨_,?_,rfl⟩
  simp only[V]
  refine⟨_,rfl,xE,λhc=> ?_⟩
  obtain⟨pl,hp,F9⟩:=dV hc
  exact⟨pl,hp,by rw[F9,Addr.add_lit,wa,dH]⟩
 ·simp only[ag]at he
theorem qj{T:TypeId}{f off:Nat}{ft:TypeId}(h:fieldInfo P T f=some (off,ft)):∃fs fd,P.underlying T=some (.struct fs)/\fs[f]? =some fd/\fd.offset=off/\fd.type=ft:=by
 unfold fieldInfo at h
 split at h
 ·rename_i fs hT
  split at h
  ·rename_i fd hf
   simp only[al,bY]at h
   exact⟨fs,fd,hT,hf,h.1,h.2⟩
  ·cases h
 ·cases h
theorem pW{E:Env}:∀(x:ao) (f off:Nat) (v:ao) (cs:List Value),V E x cs->partOf x f=some (off,v)->V E v ((cs.drop off).take v.size)/\off+v.size<=cs.length:=by
 intro x f
 induction f generalizing x with
 |zero=>
  intro off v cs hx h
  cases x with
  |d t y=>
   cases t <;> simp only[partOf,reduceCtorEq]at h
   rename_i ta tb
   simp only[al,bY]at h
   obtain⟨rfl,rfl⟩:=h
   simp only[V,cC]at hx ⊢
   obtain⟨ca,cb,rfl,ha,hb⟩:=hx
   have:=ha.size
   simp only[ao.size,aL,au,aR]
   rw[List.take_left' this]
   exact⟨ha,by omega⟩
  |pr b c=>
   simp only[partOf,al,bY]at h
   obtain⟨rfl,rfl⟩:=h
   simp only[V]at hx
   obtain⟨ca,cb,rfl,ha,hb⟩:=hx
   have:=ha.size
   simp only[aL,au,aR]
   rw[List.take_left' this]
   exact⟨ha,by omega⟩
  |_=>simp only[partOf,reduceCtorEq]at h
 |succ f ih=>
  intro off v cs hx h
  have second:∀(ca cb:List Value) (n:Nat) (b:ao),cs=ca++cb->ca.length=n->V E b cb->(match partOf b f with | some (o,v)=>some (n+o,v) | none=>none)=some (off,v)->V E v ((cs.drop off).take v.size)/\off+v.size<=cs.length:=by
   intro ca cb n b e hl hb hh
   cases hp:partOf b f with
   |none=>rw[hp]at hh;cases hh
   |some r=>
    obtain⟨o',v'⟩:=r
    rw[hp]at hh
    simp only[al,bY]at hh
    obtain⟨rfl,rfl⟩:=hh
    obtain⟨h1,h2⟩:=ih b o' v' cb hb hp
    subst e
    rw[<-hl,gq,fe (by omega),aT,fM]
    exact⟨h1,by simp only[au];omega⟩
  cases x with
  |d t y=>
   cases t with
   |pair ta tb=>
    simp only[partOf]at h
    simp only[V,cC]at hx
    obtain⟨ca,cb,e,ha,hb⟩:=hx
    exact second ca cb ta.size (.d tb y.2) e ha.size (by simpa only[V]using hb) h
   |_=>simp only[partOf,reduceCtorEq]at h
  |pr b c=>
   simp only[partOf]at h
   simp only[V]at hx
   obtain⟨ca,cb,e,ha,hb⟩:=hx
   exact second ca cb b.size c e ha.size hb h
  |_=>simp only[partOf,reduceCtorEq]at h
theorem xv(h:Inv C g β s a w){T:TypeId}{x:Operand}{f:Nat}(ho:o.op= .fieldAddr T x f){v:ao}(he:(pL P T (s.ev x) f).eval=some v):ed P o a w (fq C (s.put o.dst v)):=by
 have hx:=h.ev x
 unfold pL at he
 split at he
 ·rename_i off ft hf
  obtain⟨fs,fd,hT,ON,rfl,rfl⟩:=qj hf
  obtain⟨h1,h2⟩:=av.1 he
  have hz:P.cellsOf fd.type≠0:=by simpa using h1
  have run:∀bb n,a.eval x= .pointer (some ⟨bb,n,none⟩)->(Instr.fieldAt T (a.eval x) f).run P w= .ok (.pointer (some ⟨bb,n+fd.offset,none⟩)) w:=by
   intro bb n hy
   rw[hy]
   simp[Instr.fieldAt,run_underlying hT,ON,Instr.sureAddr,fieldPlace,jJ (P:=P) (e:=fd.type) rfl (by omega),hz,Addr.add_lit]
  have runS:∀ad,a.eval x= .pointer (some ad)->(Instr.fieldAt T (a.eval x) f).run P w= .ok (.pointer (some (ad.add fd.offset))) w:=by
   intro ad hy
   rw[hy]
   simp[Instr.fieldAt,run_underlying hT,ON,Instr.sureAddr,fieldPlace,jJ (P:=P) (e:=fd.type) rfl (by omega),hz]
  have fin:∀z,(Instr.fieldAt T (a.eval x) f).run P w= .ok z w->VS (s.env w g β) v z->ed P o a w (fq C (s.put o.dst v)):=by
   intro z h1 h2
   exact h.value h2 (da (f:=Instr.fieldAt T (a.eval x) f) (by simp only[execOp,ho]) h1)
  split at h2
  ·rename_i id ver p n hl
   rw[hl]at hx
   obtain rfl:=ak.1 h2
   obtain⟨ad,hy,xE,dV⟩:=l7 hx
   refine fin _ (runS ad hy) ⟨_,?_,rfl⟩
   simp only[V]
   refine⟨_,rfl,xE,λhc=> ?_⟩
   obtain⟨pl,hp,F9⟩:=dV hc
   exact⟨pl,hp,by rw[F9,Addr.add_lit]⟩
  ·rename_i t y hl
   rw[hl]at hx
   obtain⟨bb,off,vs,hy,na,hR⟩:=mm hx
   split at h2
   ·rename_i o' t' y' hp
    obtain⟨h3,h4⟩:=av.1 h2
    obtain rfl:=ak.1 h4
    have h3:fd.offset=o':=by simpa using h3
    obtain⟨hV,hle⟩:=pW (.d t y) f o' (.d t' y') vs (by simpa only[V]using hR) hp
    refine fin _ (run bb off hy) ⟨_,?_,rfl⟩
    simp only[V]at hV ⊢
    refine⟨_,_,_,rfl,λj u hj=> ?_,hV⟩
    rw[cD]at hj
    split at hj
    ·rw[ew]at hj
     obtain⟨b',o'',e,hh⟩:=na _ u hj
     simp only[al,Addr.mk.injEq,and_true]at e
     obtain⟨rfl,rfl⟩:=e
     exact⟨_,_,rfl,by rw[h3,dB];exact hh⟩
    ·cases hj
   ·simp only[ag]at h2
  ·rename_i t q hl
   obtain⟨y,e,h5⟩:=mB.1 h2
   subst e
   rw[hl]at hx
   have hx:=tK hx
   obtain⟨bb,off,vs,hy,na,hR⟩:=mm hx
   split at h5
   ·rename_i o' t' y' hp
    obtain⟨h3,h4⟩:=av.1 h5
    obtain rfl:=ak.1 h4
    have h3:fd.offset=o':=by simpa using h3
    obtain⟨hV,hle⟩:=pW (.d t y) f o' (.d t' y') vs (by simpa only[V]using hR) hp
    refine fin _ (run bb off hy) ⟨_,?_,rfl⟩
    simp only[V]at hV ⊢
    refine⟨_,_,_,rfl,λj u hj=> ?_,hV⟩
    rw[cD]at hj
    split at hj
    ·rw[ew]at hj
     obtain⟨b',o'',e,hh⟩:=na _ u hj
     simp only[al,Addr.mk.injEq,and_true]at e
     obtain⟨rfl,rfl⟩:=e
     exact⟨_,_,rfl,by rw[h3,dB];exact hh⟩
    ·cases hj
   ·simp only[ag]at h5
  ·simp only[ag]at h2
 ·simp only[ag]at he
theorem y9{x:ao}{f:Nat}{r:Nat×ao}(h:partOf x f=some r):x.agg=true/\x.dC=true:=by
 cases x with
 |d t y=>cases t <;> cases f <;> simp[partOf]at h <;> exact⟨rfl,rfl⟩
 |pr b c=>exact⟨rfl,rfl⟩
 |_=>cases f <;> simp[partOf]at h
theorem qJ{T:TypeId}{v:ao}(h:fits P T v=true):sX P T v.agg=true/\P.cellsOf T=v.size/\v.dC=true:=by
 unfold fits at h
 simp only[ae,beq_iff_eq]at h
 exact⟨h.2,h.1.2,h.1.1⟩
theorem D5(h:Inv C g β s a w){T:TypeId}{x:Operand}{f:Nat}(ho:o.op= .field T x f){v:ao}(he:(AW P T (s.ev x) f).eval=some v):ed P o a w (fq C (s.put o.dst v)):=by
 have hx:=h.ev x
 unfold AW at he
 split at he
 ·rename_i off ft o' v' hf hp
  obtain⟨fs,fd,hT,ON,rfl,rfl⟩:=qj hf
  obtain⟨h1,h2⟩:=av.1 he
  obtain rfl:=ak.1 h2
  simp only[ae,beq_iff_eq]at h1
  obtain⟨rfl,xG⟩:=h1
  obtain⟨tx,Eb⟩:=y9 hp
  obtain⟨cs,hV,hO⟩:=hx.dC Eb
  rw[tx]at hO
  have hy:a.eval x= .agg cs.toArray:=hO
  obtain⟨hVp,hle⟩:=pW _ _ _ _ cs hV hp
  obtain⟨q1,q2,q3⟩:=qJ xG
  obtain⟨y,hr,hOy⟩:=mP (w:=w) q1 q2 (λhh=>ao.Db hh) hle
  refine h.value (VS.of hVp hOy) (da (f:=Instr.field T (a.eval x) f) (by simp only[execOp,ho]) ?_)
  rw[hy]
  simp[Instr.field,run_underlying hT,ON,asAgg,hr]
 ·simp only[ag]at he
theorem Ei(h:Inv C g β s a w){T:TypeId}{x y:Operand}(ho:o.op= .index T x y){i:Int}(hi:(asInt (s.ev y)).eval=some i){v:ao}(he:(A8 P T (s.ev x) i).eval=some v):ed P o a w (fq C (s.put o.dst v)):=by
 have hx:=h.ev x
 obtain⟨k,hy⟩:=nV (h.ev y) hi
 have fin:∀z,(Instr.index T (a.eval x) (a.eval y)).run P w= .ok z w->VS (s.env w g β) v z->ed P o a w (fq C (s.put o.dst v)):=by
  intro z h1 h2
  exact h.value h2 (da (f:=Instr.index T (a.eval x) (a.eval y)) (by simp only[execOp,ho]) h1)
 unfold A8 at he
 split at he
 ·rename_i n t l m e hl hT
  rw[hl]at hx
  obtain⟨h1,h2⟩:=av.1 he
  obtain⟨h3,h4⟩:=bl.1 h2
  obtain rfl:=ak.1 h4
  simp only[ae,beq_iff_eq,decide_eq_true_eq]at h1 h3
  obtain⟨rfl,xG⟩:=h1
  obtain⟨q1,q2,q3⟩:=qJ xG
  obtain⟨cs,hV,hO⟩:=hx.dC rfl
  have Sa:a.eval x= .agg cs.toArray:=hO
  simp only[V,cC]at hV
  obtain⟨hlen,mi⟩:=hV
  have gO:i.toNat < l.length:=by omega
  obtain⟨hp,hle⟩:=uz mi gO
  have q2':P.cellsOf e=t.size:=q2
  have q1':sX P e t.agg=true:=q1
  obtain⟨y',hr,hOy⟩:=mP (w:=w) q1' q2' mQ hle
  obtain⟨j,hj,_⟩:=nI q1'
  rw[<-yr gO]at hp
  refine fin y' ?_ (VS.of (by simpa only[V]using hp) hOy)
  rw[Sa,hy]
  have lz:=run_sizeOf hj w
  rw[<-iQ hj,q2']at lz
  simp[Instr.index,asIntOf,run_underlying hT,h3,lz,hr]
 ·rename_i st hl hT
  rw[hl]at hx
  obtain⟨h3,h4⟩:=bl.1 he
  obtain rfl:=ak.1 h4
  simp only[decide_eq_true_eq]at h3
  have e1:=ri hx
  have gO:i.toNat < st.data.toList.length:=by
   have:st.size=st.data.toList.length:=by rw[bU];rfl
   omega
  have PI:st[i.toNat]? =some (st.data.toList[i.toNat]):=by
   have hlt':i.toNat < st.size:=by omega
   rw[getElem?_pos st i.toNat hlt']
   rfl
  refine fin (.int .u8 ((st.data.toList.getD i.toNat 0).toNat:Int)) ?_ (gY _ _)
  rw[e1,hy]
  simp[Instr.index,asIntOf,run_underlying hT,h3.1,PI,ax,bO gO]
 ·simp only[ag]at he
theorem KZ{E:Env}:∀(c:ao) (vs:List Value) (i:Nat) (v:ao),VC E c vs->c.list[i]? =some v->∃y,vs[i]? =some y/\VS E v y:=by
 intro c
 induction c with
 |cons x y _ ih=>
  intro vs i v hc hi
  simp only[VC]at hc
  obtain⟨u,vs',cs,rfl,hV,hO,hc⟩:=hc
  cases i with
  |zero=>
   simp only[ao.list,ef,al]at hi
   subst hi
   exact⟨u,rfl,VS.of hV hO⟩
  |succ i=>
   simp only[ao.list,iu]at hi ⊢
   exact ih vs' i v hc hi
 |_=>intro vs i v hc hi;simp[ao.list]at hi
theorem AV(h:Inv C g β s a w){x:Operand}{i:Nat}(ho:o.op= .extract x i){v:ao}(he:(Out.opt ((s.ev x).list[i]?)).eval=some v):ed P o a w (fq C (s.put o.dst v)):=by
 have hx:=h.ev x
 have he:=gC.1 he
 cases hc:s.ev x with
 |cons p q=>
  rw[hc]at hx he
  obtain⟨vs,hy,hVC⟩:=hx
  obtain⟨y,hv,hVS⟩:=KZ _ vs i v hVC he
  refine h.value hVS (da (f:=Instr.extract (a.eval x) i) (by simp only[execOp,ho]) ?_)
  rw[hy]
  simp[Instr.extract,hv]
 |_=>rw[hc]at he;simp[ao.list]at he
theorem E2(h:Inv C g β s a w):∀(l:List Operand),nY (kH s l)=true->VC (s.env w g β) (kH s l) (l.map a.eval)
 |[],_=>by simp[kH,VC]
 |x::xs,hc=>by
  simp only[kH,nY,ae]at hc
  obtain⟨cs,hV,hO⟩:=(h.ev x).dC hc.1
  simp only[kH,VC,bX]
  exact⟨_,_,cs,rfl,hV,hO,E2 h xs hc.2⟩
theorem zk(h:Inv C g β s a w){f:FuncId}{first caps:Array Operand}(ho:o.op= .makeFunc (.func f) first caps)(h1:first.isEmpty=true)(h2:nY (kH s caps.toList)=true):
  ed P o a w (fq C (s.put o.dst (.fn f (kH s caps.toList)))):=by
 have hf:first= #[]:=by simpa using h1
 refine h.value (x:= .func (.func f) #[] (caps.toList.map a.eval).toArray) ⟨_,?_,rfl⟩ (da (f:=Instr.makeFunc (.func f) (first.map a.eval) (caps.map a.eval)) (by simp only[execOp,ho]) ?_)
 ·simp only[V]
  exact⟨_,rfl,E2 h _ h2⟩
 ·subst hf
  have:caps.map a.eval=(caps.toList.map a.eval).toArray:=by apply eF;simp
  simp[Instr.makeFunc,this]
theorem EU(h:Inv C g β s a w){T:TypeId}{x:Operand}(ho:o.op= .sliceToArrayPointer T x){s':AS}(he:(tn P s o.dst T (s.ev x)).eval=some s'):ed P o a w (fq C s'):=by
 have hx:=h.ev x
 unfold tn at he
 split at he
 ·rename_i n e hT
  split at he
  ·rename_i t ht
   obtain⟨h1,h2⟩:=av.1 he
   obtain⟨l,h3,h4⟩:=ai.1 h2
   obtain⟨h5,h6⟩:=bl.1 h4
   obtain rfl:=ak.1 h6
   simp only[ae,bt,beq_iff_eq,beq_eq_false_iff_ne,decide_eq_true_eq]at h1 h5
   obtain⟨⟨hz,hn⟩,Md⟩:=h1
   obtain⟨g1,i1,e1,t1,cs,hR,hO⟩:=oJ h hx h3
   simp only[cC]at hR
   obtain⟨ad,cap,vs,rfl,Ha,jZ,na,mi⟩:=hR
   have hO': [Value.slice ad (List.length l) cap]=[a.eval x]:=hO
   have hy:a.eval x= .slice ad (List.length l) cap:=by simpa using hO'.symm
   have hlen:=aM.length (λc x hx=>cC.size hx) mi
   have h0:0 < vs.length:=by rw[hlen];exact Nat.mul_pos (by omega) (by omega)
   obtain⟨bb,off,e2,_⟩:=na 0 vs[0] (by simp[h0])
   subst e2
   refine .inl ⟨.pointer (some ⟨bb,off,none⟩),w,?_,g1,β,i1.put o.dst ⟨_,?_,rfl⟩⟩
   ·refine da (f:=Instr.arrayAt T (a.eval x)) (by simp only[execOp,ho]) ?_
    rw[hy]
    have:¬List.length l < n:=by omega
    simp[Instr.arrayAt,run_underlying hT,this]
   ·simp only[V]
    refine⟨bb,off,vs.take (n*t.size),rfl,λj u hj=> ?_,?_⟩
    ·rw[cD]at hj
     split at hj
     ·exact na j u hj
     ·cases hj
    ·simp only[cC]
     exact⟨by simp;omega,aM.take (λ_ _ hx=>hx.size) n mi⟩
  ·simp only[ag]at he
 ·simp only[ag]at he
end
end Go.Ab
namespace Go.Ab
theorem xW{α:Type}{f:α->α->Bool}(hf:∀x y,f x y=true->x=y):∀ {xs ys:List α},iS f xs ys=true->xs=ys
 |[],[],_=>rfl
 |x::xs,y::ys,h=>by
  simp only[iS,ae]at h
  rw[hf _ _ h.1,xW hf h.2]
 |[],_::_,h=>by simp[iS]at h
 |_::_,[],h=>by simp[iS]at h
theorem beq_eq:∀(t:Ty) (x y:t.den),t.comp=true->t.beq x y=true->x=y
 | .int _,x,y,_,h=>by simpa[Ty.beq]using h
 | .bool,x,y,_,h=>by simpa[Ty.beq]using h
 | .str,x,y,_,h=>by
  have h:(x:ByteArray).toList=(y:ByteArray).toList:=by simpa[Ty.beq]using h
  rw[Go.ByteArray.toList_eq,Go.ByteArray.toList_eq]at h
  exact ByteArray.ext (Array.toList_inj.1 h)
 | .slice _,_,_,h,_=>by simp[Ty.comp]at h
 | .unit,_,_,_,_=>rfl
 | .pair a b,x,y,hc,h=>by
  simp only[Ty.comp,ae]at hc
  simp only[Ty.beq,ae]at h
  exact Prod.ext (beq_eq a _ _ hc.1 h.1) (beq_eq b _ _ hc.2 h.2)
 | .arr _ t,x,y,hc,h=>xW (λx y=>beq_eq t x y hc) h
def Plain(c:Value):Prop:=∀n,Instr.sameBits n c c=true
theorem cC.plain{E:Env}:∀ {t:Ty} {cs:List Value} {x:t.den},t.comp=true->cC E t cs x->∀c∈cs,Plain c
 | .int _,_,_,_,h,c,hc,n=>by simp only[cC]at h;rw[h,bD]at hc;subst hc;cases n <;> simp[Instr.sameBits]
 | .bool,_,_,_,h,c,hc,n=>by simp only[cC]at h;rw[h,bD]at hc;subst hc;cases n <;> simp[Instr.sameBits]
 | .str,_,_,_,h,c,hc,n=>by simp only[cC]at h;rw[h,bD]at hc;subst hc;cases n <;> exact(Go.MapKept.bytes_beq _ _).2 rfl
 | .slice _,_,_,hc,_,_,_,_=>by simp[Ty.comp]at hc
 | .unit,_,_,_,h,c,hc,_=>by simp only[cC]at h;rw[h]at hc;cases hc
 | .pair a b,_,_,hp,h,c,hc,n=>by
  simp only[Ty.comp,ae]at hp
  simp only[cC]at h
  obtain⟨ca,cb,rfl,ha,hb⟩:=h
  rcases aX.1 hc with hc | hc
  ·exact cC.plain hp.1 ha c hc n
  ·exact cC.plain hp.2 hb c hc n
 | .arr _ t,_,_,hp,h,c,hc,n=>by
  simp only[cC]at h
  exact aM.all (p:=Plain) (λc x hx v hv=>cC.plain (t:=t) hp hx v hv) h.2 c hc n
theorem cC.Li{E:Env}:∀ {t:Ty} {cs cs':List Value} {x:t.den},t.comp=true->cC E t cs x->cC E t cs' x->cs=cs'
 | .int _,_,_,_,_,h,h'=>by simp only[cC]at h h';rw[h,h']
 | .bool,_,_,_,_,h,h'=>by simp only[cC]at h h';rw[h,h']
 | .str,_,_,_,_,h,h'=>by simp only[cC]at h h';rw[h,h']
 | .slice _,_,_,_,hc,_,_=>by simp[Ty.comp]at hc
 | .unit,_,_,_,_,h,h'=>by simp only[cC]at h h';rw[h,h']
 | .pair a b,_,_,_,hp,h,h'=>by
  simp only[Ty.comp,ae]at hp
  simp only[cC]at h h'
  obtain⟨ca,cb,rfl,ha,hb⟩:=h
  obtain⟨ca',cb',rfl,ha',hb'⟩:=h'
  rw[cC.Li hp.1 ha ha',cC.Li hp.2 hb hb']
 | .arr _ t,cs,cs',x,hp,h,h'=>by
  simp only[cC]at h h'
  have key:∀(l:List t.den) (cs cs':List Value),aM (cC E t) cs l->aM (cC E t) cs' l->cs=cs':=by
   intro l
   induction l with
   |nil=>intro cs cs' h h';have h:cs=[]:=h;have h':cs'=[]:=h';rw[h,h']
   |cons x l ih=>
    intro cs cs' h h'
    obtain⟨c,r,rfl,hx,hr⟩:=h
    obtain⟨c',r',rfl,hx',hr'⟩:=h'
    rw[cC.Li (t:=t) hp hx hx',ih _ _ hr hr']
  exact key _ _ _ h.2 h'.2
theorem px.Li{E:Env}{t:Ty}{v v':Value}{x:t.den}(hc:t.comp=true)(h:px E t v x)(h':px E t v' x):v=v':=by
 obtain⟨cs,h1,h2⟩:=h
 obtain⟨cs',h1',h2'⟩:=h'
 have e:=cC.Li hc h1 h1'
 subst e
 unfold ei at h2 h2'
 cases ha:t.agg with
 |true=>rw[ha]at h2 h2';rw[h2,h2']
 |false=>
  rw[ha]at h2 h2'
  have h2:cs=[v]:=h2
  have h2':cs=[v']:=h2'
  rw[h2]at h2'
  simpa using h2'
theorem px.same{E:Env}{t:Ty}{v:Value}{x:t.den}(hc:t.comp=true)(h:px E t v x):Instr.sameBits 10000 v v=true:=by
 obtain⟨cs,h1,h2⟩:=h
 have hp:=cC.plain hc h1
 unfold ei at h2
 cases ha:t.agg with
 |true=>
  rw[ha]at h2
  have h2:v= .agg cs.toArray:=h2
  subst h2
  simp only[Instr.sameBits,beq_self_eq_true,ck,cG]
  intro p hp'
  obtain⟨a,b⟩:=p
  have:∀(l:List Value),(a,b)∈l.zip l->a∈l/\a=b:=by
   intro l
   induction l with
   |nil=>intro h;simp at h
   |cons y l ih=>
    intro h
    simp only[List.zip_cons_cons,b8,bY]at h
    rcases h with⟨rfl,rfl⟩ | h
    ·exact⟨aI,rfl⟩
    ·exact⟨aH _ (ih h).1,(ih h).2⟩
  obtain⟨hm,rfl⟩:=this _ hp'
  exact hp a (by simpa using hm) _
 |false=>
  rw[ha]at h2
  have h2:cs=[v]:=h2
  subst h2
  exact hp v (by simp) _
theorem GM{P:Program}{w:World}{E:Env}{t:Ty}{v:Value}{x:t.den}(hc:t.comp=true)(h:px E t v x):(Instr.keyThatStays v v).run P w= .ok v w:=by
 unfold Instr.keyThatStays
 rw[if_pos (h.same hc)]
 rfl
section
variable {P:Program} {w:World} {E:Env}
theorem oe:∀(n:Nat) (T:TypeId) (t:Ty),kU P n T t=true->t.comp=true
 | 0,T,t,h=>by simp[kU]at h
 |n+1,T,t,h=>by
  simp only[kU]at h
  split at h
  ·rfl
  ·rfl
  ·rfl
  ·rename_i m e m' t' hT
   simp only[ae]at h
   exact oe n e t' h.2
  ·rename_i t0 _ _ fs hT
   simp only[ae]at h
   have key:∀(fl:List Field) (t:Ty) (off:Nat),sR P (kU P n) fl t off=true->t.comp=true:=by
    intro fl
    induction fl with
    |nil=>intro t off hc;cases t <;> first | rfl | (simp[sR]at hc;done)
    |cons f fl ih=>
     intro t off hc
     cases t <;> first | (simp[sR]at hc;done) | skip
     rename_i ta tb
     simp only[sR,ae]at hc
     simp only[Ty.comp,ae]
     exact⟨oe n _ _ hc.1.2,ih tb _ hc.2⟩
   exact key _ _ _ h.2
  ·cases h
theorem jD(em:Bool):∀(n:Nat) (T:TypeId) (t:Ty),kU P n T t=true->∀(d:Nat),n<=d->∀(v:Value) (x:t.den),px E t v x->(Instr.checkKey em d T v).run P w= .ok () w
 | 0,T,t,h,_,_,_,_,_=>by simp[kU]at h
 |n+1,T,t,h,0,hd,_,_,_=>by omega
 |n+1,T,t,h,d+1,hd,v,x,⟨cs,hx,hv⟩=>by
  simp only[kU]at h
  split at h
  ·rename_i hT
   simp only[cC]at hx
   have e1:cs=[v]:=hv
   rw[hx]at e1
   simp only[dg,and_true]at e1
   subst e1
   simp[Instr.checkKey,run_underlying hT]
  ·rename_i hT
   simp only[cC]at hx
   have e1:cs=[v]:=hv
   rw[hx]at e1
   simp only[dg,and_true]at e1
   subst e1
   simp[Instr.checkKey,run_underlying hT]
  ·rename_i hT
   simp only[cC]at hx
   have e1:cs=[v]:=hv
   rw[hx]at e1
   simp only[dg,and_true]at e1
   subst e1
   simp[Instr.checkKey,run_underlying hT]
  ·rename_i m e m' t' hT
   simp only[ae,beq_iff_eq]at h
   obtain⟨⟨⟨⟨rfl,Md⟩,lz⟩,tx⟩,mi⟩:=h
   simp only[cC]at hx
   obtain⟨PU,PF⟩:=hx
   have e1:v= .agg cs.toArray:=hv
   subst e1
   obtain⟨i,hi,Cn⟩:=nI tx
   have hsz':=lz
   rw[iQ hi]at hsz'
   simp only[Instr.checkKey,Sem.run_bind,run_underlying hT,Result.andThen_ok]
   simp only[Std.Legacy.Range.forIn_eq_forIn_range']
   have hm:([:m]:Std.Legacy.Range).size=m:=by simp[Std.Legacy.Range.size]
   rw[hm]
   have Dz:∀c z,cC E t' c z->c.length=t'.size:=λc z hz=>hz.size
   have bx:t'.agg=false->t'.size=1:=mQ
   have key:∀(k:Nat) (x:List t'.den) (j:Nat),x.length=k->aM (cC E t') (cs.drop (j*t'.size)) x->
     (forIn (List.range' j k) () λi __s=>(do
      let __do_lift <-sizeOf e
      let __do_lift <-part e cs.toArray (i*__do_lift)
      Instr.checkKey em d e __do_lift
      pure (ForInStep.yield ()):Sem (ForInStep Unit))).run P w= .ok () w:=by
    intro k
    induction k with
    |zero=>intro x j _ _;rfl
    |succ k ih=>
     intro x j hx hcx'
     cases x with
     |nil=>simp at hx
     |cons x0 xs=>
      have gx:=aM.get Dz hcx' 0 (by simp)
      simp only[jR,aL,List.getElem_cons_zero]at gx
      have lenx:((cs.drop (j*t'.size)).take t'.size).length=t'.size:=gx.size
      have wa:t'.size≠0:=by simpa using Md
      have PQ:j*t'.size+t'.size<=cs.length:=by simp only[cn,cH]at lenx;omega
      obtain⟨ux,h1,o1⟩:=mP (w:=w) tx lz bx (cs:=cs) (off:=j*t'.size) PQ
      have h3:=jD em n e t' mi d (by omega) ux x0 ⟨_,gx,o1⟩
      have nx:aM (cC E t') (cs.drop ((j+1)*t'.size)) xs:=by
       have:=aM.drop Dz 1 hcx'
       rw[eu]at this
       simpa[dn]using this
      have:=ih xs (j+1) (by simpa using hx) nx
      rw[List.range'_succ,List.forIn_cons]
      simp only[Sem.run_bind,run_sizeOf hi,hsz',h1,h3,Result.andThen_ok,Sem.run_pure]
      exact this
   exact(congrArg (λr:Result Unit=>r.andThen λ_ w'=>Sem.run P (pure ()) w') (key m x 0 PU (by simpa using PF))).trans rfl
  ·rename_i t0 _ _ fs hT
   simp only[ae,bt]at h
   obtain⟨kZ,LK⟩:=h
   have tx:t0.agg=true:=by
    cases hl:fs.toList <;> rw[hl]at LK <;> cases t0 <;> first | rfl | (simp[sR]at LK;done)
   rw[tx]at hv
   have e1:v= .agg cs.toArray:=hv
   subst e1
   have key:∀(fl:List Field) (t:Ty) (off:Nat),sR P (kU P n) fl t off=true->∀(x:t.den),cC E t (cs.drop off) x->
     (forIn fl () λf __s=>(do
      if f.name≠ "_" then
       let __do_lift <-part f.type cs.toArray f.offset
       Instr.checkKey em d f.type __do_lift
       pure (ForInStep.yield ())
      else pure (ForInStep.yield ()):Sem (ForInStep Unit))).run P w= .ok () w:=by
    intro fl
    induction fl with
    |nil=>intro t off _ x _;rfl
    |cons f fl ih=>
     intro t off hc x hx
     cases t <;> first | (simp[sR]at hc;done) | skip
     rename_i ta tb
     simp only[sR,ae,bt,beq_iff_eq,beq_eq_false_iff_ne]at hc
     obtain⟨⟨⟨⟨⟨⟨P0,JE⟩,hz⟩,lz⟩,tx⟩,mi⟩,HN⟩:=hc
     simp only[cC]at hx
     obtain⟨xa,xb,ex,Oc,Qq⟩:=hx
     have bx:ta.agg=false->ta.size=1:=mQ
     have lx:xa.length=ta.size:=Oc.size
     have sx1:(cs.drop off).take ta.size=xa:=by rw[ex];exact List.take_left' lx
     have sx2:cs.drop (off+ta.size)=xb:=by rw[<-eu,ex];exact List.drop_left' lx
     have sx3:off+ta.size<=cs.length:=by
      have:=congrArg List.length ex
      simp only[cH,au]at this
      omega
     obtain⟨ux,h1,o1⟩:=mP (w:=w) tx lz bx (cs:=cs) (off:=off) sx3
     rw[sx1]at o1
     have h3:=jD em n f.type ta mi d (by omega) ux x.1 ⟨_,Oc,o1⟩
     have h4:=ih tb (off+ta.size) HN x.2 (by rw[sx2];exact Qq)
     rw[List.forIn_cons]
     simp only[ne_eq,P0,not_false_eq_true,if_true,Sem.run_bind,JE,h1,h3,Result.andThen_ok,Sem.run_pure]
     exact h4
   have:=key fs.toList t0 0 LK x (by simpa using hx)
   simp only[Instr.checkKey,Sem.run_bind,run_underlying hT,Result.andThen_ok,Array.forIn_toList]at this ⊢
   exact(congrArg (λr:Result Unit=>r.andThen λ_ w'=>Sem.run P (pure ()) w') this).trans rfl
  ·cases h
theorem tC{K:TypeId}{kt vt:Ty}(hK:kU P depth K kt=true){v:Value}{x:kt.den}(hx:px E kt v x):∀(es:List MapEntry) (l:List (kt.den×vt.den)) (i:Nat),Alike (pF E kt vt) es l->
  ∃r,(Instr.findAsking K v es i).run P w= .ok r w/\match r with | none=>fA kt x l=none | some (j,u)=>∃n e,fA kt x l=some n/\j=i+n/\es[n]? =some e/\u=e.val
 |[],[],i,_=>⟨none,by simp[Instr.findAsking],rfl⟩
 |e::es,p::l,i,⟨he,hr⟩=>by
  have hx':=hx
  obtain⟨c1,r1,o1⟩:=hx'
  obtain⟨c2,r2,o2⟩:=he.1
  have heq:(Op.equal K v e.key).run P w= .ok (kt.beq x p.1) w:=mh E depth K kt hK 10000 (by decide) c1 c2 x p.1 v e.key r1 r2 o1 o2
  cases hb:kt.beq x p.1 with
  |true=>
   rw[hb]at heq
   refine⟨some (i,e.val),by simp[Instr.findAsking,heq],0,e,by simp[fA,hb],rfl,rfl,rfl⟩
  |false=>
   rw[hb]at heq
   obtain⟨r,h1,h2⟩:=tC hK hx es l (i+1) hr
   refine⟨r,by simp[Instr.findAsking,heq,h1],?_⟩
   cases r with
   |none=>simp only at h2 ⊢;simp[fA,hb,h2]
   |some u=>
    obtain⟨j,u⟩:=u
    obtain⟨n,e',g1,g2,g3,g4⟩:=h2
    exact⟨n+1,e',by simp[fA,hb,g1],by omega,by simpa using g3,g4⟩
 |[],_::_,_,h=>h.elim
 |_::_,[],_,h=>h.elim
theorem Ao{d:TypeDesc}{kt vt:Ty}{v:Value}{x:kt.den}(hd:∀u y,px E kt u y->Instr.sameNow d v u=some (kt.beq x y)):∀(es:List MapEntry) (l:List (kt.den×vt.den)) (i:Nat),Alike (pF E kt vt) es l->
  ∃r,Instr.findNow d v es i=some r/\match r with | none=>fA kt x l=none | some (j,u)=>∃n e,fA kt x l=some n/\j=i+n/\es[n]? =some e/\u=e.val
 |[],[],i,_=>⟨none,rfl,rfl⟩
 |e::es,p::l,i,⟨he,hr⟩=>by
  have h0:=hd e.key p.1 he.1
  cases hb:kt.beq x p.1 with
  |true=>
   rw[hb]at h0
   exact⟨some (i,e.val),by simp[Instr.findNow,h0],0,e,by simp[fA,hb],rfl,rfl,rfl⟩
  |false=>
   rw[hb]at h0
   obtain⟨r,h1,h2⟩:=Ao hd es l (i+1) hr
   refine⟨r,by simp[Instr.findNow,h0,h1],?_⟩
   cases r with
   |none=>simp only at h2 ⊢;simp[fA,hb,h2]
   |some u=>
    obtain⟨j,u⟩:=u
    obtain⟨n,e',g1,g2,g3,g4⟩:=h2
    exact⟨n+1,e',by simp[fA,hb,g1],by omega,by simpa using g3,g4⟩
 |[],_::_,_,h=>h.elim
 |_::_,[],_,h=>h.elim
theorem sU{K:TypeId}{kt vt:Ty}(hK:kU P depth K kt=true){v:Value}{x:kt.den}(hx:px E kt v x){es:List MapEntry}{l:List (kt.den×vt.den)}(h:Alike (pF E kt vt) es l):
  ∃r,(Instr.findKey K v es).run P w= .ok r w/\match r with | none=>fA kt x l=none | some (j,u)=>∃e,fA kt x l=some j/\es[j]? =some e/\u=e.val:=by
 have fin:∀r:Option (Nat×Value),(match r with | none=>fA kt x l=none | some (j,u)=>∃n e,fA kt x l=some n/\j=0+n/\es[n]? =some e/\u=e.val)->match r with | none=>fA kt x l=none | some (j,u)=>∃e,fA kt x l=some j/\es[j]? =some e/\u=e.val:=by
  intro r hr
  cases r with
  |none=>exact hr
  |some u=>
   obtain⟨j,u⟩:=u
   obtain⟨n,e,g1,g2,g3,g4⟩:=hr
   obtain rfl:j=n:=by omega
   exact⟨e,g1,g3,g4⟩
 have scalar:∀d,P.underlying K=some d->(∀u y,px E kt u y->Instr.sameNow d v u=some (kt.beq x y))->∃r,(Instr.findKey K v es).run P w= .ok r w/\match r with | none=>fA kt x l=none | some (j,u)=>∃e,fA kt x l=some j/\es[j]? =some e/\u=e.val:=by
  intro d hd hs
  obtain⟨r,h1,h2⟩:=Ao hs es l 0 h
  exact⟨r,by simp[Instr.findKey,run_underlying hd,h1],fin r h2⟩
 have agg:∀d,P.underlying K=some d->(∀u y,px E kt u y->Instr.sameNow d v u=none)->∃r,(Instr.findKey K v es).run P w= .ok r w/\match r with | none=>fA kt x l=none | some (j,u)=>∃e,fA kt x l=some j/\es[j]? =some e/\u=e.val:=by
  intro d hd hs
  cases es with
  |nil=>
   cases l with
   |nil=>exact⟨none,by simp[Instr.findKey,run_underlying hd,Instr.findNow],rfl⟩
   |cons _ _=>exact h.elim
  |cons e es=>
   cases l with
   |nil=>exact h.elim
   |cons p l=>
    have hn:Instr.findNow d v (e::es) 0=none:=by simp[Instr.findNow,hs e.key p.1 h.1.1]
    obtain⟨r,h1,h2⟩:=tC (w:=w) (vt:=vt) hK hx (e::es) (p::l) 0 h
    exact⟨r,by simp[Instr.findKey,run_underlying hd,hn,h1],fin r h2⟩
 have hK0:=hK
 unfold depth at hK0
 simp only[kU]at hK0
 obtain⟨cx,rx,ox⟩:=hx
 split at hK0
 ·rename_i k k' hT
  refine scalar _ hT λu y ⟨cy,ry,oy⟩=> ?_
  simp only[cC]at rx ry
  have e1:cx=[v]:=ox
  have e2:cy=[u]:=oy
  rw[rx]at e1;rw[ry]at e2
  simp only[dg,and_true]at e1 e2
  subst e1 e2
  simp[Instr.sameNow,Ty.beq]
 ·rename_i hT
  refine scalar _ hT λu y ⟨cy,ry,oy⟩=> ?_
  simp only[cC]at rx ry
  have e1:cx=[v]:=ox
  have e2:cy=[u]:=oy
  rw[rx]at e1;rw[ry]at e2
  simp only[dg,and_true]at e1 e2
  subst e1 e2
  simp[Instr.sameNow,Ty.beq]
 ·rename_i hT
  refine scalar _ hT λu y ⟨cy,ry,oy⟩=> ?_
  simp only[cC]at rx ry
  have e1:cx=[v]:=ox
  have e2:cy=[u]:=oy
  rw[rx]at e1;rw[ry]at e2
  simp only[dg,and_true]at e1 e2
  subst e1 e2
  have hs:∀a b:ByteArray,(a==b)=(a.toList==b.toList):=λa b=>by
   by_cases Pu:a=b
   ·subst Pu
    rw[(Go.MapKept.bytes_beq a a).2 rfl];simp
   ·have h1:(a==b)=false:=by
     cases h:(a==b) with
     |false=>rfl
     |true=>exact absurd ((Go.MapKept.bytes_beq a b).1 h) Pu
    have h2:(a.toList==b.toList)=false:=by
     cases h:(a.toList==b.toList) with
     |false=>rfl
     |true=>exact absurd (beq_eq .str a b rfl h) Pu
    rw[h1,h2]
  simp[Instr.sameNow,Ty.beq,hs]
 ·rename_i m e m' t' hT
  exact agg _ hT λu y _=>by simp[Instr.sameNow]
 ·rename_i t0 _ _ fs hT
  exact agg _ hT λu y _=>by simp[Instr.sameNow]
 ·cases hK0
end
section
variable {α β:Type} {R:α->β->Prop}
theorem Alike.get:∀ {xs:List α} {ys:List β} {i:Nat} {x:α},Alike R xs ys->xs[i]? =some x->∃y,ys[i]? =some y/\R x y
 |[],_,_,_,_,h=>by simp at h
 |_::_,[],_,_,h,_=>h.elim
 |x::xs,y::ys,0,z,⟨h1,_⟩,h=>by simp at h;subst h;exact⟨y,rfl,h1⟩
 |x::xs,y::ys,i+1,z,⟨_,h2⟩,h=>by simp at h;simpa using Alike.get h2 h
theorem Alike.set{x:α}{y:β}(hx:R x y):∀ {xs:List α} {ys:List β} (i:Nat),Alike R xs ys->Alike R (xs.set i x) (ys.set i y)
 |[],[],_,_=>trivial
 |[],_::_,_,h=>h.elim
 |_::_,[],_,h=>h.elim
 |_::_,_::_,0,⟨_,h2⟩=>⟨hx,h2⟩
 |_::_,_::_,i+1,⟨h1,h2⟩=>⟨h1,Alike.set hx i h2⟩
theorem Alike.push{x:α}{y:β}(hx:R x y):∀ {xs:List α} {ys:List β},Alike R xs ys->Alike R (xs++ [x]) (ys++ [y])
 |[],[],_=>⟨hx,trivial⟩
 |[],_::_,h=>h.elim
 |_::_,[],h=>h.elim
 |_::_,_::_,⟨h1,h2⟩=>⟨h1,Alike.push hx h2⟩
theorem Alike.erase:∀ {xs:List α} {ys:List β} (i:Nat),Alike R xs ys->Alike R (xs.eraseIdx i) (ys.eraseIdx i)
 |[],[],_,_=>by simp[Alike]
 |[],_::_,_,h=>h.elim
 |_::_,[],_,h=>h.elim
 |_::_,_::_,0,⟨_,h2⟩=>h2
 |_::_,_::_,i+1,⟨h1,h2⟩=>⟨h1,Alike.erase i h2⟩
end
theorem tT{α:Type}{f:α->α->Bool}(hf:∀x,f x x=true):∀xs:List α,iS f xs xs=true
 |[]=>rfl
 |x::xs=>by simp[iS,hf x,tT hf xs]
theorem beq_refl:∀(t:Ty) (x:t.den),t.comp=true->t.beq x x=true
 | .int _,x,_=>by simp[Ty.beq]
 | .bool,x,_=>by simp[Ty.beq]
 | .str,x,_=>by simp[Ty.beq]
 | .slice _,_,h=>by simp[Ty.comp]at h
 | .fm _,_,h | .lu _,_,h=>by simp[Ty.comp]at h
 | .unit,_,_=>rfl
 | .pair a b,x,h=>by
  simp only[Ty.comp,ae]at h
  simp only[Ty.beq,beq_refl a _ h.1,beq_refl b _ h.2,Bool.and_self]
 | .arr _ t,x,h=>by
  simp only[Ty.comp]at h
  exact tT (λy=>beq_refl t y h) x
section
variable {β:Type} {kt:Ty}
theorem vp{x:kt.den}:du kt x ([]:List (kt.den×β))=none:=rfl
theorem gZ{x:kt.den}{p:kt.den×β}{l:List (kt.den×β)}:du kt x (p::l)=if kt.beq x p.1=true then some p.2 else du kt x l:=by
 unfold du
 cases h:kt.beq x p.1 with
 |true=>simp[fA,h]
 |false=>
  simp only[fA,h]
  cases fA kt x l <;> simp
theorem Gw{x:kt.den}{v:β}:gE kt x v []=[(x,v)]:=rfl
theorem s8{x:kt.den}{v:β}{p:kt.den×β}{l:List (kt.den×β)}:gE kt x v (p::l)=if kt.beq x p.1=true then(x,v)::l else p::gE kt x v l:=by
 unfold gE
 cases h:kt.beq x p.1 with
 |true=>simp[fA,h]
 |false=>
  simp only[fA,h]
  cases fA kt x l <;> simp
theorem Gv{x:kt.den}:jx kt x ([]:List (kt.den×β))=[]:=rfl
theorem sZ{x:kt.den}{p:kt.den×β}{l:List (kt.den×β)}:jx kt x (p::l)=if kt.beq x p.1=true then l else p::jx kt x l:=by
 unfold jx
 cases h:kt.beq x p.1 with
 |true=>simp[fA,h]
 |false=>
  simp only[fA,h]
  cases fA kt x l <;> simp
theorem rG{x:kt.den}{v:β}:∀l:List (kt.den×β),(gE kt x v l).Perm ((x,v)::jx kt x l)
 |[]=>jA _
 |p::l=>by
  rw[s8,sZ]
  split
  ·exact jA _
  ·exact((rG l).cons p).trans (List.Perm.swap _ _ _)
theorem lE(hc:kt.comp=true){x:kt.den}:∀ {l:List (kt.den×β)},(l.map (·.1)).Nodup->jx kt x l=l.filter λp=> !kt.beq x p.1
 |[],_=>rfl
 |p::l,hn=>by
  rw[bX,cP]at hn
  rw[sZ,ir]
  by_cases h:kt.beq x p.1=true
  ·rw[if_pos h]
   simp only[h,cz,bN,if_false]
   have hx:=beq_eq kt _ _ hc h
   exact(fR.2 λq hq=>by
    simp only[bt]
    rw[Bool.eq_false_iff]
    intro hb
    have:=beq_eq kt _ _ hc hb
    exact hn.1 (by rw[<-hx,this];exact cU.2 ⟨q,hq,rfl⟩)).symm
  ·have h':kt.beq x p.1=false:=by simpa using h
   rw[if_neg h]
   simp only[h',dG,if_true]
   rw[lE hc hn.2]
theorem jV(hc:kt.comp=true){x:kt.den}{v:β}:∀ {l:List (kt.den×β)},(l.map (·.1)).Nodup->(du kt x l=some v↔(x,v)∈l)
 |[],_=>by simp[vp]
 |p::l,hn=>by
  rw[bX,cP]at hn
  rw[gZ,b8]
  by_cases h:kt.beq x p.1=true
  ·rw[if_pos h]
   have hx:=beq_eq kt _ _ hc h
   constructor
   ·intro e;left;rw[hx,<-aN e]
   ·rintro(e | e)
    ·rw[<-e]
    ·exact absurd (cU.2 ⟨_,e,rfl⟩) (by rw[<-hx]at hn;exact hn.1)
  ·rw[if_neg h,jV hc hn.2]
   constructor
   ·exact .inr
   ·rintro(e | e)
    ·exact absurd (by rw[<-e];exact beq_refl kt x hc) h
    ·exact e
theorem Ep(hc:kt.comp=true){x:kt.den}{l l':List (kt.den×β)}(hn:(l.map (·.1)).Nodup)(hp:l'.Perm l):du kt x l'=du kt x l:=by
 apply Option.ext
 intro v
 rw[jV hc ((hp.map _).nodup_iff.2 hn),jV hc hn,hp.mem_iff]
theorem yf(hc:kt.comp=true){x:kt.den}{l l':List (kt.den×β)}(hn:(l.map (·.1)).Nodup)(hp:l'.Perm l):(jx kt x l').Perm (jx kt x l):=by
 rw[lE hc ((hp.map _).nodup_iff.2 hn),lE hc hn]
 exact hp.filter _
theorem Er(hc:kt.comp=true){x:kt.den}{v:β}{l l':List (kt.den×β)}(hn:(l.map (·.1)).Nodup)(hp:l'.Perm l):(gE kt x v l').Perm (gE kt x v l):=
 (rG l').trans (((yf hc hn hp).cons _).trans (rG l).symm)
theorem qU(hc:kt.comp=true){x:kt.den}{l:List (kt.den×β)}(hn:(l.map (·.1)).Nodup):((jx kt x l).map (·.1)).Nodup:=by
 rw[lE hc hn]
 exact hn.sublist (List.filter_sublist.map _)
theorem wo(hc:kt.comp=true){x:kt.den}{v:β}{l:List (kt.den×β)}(hn:(l.map (·.1)).Nodup):((gE kt x v l).map (·.1)).Nodup:=by
 rw[((rG l).map _).nodup_iff,bX,cP]
 refine⟨λh=> ?_,qU hc hn⟩
 obtain⟨p,hp,he⟩:=cU.1 h
 rw[lE hc hn,dX]at hp
 have:=hp.2
 have he:p.1=x:=he
 rw[he,beq_refl kt x hc]at this
 cases this
end
theorem tg{E:Env}:∀(v:ao) (t:Ty) (x:t.den) (cs:List Value),V E v cs->(j6 t v).eval=some x->cC E t cs x/\v.agg=t.agg/\v.dC=true
 | .d t' x',t,x,cs,hv,h=>by
  have h':(Out.opt (lW t' t x')).eval=some x:=by cases t <;> simpa only[j6]using h
  obtain⟨rfl,h'⟩:=gh (gC.1 h')
  simp only at h'
  subst h'
  simp only[V]at hv
  exact⟨hv,rfl,rfl⟩
 | .c6,.slice t,x,cs,hv,h=>by
  simp only[j6,ak]at h
  subst h
  simp only[V]at hv
  simp only[cC]
  exact⟨⟨none,0,[],by simpa using hv,by simp,by simp,λi v hh=>by simp at hh,rfl⟩,rfl,rfl⟩
 | .pr a b,.pair ta tb,x,cs,hv,h=>by
  simp only[j6]at h
  obtain⟨x1,h1,h2⟩:=ai.1 h
  obtain⟨x2,h3,h4⟩:=ai.1 h2
  obtain rfl:=ak.1 h4
  simp only[V]at hv
  obtain⟨ca,cb,rfl,ha,hb⟩:=hv
  simp only[cC]
  exact⟨⟨ca,cb,rfl,(tg a ta x1 ca ha h1).1,(tg b tb x2 cb hb h3).1⟩,rfl,rfl⟩
 | .c6,.int _,_,_,_,h | .c6,.bool,_,_,_,h | .c6,.str,_,_,_,h | .c6,.unit,_,_,_,h | .c6,.pair _ _,_,_,_,h | .c6,.arr _ _,_,_,_,h=>by simp only[j6,ag]at h
 | .pr _ _,.int _,_,_,_,h | .pr _ _,.bool,_,_,_,h | .pr _ _,.str,_,_,_,h | .pr _ _,.unit,_,_,_,h | .pr _ _,.slice _,_,_,_,h | .pr _ _,.arr _ _,_,_,_,h=>by simp only[j6,ag]at h
 | .undef,t,_,_,_,h | .gone,t,_,_,_,h | .kY,t,_,_,_,h | .mF,t,_,_,_,h | .yl ..,t,_,_,_,h | .pk,t,_,_,_,h | .ptr ..,t,_,_,_,h | .eW ..,t,_,_,_,h | .cv ..,t,_,_,_,h | .fn ..,t,_,_,_,h
 | .cons ..,t,_,_,_,h | .nil,t,_,_,_,h | .vec ..,t,_,_,_,h | .sb _,t,_,_,_,h | .bx ..,t,_,_,_,h | .kT ..,t,_,_,_,h | .mp ..,t,_,_,_,h | .la ..,t,_,_,_,h | .mV ..,t,_,_,_,h=>by cases t <;> simp only[j6,ag]at h
theorem zr{v:ao}{t:Ty}{x:t.den}(h:(j6 t v).eval=some x):v.dC=true:=by
 cases v <;> first | rfl | (cases t <;> simp only[j6,ag]at h)
theorem pY{E:Env}{v:ao}{y:Value}(hv:VS E v y){t:Ty}{x:t.den}(h:(j6 t v).eval=some x):px E t y x:=by
 obtain⟨cs,h1,h2⟩:=hv.dC (zr h)
 obtain⟨h3,h4,_⟩:=tg v t x cs h1 h
 exact⟨cs,h3,by rw[<-h4];exact h2⟩
theorem oY{P:Program}{T K V':TypeId}{kt vt:Ty}(h:mapOf P T=some (K,V',kt,vt)):P.underlying T=some (.map K V')/\kU P depth K kt=true/\By P V' (.d vt vt.zero)=true:=by
 unfold mapOf at h
 split at h
 ·rename_i K0 V0 hT
  split at h
  ·split at h
   ·rename_i hc
    simp only[al,bY]at h
    obtain⟨rfl,rfl,rfl,rfl⟩:=h
    rw[ae]at hc
    exact⟨hT,hc.1,hc.2⟩
   ·cases h
  ·cases h
 ·cases h
theorem BY{k v k' v':Ty}{l:List (k.den×v.den)}{l':List (k'.den×v'.den)}(h:DS k v k' v' l=some l'):∃(e1:k=k') (e2:v=v'),(e1▸e2▸l)=l':=by
 unfold DS at h
 split at h
 ·rename_i e;exact⟨e.1,e.2,by simpa using h⟩
 ·cases h
section
variable {P:Program} {C:Ctx} {g:Nat->iO} {β:Id->Option Pl} {s:AS} {a:Act} {w:World} {o:Oper}
theorem nK(h:Inv C g β s a w){id:Id}{ver:Nat}{kt vt:Ty}{l:List (kt.den×vt.den)}(ho:(s.lC id ver kt vt).eval=some l){y:Value}(hv:VS (s.env w g β) (.kT id ver) y):
  ∃fr pl es clock,s.bA id=some (.obj ver fr (.mp kt vt l))/\β id=some pl/\y= .map (some pl.b)/\w.heap[pl.b]? =some (.map es clock)/\g pl.b= .own (.id id) 0/\AH (s.env w g β) kt vt es.toList l/\jz es.toList clock/\(l.map (·.1)).Nodup:=by
 unfold AS.lC at ho
 split at ho
 ·rename_i v fr k' v' l' ia
  obtain⟨Mb,NY⟩:=av.1 ho
  have Mb:v=ver:=by simpa using Mb
  obtain⟨rfl,rfl,rfl⟩:=BY (gC.1 NY)
  subst Mb
  have b5:=dj ia
  obtain⟨pl,es,clock,h1,h2,h3,h4⟩:=h.bk id v fr _ b5
  have hs:=hv.single rfl rfl
  simp only[V]at hs
  obtain⟨b,hb,_,hc⟩:=hs
  obtain⟨pl',h5,h6⟩:=hc ⟨fr,_,b5⟩
  have h1:β id=some pl:=h1
  have h5:β id=some pl':=h5
  rw[h1]at h5
  obtain rfl:pl=pl':=by simpa using h5
  refine⟨fr,pl,es,clock,b5,h1,?_,h2,h3,h4.1.1,h4.2,h4.1.2⟩
  have hb:y= .map (some b):=by simpa using hb
  rw[hb,h6]
 ·simp only[ag]at ho
theorem Bd(h:Inv C g β s a w){T:TypeId}(cJ:o.op= .makeMap T none){s':AS}(he:(qS P s o.dst T).eval=some s'):ed P o a w (fq C s'):=by
 unfold qS at he
 split at he
 ·rename_i K V' kt vt q hm hd
  obtain⟨hq,he⟩:=av.1 he
  obtain rfl:=ak.1 he
  have ht:=Trans.alloc w g (.map #[] 0) (.own (.id (.new q 0)) 0)
  obtain⟨h1,h2⟩:=h.uT hq (c:= .mp kt vt []) (p:=some ⟨w.heap.size,0⟩) ht (λb hb=>⟨ka w _ hb,dU _ _ _ (by omega)⟩) (λ_=>
   ⟨⟨w.heap.size,0⟩,#[],0,gv _ _ _,lh w _,eb _ _ _,⟨⟨[],trivial,jA _⟩,gz⟩,jz.nil _⟩)
  refine .inl ⟨.map (some w.heap.size),w.alloc (.map #[] 0),?_,_,_,h1.put o.dst (v:= .kT (.new q 0) 0) ⟨[.map (some w.heap.size)],?_,rfl⟩⟩
  ·refine da (f:=Instr.makeMap T none) (by simp only[execOp,cJ];rfl) ?_
   simp[Instr.makeMap,run_newObj_alloc]
  ·simp only[V]
   exact⟨_,rfl,jS hq _ _ _ _,λ_=>⟨_,gv _ _ _,rfl⟩⟩
 ·simp only[ag]at he
theorem px.vs{E:Env}{t:Ty}{v:Value}{x:t.den}(h:px E t v x):VS E (.d t x) v:=by
 obtain⟨cs,h1,h2⟩:=h
 exact⟨cs,by simpa only[V]using h1,h2⟩
theorem CE(h:Inv C g β s a w){T:TypeId}{x i:Operand}{ok:Bool}(cJ:o.op= .lookup T x i ok){v:ao}(he:(pP P s T (s.ev x) (s.ev i) ok).eval=some v):ed P o a w (fq C (s.put o.dst v)):=by
 unfold pP at he
 split at he
 ·rename_i K V' kt vt id ver hm hx
  obtain⟨l,h1,he⟩:=ai.1 he
  obtain⟨k,h2,he⟩:=ai.1 he
  obtain rfl:=ak.1 he
  obtain⟨hT,hK,hz⟩:=oY hm
  have xK:=h.ev x
  rw[hx]at xK
  obtain⟨fr,pl,es,clock,g1,g2,g3,g4,g5,g6,g7,gn⟩:=nK h h1 xK
  have sh:=oe depth K kt hK
  obtain⟨l0,g6,gp⟩:=g6
  rw[<-Ep sh gn gp]
  clear gn h1
  generalize l0=l at g6
  have hk:=pY (h.ev i) h2
  have Ko:=jD (P:=P) (w:=w) es.isEmpty depth K kt hK 10000 (by decide) _ _ hk
  obtain⟨r,hf,hr⟩:=sU (P:=P) (w:=w) hK hk g6
  obtain⟨iz,zv,z1,z2,z3,z4⟩:=me hz (s.env w g β)
  have Gi:px (s.env w g β) vt zv vt.zero:=⟨_,by simpa only[V]using z3,z4⟩
  have hzero:(zeroValue V').run P w= .ok zv w:=by simp[zeroValue,typeInfo,z1,z2]
  obtain⟨val,jT,oo⟩:∃val:Value×Bool,(Instr.lookup T (a.eval x) (a.eval i) ok).run P w= .ok (if ok then .tuple #[val.1,.bool val.2] else val.1) w/\px (s.env w g β) vt val.1 ((du kt k l).getD vt.zero)/\val.2=(du kt k l).isSome:=by
   cases r with
   |none=>
    simp only at hr
    have hg:du kt k l=none:=by simp[du,hr]
    refine⟨(zv,false),?_,by rw[hg];exact Gi,by rw[hg];rfl⟩
    simp[Instr.lookup,run_underlying hT,g3,Go.MapKept.run_getObj_map g4,Ko,hf,hzero]
   |some u=>
    obtain⟨j,u⟩:=u
    obtain⟨e,m1,m2,rfl⟩:=hr
    obtain⟨p,m3,m4⟩:=g6.get m2
    have hg:du kt k l=some p.2:=by simp[du,m1,m3]
    refine⟨(e.val,true),?_,by rw[hg];exact m4.2,by rw[hg];rfl⟩
    simp[Instr.lookup,run_underlying hT,g3,Go.MapKept.run_getObj_map g4,Ko,hf]
  refine h.value (x:=if ok then .tuple #[val.1,.bool val.2] else val.1) ?_ (da (f:=Instr.lookup T (a.eval x) (a.eval i) ok) (by simp only[execOp,cJ]) jT)
  unfold KJ
  cases ok with
  |true=>
   obtain⟨cs,c1,c2⟩:=oo.1
   refine⟨[val.1,.bool val.2],rfl,?_⟩
   simp only[VC]
   refine⟨_,_,cs,rfl,by simpa only[V]using c1,c2,_,_,[.bool val.2],rfl,?_,rfl,rfl⟩
   simp only[V,cC,oo.2]
  |false=>exact oo.1.vs
 ·simp only[ag]at he
theorem Inv.IA(h:Inv C g β s a w){id:Id}{ver:Nat}{fr:Bool}{kt vt:Ty}{l l':List (kt.den×vt.den)}{pl:Pl}{es es':Array MapEntry}{clock clock':Nat}(b5:s.bA id=some (.obj ver fr (.mp kt vt l)))(hp:β id=some pl)
  (hb:w.heap[pl.b]? =some (.map es clock)) (hg:g pl.b= .own (.id id) 0) (hr:AH (s.env w g β) kt vt es'.toList l') (RQ:(l'.map (·.1)).Nodup) (Nx:jz es'.toList clock') (L9:s.lK id=true):
  Inv C g β (s.aD id (.obj ver false (.mp kt vt l'))) a {w with heap:=w.heap.setIfInBounds pl.b (.map es' clock')}:=by
 have gO:pl.b < w.heap.size:=(bg.1 hb).1
 have hother:∀b',b'≠pl.b->({w with heap:=w.heap.setIfInBounds pl.b (.map es' clock')}:World).heap[b']? =w.heap[b']? :=λb' fL=>by
  show(w.heap.setIfInBounds pl.b _)[b']? =_
  rw[c9,if_neg (λe=>fL e.symm)]
 have ht:Trans w {w with heap:=w.heap.setIfInBounds pl.b (.map es' clock')} g g:=by
  refine⟨rfl,rfl,⟨rfl,aw _⟩,by simp,λb' _=> ?_⟩
  by_cases he:b'=pl.b
  ·subst he
   rw[hg]
   exact⟨.inr ⟨id,0,rfl,aw _⟩,λ_ _ hh=>by omega⟩
  ·rw[hother b' he]
   cases wE:g b' with
   |free=>exact⟨rfl,rfl⟩
   |own o' k=>cases o' with
    |dm=>exact⟨rfl,rfl⟩
    |id i'=>exact⟨.inr ⟨i',k,rfl,aw _⟩,λoff v _ hv=>by simpa only[World.cell?,hother b' he]using hv⟩
 have hle:bV (s.env w g β) ((s.aD id (.obj ver false (.mp kt vt l'))).env {w with heap:=w.heap.setIfInBounds pl.b (.map es' clock')} g β):=bV.aD b5 (aw _) ht (λ_ _=>rfl) (λ_=>rfl)
 refine h.step (cF _ _ _) ht hle (fF.aD h.bk (by rw[b5];simp) hle (λ_ _=>rfl) (λi ver fr c pl2 hi xI Aa=>⟨hother _ (h.apart hg hi xI Aa),rfl⟩) ?_ (by obtain rfl:=rn b5 L9;exact tV b5))
 refine⟨pl,es',clock',hp,?_,hg,⟨hr.mono hle.mem,RQ⟩,Nx⟩
 show(w.heap.setIfInBounds pl.b _)[pl.b]? =_
 rw[c9,if_pos rfl,if_pos gO]
theorem CJ(h:Inv C g β s a w){T:TypeId}{m k x:Operand}(cJ:o.op= .mapUpdate T m k x){s':AS}(he:(pT P s T (s.ev m) (s.ev k) (s.ev x)).eval=some s'):ed P o a w (fq C (s'.put o.dst .undef)):=by
 unfold pT at he
 split at he
 ·rename_i K V' kt vt id ver hm hx
  obtain⟨l,h1,he⟩:=ai.1 he
  obtain⟨kx,h2,he⟩:=ai.1 he
  obtain⟨vx,h3,he⟩:=ai.1 he
  obtain⟨L9,he⟩:=av.1 he
  obtain rfl:=ak.1 he
  obtain⟨hT,hK,_⟩:=oY hm
  have xK:=h.ev m
  rw[hx]at xK
  obtain⟨fr,pl,es,clock,g1,g2,g3,g4,g5,g6,g7,gn⟩:=nK h h1 xK
  obtain⟨l0,g6,gp⟩:=g6
  have hk:=pY (h.ev k) h2
  have hv:=pY (h.ev x) h3
  have Ko:=jD (P:=P) (w:=w) false depth K kt hK 10000 (by decide) _ _ hk
  obtain⟨r,hf,hr⟩:=sU (P:=P) (w:=w) hK hk g6
  have sh:=oe depth K kt hK
  have fin:∀(es':Array MapEntry) (clock':Nat),(Instr.mapUpdate T (a.eval m) (a.eval k) (a.eval x)).run P w= .ok () {w with heap:=w.heap.setIfInBounds pl.b (.map es' clock')}->Alike (pF (s.env w g β) kt vt) es'.toList (gE kt kx vx l0)->jz es'.toList clock'->
    ed P o a w (fq C ((s.aD id (.obj ver false (.mp kt vt (gE kt kx vx l)))).put o.dst .undef)):=λes' clock' jT HI Nx=>
   .inr (.inl ⟨_,zQ (f:=Instr.mapUpdate T (a.eval m) (a.eval k) (a.eval x)) (by simp only[execOp,cJ]) jT,g,β,(h.IA g1 g2 g4 g5 ⟨_,HI,Er sh gn gp⟩ (wo sh gn) Nx L9).put o.dst VS.undef⟩)
  cases r with
  |none=>
   simp only at hr
   refine fin (es.push {key:=a.eval k,val:=a.eval x,born:=clock}) (clock+1) ?_ ?_ (by rw[Array.toList_push];exact g7.push rfl)
   ·simp[Instr.mapUpdate,run_underlying hT,g3,Go.MapKept.run_getObj_map g4,Ko,hf,Go.MapKept.run_setObj_map _ g4]
   ·simp only[gE,hr,Array.toList_push]
    exact g6.push ⟨hk,hv⟩
  |some u=>
   obtain⟨j,u⟩:=u
   obtain⟨e,m1,m2,rfl⟩:=hr
   obtain⟨p,m3,m4⟩:=g6.get m2
   have PA:kt.beq kx p.1=true:=by
    have:∀(l:List (kt.den×vt.den)) (j:Nat),fA kt kx l=some j->∀p,l[j]? =some p->kt.beq kx p.1=true:=by
     intro l
     induction l with
     |nil=>intro j hj;simp[fA]at hj
     |cons q l ih=>
      intro j hj p hp
      simp only[fA]at hj
      cases hb:kt.beq kx q.1 with
      |true=>
       rw[hb]at hj
       simp only[al]at hj
       subst hj
       simp at hp
       subst hp
       exact hb
      |false=>
       rw[hb]at hj
       simp only[dQ]at hj
       obtain⟨j',hj',rfl⟩:=hj
       exact ih j' hj' p (by simpa using hp)
    exact this l0 j m1 p m3
   have Qr:=beq_eq kt kx p.1 sh PA
   have PR:e.key=a.eval k:=px.Li sh (Qr▸m4.1) hk
   have m2':es[j]? =some e:=by simpa using m2
   refine fin (es.modify j λe=> {e with key:=a.eval k,val:=a.eval x}) clock ?_ ?_ (by rw[Array.toList_modify,Go.ChangeMaps.modify_eq_set _ _ _ _ m2];exact g7.set m2 rfl)
   ·simp[Instr.mapUpdate,run_underlying hT,g3,Go.MapKept.run_getObj_map g4,Ko,hf,m2',PR,GM sh hk,Go.MapKept.run_setObj_map _ g4]
   ·simp only[gE,m1,Array.toList_modify]
    rw[Go.ChangeMaps.modify_eq_set _ _ _ _ m2]
    exact Alike.set (R:=pF (s.env w g β) kt vt) ⟨hk,hv⟩ j g6
 ·simp only[ag]at he
end
end Go.Ab
end
