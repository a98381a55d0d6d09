/-
  Made short by a program of mine (wip/tools/mini.py).
-/
import Derived.WalkKit
import Derived.KernelRfl
import Derived.OrdersIn
import Derived.LoopNIn
import Derived.TacticsIn
import Derived.RangeFuncCalls
import Derived.RangeFuncLeaves
import Derived.RangeFuncRecord
import Derived.MapKept
import Derived.ChangeMaps3
set_option linter.unusedVariables false
set_option linter.unusedSimpArgs false
set_option maxRecDepth 100000
set_option synthInstance.maxSize 5000
noncomputable section
namespace Go.Ab
theorem gA:type_of% @Array.ext':= @Array.ext'
theorem nK:type_of% @Array.ext_getElem?:= @Array.ext_getElem?
theorem cY:type_of% @Array.getD_eq_getD_getElem?:= @Array.getD_eq_getD_getElem?
theorem j1:type_of% @Array.getElem?_append:= @Array.getElem?_append
theorem fx:type_of% @Array.getElem?_eq_getElem:= @Array.getElem?_eq_getElem
theorem bT:type_of% @Array.getElem?_eq_some_iff:= @Array.getElem?_eq_some_iff
theorem gH:type_of% @Array.getElem?_modify:= @Array.getElem?_modify
theorem ee:type_of% @Array.getElem?_setIfInBounds:= @Array.getElem?_setIfInBounds
theorem iM:type_of% @Array.getElem?_toList:= @Array.getElem?_toList
theorem c6:type_of% @Array.length_toList:= @Array.length_toList
theorem cn:type_of% @Array.toList_append:= @Array.toList_append
theorem j9:type_of% @BitVec.ofInt_natCast:= @BitVec.ofInt_natCast
theorem nL:type_of% @BitVec.toNat_ofInt:= @BitVec.toNat_ofInt
theorem lA:type_of% @BitVec.toNat_ofNat:= @BitVec.toNat_ofNat
theorem ak:type_of% @Bool.and_eq_true:= @Bool.and_eq_true
theorem my:type_of% @Bool.and_false:= @Bool.and_false
theorem l6:type_of% @Bool.and_true:= @Bool.and_true
theorem fL:type_of% @Bool.eq_false_or_eq_true:= @Bool.eq_false_or_eq_true
theorem dF:type_of% @Bool.false_and:= @Bool.false_and
theorem bJ:type_of% @Bool.false_eq_true:= @Bool.false_eq_true
theorem pQ:type_of% @Bool.false_or:= @Bool.false_or
theorem bX:type_of% @Bool.not_eq_true':= @Bool.not_eq_true'
theorem dX:type_of% @Bool.not_false:= @Bool.not_false
theorem cq:type_of% @Bool.not_true:= @Bool.not_true
theorem gP:type_of% @Bool.or_eq_true:= @Bool.or_eq_true
theorem bO:type_of% @Bool.true_and:= @Bool.true_and
theorem ka:type_of% @Int.add_emod:= @Int.add_emod
theorem ou:type_of% @Int.add_mul:= @Int.add_mul
theorem kb:type_of% @Int.add_zero:= @Int.add_zero
theorem j2:type_of% @Int.ediv_le_of_le_mul:= @Int.ediv_le_of_le_mul
theorem fH:type_of% @Int.ediv_nonneg:= @Int.ediv_nonneg
theorem kc:type_of% @Int.emod_emod_of_dvd:= @Int.emod_emod_of_dvd
theorem ke:type_of% @Int.emod_eq_of_lt:= @Int.emod_eq_of_lt
theorem gS:type_of% @Int.emod_lt_of_pos:= @Int.emod_lt_of_pos
theorem iC:type_of% @Int.emod_nonneg:= @Int.emod_nonneg
theorem il:type_of% @Int.fdiv_eq_ediv_of_nonneg:= @Int.fdiv_eq_ediv_of_nonneg
theorem lB:type_of% @Int.le_of_lt:= @Int.le_of_lt
theorem dT:type_of% @Int.le_refl:= @Int.le_refl
theorem ku:type_of% @Int.mul_assoc:= @Int.mul_assoc
theorem lC:type_of% @Int.mul_comm:= @Int.mul_comm
theorem kf:type_of% @Int.mul_emod:= @Int.mul_emod
theorem gE:type_of% @Int.mul_le_mul_of_nonneg_left:= @Int.mul_le_mul_of_nonneg_left
theorem jQ:type_of% @Int.mul_nonneg:= @Int.mul_nonneg
theorem qe:type_of% @Int.pow_pos:= @Int.pow_pos
theorem jR:type_of% @Int.tdiv_eq_ediv_of_nonneg:= @Int.tdiv_eq_ediv_of_nonneg
theorem im:type_of% @Int.tmod_eq_emod_of_nonneg:= @Int.tmod_eq_emod_of_nonneg
theorem aa:type_of% @Int.toNat_natCast:= @Int.toNat_natCast
theorem bH:type_of% @Int.toNat_zero:= @Int.toNat_zero
theorem lD:type_of% @Int.zero_add:= @Int.zero_add
theorem mA:type_of% @List.Perm.refl:= @List.Perm.refl
theorem ff:type_of% @List.all_cons:= @List.all_cons
theorem dw:type_of% @List.all_eq_true:= @List.all_eq_true
theorem l7:type_of% @List.any_cons:= @List.any_cons
theorem jl:type_of% @List.any_eq_false:= @List.any_eq_false
theorem bk:type_of% @List.append_assoc:= @List.append_assoc
theorem cH:type_of% @List.append_nil:= @List.append_nil
theorem dC:type_of% @List.cons.injEq:= @List.cons.injEq
theorem iS:type_of% @List.cons_append:= @List.cons_append
theorem jN:type_of% @List.drop_append:= @List.drop_append
theorem fI:type_of% @List.drop_drop:= @List.drop_drop
theorem aq:type_of% @List.drop_eq_getElem_cons:= @List.drop_eq_getElem_cons
theorem aQ:type_of% @List.drop_length:= @List.drop_length
theorem eu:type_of% @List.drop_of_length_le:= @List.drop_of_length_le
theorem oN:type_of% @List.drop_take:= @List.drop_take
theorem aI:type_of% @List.drop_zero:= @List.drop_zero
theorem bo:type_of% @List.eq_nil_of_length_eq_zero:= @List.eq_nil_of_length_eq_zero
theorem kg:type_of% @List.ext_getElem?:= @List.ext_getElem?
theorem kO:type_of% @List.filter_cons:= @List.filter_cons
theorem ju:type_of% @List.filter_eq_self:= @List.filter_eq_self
theorem nN:type_of% @List.filter_filter:= @List.filter_filter
theorem iq:type_of% @List.flatten_cons:= @List.flatten_cons
theorem kP:type_of% @List.flatten_nil:= @List.flatten_nil
theorem cZ:type_of% @List.foldl_cons:= @List.foldl_cons
theorem gK:type_of% @List.foldl_nil:= @List.foldl_nil
theorem nf:type_of% @List.getD_cons_succ:= @List.getD_cons_succ
theorem jv:type_of% @List.getD_cons_zero:= @List.getD_cons_zero
theorem aF:type_of% @List.getD_eq_getElem?_getD:= @List.getD_eq_getElem?_getD
theorem fy:type_of% @List.getElem?_append_left:= @List.getElem?_append_left
theorem kQ:type_of% @List.getElem?_cons_succ:= @List.getElem?_cons_succ
theorem fZ:type_of% @List.getElem?_cons_zero:= @List.getElem?_cons_zero
theorem gf:type_of% @List.getElem?_drop:= @List.getElem?_drop
theorem cQ:type_of% @List.getElem?_eq_getElem:= @List.getElem?_eq_getElem
theorem dS:type_of% @List.getElem?_eq_none:= @List.getElem?_eq_none
theorem dR:type_of% @List.getElem?_eq_some_iff:= @List.getElem?_eq_some_iff
theorem fv:type_of% @List.getElem?_map:= @List.getElem?_map
theorem fc:type_of% @List.getElem?_set_ne:= @List.getElem?_set_ne
theorem dq:type_of% @List.getElem?_take:= @List.getElem?_take
theorem bw:type_of% @List.getElem_mem:= @List.getElem_mem
theorem aj:type_of% @List.length_append:= @List.length_append
theorem aD:type_of% @List.length_cons:= @List.length_cons
theorem dx:type_of% @List.length_drop:= @List.length_drop
theorem j3:type_of% @List.length_filter_le:= @List.length_filter_le
theorem cR:type_of% @List.length_map:= @List.length_map
theorem aZ:type_of% @List.length_nil:= @List.length_nil
theorem cJ:type_of% @List.length_replicate:= @List.length_replicate
theorem j8:type_of% @List.length_set:= @List.length_set
theorem cU:type_of% @List.length_take:= @List.length_take
theorem iD:type_of% @List.map_append:= @List.map_append
theorem iB:type_of% @List.map_congr_left:= @List.map_congr_left
theorem bR:type_of% @List.map_cons:= @List.map_cons
theorem fT:type_of% @List.map_nil:= @List.map_nil
theorem bP:type_of% @List.mem_append:= @List.mem_append
theorem jc:type_of% @List.mem_append_left:= @List.mem_append_left
theorem dd:type_of% @List.mem_cons:= @List.mem_cons
theorem aL:type_of% @List.mem_cons_of_mem:= @List.mem_cons_of_mem
theorem aN:type_of% @List.mem_cons_self:= @List.mem_cons_self
theorem eW:type_of% @List.mem_filter:= @List.mem_filter
theorem j4:type_of% @List.mem_iff_getElem?:= @List.mem_iff_getElem?
theorem dD:type_of% @List.mem_map:= @List.mem_map
theorem gB:type_of% @List.mem_map_of_mem:= @List.mem_map_of_mem
theorem dj:type_of% @List.mem_of_getElem?:= @List.mem_of_getElem?
theorem ck:type_of% @List.mem_singleton:= @List.mem_singleton
theorem aS:type_of% @List.nil_append:= @List.nil_append
theorem mh:type_of% @List.nodup_append:= @List.nodup_append
theorem dK:type_of% @List.nodup_cons:= @List.nodup_cons
theorem jS:type_of% @List.nodup_nil:= @List.nodup_nil
theorem jO:type_of% @List.not_mem_nil:= @List.not_mem_nil
theorem jT:type_of% @List.pairwise_cons:= @List.pairwise_cons
theorem gI:type_of% @List.set_getElem_self:= @List.set_getElem_self
theorem dy:type_of% @List.singleton_append:= @List.singleton_append
theorem ir:type_of% @List.size_toArray:= @List.size_toArray
theorem kS:type_of% @List.take_append:= @List.take_append
theorem dL:type_of% @List.take_append_drop:= @List.take_append_drop
theorem gF:type_of% @List.take_append_of_le_length:= @List.take_append_of_le_length
theorem bY:type_of% @List.take_length:= @List.take_length
theorem bz:type_of% @List.take_of_length_le:= @List.take_of_length_le
theorem ng:type_of% @List.take_succ_cons:= @List.take_succ_cons
theorem jU:type_of% @List.take_take:= @List.take_take
theorem eH:type_of% @List.take_zero:= @List.take_zero
theorem ew:type_of% @Nat.add_assoc:= @Nat.add_assoc
theorem eM:type_of% @Nat.add_mul:= @Nat.add_mul
theorem jm:type_of% @Nat.add_sub_cancel_left:= @Nat.add_sub_cancel_left
theorem cK:type_of% @Nat.add_zero:= @Nat.add_zero
theorem iT:type_of% @Nat.and_two_pow_sub_one_eq_mod:= @Nat.and_two_pow_sub_one_eq_mod
theorem fk:type_of% @Nat.eq_of_beq_eq_true:= @Nat.eq_of_beq_eq_true
theorem lH:type_of% @Nat.eq_zero_or_pos:= @Nat.eq_zero_or_pos
theorem gJ:type_of% @Nat.le_of_ble_eq_true:= @Nat.le_of_ble_eq_true
theorem ay:type_of% @Nat.le_refl:= @Nat.le_refl
theorem jG:type_of% @Nat.lt_irrefl:= @Nat.lt_irrefl
theorem nO:type_of% @Nat.lt_of_lt_of_le:= @Nat.lt_of_lt_of_le
theorem mO:type_of% @Nat.lt_or_ge:= @Nat.lt_or_ge
theorem fp:type_of% @Nat.min_eq_left:= @Nat.min_eq_left
theorem dr:type_of% @Nat.mul_le_mul_right:= @Nat.mul_le_mul_right
theorem lh:type_of% @Nat.mul_one:= @Nat.mul_one
theorem lj:type_of% @Nat.one_mul:= @Nat.one_mul
theorem j5:type_of% @Nat.sub_eq_zero_of_le:= @Nat.sub_eq_zero_of_le
theorem aO:type_of% @Nat.zero_add:= @Nat.zero_add
theorem aV:type_of% @Nat.zero_le:= @Nat.zero_le
theorem mP:type_of% @Nat.zero_mul:= @Nat.zero_mul
theorem fq:type_of% @Option.getD_some:= @Option.getD_some
theorem cv:type_of% @Option.isSome_iff_exists:= @Option.isSome_iff_exists
theorem fB:type_of% @Option.map_eq_some_iff:= @Option.map_eq_some_iff
theorem eF:type_of% @Option.map_some:= @Option.map_some
theorem bB:type_of% @Option.some.inj:= @Option.some.inj
theorem ax:type_of% @Option.some.injEq:= @Option.some.injEq
theorem da:type_of% @Prod.mk.injEq:= @Prod.mk.injEq
theorem fe:type_of% @Sum.getRight?_inr:= @Sum.getRight?_inr
theorem gg:type_of% @Sum.isLeft_inr:= @Sum.isLeft_inr
end Go.Ab
namespace Go.Ab
inductive Ty where
 |int (k:IntKind) | bool | str | slice (t:Ty) | unit | pair (a b:Ty) | arr (n:Nat) (t:Ty)
 |iv (t:Ty)
 |oV (t:Ty)
 deriving DecidableEq,Inhabited
@[reducible] def Ty.den:Ty->Type
 | .int _=>Int
 | .bool=>Bool
 | .str=>ByteArray
 | .slice t=>List t.den
 | .unit=>Unit
 | .pair a b=>a.den×b.den
 | .arr _ t=>List t.den
 | .iv t=>Option (List t.den)
 | .oV t=>Option t.den
def Ty.size:Ty->Nat
 | .unit=>0
 | .pair a b=>a.size+b.size
 | .arr n t=>n*t.size
 | .int _ | .bool | .str | .slice _ | .iv _ | .oV _=>1
def Ty.agg:Ty->Bool
 | .unit | .pair _ _ | .arr _ _=>true
 | .int _ | .bool | .str | .slice _ | .iv _ | .oV _=>false
def Ty.zero:(t:Ty)->t.den
 | .int _=>(0:Int)
 | .bool=>false
 | .str=>ByteArray.empty
 | .slice _=> []
 | .unit=>()
 | .pair a b=>(a.zero,b.zero)
 | .arr n t=>List.replicate n t.zero
 | .iv _=>none
 | .oV _=>none
def Ty.comp:Ty->Bool
 | .slice _ | .iv _ | .oV _=>false
 | .pair a b=>a.comp && b.comp
 | .arr _ t=>t.comp
 | .int _ | .bool | .str | .unit=>true
def kL{α:Type}(f:α->α->Bool):List α->List α->Bool
 |[],[]=>true
 |x::xs,y::ys=>f x y && kL f xs ys
 |_,_=>false
def Ty.beq:(t:Ty)->t.den->t.den->Bool
 | .int _,x,y=>(x:Int)==y
 | .bool,x,y=>(x:Bool)==y
 | .str,x,y=>(x:ByteArray).toList==(y:ByteArray).toList
 | .slice t,x,y=>kL t.beq x y
 | .unit,_,_=>true
 | .pair a b,x,y=>a.beq x.1 y.1 && b.beq x.2 y.2
 | .arr _ t,x,y=>kL t.beq x y
 | .iv t,x,y=>kL t.beq (x.getD []) (y.getD [])
 | .oV _,_,_=>false
def py(t t':Ty)(x:t.den):Option t'.den:=if h:t=t' then some (h▸x) else none
def CN:(a b:Ty)->Option (a.den->b.den)
 | .iv t,.slice t'=>if h:t=t' then some λo=>cast (congrArg (λt:Ty=>List t.den) h) (o.getD []) else none
 | .slice t,.iv t'=>if h:t=t' then some λl=>some (cast (congrArg (λt:Ty=>List t.den) h) l) else none
 | .pair a b,.pair c d=>match CN a c,CN b d with
  |some f,some k=>some λx=>(f x.1,k x.2)
  |_,_=>none
 | .slice a,.slice b=>match CN a b with
  |some f=>some (List.map f)
  |none=>none
 |a,b=>if h:a=b then some (cast (congrArg Ty.den h)) else none
def Tm(a b:Ty)(x:a.den):b.den:=match CN a b with | some f=>f x | none=>b.zero
def uU(t t':Ty)(x:t.den):Option t'.den:=
 match py t t' x with
 |some y=>some y
 |none=>match CN t t' with
  |some f=>some (f x)
  |none=>none
def nth(t:Ty)(l:List t.den)(i:Nat):t.den:=l.getD i t.zero
inductive Id where
 |dB (k:Nat)
 |new (site j:Nat)
 deriving DecidableEq,Inhabited
inductive v8 where
 |fst | snd
 |idx (i:Nat)
 |arr
structure pv where
 y:Nat
 ps:Array Tmp
 as:Code
 b:Code
inductive az where
 |undef
 |gone
 |df | oI | qt | tl
 |d (t:Ty) (x:t.den)
 |pr (a b:az)
 |ptr (id:Id) (ver:Nat) (p:List v8) (n:Nat)
 |ed (t:Ty) (x:t.den)
 |cP (id:Id) (ver:Nat) (p:List v8) (c i len:Nat)
 |fn (f:FuncId) (caps:az)
 |cons (a b:az)
 |nil
 |vec (e:TypeId) (t:Ty) (l:List t.den)
 |sb (l:List Int)
 |bx (e:TypeId) (z:Nat) (c:az)
 |oh (id:Id) (ver:Nat)
 |mp (k v:Ty) (l:List (k.den×v.den))
 |oK (q:Id) (ver:Nat) (k v:Ty) (rest:List (k.den×v.den)) (cur:Option (k.den×v.den))
 |yl (id:Id) (ver:Nat)
 |qK (c:pv) (frame:az) (p:Nat)
inductive ea where
 |dead
 |obj (ver:Nat) (fr:Bool) (c:az)
structure AS where
 cO:List az
 cT:List ea
 news:List (List ea)
def bj(n:Nat)(l:List az):List az:=List.replicate n .undef++l
def cg(n:Nat)(l:List (List ea)):List (List ea):=List.replicate n []++l
inductive Out(α:Type):Type 1 where
 |ok (a:α)
 |fail
 |pf (c:Bool) (r:Out α)
 |get {β:Type} (x:Option β) (f:β->Out α)
 |br (c:Bool) (a b:Out α)
def Out.eval{α:Type}:Out α->Option α
 | .ok a=>some a
 | .fail=>none
 | .pf c r=>match c with | true=>r.eval | false=>none
 | .get x f=>match x with | some y=>(f y).eval | none=>none
 | .br c a b=>match c with | true=>a.eval | false=>b.eval
def aJ{α:Type}(c:Bool)(x y:Option α):Option α:=match c with | true=>x | false=>y
def av{α β:Type}(x:Option α)(f:α->Option β):Option β:=match x with | some a=>f a | none=>none
def Out.run{α R:Type}:Out α->(α->Option R)->Option R
 | .ok a,k=>k a
 | .fail,_=>none
 | .pf c r,k=>aJ c (r.run k) none
 | .get x f,k=>av x λy=>(f y).run k
 | .br c a b,k=>aJ c (a.run k) (b.run k)
def Out.bind{α β:Type}:Out α->(α->Out β)->Out β
 | .ok a,f=>f a
 | .fail,_=> .fail
 | .pf c r,f=> .pf c (r.bind f)
 | .get x g,f=> .get x λy=>(g y).bind f
 | .br c a b,f=> .br c (a.bind f) (b.bind f)
def Out.opt{α:Type}:Option α->Out α
 |some a=> .ok a
 |none=> .fail
def Out.guard{α:Type}(c:Bool)(r:Out α):Out α:=match c with | true=>r | false=> .fail
def az.size:az->Nat
 | .d t _=>t.size
 | .pr a b=>a.size+b.size
 |_=>1
def az.agg:az->Bool
 | .d t _=>t.agg
 | .pr _ _=>true
 |_=>false
def az.fg:az->Bool
 | .undef | .cons _ _ | .nil | .vec .. | .bx .. | .mp .. | .oK .. | .qK .. =>false
 |_=>true
def az.strip:az->az
 | .bx _ _ c=>c
 |c=>c
def az.wrap:az->az->az
 | .bx e z _,c=> .bx e z c
 |_,c=>c
def xW:az->az->az
 | .d a x,.d b y=> .d (.pair a b) (x,y)
 |a,b=> .pr a b
def ofConst:Value->az
 | .bool b=> .d .bool b
 | .int k n=> .d (.int k) n
 | .string s=> .d .str s
 | .slice none 0 0=> .df
 | .pointer none=> .oI
 | .nilFunc=> .qt
 | .map none=> .tl
 |_=> .undef
def AS.slot(s:AS)(i:Nat):az:=s.cO.getD i .undef
def AS.ev(s:AS):Operand->az
 | .tmp t=>s.slot t
 | .const v=>ofConst v
 | .func f=> .fn f .nil
 | .global _=> .undef
def AS.put(s:AS)(dst:Option Tmp)(v:az):AS:=
 match dst with
 |some t=> {s with cO:=s.cO.set t v}
 |none=>s
def AS.cz(s:AS):Id->Option ea
 | .dB k=>s.cT[k]?
 | .new i j=>(s.news.getD i [])[j]?
def AS.aX(s:AS)(id:Id)(e:ea):AS:=
 match id with
 | .dB k=> {s with cT:=s.cT.set k e}
 | .new i j=> {s with news:=s.news.set i ((s.news.getD i []).set j e)}
def AS.eh(s:AS)(i:Nat):Bool:=match s.news[i]? with | some []=>true | _=>false
def AS.born(s:AS)(i:Nat)(es:List ea):AS:= {s with news:=s.news.set i es}
def AS.obj(s:AS)(id:Id):Option (Nat×Bool×az):=
 match s.cz id with
 |some (.obj v f c)=>some (v,f,c)
 |_=>none
def Cy(P:Program)(nl:Bool):Nat->TypeId->Option Ty
 | 0,_=>none
 |n+1,T=>
  match P.underlying T with
  |some (.int k)=>some (.int k)
  |some .bool=>some .bool
  |some .string=>some .str
  |some (.slice e)=>match Cy P false n e with | some t=>some (match nl with | true=> .iv t | false=> .slice t) | none=>none
  |some (.array k e)=>match Cy P nl n e with | some t=>some (.arr k t) | none=>none
  |some (.pointer e)=>match Cy P false n e with | some t=>some (.oV t) | none=>none
  |some (.struct fs)=>fs.toList.foldr (λf acc=>match Cy P nl n f.type,acc with | some a,some b=>some (.pair a b) | _,_=>none) (some .unit)
  |_=>none
def Hd(P:Program):Nat->TypeId->Option Ty:=Cy P false
def zeroOf(P:Program):Nat->TypeId->Option az
 | 0,_=>none
 |n+1,T=>
  match P.underlying T with
  |some (.int k)=>some (.d (.int k) (0:Int))
  |some .bool=>some (.d .bool false)
  |some .string=>some (.d .str ByteArray.empty)
  |some (.slice _)=>some .df
  |some (.pointer _)=>some .oI
  |some (.map _ _)=>some .tl
  |some (.func _ _ _)=>some .qt
  |some (.array k e)=>match Hd P n e with | some t=>some (.d (.arr k t) (List.replicate k t.zero)) | none=>none
  |some (.struct fs)=>fs.toList.foldr (λf acc=>match zeroOf P n f.type,acc with | some a,some b=>some (xW a b) | _,_=>none) (some (.d .unit ()))
  |_=>none
def depth:Nat:=12
def fits(P:Program)(T:TypeId)(v:az):Bool:=
 v.fg && (P.cellsOf T==v.size) &&
 (match P.underlying T with | some (.struct _)=>v.agg | some (.array _ _)=>v.agg | some _=> !v.agg | none=>false)
def l9:Nat->List v8
 | 0=> [.fst]
 |n+1=> .snd::l9 n
def loc:az->List v8->Out (Nat×az)
 |c,[]=> .ok (0,c)
 |c,.arr::p=>loc c p
 | .pr a _,.fst::p=>loc a p
 | .pr a b,.snd::p=>(loc b p).bind λ(n,v)=> .ok (a.size+n,v)
 | .d (.pair a _) x,.fst::p=>loc (.d a x.1) p
 | .d (.pair a b) x,.snd::p=>(loc (.d b x.2) p).bind λ(n,v)=> .ok (a.size+n,v)
 | .d (.arr _ t) l,.idx i::p=> .pf (decide (i < (l:List t.den).length)) ((loc (.d t (nth t l i)) p).bind λ(n,v)=> .ok (i*t.size+n,v))
 | .vec _ t l,.idx i::p=> .pf (decide (i < l.length)) ((loc (.d t (nth t l i)) p).bind λ(n,v)=> .ok (i*t.size+n,v))
 |_,_::_=> .fail
def ri:az->List v8->az->Out az
 |c,.arr::p,v=>ri c p v
 | .vec ..,[],_=> .fail
 | .mp ..,[],_=> .fail
 | .oK ..,[],_=> .fail
 | .qK ..,[],_=> .fail
 |c,[],v=> .guard (v.fg && (c.size==v.size)) (.ok v)
 | .pr a b,.fst::p,v=>(ri a p v).bind λa'=> .ok (xW a' b)
 | .pr a b,.snd::p,v=>(ri b p v).bind λb'=> .ok (xW a b')
 | .d (.pair a b) x,.fst::p,v=>(ri (.d a x.1) p v).bind λa'=> .ok (xW a' (.d b x.2))
 | .d (.pair a b) x,.snd::p,v=>(ri (.d b x.2) p v).bind λb'=> .ok (xW (.d a x.1) b')
 | .d (.arr n t) l,.idx i::p,v=> .pf (decide (i < (l:List t.den).length)) ((ri (.d t (nth t l i)) p v).bind fun
   | .d t' y=>(Out.opt (py t' t y)).bind λy=> .ok (.d (.arr n t) ((l:List t.den).set i y))
   |_=> .fail)
 | .vec e t l,.idx i::p,v=> .pf (decide (i < l.length)) ((ri (.d t (nth t l i)) p v).bind fun
   | .d t' y=>(Out.opt (py t' t y)).bind λy=> .ok (.vec e t (l.set i y))
   |_=> .fail)
 |_,_::_,_=> .fail
def AS.row(s:AS)(id:Id)(ver:Nat)(p:List v8):Out (Nat×(t:Ty)×List t.den):=
 match s.obj id with
 |some (v,_,c)=> .guard (v==ver) ((loc c.strip p).bind fun
  | (n,.d (.arr _ t) l)=> .ok (n,⟨t,l⟩)
  | (n,.vec _ t l)=> .ok (n,⟨t,l⟩)
  |_=> .fail)
 |none=> .fail
def cut{α:Type}(l:List α)(i len:Nat):List α:=(l.drop i).take len
def AS.jj(s:AS):(t:Ty)->az->Out t.den
 |t,.d t' x=>Out.opt (uU t' t x)
 | .slice _,.df=> .ok []
 | .iv _,.df=> .ok none
 | .slice t,.cP id ver p c i len=>(s.row id ver p).bind λr=> .pf (decide (r.1+i*r.2.1.size=c/\i+len<=r.2.2.length)) (Out.opt (uU (.slice r.2.1) (.slice t) (cut r.2.2 i len)))
 | .iv t,.cP id ver p c i len=>(s.row id ver p).bind λr=> .pf (decide (r.1+i*r.2.1.size=c/\i+len<=r.2.2.length)) (Out.opt (uU (.slice r.2.1) (.iv t) (cut r.2.2 i len)))
 | .pair a b,.pr x y=>(s.jj a x).bind λx=>(s.jj b y).bind λy=> .ok (x,y)
 |_,_=> .fail
def az.shared:az->List Id
 | .cP id _ _ _ _ _=> [id]
 | .pr a b=>a.shared++b.shared
 |_=> []
def AS.freeze(s:AS)(id:Id):AS:=
 match s.cz id with
 |some (.obj v _ c)=>s.aX id (.obj v true c)
 |_=>s
def AS.bD(s:AS):List Id->AS
 |[]=>s
 |id::ids=>(s.freeze id).bD ids
end Go.Ab
namespace Go.Ab
def LA{α:Type}(f:α->List Value->Option (List Value)):List α->List Value->Option (List Value)
 |[],cs=>some cs
 |x::xs,cs=>match f x cs with | some r=>LA f xs r | none=>none
def rq:(t:Ty)->t.den->List Value->Option (List Value)
 | .int k,x,.int k' n::r=>match decide (k=k'),decide (n=(x:Int)) with | true,true=>some r | _,_=>none
 | .bool,x,.bool b::r=>match decide (b=(x:Bool)) with | true=>some r | false=>none
 | .str,x,.string s::r=>match decide (s=(x:ByteArray)) with | true=>some r | false=>none
 | .slice _,[],.slice none 0 0::r=>some r
 | .iv _,none,.slice none 0 0::r=>some r
 | .oV _,none,.pointer none::r=>some r
 | .unit,_,r=>some r
 | .pair a b,x,r=>match rq a x.1 r with | some r'=>rq b x.2 r' | none=>none
 | .arr n t,l,r=>match decide ((l:List t.den).length=n) with | true=>LA (rq t) l r | false=>none
 |_,_,_=>none
def Ao:az->List Value->Option (List Value)
 | .d t x,r=>rq t x r
 | .df,.slice none 0 0::r=>some r
 | .oI,.pointer none::r=>some r
 | .qt,.nilFunc::r=>some r
 | .tl,.map none::r=>some r
 | .pr a b,r=>match Ao a r with | some r'=>Ao b r' | none=>none
 |_,_=>none
def oc:Value->Bool | .agg _=>true | _=>false
def E8(P:Program)(T:TypeId)(z:az):Bool:=
 match P.info? T with
 |some i=>match i.zero with
  |some zv=>(match Ao z zv.cells.toList with | some []=>true | _=>false) && (oc zv==z.agg)
  |none=>false
 |none=>false
structure kr where
 val:az
 cT:List ea
 news:List ea
structure Entry where
 params:List (Option Ty)
 X:Type
 run:List az->List ea->Option X
 out:List az->List ea->X->kr
 sp:X->Out X:= .ok
 O0:∀x y,(sp x).eval=some y->y=x:=by exact λx y h=>(bB h).symm
abbrev qd:=FuncId->List az->Option Entry
def az.ids:az->List Id
 | .ptr id _ _ _=> [id]
 | .cP id _ _ _ _ _=> [id]
 | .pr a b=>a.ids++b.ids
 | .cons a b=>a.ids++b.ids
 | .fn _ c=>c.ids
 | .bx _ _ c=>c.ids
 | .oh id _=> [id]
 | .yl id _=> [id]
 | .qK _ f _=>f.ids
 | .oK id _ _ _ _ _=> [id]
 |_=> []
def ea.ids:ea->List Id
 | .obj _ _ c=>c.ids
 | .dead=> []
def AS.reach(s:AS):Nat->List Id->List Id->List Id
 | 0,_,acc=>acc
 |_+1,[],acc=>acc
 |n+1,id::todo,acc=>if acc.contains id then s.reach n todo acc else s.reach n (((s.cz id).getD .dead).ids++todo) (acc++ [id])
def idxOf(id:Id):List Id->Option Nat
 |[]=>none
 |x::xs=>if x=id then some 0 else(idxOf id xs).map (· +1)
def az.ja(ρ:Id->Nat->Option (Id×Nat)):az->az
 | .ptr id ver p n=>match ρ id ver with | some r=> .ptr r.1 r.2 p n | none=> .gone
 | .cP id ver p c i len=>match ρ id ver with | some r=> .cP r.1 r.2 p c i len | none=> .gone
 | .pr a b=> .pr (a.ja ρ) (b.ja ρ)
 | .cons a b=> .cons (a.ja ρ) (b.ja ρ)
 | .fn f c=> .fn f (c.ja ρ)
 | .bx e z c=> .bx e z (c.ja ρ)
 | .oh id ver=>match ρ id ver with | some r=> .oh r.1 r.2 | none=> .gone
 | .yl id ver=>match ρ id ver with | some r=> .yl r.1 r.2 | none=> .gone
 | .qK k f p=> .qK k (f.ja ρ) p
 | .oK id _ k v rest cur=> .oK id 0 k v rest cur
 |v=>v
def AS.qE(s:AS)(ids:List Id)(id:Id)(ver:Nat):Option (Id×Nat):=
 match idxOf id ids,s.obj id with
 |some k,some (v,_,_)=>if v=ver then some (.dB k,0) else none
 |_,_=>none
def AS.lR(s:AS)(ids:List Id)(id:Id):ea:=
 match s.cz id with
 |some (.obj _ fr c)=> .obj 0 fr (c.ja (s.qE ids))
 |_=> .dead
def AS.tc(s:AS)(id:Id):Nat:=match s.obj id with | some (v,_,_)=>v | none=>0
def OK(ids:List Id)(dst:Nat):Id->Id
 | .dB k=>ids.getD k (.dB 0)
 | .new _ j=> .new dst j
def AS.pK(s:AS)(ids:List Id)(dst:Nat):Id->Nat->Option (Id×Nat)
 | .dB k,v=>match ids[k]? with | some id=>some (id,s.tc id+v) | none=>none
 | .new _ j,v=>some (.new dst j,v)
def AS.nS(s:AS)(ids:List Id)(dst:Nat)(ver:Nat):ea->ea
 | .obj v fr c=> .obj (ver+v) fr (c.ja (s.pK ids dst))
 | .dead=> .dead
def AS.conv(s:AS):List (Option Ty)->List az->Out (List az×List Id)
 |[],[]=> .ok ([],[])
 |some t::ps,v::vs=>(s.jj t v).bind λx=>(s.conv ps vs).bind λr=> .ok (.d t x::r.1,v.shared++r.2)
 |none::ps,v::vs=>(s.conv ps vs).bind λr=> .ok (v::r.1,r.2)
 |_,_=> .fail
def AS.jF(s0:AS)(all:List Id)(dst:Nat)(s:AS):List Id->List ea->AS
 |id::ids,e::es=>AS.jF s0 all dst (s.aX id (s0.nS all dst (s0.tc id) e)) ids es
 |_,_=>s
def az.list:az->List az
 | .cons a b=>a::b.list
 |_=> []
def AS.made(s:AS)(ids:List Id)(t:Nat):List ea->AS
 |[]=>s
 |e::es=>s.born t ((e::es).map (s.nS ids t 0))
def AS.back(s:AS)(ids:List Id)(dst:Option Tmp)(g:kr):Out AS:=
 match dst with
 |some t=> .guard ((g.cT.length==ids.length) && (g.news.isEmpty || s.eh t))
   (.ok ((AS.jF s ids t (s.made ids t g.news) ids g.cT).put dst (g.val.ja (s.pK ids t))))
 |none=> .guard ((g.cT.length==ids.length) && g.news.isEmpty) (.ok (AS.jF s ids 0 s ids g.cT))
def AS.Jg(s:AS)(vs:List az):List Id:=s.reach 64 (vs.flatMap az.ids) []
def AS.BC(s:AS)(id:Id):Bool:=match s.obj id with | some (_,true,.mp ..)=>false | _=>true
def AS.enter(s:AS)(en:Entry)(dst:Option Tmp)(ids:List Id)(vs:List az):Out AS:=
 .guard (ids.all λid=>(s.obj id).isSome && s.BC id)
  (.get (en.run (vs.map (az.ja (s.qE ids))) (ids.map (s.lR ids))) λx=>(en.sp x).bind λx=>s.back ids dst (en.out (vs.map (az.ja (s.qE ids))) (ids.map (s.lR ids)) x))
def AS.call(s:AS)(en:Entry)(dst:Option Tmp)(vs:List az):Out AS:=
 (s.conv en.params vs).bind λr=>(s.bD r.2).enter en dst ((s.bD r.2).Jg r.1) r.1
def cW(op:BinOp)(k:IntKind)(x y:Int):Int:=
 match op with
 | .and=>k.wrap ((BitVec.ofInt k.bits x &&& BitVec.ofInt k.bits y).toNat)
 | .or=>k.wrap ((BitVec.ofInt k.bits x ||| BitVec.ofInt k.bits y).toNat)
 | .xor=>k.wrap ((BitVec.ofInt k.bits x^^^BitVec.ofInt k.bits y).toNat)
 |_=>k.wrap ((BitVec.ofInt k.bits x &&& ~~~BitVec.ofInt k.bits y).toNat)
def LY(op:BinOp)(k:IntKind)(x:Int)(k':IntKind)(y:Int):Out az:=
 match op with
 | .shl=> .pf (decide (0<=y)) (.ok (.d (.int k) (k.wrap (x*2^(min y.toNat k.bits)))))
 | .shr=> .pf (decide (0<=y)) (.ok (.d (.int k) (x.fdiv (2^(min y.toNat k.bits)))))
 |_=> .guard (decide (k=k')) (match op with
  | .add=> .ok (.d (.int k) (k.wrap (x+y)))
  | .sub=> .ok (.d (.int k) (k.wrap (x - y)))
  | .mul=> .ok (.d (.int k) (k.wrap (x*y)))
  | .quo=> .pf (!(decide (y=0))) (.ok (.d (.int k) (k.wrap (x.tdiv y))))
  | .rem=> .pf (!(decide (y=0))) (.ok (.d (.int k) (x.tmod y)))
  | .eql=> .ok (.d .bool (x==y))
  | .neq=> .ok (.d .bool (x !=y))
  | .lss=> .ok (.d .bool (decide (x < y)))
  | .leq=> .ok (.d .bool (decide (x<=y)))
  | .gtr=> .ok (.d .bool (decide (x > y)))
  | .geq=> .ok (.d .bool (decide (x>=y)))
  |op=> .ok (.d (.int k) (cW op k x y)))
def MP(op:BinOp)(x y:ByteArray):Out az:=
 match op with
 | .add=> .pf (decide (((x.size+y.size:Nat):Int)<=IntKind.i64.max)) (.ok (.d .str (x++y)))
 | .eql=> .ok (.d .bool (x.toList==y.toList))
 | .neq=> .ok (.d .bool (!(x.toList==y.toList)))
 | .lss=> .ok (.d .bool (Op.bytesLess x.toList y.toList))
 | .geq=> .ok (.d .bool (!(Op.bytesLess x.toList y.toList)))
 |_=> .fail
def w8(P:Program)(T:TypeId)(b:Bool):Bool:=
 match P.underlying T with | some (.struct _)=>b | some (.array _ _)=>b | some _=> !b | none=>false
def wU(P:Program)(pf:TypeId->Ty->Bool):List Field->Ty->Nat->Bool
 |[],.unit,_=>true
 |f::fs,.pair a b,off=> !(f.name== "_") && (f.offset==off) && !(a.size==0) && (P.cellsOf f.type==a.size) && w8 P f.type a.agg && pf f.type a && wU P pf fs b (off+a.size)
 |_,_,_=>false
def ov(P:Program):Nat->TypeId->Ty->Bool
 | 0,_,_=>false
 |n+1,T,t=>match P.underlying T,t with
  |some (.int _),.int _=>true
  |some .bool,.bool=>true
  |some .string,.str=>true
  |some (.array m e),.arr m' t'=>(m==m') && !(t'.size==0) && (P.cellsOf e==t'.size) && w8 P e t'.agg && ov P n e t'
  |some (.struct fs),t=> !P.stoodInHeld T && wU P (ov P n) fs.toList t 0
  |_,_=>false
def sP(P:Program)(T:TypeId):az->az->Out Bool
 | .d t x,.d t' y=>(Out.opt (py t' t y)).bind λy=> .guard ((t.agg && !P.eqGuardType P.depth T || decide (t= .bool)) && ov P depth T t) (.ok (t.beq x y))
 | .df,.df=> .guard (isSl P T) (.ok true)
 | .d (.slice t) l,.df=> .guard (isSl P T) (.pf (decide (0 < (l:List t.den).length)) (.ok false))
 | .df,.d (.slice t) l=> .guard (isSl P T) (.pf (decide (0 < (l:List t.den).length)) (.ok false))
 | .cP _ _ _ _ _ len,.df=> .guard (isSl P T) (.pf (decide (0 < len)) (.ok false))
 | .df,.cP _ _ _ _ _ len=> .guard (isSl P T) (.pf (decide (0 < len)) (.ok false))
 | .oI,.oI=> .guard (isPt P T) (.ok true)
 | .ptr ..,.oI=> .guard (isPt P T) (.ok false)
 | .oI,.ptr .. => .guard (isPt P T) (.ok false)
 | .d (.oV t) x,.oI=> .guard (isPt P T) (.ok (x:Option t.den).isNone)
 | .oI,.d (.oV t) x=> .guard (isPt P T) (.ok (x:Option t.den).isNone)
 | .qt,.qt=> .guard (isFn P T) (.ok true)
 | .fn ..,.qt=> .guard (isFn P T) (.ok false)
 | .qt,.fn .. => .guard (isFn P T) (.ok false)
 |_,_=> .fail
where
 isSl (P:Program) (T:TypeId):Bool:=match P.underlying T with | some (.slice _)=>true | _=>false
 isPt (P:Program) (T:TypeId):Bool:=match P.underlying T with | some (.pointer _)=>true | _=>false
 isFn (P:Program) (T:TypeId):Bool:=match P.underlying T with | some (.func _ _ _)=>true | _=>false
def O9(P:Program)(T:TypeId)(op:BinOp)(x y:az):Out az:=
 match x,y with
 | .d (.int k) a,.d (.int k') b=>LY op k a k' b
 | .d .str a,.d .str b=>MP op a b
 |x,y=>match op with
  | .eql=>(sP P T x y).bind λb=> .ok (.d .bool b)
  | .neq=>(sP P T x y).bind λb=> .ok (.d .bool (!b))
  |_=> .fail
def S5(op:UnOp)(x:az):Out az:=
 match op,x with
 | .not,.d .bool b=> .ok (.d .bool (!b))
 | .neg,.d (.int k) n=> .ok (.d (.int k) (k.wrap (0 - n)))
 | .xor,.d (.int k) n=> .ok (.d (.int k) (cW .xor k (if k.signed then -1 else k.max) n))
 |_,_=> .fail
def bC(s:ByteArray):List Int:=s.data.toList.map λb=>(b.toNat:Int)
def fD(l:List Int):ByteArray:=⟨(l.map λn=>UInt8.ofNat n.toNat).toArray⟩
def AS.Ip(s:AS)(t:Ty)(v:az):Out t.den:=s.jj t v
def Lu(P:Program)(s:AS)(obj:Bool)(src dst:TypeId)(x:az):Out az:=
 match x,P.underlying dst,P.underlying src with
 | .d (.int _) n,some (.int k),some _=> .ok (.d (.int k) (k.wrap n))
 | .d .str a,some .string,some _=> .ok (.d .str a)
 | .d .str a,some (.slice e),some _=>match P.underlying e with
  |some (.int .u8)=>match obj with | true=> .ok (.sb (bC a)) | false=> .ok (.d (.slice (.int .u8)) (bC a))
  |_=> .fail
 |x,some .string,some (.slice e)=>match P.underlying e with
  |some (.int .u8)=>(s.Ip (.slice (.int .u8)) x).bind λl=> .ok (.d .str (fD l))
  |_=> .fail
 |_,_,_=> .fail
def Lv(P:Program)(src dst:TypeId)(l:List Int):Out az:=
 match P.underlying dst,P.underlying src with
 |some (.slice e),some (.slice _)=>match P.underlying e with
  |some (.int .u8)=> .guard (src==dst) (.ok (.d (.slice (.int .u8)) l))
  |_=> .fail
 |_,_=> .fail
def Dj(P:Program)(s:AS)(obj:Bool)(src dst:TypeId)(x:az):Out az:=
 match x with
 | .sb l=>Lv P src dst l
 |x=>Lu P s obj src dst x
def FK(P:Program)(s:AS)(d:Option Tmp)(src dst:TypeId)(id:Id)(ver len:Nat):Out AS:=
 match s.obj id,P.underlying dst with
 |some (v,false,.vec _ (.int .u8) l),some (.slice e)=>match P.underlying e with
  |some (.int .u8)=> .guard ((v==ver) && (src==dst)) (.pf (decide (0 < len/\len=(l:List Int).length)) (.ok ((s.aX id .dead).put d (.d (.slice (.int .u8)) l))))
  |_=> .fail
 |_,_=> .fail
def Dk(P:Program)(s:AS)(src dst:TypeId)(id:Id)(ver:Nat):Out az:=
 match s.obj id with
 |some (v,_,.bx e 0 c)=>match P.underlying src,P.underlying dst with
  |some (.pointer t),some .unsafePointer=> .guard ((v==ver) && !(P.cellsOf t==0) && !(c.size==0)) (.ok (.ptr id ver [] 0))
  |some .unsafePointer,some (.pointer u)=> .guard ((v==ver) && !(P.cellsOf u==0) && liesAt P P.depth e (c.size / P.cellsOf e) 0 u 1) (.ok (.ptr id ver [] 0))
  |_,_=> .fail
 |_=> .fail
def Ss(P:Program)(T:TypeId):Bool:=match P.underlying T with | some (.pointer u)=>(P.info? u).isSome | _=>false
def QF(P:Program)(s:AS)(T:TypeId)(op:BinOp)(i:Id)(v:Nat)(j:Id)(w:Nat):Out az:=
 match s.obj i with
 |some (v',_,_)=> .guard (decide (i=j) && (v==w) && (v==v') && Ss P T) (match op with | .eql=> .ok (.d .bool true) | .neq=> .ok (.d .bool false) | _=> .fail)
 |none=> .fail
def G9(P:Program)(s:AS)(d:Option Tmp)(T:TypeId)(id:Id)(ver:Nat)(n:Int):Out AS:=
 match s.obj id,P.underlying T with
 |some (v,false,.vec e (.int .u8) l),some (.pointer u)=> .guard ((v==ver) && (u==e) && (P.cellsOf e==1))
   (.pf (decide (0 < n/\n<=((l:List Int).length:Int))) (.ok ((s.aX id .dead).put d (.d .str (fD ((l:List Int).take n.toNat))))))
 |_,_=> .fail
def asInt:az->Out Int
 | .d (.int _) n=> .ok n
 |_=> .fail
def bounds(s:AS)(n:Nat)(lo hi:Option Operand):Out (Nat×Nat):=
 (match hi with
  |some h=>(asInt (s.ev h)).bind λh=> .pf (decide (0<=h/\h<=(n:Int))) (.ok h.toNat)
  |none=> .ok n).bind λh=>
 (match lo with
  |some l=>(asInt (s.ev l)).bind λl=> .pf (decide (0<=l/\l<=(h:Int))) (.ok l.toNat)
  |none=> .ok 0).bind λl=> .ok (l,h)
def ki(P:Program)(T:TypeId):Option Nat:=
 match P.underlying T with
 |some (.array _ e)=>match P.cellsOf e with | 0=>none | z+1=>some (z+1)
 |some (.slice e)=>match P.cellsOf e with | 0=>none | z+1=>some (z+1)
 |_=>none
def ra(P:Program)(T:TypeId):Option Nat:=
 match P.underlying T with
 |some (.array n _)=>some n
 |_=>none
def vz(P:Program)(s:AS)(T:TypeId)(x:az)(lo hi:Option Operand):Out az:=
 match x with
 | .d .str a=> .guard (match P.underlying T with | some .string=>true | _=>false) ((bounds s a.size lo hi).bind λb=> .ok (.d .str (a.extract b.1 b.2)))
 | .d (.slice t) l=> .guard (match ki P T,ra P T with | some z,none=>z==t.size | _,_=>false)
   ((bounds s (l:List t.den).length lo hi).bind λb=> .ok (.d (.slice t) (cut l b.1 (b.2 - b.1))))
 | .df=> .guard (match ki P T,ra P T with | some _,none=>true | _,_=>false) ((bounds s 0 lo hi).bind λ_=> .ok .df)
 | .cP id ver p c i len=>(s.row id ver p).bind λr=> .guard (match ki P T,ra P T with | some z,none=>z==r.2.1.size | _,_=>false)
   ((bounds s len lo hi).bind λb=> .ok (.cP id ver p (c+b.1*r.2.1.size) (i+b.1) (b.2 - b.1)))
 | .ptr id ver p n=>(s.row id ver p).bind λr=> .guard (match ki P T,ra P T with | some z,some _=>z==r.2.1.size | _,_=>false)
   (.pf (decide (ra P T=some r.2.2.length/\r.1=n)) ((bounds s ((ra P T).getD 0) lo hi).bind λb=> .ok (.cP id ver (p++ [.arr]) (n+b.1*r.2.1.size) b.1 (b.2 - b.1))))
 | .ed (.arr n t) l=> .guard (match ki P T,ra P T with | some z,some m=>(z==t.size) && (m==n) | _,_=>false)
   ((bounds s n lo hi).bind λb=> .ok (.d (.slice t) (cut l b.1 (b.2 - b.1))))
 |_=> .fail
def NO:az->Int
 | .d (.slice t) l=>((l:List t.den).length:Int)
 | .cP _ _ _ _ _ len=>(len:Int)
 | .df=>0
 |_=> -1
def FM:Option Operand->az->az
 |some _,.cP id ver p c i len=> .cP id ver (p++ [.arr]) c i len
 |_,v=>v
def yz(P:Program)(s:AS)(T:TypeId)(x:az)(lo:Option Operand)(h m:Operand):Out az:=
 (asInt (s.ev h)).bind λhv=>(asInt (s.ev m)).bind λmv=> .pf (decide (0<=hv/\hv<=mv/\mv<=NO x)) ((vz P s T x lo (some h)).bind λv=> .ok (FM (some m) v))
def nZ(P:Program)(s:AS)(T:TypeId)(x:az)(i:Int):Out az:=
 match x with
 | .d (.slice t) l=> .guard (match ki P T,ra P T with | some z,none=>z==t.size | _,_=>false)
   (.pf (decide (0<=i/\i < ((l:List t.den).length:Int))) (.ok (.ed t (nth t l i.toNat))))
 | .ed (.arr n t) l=> .guard (match ki P T,ra P T with | some z,some m=>(z==t.size) && (m==n) | _,_=>false)
   (.pf (decide (0<=i/\i < (n:Int))) (.ok (.ed t (nth t l i.toNat))))
 | .cP id ver p c j len=>(s.row id ver p).bind λr=> .guard (match ki P T,ra P T with | some z,none=>z==r.2.1.size | _,_=>false)
   (.pf (decide (0<=i/\i < (len:Int))) (.ok (.ptr id ver (p++ [.idx (j+i.toNat)]) (c+i.toNat*r.2.1.size))))
 | .ptr id ver p n=> .guard (match ki P T,ra P T with | some _,some _=>true | _,_=>false)
   (.pf (decide (0<=i/\i < (((ra P T).getD 0:Nat):Int))) (.ok (.ptr id ver (p++ [.idx i.toNat]) (n+i.toNat*(ki P T).getD 0))))
 |_=> .fail
def fieldInfo(P:Program)(T:TypeId)(f:Nat):Option (Nat×TypeId):=
 match P.underlying T with
 |some (.struct fs)=>match fs[f]? with | some x=>some (x.offset,x.type) | none=>none
 |_=>none
def partOf:az->Nat->Option (Nat×az)
 | .d (.pair a _) x,0=>some (0,.d a x.1)
 | .d (.pair a b) x,n+1=>match partOf (.d b x.2) n with | some (o,v)=>some (a.size+o,v) | none=>none
 | .pr a _,0=>some (0,a)
 | .pr a b,n+1=>match partOf b n with | some (o,v)=>some (a.size+o,v) | none=>none
 |_,_=>none
def tV(P:Program)(T:TypeId)(x:az)(f:Nat):Out az:=
 match fieldInfo P T f with
 |some (o,ft)=> .guard (!(P.cellsOf ft==0)) (match x with
  | .ptr id ver p n=> .ok (.ptr id ver (p++l9 f) (n+o))
  | .ed t x=>match partOf (.d t x) f with
   |some (o',.d t' y)=> .guard (o==o') (.ok (.ed t' y))
   |_=> .fail
  | .d (.oV t) x=> .get (x:Option t.den) λx=>match partOf (.d t x) f with
   |some (o',.d t' y)=> .guard (o==o') (.ok (.ed t' y))
   |_=> .fail
  |_=> .fail)
 |none=> .fail
def Er(P:Program)(T:TypeId)(x:az)(f:Nat):Out az:=
 match fieldInfo P T f,partOf x f with
 |some (o,ft),some (o',v)=> .guard ((o==o') && fits P ft v) (.ok v)
 |_,_=> .fail
def EC(P:Program)(T:TypeId)(x:az)(i:Int):Out az:=
 match x,P.underlying T with
 | .d (.arr n t) l,some (.array m e)=> .guard ((n==m) && fits P e (.d t t.zero)) (.pf (decide (0<=i/\i < (n:Int))) (.ok (.d t (nth t l i.toNat))))
 | .d .str a,some .string=> .pf (decide (0<=i/\i < (a.size:Int))) (.ok (.d (.int .u8) ((a.data.toList.getD i.toNat 0).toNat:Int)))
 |_,_=> .fail
def Qi:az->Out az
 | .d (.iv t) l=> .pf (l:Option (List t.den)).isNone (.ok .df)
 |v=> .ok v
def xU(P:Program)(s:AS)(T:TypeId)(x:az):Out az:=
 match x with
 | .ptr id ver p n=>match s.obj id with
  |some (v,_,c)=> .guard (v==ver) ((loc c.strip p).bind λr=> .guard (fits P T r.2) (.pf (decide (r.1=n)) (Qi r.2)))
  |none=> .fail
 | .ed t y=> .guard (fits P T (.d t y)) (.ok (.d t y))
 | .d (.oV t) y=> .get (y:Option t.den) λy=> .guard (fits P T (.d t y)) (.ok (.d t y))
 |_=> .fail
def vA(P:Program)(s:AS)(T:TypeId)(x v:az):Out AS:=
 match x with
 | .ptr id ver p n=>match s.obj id with
  |some (ve,fr,c)=> .guard ((ve==ver) && !fr && fits P T v) ((loc c.strip p).bind λr=> .guard (fits P T r.2) (.pf (decide (r.1=n)) ((ri c.strip p v).bind λc'=> .ok (s.aX id (.obj ve fr (c.wrap c'))))))
  |none=> .fail
 |_=> .fail
def NN(P:Program)(T:TypeId)(x:az):Out az:=
 match P.underlying T,x with
 |some .string,.d .str a=> .ok (.d (.int .i64) (a.size:Int))
 |some (.slice _),.d (.slice t) l=> .ok (.d (.int .i64) ((l:List t.den).length:Int))
 |some (.slice _),.df=> .ok (.d (.int .i64) (0:Int))
 |some (.slice _),.cP _ _ _ _ _ len=> .ok (.d (.int .i64) (len:Int))
 |some (.array n _),_=> .ok (.d (.int .i64) (n:Int))
 |_,_=> .fail
def vf(P:Program)(s:AS)(t:Ty)(X:TypeId)(x:az):Out (List t.den):=
 match x with
 | .d .str a=>match P.underlying X with
  |some .string=>Out.opt (py (.slice (.int .u8)) (.slice t) (bC a))
  |_=> .fail
 |x=>match P.underlying X with
  |some (.slice _)=>s.Ip (.slice t) x
  |_=> .fail
def dG(n b:Nat):Bool:=decide (n*b<=140737488355328/\n<=9223372036854775807)
def tT(P:Program)(nl:Bool)(T:TypeId):Option (TypeId×Ty×Nat):=
 match P.underlying T with
 |some (.slice e)=>match Cy P nl depth e with
  |some t=>match(P.cellsOf e==t.size) && !(t.size==0) && E8 P e (.d t t.zero) with | true=>some (e,t,P.bytesOf e) | false=>none
  |none=>none
 |_=>none
def AD(P:Program)(T:TypeId):Option (TypeId×Ty×Nat):=tT P false T
def Em(P:Program)(T:TypeId):Option (TypeId×Ty×Nat):=
 match Nat.ble 100000 T with
 |true=>tT P true (T - 100000)
 |false=>tT P false T
def F1(P:Program)(s:AS)(dst:Option Tmp)(T X:TypeId)(n:Int):Out AS:=
 match AD P T,dst,P.underlying X with
 |some (e,t,b),some q,some (.int _)=> .guard (s.eh q) (.pf (decide (0 < n) && dG n.toNat b)
   (.ok ((s.born q [.obj 0 false (.vec e t (List.replicate n.toNat t.zero))]).put dst (.cP (.new q 0) 0 [] 0 0 n.toNat))))
 |_,_,_=> .fail
def Km(mx:Bool):List az->Out az
 |[.d (.int k) x,.d (.int k') y]=> .guard (decide (k=k')) (.ok (.d (.int k) (match mx with | true=>(if x < y then y else x) | false=>(if y < x then y else x))))
 |[.d (.int k) x,.d (.int k') y,.d (.int k2) z]=> .guard (decide (k=k') && decide (k=k2)) (.ok (.d (.int k) (match mx with | true=>(if(if x < y then y else x) < z then z else(if x < y then y else x)) | false=>(if z < (if y < x then y else x) then z else(if y < x then y else x)))))
 |_=> .fail
def rk(P:Program)(s:AS)(nl dt:Bool)(dst:Option Tmp)(T X:TypeId)(x y:az):Out AS:=
 match tT P nl T,dst with
 |some (e,t,b),some q=>(vf P s t X y).bind λm=>
  match x with
  | .df=>match dt with
   |true=> .pf (dG m.length b && decide (0 < m.length)) (.ok (s.put dst (.d (.iv t) (some m))))
   |false=> .guard (s.eh q) (.pf (dG m.length b) (.ok ((s.born q [.obj 0 false (.vec e t m)]).put dst (.cP (.new q 0) 0 [] 0 0 m.length))))
  | .cP id ver [] 0 0 len=>match s.obj id with
   |some (v,fr,.vec e' t' l)=> .guard ((v==ver) && (e==e')) ((Out.opt (py (.slice t') (.slice t) l)).bind λl=>
     .pf (decide (len<=l.length)) <| .pf ((!fr) || decide (len=l.length)) (.pf (dG (len+m.length) b)
      (.ok ((s.aX id (.obj (v+1) fr (.vec e t (l.take len++m)))).put dst (.cP id (v+1) [] 0 0 (len+m.length))))))
   |_=> .fail
  |_=> .fail
 |_,_=> .fail
def A7(P:Program)(s:AS)(dst:Option Tmp)(T X:TypeId)(x y:az):Out AS:=
 match AD P T,x with
 |some (_,t,_),.cP id ver [.arr] 0 0 len=>(vf P s t X y).bind λm=>match s.obj id with
  |some (ve,false,.d (.arr n t') l)=> .guard ((ve==ver) && (len==n)) ((Out.opt (py (.slice t') (.slice t) l)).bind λl=> .pf (decide (m.length<=n))
    (.ok ((s.aX id (.obj ve false (.d (.arr n t) (m++(l:List t.den).drop m.length)))).put dst (.d (.int .i64) (m.length:Int)))))
  |_=> .fail
 |_,_=> .fail
def jy(t:Ty)(s:AS):List (Nat×Operand)->List t.den->Out (List t.den×List Id)
 |[],l=> .ok (l,[])
 | (i,x)::ps,l=> .guard (decide (i < l.length)) ((s.jj t (s.ev x)).bind λy=>(jy t s ps (l.set i y)).bind λr=> .ok (r.1,(s.ev x).shared++r.2))
def mZ(P:Program)(fs:Array Field)(s:AS):List (Nat×Operand)->az->Out az
 |[],v=> .ok v
 | (i,x)::ps,v=>match fs[i]?,partOf v i with
  |some f,some (o,dB)=> .guard ((f.offset==o) && fits P f.type dB && fits P f.type (s.ev x)) ((ri v (l9 i) (s.ev x)).bind λv'=>mZ P fs s ps v')
  |_,_=> .fail
def uR(P:Program)(s:AS)(dst:Option Tmp)(T:TypeId)(parts:List (Nat×Operand)):Out AS:=
 match P.underlying T with
 |some (.struct fs)=>match zeroOf P depth T with
  |some z=> .guard (E8 P T z && z.agg && fs.toList.all λf=>(P.info? f.type).isSome)
    ((mZ P fs s parts z).bind λv=> .ok (s.put dst v))
  |none=> .fail
 |some (.array n e)=>match Hd P depth e with
  |some t=> .guard ((P.cellsOf e==t.size) && E8 P T (.d (.arr n t) (List.replicate n t.zero))) ((jy t s parts (List.replicate n t.zero)).bind λr=> .ok ((s.bD r.2).put dst (.d (.arr n t) r.1)))
  |none=> .fail
 |_=> .fail
def ln(P:Program)(s:AS)(nl obj:Bool)(dst:Option Tmp)(T:TypeId)(n:Nat)(parts:List (Nat×Operand)):Out AS:=
 match tT P nl T,dst with
 |some (e,t,_),some q=> .guard (decide (n*t.size<=16777216)) ((jy t s parts (List.replicate n t.zero)).bind λr=>
   match obj with
   |true=> .guard (s.eh q) (.ok (((s.bD r.2).born q [.obj 0 false (.vec e t r.1)]).put dst (.cP (.new q 0) 0 [] 0 0 r.1.length)))
   |false=> .ok ((s.bD r.2).put dst (.d (.slice t) r.1)))
 |_,_=> .fail
def og(P:Program)(s:AS)(dst:Option Tmp)(T:TypeId)(len cap:Int):Out AS:=
 match AD P T,dst with
 |some (e,t,b),some q=> .guard (s.eh q) (.pf (decide (0<=len/\len<=cap) && dG cap.toNat b)
   (.ok ((s.born q [.obj 0 false (.vec e t (List.replicate len.toNat t.zero))]).put dst (.cP (.new q 0) 0 [] 0 0 len.toNat))))
 |_,_=> .fail
def N2(P:Program)(T:TypeId):Bool:=
 match P.underlying T with
 |some (.struct fs)=>fs.toList.any λf=>match P.underlying f.type with | some (.pointer u)=>decide (u=T) | _=>false
 |_=>false
def boxed(P:Program)(T:TypeId)(z:az):az:=match N2 P T with | true=> .bx T 0 z | false=>z
def Pb(dt:Bool)(t:Ty)(x:t.den):az:=match dt with | true=> .d (.oV t) (some x) | false=> .ed t x
def FA(P:Program)(s:AS)(obj dt:Bool)(dst:Option Tmp)(T:TypeId)(v:az):Out AS:=
 match dst with
 |some q=>match obj with
  |true=> .guard (s.eh q && fits P T v) (.ok ((s.born q [.obj 0 false v]).put dst (.ptr (.new q 0) 0 [] 0)))
  |false=>match Hd P depth T with
   |some t=> .guard (fits P T (.d t t.zero)) ((s.jj t v).bind λx=> .ok ((s.bD v.shared).put dst (Pb dt t x)))
   |none=> .fail
 |none=> .fail
def xp(P:Program)(s:AS)(dst:Option Tmp)(T:TypeId)(x:az):Out AS:=
 match P.underlying T with
 |some (.array n e)=>match Hd P depth e with
  |some t=> .guard ((P.cellsOf e==t.size) && !(n==0) && !(t.size==0)) ((s.jj (.slice t) x).bind λl=> .pf (decide (n<=(l:List t.den).length)) (.ok ((s.bD x.shared).put dst (.ed (.arr n t) (l.take n)))))
  |none=> .fail
 |_=> .fail
def nR(s:AS):List Operand->az
 |[]=> .nil
 |x::xs=> .cons (s.ev x) (nR s xs)
def rS:az->Bool
 | .cons a b=>a.fg && rS b
 | .nil=>true
 |_=>false
def Jq(c a b:az):Out az:=
 match c with
 | .d .bool c=>match a,b with
  | .d .bool x,.d .bool y=> .ok (.d .bool (bif c then x else y))
  |a,b=> .br c (.ok a) (.ok b)
 |_=> .fail
def isObj(bU:List Nat):Option Tmp->Bool
 |some q=>bU.any λx=>decide (x=q)
 |none=>false
def Kg(bU:List Nat)(dst:Option Tmp):Bool:=isObj bU (dst.map (· +100000))
def H6(bU:List Nat)(dst:Option Tmp):Bool:=isObj bU (dst.map (· +200000))
def nm:(t:Ty)->az->Out t.den
 |t,.d t' x=>Out.opt (py t' t x)
 | .slice _,.df=> .ok []
 | .pair a b,.pr x y=>(nm a x).bind λx=>(nm b y).bind λy=> .ok (x,y)
 |_,_=> .fail
def mapOf(P:Program)(T:TypeId):Option (TypeId×TypeId×Ty×Ty):=
 match P.underlying T with
 |some (.map K V)=>match Hd P depth K,Hd P depth V with
  |some kt,some vt=>match ov P depth K kt && E8 P V (.d vt vt.zero) with | true=>some (K,V,kt,vt) | false=>none
  |_,_=>none
 |_=>none
def iY{β:Type}(kt:Ty)(x:kt.den):List (kt.den×β)->Option Nat
 |[]=>none
 |p::l=>match kt.beq x p.1 with | true=>some 0 | false=>(iY kt x l).map (· +1)
def eS{β:Type}(kt:Ty)(x:kt.den)(l:List (kt.den×β)):Option β:=(iY kt x l).bind λi=>(l[i]?).map (·.2)
def jK{β:Type}(kt:Ty)(x:kt.den)(v:β)(l:List (kt.den×β)):List (kt.den×β):=
 match iY kt x l with | some i=>l.set i (x,v) | none=>l++ [(x,v)]
def mm{β:Type}(kt:Ty)(x:kt.den)(l:List (kt.den×β)):List (kt.den×β):=
 match iY kt x l with | some i=>l.eraseIdx i | none=>l
def HE(k v k' v':Ty)(l:List (k.den×v.den)):Option (List (k'.den×v'.den)):=if h:k=k'/\v=v' then some (h.1▸h.2▸l) else none
def AS.oZ(s:AS)(id:Id)(ver:Nat)(kt vt:Ty):Out (List (kt.den×vt.den)):=
 match s.obj id with
 |some (v,_,.mp k' v' l)=> .guard (v==ver) (Out.opt (HE k' v' kt vt l))
 |_=> .fail
def AS.pd(s:AS)(id:Id):Bool:=match s.obj id with | some (_,fr,_)=> !fr | none=>false
def OP(vt:Ty)(ok:Bool)(r:Option vt.den):az:=
 match ok with
 |true=> .cons (.d vt (r.getD vt.zero)) (.cons (.d .bool r.isSome) .nil)
 |false=> .d vt (r.getD vt.zero)
def vd(P:Program)(s:AS)(dst:Option Tmp)(T:TypeId):Out AS:=
 match mapOf P T,dst with
 |some (_,_,kt,vt),some q=> .guard (s.eh q) (.ok ((s.born q [.obj 0 false (.mp kt vt [])]).put dst (.oh (.new q 0) 0)))
 |_,_=> .fail
def tY(P:Program)(s:AS)(T:TypeId)(m k:az)(ok:Bool):Out az:=
 match mapOf P T,m with
 |some (_,_,kt,vt),.oh id ver=>(s.oZ id ver kt vt).bind λl=>(nm kt k).bind λk=> .ok (OP vt ok (eS kt k l))
 |_,_=> .fail
def uc(P:Program)(s:AS)(T:TypeId)(m k v:az):Out AS:=
 match mapOf P T,m with
 |some (_,_,kt,vt),.oh id ver=>(s.oZ id ver kt vt).bind λl=>(nm kt k).bind λk=>(nm vt v).bind λv=> .guard (s.pd id) (.ok (s.aX id (.obj ver false (.mp kt vt (jK kt k v l)))))
 |_,_=> .fail
def ub(P:Program)(s:AS)(T:TypeId)(m k:az):Out AS:=
 match mapOf P T,m with
 |some (_,_,kt,vt),.oh id ver=>(s.oZ id ver kt vt).bind λl=>(nm kt k).bind λk=> .guard (s.pd id) (.ok (s.aX id (.obj ver false (.mp kt vt (mm kt k l)))))
 |_,_=> .fail
def AS.Gk(s:AS)(id:Id)(ver:Nat):Bool:=match s.obj id with | some (v,true,.mp ..)=>v==ver | _=>false
def ea.L8(q:Id):ea->Bool
 | .obj _ _ (.oK q' ver _ _ _ _)=>decide (q'=q) && !(ver==0)
 |_=>false
def AS.B9(s:AS)(q:Id):Bool:=s.cT.any (ea.L8 q) || s.news.any λes=>es.any (ea.L8 q)
def EN(kt vt:Ty)(l:List (kt.den×vt.den))(j:Nat):kt.den×vt.den:=l.getD j (kt.zero,vt.zero)
def Iu(P:Program)(s:AS)(dst:Option Tmp)(T:TypeId)(m:az):Out AS:=
 match mapOf P T,m,dst with
 |some (_,_,kt,vt),.oh id ver,some q=>(s.oZ id ver kt vt).bind λl=> .guard (s.pd id && s.eh q)
   (.ok (((s.aX id (.obj ver true (.mp kt vt l))).born q [.obj 0 false (.oK id (ver+1) kt vt l none)]).put dst (.ptr (.new q 0) 0 [] 0)))
 |_,_,_=> .fail
structure JC where
 i:Id
 v:Nat
 fr:Bool
 q:Id
 vr:Nat
 kt:Ty
 vt:Ty
 rest:List (kt.den×vt.den)
 cur:Option (kt.den×vt.den)
def AS.L7(s:AS)(x:az):Option JC:=
 match x with
 | .ptr i ver [] 0=>match s.obj i with
  |some (v,fr,.oK q (vr+1) kt vt rest cur)=>match v==ver,s.Gk q vr with
   |true,true=>some ⟨i,v,fr,q,vr,kt,vt,rest,cur⟩
   |_,_=>none
  |_=>none
 |_=>none
def HM(s:AS)(x:az):Out az:=
 match s.L7 x with
 |some ⟨_,_,_,_,_,kt,vt,_,some c⟩=> .ok (.cons (.d kt c.1) (.cons (.d vt c.2) .nil))
 |_=> .fail
def AS.drawn(s:AS)(t:JC)(dst:Option Tmp)(j:Nat):AS:=
 (s.aX t.i (.obj t.v t.fr (.oK t.q (t.vr+1) t.kt t.vt (t.rest.eraseIdx j) (some (EN t.kt t.vt t.rest j))))).put dst
  (.cons (.d .bool true) (.cons (.d t.kt (EN t.kt t.vt t.rest j).1) (.cons (.d t.vt (EN t.kt t.vt t.rest j).2) .nil)))
def AS.unlock(s:AS)(id:Id):AS:=match s.obj id with | some (v,_,c)=>s.aX id (.obj v false c) | none=>s
def AS.NW(s:AS)(t:JC)(dst:Option Tmp):Option AS:=
 match(s.aX t.i (.obj t.v t.fr (.oK t.q 0 t.kt t.vt [] none))).B9 t.q with
 |false=>some (((s.aX t.i (.obj t.v t.fr (.oK t.q 0 t.kt t.vt [] none))).unlock t.q).put dst (.cons (.d .bool false) .nil))
 |true=>none
open Classical in
def Tn{R:Type}(n:Nat)(k:Nat->Option R):Option R:=if h:∃r,0 < n/\∀j,j < n->k j=some r then some h.choose else none
open Classical in
def Ph{X R:Type}(S:X->Prop)(k:X->Option R):Option R:=if h:∃r,(∃x,S x)/\∀x,S x->k x=some r then some h.choose else none
def Mp{R:Type}(s:AS)(dst:Option Tmp)(t:JC)(k:AS->Option R):Option R:=
 aJ (decide (0 < t.rest.length)) (Tn t.rest.length λj=>k (s.drawn t dst j)) (match s.NW t dst with | some s'=>k s' | none=>none)
def yB:Nat:=4294967296
def ni(P:Program)(Γ:qd)(bU:List Nat)(o:Oper)(s:AS):Out AS:=
 match o.op with
 | .move x=> .ok (s.put o.dst (s.ev x))
 | .assign x=> .ok (s.put o.dst (s.ev x))
 | .pick c a b=>(Jq (s.ev c) (s.ev a) (s.ev b)).bind λv=> .ok (s.put o.dst v)
 | .alloc T=>match zeroOf P depth T,o.dst with
  |some z,some q=> .guard (s.eh q && E8 P T z) (.ok ((s.born q [.obj 0 false (boxed P T z)]).put o.dst (.ptr (.new q 0) 0 [] 0)))
  |_,_=> .fail
 | .box T x=>FA P s (isObj bU o.dst) (H6 bU o.dst) o.dst T (s.ev x)
 | .build T parts=>uR P s o.dst T parts.toList
 | .buildSlice T n parts=>ln P s (Kg bU o.dst) (isObj bU o.dst) o.dst T n parts.toList
 | .load T x=>(xU P s T (s.ev x)).bind λv=> .ok (s.put o.dst v)
 | .store T x v=>(vA P s T (s.ev x) (s.ev v)).bind λs'=> .ok (s'.put o.dst .undef)
 | .nilCheck x=>match s.ev x with
  | .ptr id v p n=> .ok (s.put o.dst (.ptr id v p n))
  | .ed t y=> .ok (s.put o.dst (.ed t y))
  | .d (.oV t) y=> .get (y:Option t.den) λy=> .ok (s.put o.dst (.ed t y))
  | .fn f c=> .ok (s.put o.dst (.fn f c))
  |_=> .fail
 | .binOp op T x y _=>match s.ev x,s.ev y with
  | .ptr i v [] 0,.ptr j w [] 0=>(QF P s T op i v j w).bind λv=> .ok (s.put o.dst v)
  |_,_=>(O9 P T op (s.ev x) (s.ev y)).bind λv=> .ok (s.put o.dst v)
 | .unOp op _ x=>(S5 op (s.ev x)).bind λv=> .ok (s.put o.dst v)
 | .convert src dst x=>match src==dst,s.ev x with
  |true,.cP id ver [] 0 0 len=>FK P s o.dst src dst id ver len
  |_,.ptr id ver [] 0=>(Dk P s src dst id ver).bind λv=> .ok (s.put o.dst v)
  |_,_=>(Dj P s (isObj bU o.dst) src dst (s.ev x)).bind λv=> .ok (s.put o.dst v)
 | .sliceToArrayPointer T x=>xp P s o.dst T (s.ev x)
 | .makeFunc (.func f) first caps=> .guard (first.isEmpty && rS (nR s caps.toList)) (.ok (s.put o.dst (.fn f (nR s caps.toList))))
 | .makeSlice T l c=>(asInt (s.ev l)).bind λl=>(asInt (s.ev c)).bind λc=>og P s o.dst T l c
 | .slice T x lo hi none=>(vz P s T (s.ev x) lo hi).bind λv=> .ok (s.put o.dst v)
 | .slice T x lo (some h) (some m)=>(yz P s T (s.ev x) lo h m).bind λv=> .ok (s.put o.dst v)
 | .fieldAddr T x f=>(tV P T (s.ev x) f).bind λv=> .ok (s.put o.dst v)
 | .field T x f=>(Er P T (s.ev x) f).bind λv=> .ok (s.put o.dst v)
 | .indexAddr T x i=>(asInt (s.ev i)).bind λi=>(nZ P s T (s.ev x) i).bind λv=> .ok (s.put o.dst v)
 | .index T x i=>(asInt (s.ev i)).bind λi=>(EC P T (s.ev x) i).bind λv=> .ok (s.put o.dst v)
 | .extract x i=>(Out.opt ((s.ev x).list[i]?)).bind λv=> .ok (s.put o.dst v)
 | .makeMap T none=>vd P s o.dst T
 | .lookup T x i ok=>(tY P s T (s.ev x) (s.ev i) ok).bind λv=> .ok (s.put o.dst v)
 | .mapUpdate T m k x=>(uc P s T (s.ev m) (s.ev k) (s.ev x)).bind λs'=> .ok (s'.put o.dst .undef)
 | .call c=>match c.callee with
  | .builtin .delete=>match c.args.toList,c.argTypes.toList with
   |[m,k],[T,_]=>(ub P s T (s.ev m) (s.ev k)).bind λs'=> .ok (s'.put o.dst .nil)
   |_,_=> .fail
  | .builtin .copy=>match c.args.toList,c.argTypes.toList with
   |[x,y],[T,X]=>A7 P s o.dst T X (s.ev x) (s.ev y)
   |_,_=> .fail
  | .builtin .len=>match c.args.toList,c.argTypes.toList with
   |[x],[T]=>(NN P T (s.ev x)).bind λv=> .ok (s.put o.dst v)
   |_,_=> .fail
  | .builtin .append=>match c.args.toList,c.argTypes.toList with
   |[x,y],[T,X]=>match s.ev x,s.ev y with
    | .df,.d (.int _) n=>F1 P s o.dst T X n
    |_,_=>rk P s (Kg bU o.dst) (H6 bU o.dst) o.dst T X (s.ev x) (s.ev y)
   |_,_=> .fail
  | .builtin .cap=>match c.args.toList,c.argTypes.toList with
   |[x],[T]=>match s.ev x,P.underlying T with
    | .df,some (.slice _)=> .ok (s.put o.dst (.d (.int .i64) (0:Int)))
    |_,_=> .fail
   |_,_=> .fail
  | .builtin .max=>(Km true (c.args.toList.map s.ev)).bind λv=> .ok (s.put o.dst v)
  | .builtin .min=>(Km false (c.args.toList.map s.ev)).bind λv=> .ok (s.put o.dst v)
  | .builtin .unsafeSliceData=>match c.args.toList with
   |[x]=>match s.ev x with
    | .cP id ver [] 0 0 len=> .pf (decide (0 < len)) (.ok (s.put o.dst (.ptr id ver [.idx 0] 0)))
    |_=> .fail
   |_=> .fail
  | .builtin .unsafeString=>match c.args.toList,c.argTypes.toList with
   |[x,y],[T,_]=>match s.ev x,s.ev y with
    | .ptr id ver [.idx 0] 0,.d (.int .i64) n=>G9 P s o.dst T id ver n
    |_,_=> .fail
   |_,_=> .fail
  | .value f=>match s.ev f with
   | .fn f caps=>match Γ f (c.args.toList.map s.ev++caps.list) with
    |some en=> .guard (Nat.blt f yB) (s.call en o.dst (c.args.toList.map s.ev++caps.list))
    |none=> .fail
   |_=> .fail
  |_=> .fail
 |_=> .fail
def AR(xs:Array Operand):List Nat:=xs.toList.filterMap λ | .tmp t=>some t | _=>none
def y6(ops:Array Oper)(o:Oper):List Nat:=
 match o.guard with
 |some (j,_)=>match(ops[j]?).bind (·.dst) with | some t=> [t] | none=> []
 |none=> []
def Nw{R:Type}(P:Program)(Γ:qd)(bU:List Nat)(ops:Array Oper)(o:Oper)(s:AS)(k:AS->Option R):Option R:=
 match o.guard with
 |none=>(ni P Γ bU o s).run k
 |some (j,want)=>match(ops[j]?).bind (·.dst) with
  |some q=>match s.slot q with
   | .d .bool b=>match want with
    |true=>aJ b ((ni P Γ bU o (s.put (some q) (.d .bool true))).run k) (k ((s.put (some q) (.d .bool false)).put o.dst .nil))
    |false=>aJ b (k ((s.put (some q) (.d .bool true)).put o.dst .nil)) ((ni P Γ bU o (s.put (some q) (.d .bool false))).run k)
   | .nil=>k (s.put o.dst .nil)
   |_=>none
  |none=>none
def BX(s:AS)(x y:Operand):Option Nat:=
 match s.ev x,s.ev y with
 | .d (.slice t) l,.df=>some (l:List t.den).length
 | .df,.d (.slice t) l=>some (l:List t.den).length
 | .cP _ _ _ _ _ len,.df=>some len
 | .df,.cP _ _ _ _ _ len=>some len
 |_,_=>none
open Classical in
def nd{R:Type}(x y:Option R):Option R:=if x=y then x else none
def Ai:Code->List (Array Tmp×Code×Code)
 | .seq a b=>Ai a++Ai b
 | .cond _ a b=>Ai a++Ai b
 | .block _ b=>Ai b
 | .scope b=>Ai b
 | .loop b=>Ai b
 | .rangeFunc _ ps as b=> [(ps,as,b)]
 |_=> []
def Uv(fn:Func)(i y:Nat):pv:=match fn.body with
 |some c=>match(Ai c)[i]? with
  |some x=>⟨y,x.1,x.2.1,x.2.2⟩
  |none=>⟨y,#[],.skip,.skip⟩
 |none=>⟨y,#[],.skip,.skip⟩
def um(P:Program)(y:Nat):pv:=match P.funcs[y%yB / 16]? with
 |some fn=>Uv fn (y%16) y
 |none=>⟨y,#[],.skip,.skip⟩
open Classical in
def same{R:Type}(c c':pv)(x:Option R):Option R:=if c=c' then x else none
def AS.yielded(s:AS)(F:az)(n:Nat):Option (Id×Nat×pv×az):=
 match F with
 | .yl id ver=>match s.obj id with
  |some (v,false,.qK c f 0)=>match v==ver && n==c.ps.size && Nat.ble yB c.y with
   |true=>some (id,ver,c,f)
   |false=>none
  |_=>none
 |_=>none
def Nx{R:Type}(P:Program)(Γ:qd)(bU:List Nat)(ops:Array Oper)(o:Oper)(s:AS)(k:AS->Option R):Option R:=
 match o.guard,o.op with
 |none,.binOp .eql T x y _=>match BX s x y,sP.isSl P T with
  |some n,true=>aJ (decide (0 < n)) (k (s.put o.dst (.d .bool false))) (nd (k (s.put o.dst (.d .bool true))) (k (s.put o.dst (.d .bool false))))
  |_,_=>Nw P Γ bU ops o s k
 |none,.binOp .neq T x y _=>match BX s x y,sP.isSl P T with
  |some n,true=>aJ (decide (0 < n)) (k (s.put o.dst (.d .bool true))) (nd (k (s.put o.dst (.d .bool true))) (k (s.put o.dst (.d .bool false))))
  |_,_=>Nw P Γ bU ops o s k
 |none,.range T m=>(Iu P s o.dst T (s.ev m)).run k
 |none,.entry x=>((HM s (s.ev x)).bind λv=> .ok (s.put o.dst v)).run k
 |none,.next x false=>match s.L7 (s.ev x) with
  |some t=>Mp s o.dst t k
  |none=>none
 |none,.call c=>match c.callee with
  | .value F=>match s.yielded (s.ev F) c.args.size with
   |some (id,ver,rc,f)=>match Γ rc.y (.yl id ver::(c.args.toList.map s.ev++f.list)) with
    |some en=>same rc (um P rc.y) ((s.call en o.dst (.yl id ver::(c.args.toList.map s.ev++f.list))).run k)
    |none=>none
   |none=>Nw P Γ bU ops o s k
  |_=>Nw P Γ bU ops o s k
 |_,_=>Nw P Γ bU ops o s k
def seen{α R:Type}(l:List α):(List α->R)->R:=List.rec (motive:=λ_=>(List α->R)->R) (λk=>k []) (λx _ ih k=>ih λl'=>k (x::l')) l
theorem yt{α R:Type}:∀(l:List α) (k:List α->R),seen l k=k l
 |[],_=>rfl
 |_::l,k=>yt l _
def AS.seen{R:Type}(s:AS)(k:AS->R):R:=Go.Ab.seen s.cO λl=>k ⟨l,s.cT,s.news⟩
theorem AS.yt{R:Type}(s:AS)(k:AS->R):s.seen k=k s:=Go.Ab.yt _ _
def Ny{R:Type}(P:Program)(Γ:qd)(bU:List Nat)(ops:Array Oper):List Oper->AS->(AS->Option R)->Option R
 |[],s,k=>k s
 |o::l,s,k=>Nx P Γ bU ops o s λs'=>s'.seen λs'=>Ny P Γ bU ops l s' k
def Ed(acc:List Nat)(o:Oper):Nat:=(o.after.toList.filter (Region.binds .any)).foldr (λe m=>Nat.lor (Nat.lor (Nat.pow 2 e.on) (acc.getD e.on 0)) m) 0
def Fu(ops:List Oper):List Nat:=ops.foldl (λacc o=>acc++ [Ed acc o]) []
structure uJ where
 dst:Option Tmp
 cO:List Nat
 rs:List Id
 ws:List Id
def DH:Op->Bool
 | .move _=>true
 |_=>false
def GF(s:AS)(o:Oper):List Id:=match DH o.op with | true=> [] | false=>(AR o.op.operands).flatMap λi=>(s.slot i).ids
def pU:List (Option Ty)->List az->List Id
 |none::ps,v::vs=>v.ids++pU ps vs
 |some _::ps,_::vs=>pU ps vs
 |_,_=> []
def writes(Γ:qd)(s:AS)(o:Oper):List Id:=
 match o.op with
 | .store _ x _=>(s.ev x).ids
 | .mapUpdate _ m _ _=>(s.ev m).ids
 | .convert src dst x=>match src==dst with | true=>(s.ev x).ids | false=> []
 | .call c=>match c.callee with
  | .builtin .append=>match c.args.toList with | x::_=>(s.ev x).ids | []=> []
  | .builtin .delete=>match c.args.toList with | x::_=>(s.ev x).ids | []=> []
  | .builtin .copy=>match c.args.toList with | x::_=>(s.ev x).ids | []=> []
  | .builtin .unsafeString=>match c.args.toList with | x::_=>(s.ev x).ids | []=> []
  | .value F=>match s.ev F with
   | .fn f caps=>match Γ f (c.args.toList.map s.ev++caps.list) with
    |some en=>s.reach 64 (pU en.params (c.args.toList.map s.ev++caps.list)) []
    |none=> []
   |_=> []
  |_=> []
 |_=> []
def hJ(Γ:qd)(ops:Array Oper)(s:AS)(o:Oper):uJ:=
 {dst:=o.dst,cO:=AR o.op.operands++y6 ops o,rs:=GF s o++writes Γ s o,ws:=writes Γ s o}
def meets(xs ys:List Id):Bool:=xs.any λx=>ys.any λy=>decide (x=y)
def uJ.RN(f g:uJ):Bool:=
 match f.dst with
 |some t=>(g.cO.any λx=>decide (x=t)) || decide (g.dst=some t)
 |none=>false
def Ci(d:Option Tmp)(ids:List Id):Bool:=
 match d with
 |some q=>ids.any λx=>match x with | .new i _=>decide (i=q) | .dB _=>false
 |none=>false
def uJ.indep(f g:uJ):Bool:= !f.RN g && !g.RN f && !meets f.ws g.rs && !meets g.ws f.rs && !Ci f.dst g.rs && !Ci g.dst f.rs
def Dv{R:Type}(P:Program)(Γ:qd)(bU:List Nat)(ops:Array Oper)(anc:List Nat):Nat->List Oper->List (Nat×uJ)->AS->(AS->Option R)->Option R
 |_,[],_,s,k=>k s
 |i,o::l,fs,s,k=>
  match fs.all λx=>(anc.getD i 0).testBit x.1 || x.2.indep (hJ Γ ops s o) with
  |true=>Nw P Γ bU ops o s λs'=>s'.seen λs'=>Dv P Γ bU ops anc (i+1) l ((i,hJ Γ ops s o)::fs) s' k
  |false=>none
def El(ops:List Oper):Bool:=ops.zipIdx.all λx=>x.1.after.toList.all λe=> !Region.binds .any e || decide (e.on < x.2)
structure Nd where
 j:Nat
 p:List v8
 q:Nat
 T:TypeId
structure SC where
 j:Nat
 p:List v8
 t:Ty
structure mN where
 bm:List Nat:=[]
 sites:List Nat:=[]
 HT:List Id:=[]
 data:List (Nat×Ty):=[]
 owns:List Nd:=[]
 Ek:List SC:=[]
 Vf:List Nat:=[]
 Re:List Id:=[]
 Vm:List Nat:=[]
 Wj:List Nat:=[]
 Pa:List (Nat×Nat):=[]
structure eO where
 X:Type
 run:AS->Option X
 out:X->Out (Exit×AS)
 set:Option (AS->X->Prop):=none
structure JD where
 an:mN
 X:Type
 SZ:Exit->AS->Option X
 out:X->Out (Exit×AS)
 ok:∀e s x,SZ e s=some x->(out x).eval=some (e,s)
structure v7 where
 bU:List Nat:=[]
 loops:Nat->mN:=λ_=> {}
 outs:Nat->Bool->mN:=λ_ _=> {}
 iA:Nat->Option eO:=λ_=>none
 owns:List Nd:=[]
 trim:List Nat:=[]
 res:List (Option Ty):=[]
 Ek:List SC:=[]
 Si:Nat->Option JD:=λ_=>none
 Sj:Nat->Option JD:=λ_=>none
 rf:Nat->Option (Nat×List Nat):=λ_=>none
 mr:Option Nat:=none
 Pa:List (Nat×Nat):=[]
def eB:Code->Nat
 | .region id _ _=>id
 | .seq a _=>eB a
 | .block _ b=>eB b
 | .loop b=>eB b
 | .scope b=>eB b
 |_=>0
def eZ(bm:List Nat):Nat->List az->List az
 |_,[]=> []
 |i,v::vs=>(match bm.any (λx=>decide (x=i)) with | true=>v | false=> .undef)::eZ bm (i+1) vs
def ma(bm:List Nat):Nat->List (List ea)->List (List ea)
 |_,[]=> []
 |i,v::vs=>(match bm.any (λx=>decide (x=i)) with | true=>v | false=> [])::ma bm (i+1) vs
def az.head:az->Option (Id×Nat)
 | .cP id ver [] 0 0 _=>some (id,ver)
 | .ptr id ver [] 0=>some (id,ver)
 |_=>none
def ym(es:List ea)(b q:Nat)(i:Id)(ver:Nat):Option (Id×Nat):=
 match i with
 | .dB k=>some (.dB k,ver)
 | .new x j=>match decide (x=b) with
  |true=>(match es[j]? with | some (.obj v _ _)=>(match ver==v with | true=>some (.new q j,0) | false=>none) | _=>none)
  |false=>(match decide (x=q) with | true=>none | false=>some (.new x j,ver))
def ea.N1(ρ:Id->Nat->Option (Id×Nat)):ea->ea
 | .obj _ fr c=> .obj 0 fr (c.ja ρ)
 | .dead=> .dead
def az.Qk(ρ:Id->Nat->Option (Id×Nat))(kp:Id->Bool):az->az
 | .oK q ver k v rest cur=>match kp q with | true=> .oK q ver k v rest cur | false=> .oK q 0 k v rest cur
 |c=>c.ja ρ
def ea.C1(ρ:Id->Nat->Option (Id×Nat))(kp:Id->Bool):ea->ea
 | .obj v fr c=> .obj v fr (c.Qk ρ kp)
 | .dead=> .dead
def vR(b q:Nat):Id->Bool | .dB _=>true | .new x _=> !decide (x=b) && !decide (x=q)
def AS.vn(s:AS)(b q:Nat)(es:List ea):AS:=
 {cO:=s.cO.map (az.ja (ym es b q)),cT:=s.cT.map (ea.C1 (ym es b q) (vR b q)),
  news:=((s.news.map λes'=>es'.map (ea.C1 (ym es b q) (vR b q))).set b []).set q (es.map (ea.N1 (ym es b q)))}
def AS.at(s:AS)(j:Nat):List v8->Out az
 |[]=> .ok (s.slot j)
 |p=>match s.slot j with
  | .ptr id ver p0 _=>match s.obj id with
   |some (v,_,c)=> .guard (v==ver) ((loc c.strip (p0++p)).bind λr=> .ok r.2)
   |none=> .fail
  |_=> .fail
def AS.putAt(s:AS)(j:Nat)(v:az):List v8->Out AS
 |[]=> .ok (s.put (some j) v)
 |p=>match s.slot j with
  | .ptr id _ p0 _=>match s.obj id with
   |some (ver,fr,c)=>match c.strip with
    | .vec .. => .fail
    |c1=>(ri c1 (p0++p) v).bind λc'=> .ok (s.aX id (.obj ver fr (c.wrap c')))
   |none=> .fail
  |_=> .fail
def AS.still(s:AS):List Nat->AS
 |[]=>s
 |q::l=>(match s.obj (.new q 0) with | some (v,fr,.oK i ver k t r _)=>s.aX (.new q 0) (.obj v fr (.oK i ver k t r none)) | _=>s).still l
def Mv(α:Type):Setoid (List α):=⟨List.Perm,mA,List.Perm.symm,List.Perm.trans⟩
def HD{α:Type}(l:List α):List α:=(Quotient.exists_rep (Quotient.mk (Mv α) l)).choose
def AS.canon(s:AS):List Id->AS
 |[]=>s
 |id::l=>(match s.obj id with | some (v,fr,.mp k t r)=>s.aX id (.obj v fr (.mp k t (HD r))) | _=>s).canon l
def zK(s:AS):List SC->Out AS
 |[]=> .ok s
 |o::l=>match o.p,s.slot o.j with
  |_::_,.oI=>zK s l
  |_,_=>(s.at o.j o.p).bind λu=>(s.jj o.t u).bind λx=>((s.bD u.shared).putAt o.j (.d o.t x) o.p).bind λs'=>zK s' l
def xG:(t:Ty)->t.den->Out az
 | .iv t,x=> .pf (x:Option (List t.den)).isNone (.ok .df)
 | .pair a b,x=>(xG a x.1).bind λu=>(xG b x.2).bind λv=> .ok (xW u v)
 |t,x=> .ok (.d t x)
def JY(s:AS):List Nat->Out AS
 |[]=> .ok s
 |j::l=>match s.slot j with
  | .ptr id ver (.idx k::p) n=>match s.obj id with
   |some (v,false,.vec e t r)=> .guard (v==ver) (.pf (decide (k < r.length)) ((xG t (nth t r k)).bind λu=>
     JY ((s.aX id (.obj v false (.bx e t.size (.pr (.d (.arr k t) (r.take k)) (.pr u (.d (.arr (r.drop (k+1)).length t) (r.drop (k+1)))))))).put (some j) (.ptr id ver (.snd:: .fst::p) n)) l))
   |_=> .fail
  | .ptr _ _ (.snd::_) _=>JY s l
  |_=> .fail
def MS(s:AS):List Nat->Out AS
 |[]=> .ok s
 |j::l=>match s.slot j with
  | .ptr id ver (.snd:: .fst::p) n=>match s.obj id with
   |some (v,false,.bx e z (.pr (.d (.arr k t) l1) (.pr u (.d (.arr _ t') l2))))=> .guard ((v==ver) && (z==t.size) && !(z==0) && !(u.shared.any λi=>decide (i=id)))
     ((Out.opt (py (.slice t') (.slice t) l2)).bind λl2=>(s.jj t u).bind λx=>
      MS (((s.bD u.shared).aX id (.obj v false (.vec e t (l1++x::l2)))).put (some j) (.ptr id ver (.idx k::p) n)) l)
   |_=> .fail
  |_=> .fail
def rD(P:Program)(s:AS):List Nd->Out AS
 |[]=> .ok s
 |o::l=>match o.p,s.slot o.j with
  |_::_,.oI=>rD P s l
  |_,_=>(s.at o.j o.p).bind λu=>match u with
  | .df=>match Em P o.T,s.eh o.q with
   |some (e,t,_),true=>((s.born o.q [.obj 0 false (.vec e t [])]).putAt o.j (.cP (.new o.q 0) 0 [] 0 0 0) o.p).bind λs'=>rD P s' l
   |_,_=> .fail
  |u=>match u.head with
   |some (.new b j,ver)=>match s.obj (.new b j),decide (o.q < s.news.length) with
    |some (v,_,_),true=>match v==ver with
     |true=>rD P (s.vn b o.q (s.news.getD b [])) l
     |false=> .fail
    |_,_=> .fail
   |_=> .fail
def D3(s:AS):List Nat->Out AS
 |[]=> .ok s
 |j::l=>match s.slot j with
  | .cP id ver [] 0 0 len=>match s.obj id with
   |some (v,false,.vec e t r)=>match v==ver with
    |true=> .pf (decide (len<=r.length)) (D3 (s.aX id (.obj v false (.vec e t (r.take len)))) l)
    |false=> .fail
   |_=> .fail
  |_=> .fail
def asData(s:AS):List (Nat×Ty)->Out AS
 |[]=> .ok s
 | (j,t)::l=>(s.jj t (s.slot j)).bind λx=>asData ((s.bD (s.slot j).shared).put (some j) (.d t x)) l
def az.there(s:AS):az->Bool
 | .ptr id _ _ _=>(s.obj id).isSome
 | .cP id _ _ _ _ _=>(s.obj id).isSome
 | .pr a b=>a.there s && b.there s
 | .cons a b=>a.there s && b.there s
 | .fn _ c=>c.there s
 | .bx _ _ c=>c.there s
 | .oh id _=>(s.obj id).isSome
 | .yl id _=>(s.obj id).isSome
 | .qK _ f _=>f.there s
 | .oK .. =>false
 |_=>true
def ea.there(s:AS):ea->Bool
 | .obj _ _ (.oK id _ _ _ _ _)=>(s.obj id).isSome
 | .obj _ _ c=>c.there s
 | .dead=>true
def xQ(an:mN)(s:AS):AS:= {cO:=eZ an.bm 0 s.cO,cT:=s.cT,news:=ma an.sites 0 s.news}
def AS.Fp(s:AS):Bool:=(s.cO.all (az.there s)) && (s.cT.all (ea.there s)) && (s.news.all λes=>es.all (ea.there s))
def qj(k v n:Nat)(i:Id)(ver:Nat):Option (Id×Nat):=match i with
 | .dB j=>match Nat.beq j k with
  |true=>match Nat.beq ver v with | true=>some (.dB j,n) | false=>none
  |false=>some (.dB j,ver)
 |i=>some (i,ver)
def ea.Ix(ρ:Id->Nat->Option (Id×Nat)):ea->ea
 | .obj v fr c=> .obj v fr (c.ja ρ)
 | .dead=> .dead
def AS.Ln(s:AS)(k n:Nat):Out AS:=match s.cz (.dB k) with
 |some (.obj v fr c)=> .guard (Nat.ble v n || Nat.ble 1 n) (.ok {cO:=s.cO.map (az.ja (qj k v n)),cT:=(s.cT.map (ea.Ix (qj k v n))).set k (.obj n fr (c.ja (qj k v n))),news:=s.news.map λes=>es.map (ea.Ix (qj k v n))})
 |_=> .fail
def FE(s:AS):List (Nat×Nat)->Out AS
 |[]=> .ok s
 |x::l=>(s.Ln x.1 x.2).bind λs=>FE s l
def norm(P:Program)(an:mN)(s:AS):Out AS:=
 (FE s an.Pa).bind λs=>(MS (((s.bD an.HT).still an.Vf).canon an.Re) an.Wj).bind λs=>(zK s an.Ek).bind λs=>(asData s an.data).bind λs=> .guard (xQ an s).Fp ((JY (xQ an s) an.Vm).bind λs=>rD P s an.owns)
def zV{R:Type}(nrm:AS->Out AS)(nrmX:Exit->AS->Out AS)(body:AS->(Exit->AS->Option R)->Option R):Nat->AS->(Exit->AS->Option R)->Option R
 | 0,_,_=>none
 |n+1,s,k=>body s λe s'=>match e with
  | .normal=>(nrm s').run λs1=>zV nrm nrmX body n s1 k
  |e=>(nrmX e s').run (k e)
def Ge:Exit->Bool | .ret=>true | _=>false
def MV{R:Type}(le:eO)(s:AS)(k:Exit->AS->Option R):Option R:=
 match le.set with
 |none=>av (le.run s) λx=>(le.out x).run λr=>k r.1 r.2
 |some S=>Ph (S s) λx=>(le.out x).run λr=>k r.1 r.2
def zd{R:Type}(P:Program)(j:Option JD)(run: {R:Type}->(Exit->AS->Option R)->Option R)(k:Exit->AS->Option R):Option R:=
 match j with
 |none=>run k
 |some j=>av (run λe s=>(norm P j.an s).run (j.SZ e)) λx=>(j.out x).run λr=>k r.1 r.2
def rU:List az->az
 |[]=> .nil
 |a::l=> .cons a (rU l)
def GO(P:Program)(h:FuncId):Bool:=match P.funcs[h]? with
 |some fn=> !(fn.name== "runtime.NumGoroutine") && fn.body.isSome
 |none=>false
def ui{R:Type}(P:Program)(Γ:qd)(an:v7)(s:AS)(f:Operand)(ps:Array Tmp)(as b:Code)(k:Exit->AS->Option R):Option R:=
 match an.mr,an.rf (ps.getD 0 0),s.ev f with
 |none,some (y,bm),.fn h caps=>match GO P h && s.eh (ps.getD 0 0) && Nat.blt (ps.getD 0 0) s.cO.length && Nat.blt h yB,Γ h (.yl (.new (ps.getD 0 0) 0) 0::caps.list) with
  |true,some en=>(((s.born (ps.getD 0 0) [.obj 0 false (.qK ⟨y,ps,as,b⟩ (rU (eZ bm 0 s.cO)) 0)]).put (some (ps.getD 0 0)) (.yl (.new (ps.getD 0 0) 0) 0)).call en none (.yl (.new (ps.getD 0 0) 0) 0::caps.list)).run λs3=>
   match s3.cz (.new (ps.getD 0 0) 0),s3.slot (ps.getD 0 0) with
   |some (.obj 0 false (.qK _ _ p)),.yl (.new q' 0) 0=>match Nat.beq q' (ps.getD 0 0),p with
    |true,0=>k .normal ((s3.aX (.new (ps.getD 0 0) 0) .dead).put (some (ps.getD 0 0)) .undef)
    |true,2=>k .ret ((s3.aX (.new (ps.getD 0 0) 0) .dead).put (some (ps.getD 0 0)) .undef)
    |true,i+3=>k (.exit i) ((s3.aX (.new (ps.getD 0 0) 0) .dead).put (some (ps.getD 0 0)) .undef)
    |_,_=>none
   |_,_=>none
  |_,_=>none
 |_,_,_=>none
def ev(P:Program)(Γ:qd)(an:v7)(N:Nat):Code-> {R:Type}->AS->(Exit->AS->Option R)->Option R
 | .skip,_,s,k=>k .normal s
 | .region id ops draw,_,s,k=>zd P (an.Si id) (λk=>match draw with
  |true=>(match El ops.toList with
   |true=>Dv P Γ an.bU ops (Fu ops.toList) 0 ops.toList [] s λs'=>k .normal s'
   |false=>none)
  |false=>Ny P Γ an.bU ops ops.toList s λs'=>k .normal s') k
 | .seq a b,_,s,k=>zd P (an.Sj (eB b)) (λk=>ev P Γ an N a s k) λe s'=>match e with | .normal=>ev P Γ an N b s' k | e=>k e s'
 | .cond c x y,_,s,k=>match s.ev c with
  | .d .bool b=>aJ b (ev P Γ an N x s k) (ev P Γ an N y s k)
  |_=>none
 | .block id b,_,s,k=>ev P Γ an N b s λe s'=>match e with | .exit i=>(match decide (i=id) with | true=>k .normal s' | false=>k (.exit i) s') | e=>k e s'
 | .loop b,_,s,k=>(norm P (an.loops (eB b)) s).run λs1=>match an.iA (eB b) with
  |some le=>MV le s1 k
  |none=>zV (norm P (an.loops (eB b))) (λe=>norm P (an.outs (eB b) (Ge e))) (ev P Γ an N b) N s1 k
 | .scope b,_,s,k=>ev P Γ an N b s λe s'=>match e with | .goto _=>none | e=>k e s'
 | .label _,_,s,k=>k .normal s
 | .exit id,_,s,k=>k (.exit id) s
 | .ret,_,s,k=>k .ret s
 | .rangeFunc f ps as b,_,s,k=>ui P Γ an s f ps as b k
 |_,_,_,_=>none
def Cd(P:Program)(s:AS):ResultVar->Out az
 | .tmp t=> .ok (s.slot t)
 | .cell a T=>xU P s T (s.slot a)
def Cc(P:Program)(s:AS)(r:ResultVar):Option Ty->Out (AS×az)
 |none=>(Cd P s r).bind λv=> .ok (s,v)
 |some t=>(Cd P s r).bind λv=>(s.jj t v).bind λx=> .ok (s.bD v.shared,.d t x)
def yp(P:Program)(s:AS):List ResultVar->List (Option Ty)->Out (AS×az)
 |[],_=> .ok (s,.nil)
 |r::rs,ts=>(Cc P s r (ts.headD none)).bind λx=> .guard x.2.fg ((yp P x.1 rs ts.tail).bind λy=> .ok (y.1,.cons x.2 y.2))
def ER(P:Program)(fn:Func)(ts:List (Option Ty))(s:AS):Out (AS×az):=
 match fn.results.toList with
 |[r]=>Cc P s r (ts.headD none)
 |rs=>yp P s rs ts
def kk:Code->List Code
 | .seq a b=>kk a++kk b
 | .cond _ a b=>kk a++kk b
 | .block _ b=>kk b
 | .scope b=>kk b
 | .loop b=>b::kk b
 |_=> []
def nV(fn:Func)(i:Nat):Code:=match fn.body with | some c=>(kk c).getD i .skip | none=> .skip
def zf(P:Program)(Γ:qd)(an:v7)(N:Nat)(fn:Func)(i:Nat){R:Type}(s:AS)(kn:AS->Option R)(kx:Exit->AS->Option R):Option R:=
 ev P Γ an N (nV fn i) s λe s'=>match e with
  | .normal=>(norm P (an.loops (eB (nV fn i))) s').run kn
  |e=>(norm P (an.outs (eB (nV fn i)) (Ge e)) s').run (kx e)
def Gm(P:Program)(Γ:qd)(an:v7)(N:Nat)(fn:Func)(i:Nat){R:Type}(n:Nat)(s:AS)(k:Exit->AS->Option R):Option R:=
 zV (norm P (an.loops (eB (nV fn i)))) (λe=>norm P (an.outs (eB (nV fn i)) (Ge e))) (ev P Γ an N (nV fn i)) n s k
def Id.OO:Id->Bool | .new _ _=>true | .dB _=>false
def AS.yY(s:AS)(v:az):List Id:=(s.reach 64 (v.ids++s.cT.flatMap ea.ids) []).filter Id.OO
def wW(ids:List Id):Id->Nat->Option (Id×Nat)
 | .dB k,v=>some (.dB k,v)
 |id,v=>match idxOf id ids with | some j=>some (.new 0 j,v) | none=>none
def ea.fin(ids:List Id):ea->ea
 | .obj v fr c=> .obj v fr (c.ja (wW ids))
 | .dead=> .dead
def AS.Om(s:AS)(ids:List Id)(v:az):kr:=
 {val:=v.ja (wW ids),cT:=s.cT.map (ea.fin ids),news:=ids.map λid=>((s.cz id).getD .dead).fin ids}
def AS.fin(s:AS)(v:az):kr:=s.Om (s.yY v) v
def start(fn:Func)(args:List az)(cT:List ea):AS:=
 {cO:=args++List.replicate (fn.ntmps - args.length) .undef,cT,news:=List.replicate fn.ntmps []}
def MD(fn:Func):List Nat:=fn.results.toList.map λr=>match r with | .tmp t=>t | .cell a _=>a
def AS.drop(s:AS)(ks:List Nat):AS:= {cO:=eZ ks 0 s.cO,cT:=s.cT,news:=s.news}
def finish(P:Program)(an:v7)(fn:Func)(s:AS):Out kr:=
 (zK s an.Ek).bind λs=>(rD P (s.drop (MD fn)) an.owns).bind λs=>(D3 s an.trim).bind λs=>(FE s an.Pa).bind λs=>(ER P fn an.res s).bind λr=> .ok (r.1.fin r.2)
def O1(P:Program)(y:Nat):Func:= {(default:Func) with body:=some (.seq (um P y).as (um P y).b)}
def AS.zo(s:AS)(q p:Nat):Option AS:=match s.cz (.dB 0) with
 |some (.obj 0 false (.qK c f q'))=>(match Nat.beq q q' with | true=>some (s.aX (.dB 0) (.obj 0 false (.qK c f p))) | false=>none)
 |_=>none
def rF:List (Tmp×az)->List az->List az
 |[],l=>l
 |x::xs,l=>rF xs (l.set x.1 x.2)
def Co(ps:List Tmp)(args:List az)(cT:List ea):AS:=
 {cO:=rF (ps.zip (args.take ps.length)) (args.drop ps.length),cT,news:=List.replicate (args.drop ps.length).length []}
def Ol:Exit->Option Nat
 | .normal=>some 0
 | .ret=>some 2
 | .exit i=>some (i+3)
 |_=>none
def IZ(P:Program)(an:v7)(s:AS)(v:az):Out kr:=
 (zK s an.Ek).bind λs=>(rD P (s.drop []) an.owns).bind λs=>(D3 s an.trim).bind λs=>(FE s an.Pa).bind λs=> .ok (s.fin v)
def ea.first:ea->Bool
 | .obj v _ _=>Nat.beq v 0
 | .dead=>true
def MG(P:Program)(Γ:qd)(an:v7)(N:Nat)(c:pv)(args:List az)(cT:List ea){R:Type}(k:kr->Option R):Option R:=
 match args with
 | .yl (.dB 0) 0::args=>match cT.all ea.first with | false=>none | true=>ev P Γ an N c.as (Co c.ps.toList args cT) λe s=>match e with
  | .normal=>av (s.zo 0 1) λs=>ev P Γ an N c.b s λe s=>av (Ol e) λp=>av (s.zo 1 p) λs=>(IZ P an s (.d .bool (Nat.beq p 0))).run k
  |_=>none
 |_=>none
def JH(P:Program)(Γ:qd)(an:v7)(N:Nat)(fn:Func)(args:List az)(cT:List ea){R:Type}(k:kr->Option R):Option R:=
 match an.mr with
 |some y=>MG P Γ an N (um P y) args cT k
 |none=>match fn.body with
 |some c=>match cT.all ea.first with | false=>none | true=>ev P Γ an N c (start fn args cT) λe s=>match e with
  | .normal=>(finish P an fn s).run k
  | .ret=>(finish P an fn s).run k
  |_=>none
 |none=>none
end Go.Ab
namespace Go.Ab
inductive Own where
 |eL
 |id (i:Id)
inductive lG where
 |free
 |own (o:Own) (k:Nat)
structure Pl where
 b:Nat
 cap:Nat
structure Env where
 w:World
 g:Nat->lG
 β:Id->Option Pl
 s:Id->Option ea
def pj(g:Nat->lG)(b off:Nat):Prop:=match g b with | .free=>True | .own _ k=>off < k
def Env.has(E:Env)(b off:Nat)(v:Value):Prop:=E.w.cell? ⟨b,off,none⟩=some v/\pj E.g b off
def bA{α:Type}(R:List Value->α->Prop):List Value->List α->Prop
 |cs,[]=>cs=[]
 |cs,x::xs=>∃c cs',cs=c++cs'/\R c x/\bA R cs' xs
def uv(E:Env)(a:Option Addr)(vs:List Value):Prop:=
 ∀i v,vs[i]? =some v->∃b off,a=some ⟨b,off,none⟩/\E.has b (off+i) v
def dn(E:Env):(t:Ty)->List Value->t.den->Prop
 | .int k,cs,x=>cs=[.int k x]
 | .bool,cs,x=>cs=[.bool x]
 | .str,cs,x=>cs=[.string x]
 | .slice t,cs,l=>∃a cap vs,cs=[.slice a (l:List t.den).length cap]/\(l:List t.den).length<=cap/\(0 < (l:List t.den).length->a.isSome=true)/\uv E a vs/\bA (dn E t) vs l
 | .unit,cs,_=>cs=[]
 | .pair a b,cs,x=>∃ca cb,cs=ca++cb/\dn E a ca x.1/\dn E b cb x.2
 | .arr n t,cs,l=>(l:List t.den).length=n/\bA (dn E t) cs l
 | .iv t,cs,x=>((x:Option (List t.den))=none->cs=[.slice none 0 0])/\∀l:List t.den,(x:Option (List t.den))=some l->
   ∃a cap vs,cs=[.slice a l.length cap]/\l.length<=cap/\(0 < l.length->a.isSome=true)/\uv E a vs/\bA (dn E t) vs l
 | .oV t,cs,x=>((x:Option t.den)=none->cs=[.pointer none])/\∀y:t.den,(x:Option t.den)=some y->
   ∃b off vs,cs=[.pointer (some ⟨b,off,none⟩)]/\uv E (some ⟨b,off,none⟩) vs/\dn E t vs y
section
variable {α:Type} {R R':List Value->α->Prop} {z:Nat}
theorem bA.mono(h:∀c x,R c x->R' c x):∀ {cs:List Value} {l:List α},bA R cs l->bA R' cs l
 |_,[],hc=>hc
 |_,_::_,⟨c,cs',e,hx,hr⟩=>⟨c,cs',e,h _ _ hx,bA.mono h hr⟩
theorem bA.length(h:∀c x,R c x->c.length=z):∀ {cs:List Value} {l:List α},bA R cs l->cs.length=l.length*z
 |cs,[],hc=>by
  have:cs=[]:=hc
  simp[this]
 |_,x::xs,⟨c,cs',e,hx,hr⟩=>by
  rw[e,aj,h c x hx,bA.length h hr,aD,eM,lj,Nat.add_comm]
theorem bA.all{p:Value->Prop}(h:∀c x,R c x->∀v∈c,p v):∀ {cs:List Value} {l:List α},bA R cs l->∀v∈cs,p v
 |cs,[],hc,v,hv=>by
  have:cs=[]:=hc
  simp[this]at hv
 |_,_::_,⟨c,cs',e,hx,hr⟩,v,hv=>by
  rw[e]at hv
  rcases bP.1 hv with hv | hv
  ·exact h _ _ hx v hv
  ·exact bA.all h hr v hv
theorem bA.append:∀ {cs:List Value} {l:List α} {cs':List Value} {l':List α},bA R cs l->bA R cs' l'->bA R (cs++cs') (l++l')
 |cs,[],_,_,hc,h'=>by
  have:cs=[]:=hc
  simpa[this]using h'
 |_,x::xs,_,_,⟨c,cs1,e,hx,hr⟩,h'=>⟨c,cs1++_,by rw[e,bk],hx,bA.append hr h'⟩
theorem bA.take(h:∀c x,R c x->c.length=z):∀ {cs:List Value} {l:List α} (n:Nat),bA R cs l->bA R (cs.take (n*z)) (l.take n)
 |cs,[],n,hc=>by
  have:cs=[]:=hc
  simp[this,bA]
 |_,x::xs,0,_=>by simp[bA]
 |_,x::xs,n+1,⟨c,cs',e,hx,hr⟩=>by
  refine⟨c,cs'.take (n*z),?_,hx,bA.take h n hr⟩
  rw[e,kS,h c x hx,eM,lj,bz (by rw[h c x hx];omega),Nat.add_sub_cancel]
theorem bA.drop(h:∀c x,R c x->c.length=z):∀ {cs:List Value} {l:List α} (n:Nat),bA R cs l->bA R (cs.drop (n*z)) (l.drop n)
 |cs,[],n,hc=>by
  have:cs=[]:=hc
  simp[this,bA]
 |_,x::xs,0,hc=>by simpa using hc
 |_,x::xs,n+1,⟨c,cs',e,hx,hr⟩=>by
  rw[e,jN,h c x hx,eM,lj,eu (by rw[h c x hx];omega),Nat.add_sub_cancel]
  simpa using bA.drop h n hr
theorem bA.get(h:∀c x,R c x->c.length=z){cs:List Value}{l:List α}(hc:bA R cs l)(i:Nat)(hi:i < l.length):R ((cs.drop (i*z)).take z) l[i]:=by
 have h1:=bA.take h 1 (bA.drop h i hc)
 rw[aq hi]at h1
 simp only[lj,ng,eH]at h1
 obtain⟨c,cs',e,hx,hr⟩:=h1
 have:cs'=[]:=hr
 rw[e,this,cH]
 exact hx
theorem bA.set(h:∀c x,R c x->c.length=z){cs:List Value}{l:List α}(hc:bA R cs l)(i:Nat)(hi:i < l.length){c:List Value}{x:α}(hx:R c x):
  bA R (cs.take (i*z)++c++cs.drop (i*z+c.length)) (l.set i x):=by
 rw[List.set_eq_take_append_cons_drop,if_pos hi,h c x hx]
 have h1:=bA.take h i hc
 have h2:=bA.drop h (i+1) hc
 rw[eM,lj]at h2
 have h3:bA R (c++cs.drop (i*z+z)) (x::l.drop (i+1)):=⟨c,_,rfl,hx,h2⟩
 rw[bk]
 exact bA.append h1 h3
theorem bA.one{c:List Value}{x:α}(h:R c x):bA R c [x]:=⟨c,[],by simp,h,rfl⟩
end
theorem dn.size{E:Env}:∀ {t:Ty} {cs:List Value} {x:t.den},dn E t cs x->cs.length=t.size
 | .int _,_,_,h=>by simp only[dn]at h;simp[h,Ty.size]
 | .bool,_,_,h=>by simp only[dn]at h;simp[h,Ty.size]
 | .str,_,_,h=>by simp only[dn]at h;simp[h,Ty.size]
 | .slice t,_,_,h=>by simp only[dn]at h;obtain⟨a,cap,vs,rfl,_⟩:=h;simp[Ty.size]
 | .unit,_,_,h=>by simp only[dn]at h;simp[h,Ty.size]
 | .pair a b,_,_,h=>by
  simp only[dn]at h
  obtain⟨ca,cb,rfl,ha,hb⟩:=h
  simp[Ty.size,dn.size ha,dn.size hb]
 | .arr n t,_,_,h=>by
  simp only[dn]at h
  rw[bA.length (λc x hx=>dn.size hx) h.2,h.1,Ty.size]
 | .iv t,_,x,h=>by
  simp only[dn]at h
  obtain⟨h1,h2⟩:=h
  cases hx:(x:Option (List t.den)) with
  |none=>rw[h1 hx];rfl
  |some l=>obtain⟨a,cap,vs,rfl,_⟩:=h2 l hx;rfl
 | .oV t,_,x,h=>by
  simp only[dn]at h
  obtain⟨h1,h2⟩:=h
  cases hx:(x:Option t.den) with
  |none=>rw[h1 hx];rfl
  |some l=>obtain⟨b,off,vs,rfl,_⟩:=h2 l hx;rfl
theorem dn.one{E:Env}:∀ {t:Ty} {cs:List Value} {x:t.den},dn E t cs x->∀c∈cs,c.oneCell'=true
 | .int _,_,_,h=>by simp only[dn]at h;simp[h,Value.oneCell']
 | .bool,_,_,h=>by simp only[dn]at h;simp[h,Value.oneCell']
 | .str,_,_,h=>by simp only[dn]at h;simp[h,Value.oneCell']
 | .slice t,_,_,h=>by simp only[dn]at h;obtain⟨a,cap,vs,rfl,_⟩:=h;simp[Value.oneCell']
 | .unit,_,_,h=>by simp only[dn]at h;simp[h]
 | .pair a b,_,_,h=>by
  simp only[dn]at h
  obtain⟨ca,cb,rfl,ha,hb⟩:=h
  intro c hc
  rcases bP.1 hc with hc | hc
  ·exact dn.one ha c hc
  ·exact dn.one hb c hc
 | .arr n t,_,_,h=>by
  simp only[dn]at h
  exact bA.all (λc x hx=>dn.one hx) h.2
 | .iv t,_,x,h=>by
  simp only[dn]at h
  obtain⟨h1,h2⟩:=h
  cases hx:(x:Option (List t.den)) with
  |none=>rw[h1 hx];simp[Value.oneCell']
  |some l=>obtain⟨a,cap,vs,rfl,_⟩:=h2 l hx;simp[Value.oneCell']
 | .oV t,_,x,h=>by
  simp only[dn]at h
  obtain⟨h1,h2⟩:=h
  cases hx:(x:Option t.den) with
  |none=>rw[h1 hx];simp[Value.oneCell']
  |some l=>obtain⟨b,off,vs,rfl,_⟩:=h2 l hx;simp[Value.oneCell']
structure oO(E E':Env):Prop where
 has:∀b off v,E.has b off v->E'.has b off v
 fz:∀b ob,E.g b= .free->E.w.heap[b]? =some ob->E'.g b= .free/\E'.w.heap[b]? =some ob
theorem oO.refl(E:Env):oO E E:=⟨λ_ _ _ h=>h,λ_ _ h h'=>⟨h,h'⟩⟩
theorem oO.trans{E E' E'':Env}(h:oO E E')(h':oO E' E''):oO E E'':=⟨λb o v x=>h'.has b o v (h.has b o v x),λb ob h1 h2=>let⟨h3,h4⟩:=h.fz b ob h1 h2;h'.fz b ob h3 h4⟩
theorem uv.mono{E E':Env}(h:oO E E'){a:Option Addr}{vs:List Value}(hr:uv E a vs):uv E' a vs:=
 λi v hv=>let⟨b,off,ha,hh⟩:=hr i v hv;⟨b,off,ha,h.has _ _ _ hh⟩
theorem dn.mono{E E':Env}(hm:oO E E'):∀ {t:Ty} {cs:List Value} {x:t.den},dn E t cs x->dn E' t cs x
 | .int _,_,_,h=>by simpa only[dn]using h
 | .bool,_,_,h=>by simpa only[dn]using h
 | .str,_,_,h=>by simpa only[dn]using h
 | .slice t,_,_,h=>by
  simp only[dn]at h ⊢
  obtain⟨a,cap,vs,e,hl,hs,hr,hc⟩:=h
  exact⟨a,cap,vs,e,hl,hs,hr.mono hm,hc.mono λc x hx=>dn.mono hm hx⟩
 | .unit,_,_,h=>by simpa only[dn]using h
 | .pair a b,_,_,h=>by
  simp only[dn]at h ⊢
  obtain⟨ca,cb,e,ha,hb⟩:=h
  exact⟨ca,cb,e,dn.mono hm ha,dn.mono hm hb⟩
 | .arr n t,_,_,h=>by
  simp only[dn]at h ⊢
  exact⟨h.1,h.2.mono λc x hx=>dn.mono hm hx⟩
 | .iv t,_,_,h=>by
  simp only[dn]at h ⊢
  refine⟨h.1,λl hx=> ?_⟩
  obtain⟨a,cap,vs,e,hl,hs,hr,hc⟩:=h.2 l hx
  exact⟨a,cap,vs,e,hl,hs,hr.mono hm,hc.mono λc x hx=>dn.mono hm hx⟩
 | .oV t,_,_,h=>by
  simp only[dn]at h ⊢
  refine⟨h.1,λl hx=> ?_⟩
  obtain⟨b,off,vs,e,hr,hc⟩:=h.2 l hx
  exact⟨b,off,vs,e,hr.mono hm,dn.mono hm hc⟩
def Env.cur(E:Env)(id:Id)(ver:Nat):Prop:=∃fr c,E.s id=some (.obj ver fr c)
def Env.uw(E:Env)(id:Id)(ver:Nat):Prop:=E.s id≠none/\∀v fr c,E.s id=some (.obj v fr c)->ver<=v
def gd(agg:Bool)(cs:List Value)(v:Value):Prop:=match agg with | true=>v= .agg cs.toArray | false=>cs=[v]
mutual
def V(E:Env):az->List Value->Prop
 | .undef,_=>False
 | .gone,cs=>∃v,cs=[v]/\v.oneCell'=true
 | .df,cs=>cs=[.slice none 0 0]
 | .oI,cs=>cs=[.pointer none]
 | .qt,cs=>cs=[.nilFunc]
 | .tl,cs=>cs=[.map none]
 | .sb l,cs=>∃(b cap:Nat) (arr:Array Value) (e:TypeId),cs=[.slice (some ⟨b,0,none⟩) l.length cap]/\l.length<=cap/\E.g b= .free/\E.w.heap[b]? =some (.cells arr e (arr.size,arr.size+1))/\∀(j:Nat) (v:Value),(l.map (Value.int .u8))[j]? =some v->arr[j]? =some v
 | .d t x,cs=>dn E t cs x
 | .pr a b,cs=>∃ca cb,cs=ca++cb/\V E a ca/\V E b cb
 | .ptr id ver _ n,cs=>∃a,cs=[.pointer (some a)]/\E.uw id ver/\(E.cur id ver->∃pl,E.β id=some pl/\a=⟨pl.b,n,none⟩)
 | .ed t x,cs=>∃b off vs,cs=[.pointer (some ⟨b,off,none⟩)]/\uv E (some ⟨b,off,none⟩) vs/\dn E t vs x
 | .cP id ver p c i len,cs=>∃a cap,cs=[.slice a len cap]/\len<=cap/\(0 < len->a.isSome=true)/\E.uw id ver/\
   (E.cur id ver->match E.β id with
    |some pl=>(0 < len\/i=0->a=some ⟨pl.b,c,none⟩)/\(p=[]->i=0->cap=pl.cap)
    |none=>a=none/\len=0/\cap=0)
 | .fn f c,cs=>∃vs,cs=[.func (.func f) #[] vs.toArray]/\VC E c vs
 | .cons _ _,_=>False
 | .nil,_=>False
 | .vec ..,_=>False
 | .bx ..,_=>False
 | .yl id ver,cs=>∃l,cs=[.func (.yield l) #[] #[]]/\E.uw id ver/\(E.cur id ver->∃pl,E.β id=some pl/\l=pl.b)
 | .qK ..,_=>False
 | .oh id ver,cs=>∃b,cs=[.map (some b)]/\E.uw id ver/\(E.cur id ver->∃pl,E.β id=some pl/\b=pl.b)
 | .mp ..,_ | .oK ..,_=>False
def VC(E:Env):az->List Value->Prop
 | .nil,vs=>vs=[]
 | .cons a b,vs=>∃v vs' cs,vs=v::vs'/\V E a cs/\gd a.agg cs v/\VC E b vs'
 |_,_=>False
end
structure c7(E E':Env):Prop where
 mem:oO E E'
 uw:∀id ver,E.uw id ver->E'.uw id ver
 cur:∀id ver,E.uw id ver->E'.cur id ver->E.cur id ver/\E'.β id=E.β id
theorem c7.refl(E:Env):c7 E E:=⟨oO.refl E,λ_ _ h=>h,λ_ _ _ h=>⟨h,rfl⟩⟩
theorem c7.trans{E E' E'':Env}(h:c7 E E')(h':c7 E' E''):c7 E E'':=
 ⟨h.mem.trans h'.mem,λid v b=>h'.uw id v (h.uw id v b),λid v b c=>
  let⟨c1,e1⟩:=h'.cur id v (h.uw id v b) c
  let⟨c2,e2⟩:=h.cur id v b c1
  ⟨c2,e1.trans e2⟩⟩
mutual
theorem V.mono{E E':Env}(h:c7 E E'):∀ {a:az} {cs:List Value},V E a cs->V E' a cs
 | .undef,_,hv=>by simp only[V]at hv
 | .gone,_,hv=>by simpa only[V]using hv
 | .df,_,hv=>by simpa only[V]using hv
 | .oI,_,hv=>by simpa only[V]using hv
 | .qt,_,hv=>by simpa only[V]using hv
 | .qK ..,_,hv=>by simp only[V]at hv
 | .tl,_,hv=>by simpa only[V]using hv
 | .sb l,_,hv=>by
  simp only[V]at hv ⊢
  obtain⟨b,cap,arr,e,h1,h2,h3,h4,h5⟩:=hv
  obtain⟨h6,h7⟩:=h.mem.fz b _ h3 h4
  exact⟨b,cap,arr,e,h1,h2,h6,h7,h5⟩
 | .d t x,_,hv=>by simp only[V]at hv ⊢;exact hv.mono h.mem
 | .pr a b,_,hv=>by
  simp only[V]at hv ⊢
  obtain⟨ca,cb,e,ha,hb⟩:=hv
  exact⟨ca,cb,e,V.mono h ha,V.mono h hb⟩
 | .ptr id ver p n,_,hv=>by
  simp only[V]at hv ⊢
  obtain⟨a,e,hb,hc⟩:=hv
  refine⟨a,e,h.uw _ _ hb,λc=> ?_⟩
  obtain⟨c1,e1⟩:=h.cur _ _ hb c
  rw[e1];exact hc c1
 | .ed t x,_,hv=>by
  simp only[V]at hv ⊢
  obtain⟨b,off,vs,e,hr,hx⟩:=hv
  exact⟨b,off,vs,e,hr.mono h.mem,hx.mono h.mem⟩
 | .cP id ver p c i len,_,hv=>by
  simp only[V]at hv ⊢
  obtain⟨a,cap,e,hl,hs,hb,hc⟩:=hv
  refine⟨a,cap,e,hl,hs,h.uw _ _ hb,λc=> ?_⟩
  obtain⟨c1,e1⟩:=h.cur _ _ hb c
  rw[e1];exact hc c1
 | .fn f c,_,hv=>by
  simp only[V]at hv ⊢
  obtain⟨vs,e,hc⟩:=hv
  exact⟨vs,e,VC.mono h hc⟩
 | .cons _ _,_,hv=>by simp only[V]at hv
 | .nil,_,hv=>by simp only[V]at hv
 | .vec ..,_,hv=>by simp only[V]at hv
 | .bx ..,_,hv=>by simp only[V]at hv
 | .yl id ver,_,hv=>by
  simp only[V]at hv ⊢
  obtain⟨b,e,hb,hc⟩:=hv
  refine⟨b,e,h.uw _ _ hb,λc=> ?_⟩
  obtain⟨c1,e1⟩:=h.cur _ _ hb c
  rw[e1];exact hc c1
 | .oh id ver,_,hv=>by
  simp only[V]at hv ⊢
  obtain⟨b,e,hb,hc⟩:=hv
  refine⟨b,e,h.uw _ _ hb,λc=> ?_⟩
  obtain⟨c1,e1⟩:=h.cur _ _ hb c
  rw[e1];exact hc c1
 | .mp ..,_,hv | .oK ..,_,hv=>by simp only[V]at hv
theorem VC.mono{E E':Env}(h:c7 E E'):∀ {a:az} {vs:List Value},VC E a vs->VC E' a vs
 | .nil,_,hv=>by simpa only[VC]using hv
 | .cons a b,_,hv=>by
  simp only[VC]at hv ⊢
  obtain⟨v,vs',cs,e,ha,ho,hb⟩:=hv
  exact⟨v,vs',cs,e,V.mono h ha,ho,VC.mono h hb⟩
 | .undef,_,hv=>by simp only[VC]at hv
 | .gone,_,hv=>by simp only[VC]at hv
 | .df,_,hv=>by simp only[VC]at hv
 | .oI,_,hv=>by simp only[VC]at hv
 | .qt,_,hv=>by simp only[VC]at hv
 | .yl ..,_,hv | .qK ..,_,hv=>by simp only[VC]at hv
 | .tl,_,hv=>by simp only[VC]at hv
 | .sb _,_,hv=>by simp only[VC]at hv
 | .d t x,_,hv=>by simp only[VC]at hv
 | .pr a b,_,hv=>by simp only[VC]at hv
 | .ptr ..,_,hv=>by simp only[VC]at hv
 | .ed ..,_,hv=>by simp only[VC]at hv
 | .cP ..,_,hv=>by simp only[VC]at hv
 | .fn ..,_,hv=>by simp only[VC]at hv
 | .vec ..,_,hv=>by simp only[VC]at hv
 | .bx ..,_,hv=>by simp only[VC]at hv
 | .oh ..,_,hv=>by simp only[VC]at hv
 | .mp ..,_,hv | .oK ..,_,hv=>by simp only[VC]at hv
end
theorem V.size{E:Env}:∀ {a:az} {cs:List Value},V E a cs->cs.length=a.size
 | .undef,_,hv=>by simp only[V]at hv
 | .gone,_,hv=>by simp only[V]at hv;obtain⟨v,rfl,_⟩:=hv;rfl
 | .df,_,hv=>by simp only[V]at hv;rw[hv];rfl
 | .oI,_,hv=>by simp only[V]at hv;rw[hv];rfl
 | .qt,_,hv=>by simp only[V]at hv;rw[hv];rfl
 | .yl ..,_,hv=>by simp only[V]at hv;obtain⟨_,rfl,_⟩:=hv;rfl
 | .qK ..,_,hv=>by simp only[V]at hv
 | .tl,_,hv=>by simp only[V]at hv;rw[hv];rfl
 | .sb _,_,hv=>by simp only[V]at hv;obtain⟨_,_,_,_,rfl,_⟩:=hv;rfl
 | .d t x,_,hv=>by simp only[V]at hv;exact hv.size
 | .pr a b,_,hv=>by
  simp only[V]at hv
  obtain⟨ca,cb,rfl,ha,hb⟩:=hv
  simp[az.size,V.size ha,V.size hb]
 | .ptr ..,_,hv=>by simp only[V]at hv;obtain⟨a,rfl,_⟩:=hv;rfl
 | .ed ..,_,hv=>by simp only[V]at hv;obtain⟨_,_,_,rfl,_⟩:=hv;rfl
 | .cP ..,_,hv=>by simp only[V]at hv;obtain⟨_,_,rfl,_⟩:=hv;rfl
 | .fn ..,_,hv=>by simp only[V]at hv;obtain⟨_,rfl,_⟩:=hv;rfl
 | .cons _ _,_,hv=>by simp only[V]at hv
 | .nil,_,hv=>by simp only[V]at hv
 | .vec ..,_,hv=>by simp only[V]at hv
 | .bx ..,_,hv=>by simp only[V]at hv
 | .oh ..,_,hv=>by simp only[V]at hv;obtain⟨_,rfl,_⟩:=hv;rfl
 | .mp ..,_,hv | .oK ..,_,hv=>by simp only[V]at hv
theorem V.one{E:Env}:∀ {a:az} {cs:List Value},V E a cs->∀c∈cs,c.oneCell'=true
 | .undef,_,hv=>by simp only[V]at hv
 | .gone,_,hv=>by simp only[V]at hv;obtain⟨v,rfl,h⟩:=hv;simp[h]
 | .df,_,hv=>by simp only[V]at hv;rw[hv];simp[Value.oneCell']
 | .oI,_,hv=>by simp only[V]at hv;rw[hv];simp[Value.oneCell']
 | .qt,_,hv=>by simp only[V]at hv;rw[hv];simp[Value.oneCell']
 | .yl ..,_,hv=>by simp only[V]at hv;obtain⟨_,rfl,_⟩:=hv;simp[Value.oneCell']
 | .qK ..,_,hv=>by simp only[V]at hv
 | .tl,_,hv=>by simp only[V]at hv;rw[hv];simp[Value.oneCell']
 | .sb _,_,hv=>by simp only[V]at hv;obtain⟨_,_,_,_,rfl,_⟩:=hv;simp[Value.oneCell']
 | .d t x,_,hv=>by simp only[V]at hv;exact hv.one
 | .pr a b,_,hv=>by
  simp only[V]at hv
  obtain⟨ca,cb,rfl,ha,hb⟩:=hv
  intro c hc
  rcases bP.1 hc with hc | hc
  ·exact V.one ha c hc
  ·exact V.one hb c hc
 | .ptr ..,_,hv=>by simp only[V]at hv;obtain⟨a,rfl,_⟩:=hv;simp[Value.oneCell']
 | .ed ..,_,hv=>by simp only[V]at hv;obtain⟨_,_,_,rfl,_⟩:=hv;simp[Value.oneCell']
 | .cP ..,_,hv=>by simp only[V]at hv;obtain⟨_,_,rfl,_⟩:=hv;simp[Value.oneCell']
 | .fn ..,_,hv=>by simp only[V]at hv;obtain⟨_,rfl,_⟩:=hv;simp[Value.oneCell']
 | .cons _ _,_,hv=>by simp only[V]at hv
 | .nil,_,hv=>by simp only[V]at hv
 | .vec ..,_,hv=>by simp only[V]at hv
 | .bx ..,_,hv=>by simp only[V]at hv
 | .oh ..,_,hv=>by simp only[V]at hv;obtain⟨_,rfl,_⟩:=hv;simp[Value.oneCell']
 | .mp ..,_,hv | .oK ..,_,hv=>by simp only[V]at hv
theorem az.GW:∀ {v:az},v.agg=false->v.size=1
 | .d (.int _) _,_ | .d .bool _,_ | .d .str _,_ | .d (.slice _) _,_ | .d (.iv _) _,_ | .d (.oV _) _,_=>rfl
 | .d .unit _,h | .d (.pair _ _) _,h | .d (.arr _ _) _,h=>by simp[az.agg,Ty.agg]at h
 | .pr _ _,h=>by simp[az.agg]at h
 | .undef,_ | .gone,_ | .df,_ | .oI,_ | .qt,_ | .tl,_ | .ptr ..,_ | .ed ..,_ | .cP ..,_ | .fn ..,_ | .cons ..,_ | .nil,_ | .vec ..,_ | .sb _,_ | .bx ..,_ | .oh ..,_ | .mp ..,_ | .oK ..,_ | .yl ..,_ | .qK ..,_=>rfl
def VS(E:Env):az->Value->Prop
 | .undef,_=>True
 | .cons a b,v=>∃vs,v= .tuple vs.toArray/\VC E (.cons a b) vs
 | .nil,v=>v= .tuple #[]
 |a,v=>∃cs,V E a cs/\gd a.agg cs v
theorem VS.mono{E E':Env}(h:c7 E E'):∀ {a:az} {v:Value},VS E a v->VS E' a v:=by
 intro a v hv
 cases a <;> first
  |trivial
  |exact hv
  | (obtain⟨cs,h1,h2⟩:=hv;exact⟨cs,V.mono h h1,h2⟩)
  | (obtain⟨vs,e,hc⟩:=hv;exact⟨vs,e,VC.mono h hc⟩)
theorem VS.undef{E:Env}{v:Value}:VS E .undef v:=trivial
theorem VS.of{E:Env}{a:az}{cs:List Value}{v:Value}(h:V E a cs)(ho:gd a.agg cs v):VS E a v:=by
 cases a <;> first
  | (simp only[V]at h;done)
  |exact⟨cs,h,ho⟩
theorem VS.fg{E:Env}{a:az}{v:Value}(h:VS E a v)(hc:a.fg=true):∃cs,V E a cs/\gd a.agg cs v:=by
 cases a <;> first
  | (simp[az.fg]at hc;done)
  |exact h
theorem VS.single{E:Env}{a:az}{v:Value}(h:VS E a v)(hc:a.fg=true)(ha:a.agg=false):V E a [v]:=by
 obtain⟨cs,hv,ho⟩:=h.fg hc
 rw[ha]at ho
 have:cs=[v]:=ho
 rw[<-this];exact hv
theorem gd.cells{agg:Bool}{cs:List Value}{v:Value}(h:gd agg cs v)(h1:∀c∈cs,c.oneCell'=true):v.cells=cs.toArray:=by
 cases agg with
 |true=>have:v= .agg cs.toArray:=h;rw[this];rfl
 |false=>
  have e:cs=[v]:=h
  have:=h1 v (by simp[e])
  rw[e]
  cases v <;> first | rfl | (simp[Value.oneCell']at this;done)
end Go.Ab
namespace Go.Ab
section
variable {α β:Type}
theorem aw{a b:α}:(Out.ok a).eval=some b↔a=b:=by simp[Out.eval]
theorem ao{b:α}:(Out.fail:Out α).eval=some b↔False:=by simp[Out.eval]
theorem bZ{c:Bool}{r:Out α}{b:α}:(Out.pf c r).eval=some b↔c=true/\r.eval=some b:=by cases c <;> simp[Out.eval]
theorem aC{c:Bool}{r:Out α}{b:α}:(Out.guard c r).eval=some b↔c=true/\r.eval=some b:=by cases c <;> simp[Out.guard,Out.eval]
theorem ql{x:Option β}{f:β->Out α}{b:α}:(Out.get x f).eval=some b↔∃y,x=some y/\(f y).eval=some b:=by
 cases x <;> simp[Out.eval]
theorem jW{x:Option α}{b:α}:(Out.opt x).eval=some b↔x=some b:=by cases x <;> simp[Out.opt,Out.eval]
theorem Eo(o:Out α)(f:α->Out β):(o.bind f).eval=o.eval.bind λa=>(f a).eval:=by
 induction o with
 |ok a=>rfl
 |fail=>rfl
 |pf c r ih=>cases c <;> simp[Out.bind,Out.eval,ih]
 |get x g ih=>cases x <;> simp[Out.bind,Out.eval,ih]
 |br c x y ih1 ih2=>cases c <;> simp[Out.bind,Out.eval,ih1,ih2]
theorem au{o:Out α}{f:α->Out β}{b:β}:(o.bind f).eval=some b↔∃a,o.eval=some a/\(f a).eval=some b:=by
 rw[Eo];simp[Option.bind_eq_some_iff]
theorem run_eq{R:Type}(o:Out α)(k:α->Option R):o.run k=o.eval.bind k:=by
 induction o with
 |ok a=>rfl
 |fail=>rfl
 |pf c r ih=>cases c <;> simp[Out.run,Out.eval,aJ,ih]
 |get x g ih=>cases x <;> simp[Out.run,Out.eval,av,ih]
 |br c x y ih1 ih2=>cases c <;> simp[Out.run,Out.eval,aJ,ih1,ih2]
theorem jx{R:Type}{o:Out α}{k:α->Option R}{r:R}:o.run k=some r↔∃a,o.eval=some a/\k a=some r:=by
 rw[run_eq];simp[Option.bind_eq_some_iff]
end
theorem jI{t t':Ty}{x:t.den}{y:t'.den}(h:py t t' x=some y):∃e:t=t',e▸x=y:=by
 unfold py at h
 split at h
 ·rename_i e;exact⟨e,by simpa using h⟩
 ·cases h
theorem bA.map{α β:Type}{R:List Value->α->Prop}{R':List Value->β->Prop}{f:α->β}(h:∀c x,R c x->R' c (f x)):∀ {cs:List Value} {l:List α},bA R cs l->bA R' cs (l.map f)
 |_,[],hc=>hc
 |_,x::xs,⟨c,cs',e,hx,hr⟩=>⟨c,cs',e,h c x hx,bA.map h hr⟩
theorem dn.Tm{E:Env}:∀(a b:Ty) (f:a.den->b.den),CN a b=some f->∀(cs:List Value) (x:a.den),dn E a cs x->dn E b cs (f x):=by
 intro a b
 induction a,b using CN.induct with
 |case1 t=>
  intro f hf cs x hx
  unfold CN at hf
  rw[dif_pos rfl]at hf
  obtain rfl:=bB hf
  simp only[dn]at hx
  obtain⟨h1,h2⟩:=hx
  show dn E (.slice t) cs ((x:Option (List t.den)).getD [])
  simp only[dn]
  cases hx:(x:Option (List t.den)) with
  |none=>exact⟨none,0,[],h1 hx,ay _,λh=>absurd h (jG 0),λi v hh=>by simp at hh,rfl⟩
  |some l=>exact h2 l hx
 |case2 t t' jb=>
  intro f hf
  unfold CN at hf
  rw[dif_neg jb]at hf
  cases hf
 |case3 t=>
  intro f hf cs x hx
  unfold CN at hf
  rw[dif_pos rfl]at hf
  obtain rfl:=bB hf
  simp only[dn]at hx ⊢
  refine⟨λh=>(by cases h),λl hl=> ?_⟩
  obtain rfl:x=l:=bB hl
  exact hx
 |case4 t t' jb=>
  intro f hf
  unfold CN at hf
  rw[dif_neg jb]at hf
  cases hf
 |case5 a b c d f g h1 h2 ih1 ih2=>
  intro k hk cs x hx
  unfold CN at hk
  rw[h2,h1]at hk
  obtain rfl:=bB hk
  simp only[dn]at hx ⊢
  obtain⟨ca,cb,e,ha,hb⟩:=hx
  exact⟨ca,cb,e,ih1 f h2 ca x.1 ha,ih2 g h1 cb x.2 hb⟩
 |case6 a b c d hn ih1 ih2=>
  intro p hp
  unfold CN at hp
  split at hp
  ·rename_i f k h1 h2
   exact(hn _ _ h1 h2).elim
  ·cases hp
 |case7 a b f h1 ih=>
  intro k hk cs x hx
  unfold CN at hk
  rw[h1]at hk
  obtain rfl:=bB hk
  simp only[dn]at hx ⊢
  obtain⟨ad,cap,vs,e,hl,hs,hr,hc⟩:=hx
  rw[cR]
  exact⟨ad,cap,vs,e,hl,hs,hr,hc.map λc x hx=>ih f h1 c x hx⟩
 |case8 a b h1 ih=>
  intro p hp
  unfold CN at hp
  rw[h1]at hp
  cases hp
 |case9 a h1 h2 h3 h4=>
  intro f hf cs x hx
  rw[CN.eq_5 _ _ h1 h2 h3 h4,dif_pos rfl]at hf
  obtain rfl:=bB hf
  exact hx
 |case10 a b h1 h2 h3 h4 jb=>
  intro f hf
  rw[CN.eq_5 _ _ h1 h2 h3 h4,dif_neg jb]at hf
  cases hf
theorem Nr{t t':Ty}{f:t.den->t'.den}(hp:CN t t'=some f):t.agg=t'.agg:=by
 unfold CN at hp
 split at hp
 ·rfl
 ·rfl
 ·rfl
 ·rfl
 ·split at hp
  ·rename_i e;rw[e]
  ·cases hp
theorem Di{t t':Ty}{x:t.den}{y:t'.den}(h:uU t t' x=some y):t.agg=t'.agg:=by
 unfold uU at h
 split at h
 ·rename_i z hz
  obtain⟨e,_⟩:=jI hz
  rw[e]
 ·split at h
  ·rename_i f hf
   exact Nr hf
  ·cases h
theorem tR{E:Env}{t t':Ty}{x:t.den}{y:t'.den}(h:uU t t' x=some y){cs:List Value}(hx:dn E t cs x):dn E t' cs y:=by
 unfold uU at h
 split at h
 ·rename_i z hz
  obtain⟨e,hz⟩:=jI hz
  subst e
  obtain rfl:=bB h
  simp only at hz
  rw[<-hz]
  exact hx
 ·split at h
  ·rename_i f hf
   obtain rfl:=bB h
   exact dn.Tm _ _ f hf cs x hx
  ·cases h
theorem JS{E:Env}{t t':Ty}{x:List t.den}{y:List t'.den}(h:uU (.slice t) (.slice t') x=some y):y.length=x.length/\∀vs,bA (dn E t) vs x->bA (dn E t') vs y:=by
 unfold uU at h
 split at h
 ·rename_i z hz
  obtain⟨e,hz⟩:=jI hz
  have e':t=t':=by simpa using e
  subst e'
  obtain rfl:=bB h
  simp only at hz
  subst hz
  exact⟨rfl,λ_ h=>h⟩
 ·split at h
  ·rename_i p hp
   obtain rfl:=bB h
   unfold CN at hp
   cases hd:CN t t' with
   |none=>rw[hd]at hp;cases hp
   |some q=>
    rw[hd]at hp
    obtain rfl:=bB hp
    exact⟨cR _,λvs hc=>hc.map λc x hx=>dn.Tm _ _ q hd c x hx⟩
  ·cases h
def VO(E:Env):az->List Value->Prop
 | .vec _ t l,cs=>bA (dn E t) cs l
 |a,cs=>V E a cs
theorem VO.of{E:Env}{a:az}{cs:List Value}(h:V E a cs):VO E a cs:=by
 cases a <;> first | exact h | (simp only[V]at h)
def az.iO:az->Bool | .vec .. =>true | .mp .. =>true | .oK .. =>true | .qK .. =>true | _=>false
theorem VO.to{E:Env}{a:az}{cs:List Value}(h:VO E a cs)(hn:a.iO=false):V E a cs:=by
 cases a <;> first | exact h | (simp[az.iO]at hn)
theorem VO.mono{E E':Env}(h:c7 E E'){a:az}{cs:List Value}(hv:VO E a cs):VO E' a cs:=by
 cases a <;> first | exact V.mono h hv | exact bA.mono (λ_ _ hx=>hx.mono h.mem) hv
theorem BY{t:Ty}{l:List t.den}{i:Nat}(h:i < l.length):nth t l i=l[i]:=by
 unfold nth;simp[h]
theorem B4{α:Type}(cs:List α)(n m k j:Nat)(h:k+j<=m):(((cs.drop n).take m).drop k).take j=(cs.drop (n+k)).take j:=by
 rw[oN,jU,fI]
 congr 1
 omega
theorem yq{E:Env}{t:Ty}{cs:List Value}{l:List t.den}(h:bA (dn E t) cs l){i:Nat}(hi:i < l.length):
  dn E t ((cs.drop (i*t.size)).take t.size) l[i]/\i*t.size+t.size<=cs.length:=by
 have hz:∀c x,dn E t c x->c.length=t.size:=λc x hx=>hx.size
 refine⟨h.get hz i hi,?_⟩
 rw[h.length hz,<-Nat.succ_mul]
 exact dr _ hi
theorem ow{E:Env}:∀(p:List v8) (c:az) (cs:List Value) (n:Nat) (v:az),VO E c cs->(loc c p).eval=some (n,v)->
  (n=0/\v=c)\/(V E v ((cs.drop n).take v.size)/\n+v.size<=cs.length)
 |[],c,cs,n,v,hc,h=>by
  left
  simp only[loc,aw,da]at h
  exact⟨h.1.symm,h.2.symm⟩
 |st::p,c,cs,n,v,hc,h=>by
  by_cases oJ:st= .arr
  ·subst oJ
   have h':(loc c p).eval=some (n,v):=by cases c <;> simpa only[loc]using h
   exact ow p c cs n v hc h'
  right
  have whole:∀(c':az) (cs':List Value) (n':Nat) (v':az),V E c' cs'->(loc c' p).eval=some (n',v')->V E v' ((cs'.drop n').take v'.size)/\n'+v'.size<=cs'.length:=by
   intro c' cs' n' v' hc' hl
   rcases ow p c' cs' n' v' (VO.of hc') hl with⟨rfl,rfl⟩ | hh
   ·have:=hc'.size
    rw[aI,bz (by omega)]
    exact⟨hc',by omega⟩
   ·exact hh
  have second:∀(a b:az) (ca cb:List Value),cs=ca++cb->ca.length=a.size->V E b cb->((loc b p).bind λ(n,v)=>Out.ok (a.size+n,v)).eval=some (n,v)->
    V E v ((cs.drop n).take v.size)/\n+v.size<=cs.length:=by
   intro a b ca cb e hl hb hh
   obtain⟨⟨n',v'⟩,h1,h2⟩:=au.1 hh
   simp only[aw,da]at h2
   obtain⟨rfl,rfl⟩:=h2
   obtain⟨h3,h4⟩:=whole b cb n' v' hb h1
   subst e
   rw[<-hl,jN,eu (by omega),aS,jm]
   exact⟨h3,by simp only[aj];omega⟩
  have elem:∀(t:Ty) (l:List t.den) (i:Nat),bA (dn E t) cs l->(Out.pf (decide (i < l.length)) ((loc (.d t (nth t l i)) p).bind λ(n,v)=>Out.ok (i*t.size+n,v))).eval=some (n,v)->
    V E v ((cs.drop n).take v.size)/\n+v.size<=cs.length:=by
   intro t l i pT hh
   obtain⟨hi,hh⟩:=bZ.1 hh
   have hi:i < l.length:=by simpa using hi
   obtain⟨⟨n',v'⟩,h1,h2⟩:=au.1 hh
   simp only[aw,da]at h2
   obtain⟨rfl,rfl⟩:=h2
   obtain⟨hp,hle⟩:=yq pT hi
   rw[BY hi]at h1
   have hv:V E (.d t l[i]) ((cs.drop (i*t.size)).take t.size):=by simpa only[V]using hp
   obtain⟨h3,h4⟩:=whole _ _ n' v' hv h1
   have hlen:((cs.drop (i*t.size)).take t.size).length=t.size:=hp.size
   rw[B4 _ _ _ _ _ (by omega)]at h3
   exact⟨h3,by omega⟩
  cases c with
  |pr a b=>
   simp only[VO,V]at hc
   obtain⟨ca,cb,e,ha,hb⟩:=hc
   cases st with
   |arr=>exact absurd rfl oJ
   |fst=>
    simp only[loc]at h
    obtain⟨h3,h4⟩:=whole a ca n v ha h
    subst e
    refine⟨?_,by simp only[aj];omega⟩
    rw[jN,kS,dx,j5 (by omega:v.size<=ca.length - n),eH,cH]
    exact h3
   |snd=>simp only[loc]at h;exact second a b ca cb e ha.size hb h
   |idx i=>simp only[loc,ao]at h
  |d t x=>
   simp only[VO,V]at hc
   cases t with
   |pair ta tb=>
    simp only[dn]at hc
    obtain⟨ca,cb,e,ha,hb⟩:=hc
    cases st with
    |arr=>exact absurd rfl oJ
    |fst=>
     simp only[loc]at h
     obtain⟨h3,h4⟩:=whole (.d ta x.1) ca n v (by simpa only[V]using ha) h
     subst e
     refine⟨?_,by simp only[aj];omega⟩
     rw[jN,kS,dx,j5 (by omega:v.size<=ca.length - n),eH,cH]
     exact h3
    |snd=>simp only[loc]at h;exact second (.d ta x.1) (.d tb x.2) ca cb e ha.size (by simpa only[V]using hb) h
    |idx i=>simp only[loc,ao]at h
   |arr m t=>
    simp only[dn]at hc
    cases st with
    |arr=>exact absurd rfl oJ
    |idx i=>simp only[loc]at h;exact elem t x i hc.2 h
    |fst=>simp only[loc,ao]at h
    |snd=>simp only[loc,ao]at h
   |_=>cases st <;> first | exact absurd rfl oJ | (simp only[loc,ao]at h)
  |vec e t l=>
   simp only[VO]at hc
   cases st with
   |arr=>exact absurd rfl oJ
   |idx i=>simp only[loc]at h;exact elem t l i hc h
   |fst=>simp only[loc,ao]at h
   |snd=>simp only[loc,ao]at h
  |_=>cases st <;> first | exact absurd rfl oJ | (simp only[loc,ao]at h)
theorem Hu{E:Env}{a b:az}{ca cb:List Value}(ha:V E a ca)(hb:V E b cb):V E (xW a b) (ca++cb):=by
 have gen:V E (.pr a b) (ca++cb):=by simp only[V];exact⟨ca,cb,rfl,ha,hb⟩
 unfold xW
 split
 ·simp only[V]at ha hb ⊢
  simp only[dn]
  exact⟨ca,cb,rfl,ha,hb⟩
 ·exact gen
theorem z8(a b:az):(xW a b).iO=false:=by unfold xW;split <;> rfl
def dJ(cs:List Value)(n:Nat)(vs:List Value):List Value:=cs.take n++vs++cs.drop (n+vs.length)
theorem IC{cs vs:List Value}(h:cs.length=vs.length):dJ cs 0 vs=vs:=by
 simp[dJ,eu (by omega:cs.length<=vs.length)]
theorem sZ{ca cb vs:List Value}{n:Nat}(h:n+vs.length<=ca.length):dJ (ca++cb) n vs=dJ ca n vs++cb:=by
 unfold dJ
 rw[kS,jN,j5 (by omega:n<=ca.length),eH,cH,j5 h,aI]
 simp only[bk]
theorem yC{ca cb vs:List Value}{n:Nat}:dJ (ca++cb) (ca.length+n) vs=ca++dJ cb n vs:=by
 unfold dJ
 rw[kS,bz (by omega),jm,jN,eu (by omega),aS]
 simp only[bk]
 congr 4
 omega
theorem ID{cs vs:List Value}{i z n:Nat}(hz:i+z<=cs.length)(h:n+vs.length<=z):
  dJ cs (i+n) vs=cs.take i++dJ ((cs.drop i).take z) n vs++cs.drop (i+z):=by
 have e:cs=cs.take i++((cs.drop i).take z++cs.drop (i+z)):=by
  rw[<-fI,dL,dL]
 have hl:(cs.take i).length=i:=by simp;omega
 have hm:((cs.drop i).take z).length=z:=by simp;omega
 conv=>lhs;rw[e,show i+n=(cs.take i).length+n by rw[hl]]
 rw[yC,sZ (by omega)]
 simp only[bk]
theorem jM{cs vs:List Value}{n:Nat}(h:n+vs.length<=cs.length):(dJ cs n vs).length=cs.length:=by
 simp[dJ];omega
def kT:az->az->Prop
 | .vec e t l,.vec e' t' l'=>e'=e/\t'=t/\l'.length=l.length
 | .vec ..,_=>False
 |_,.vec .. =>False
 | .mp ..,_ | .oK ..,_ | .qK ..,_=>False
 |_,.mp .. | _,.oK .. | _,.qK .. =>False
 |_,_=>True
theorem kT.o6{a b:az}(h:kT a b)(ha:a.iO=false):b.iO=false:=by
 cases b <;> first
  |rfl
  | (cases a <;> first | (simp[az.iO]at ha;done) | exact h.elim)
theorem kT.of{a b:az}(ha:a.iO=false)(hb:b.iO=false):kT a b:=by
 cases a <;> first
  | (simp[az.iO]at ha;done)
  | (cases b <;> first | trivial | (simp[az.iO]at hb;done))
theorem V.o6{E:Env}{a:az}{cs:List Value}(h:V E a cs):a.iO=false:=by
 cases a <;> first | rfl | (simp only[V]at h)
theorem na{E:Env}:∀(p:List v8) (c:az) (cs:List Value) (n:Nat) (o v c':az) (vs:List Value),VO E c cs->(loc c p).eval=some (n,o)->V E v vs->
  (ri c p v).eval=some c'->n+vs.length<=cs.length/\VO E c' (dJ cs n vs)/\
   kT c c'
 |[],c,cs,n,o,v,c',vs,hc,hl,hv,h=>by
  simp only[loc,aw,da]at hl
  obtain⟨rfl,rfl⟩:=hl
  have main:∀(RW:c.iO=false),(Out.guard (v.fg && (c.size==v.size)) (.ok v)).eval=some c'->0+vs.length<=cs.length/\VO E c' (dJ cs 0 vs)/\
   kT c c':=by
   intro RW hg
   obtain⟨h1,h2⟩:=aC.1 hg
   obtain rfl:=aw.1 h2
   simp only[ak,beq_iff_eq]at h1
   have e1:=(hc.to RW).size
   have e2:=hv.size
   refine⟨by omega,?_,?_⟩
   ·rw[IC (by omega)];exact VO.of hv
   ·exact kT.of RW hv.o6
  cases c with
  |vec e t l=>simp only[ri,ao]at h
  |mp k v l=>simp only[ri,ao]at h
  |oK q ver k v rest cur=>simp only[ri,ao]at h
  |qK k f p=>simp only[ri,ao]at h
  |_=>exact main rfl (by simpa only[ri]using h)
 |st::p,c,cs,n,o,v,c',vs,hc,hl,hv,h=>by
  by_cases oJ:st= .arr
  ·subst oJ
   have hl':(loc c p).eval=some (n,o):=by cases c <;> simpa only[loc]using hl
   have h':(ri c p v).eval=some c':=by cases c <;> simpa only[ri]using h
   exact na p c cs n o v c' vs hc hl' hv h'
  have left:∀(a b:az) (ca cb:List Value),cs=ca++cb->V E a ca->V E b cb->(loc a p).eval=some (n,o)->((ri a p v).bind λa'=>Out.ok (xW a' b)).eval=some c'->
    n+vs.length<=cs.length/\VO E c' (dJ cs n vs)/\c'.iO=false:=by
   intro a b ca cb e ha hb hl hh
   obtain⟨a',h1,h2⟩:=au.1 hh
   obtain rfl:=aw.1 h2
   obtain⟨h3,h4,h5⟩:=na p a ca n o v a' vs (VO.of ha) hl hv h1
   subst e
   refine⟨by simp only[aj];omega,?_,z8 _ _⟩
   rw[sZ h3]
   have Tu:a'.iO=false:=h5.o6 ha.o6
   exact VO.of (Hu (h4.to Tu) hb)
  have right:∀(a b:az) (ca cb:List Value),cs=ca++cb->ca.length=a.size->V E a ca->V E b cb->((loc b p).bind λ(n,v)=>Out.ok (a.size+n,v)).eval=some (n,o)->
    ((ri b p v).bind λb'=>Out.ok (xW a b')).eval=some c'->n+vs.length<=cs.length/\VO E c' (dJ cs n vs)/\c'.iO=false:=by
   intro a b ca cb e LI ha hb hl hh
   obtain⟨⟨n',v'⟩,h1,h2⟩:=au.1 hl
   simp only[aw,da]at h2
   obtain⟨rfl,rfl⟩:=h2
   obtain⟨b',h3,h4⟩:=au.1 hh
   obtain rfl:=aw.1 h4
   obtain⟨h5,h6,h7⟩:=na p b cb n' v' v b' vs (VO.of hb) h1 hv h3
   subst e
   refine⟨by simp only[aj];omega,?_,z8 _ _⟩
   rw[<-LI,yC]
   have Tu:b'.iO=false:=h7.o6 hb.o6
   exact VO.of (Hu ha (h6.to Tu))
  have elem:∀(t:Ty) (l:List t.den) (i:Nat) (mk:List t.den->az),bA (dn E t) cs l->(Out.pf (decide (i < l.length)) ((loc (.d t (nth t l i)) p).bind λ(n,v)=>Out.ok (i*t.size+n,v))).eval=some (n,o)->
    (Out.pf (decide (i < l.length)) ((ri (.d t (nth t l i)) p v).bind fun
     | .d t' y=>(Out.opt (py t' t y)).bind λy=> .ok (mk (l.set i y))
     |_=> .fail)).eval=some c'->
    n+vs.length<=cs.length/\∃l',c'=mk l'/\l'.length=l.length/\bA (dn E t) (dJ cs n vs) l':=by
   intro t l i mk pT hl hh
   obtain⟨hi,hl⟩:=bZ.1 hl
   have hi:i < l.length:=by simpa using hi
   obtain⟨⟨n',v'⟩,h1,h2⟩:=au.1 hl
   simp only[aw,da]at h2
   obtain⟨rfl,rfl⟩:=h2
   obtain⟨_,hh⟩:=bZ.1 hh
   obtain⟨w,h3,h4⟩:=au.1 hh
   obtain⟨hp,hle⟩:=yq pT hi
   rw[BY hi]at h1 h3
   have P5:V E (.d t l[i]) ((cs.drop (i*t.size)).take t.size):=by simpa only[V]using hp
   have hlen:((cs.drop (i*t.size)).take t.size).length=t.size:=hp.size
   obtain⟨h5,h6,h7⟩:=na p _ _ n' v' v w vs (VO.of P5) h1 hv h3
   cases w with
   |d t' y=>
    simp only at h4
    obtain⟨y',h8,h9⟩:=au.1 h4
    obtain⟨rfl,h8⟩:=jI (jW.1 h8)
    simp only at h8
    subst h8
    obtain rfl:=aw.1 h9
    refine⟨by omega,_,rfl,by simp,?_⟩
    have hy:dn E t' (dJ ((cs.drop (i*t'.size)).take t'.size) n' vs) y:=by simpa only[VO,V]using h6
    have:=bA.set (λc x hx=>dn.size hx) pT i hi hy
    rw[ID (by omega:i*t'.size+t'.size<=cs.length) (by omega)]
    rwa[hy.size]at this
   |_=>simp only[ao]at h4
  cases c with
  |pr a b=>
   simp only[VO,V]at hc
   obtain⟨ca,cb,e,ha,hb⟩:=hc
   cases st with
   |arr=>exact absurd rfl oJ
   |fst=>
    simp only[loc]at hl;simp only[ri]at h
    obtain⟨r1,r2,r3⟩:=left a b ca cb e ha hb hl h
    exact⟨r1,r2,kT.of rfl r3⟩
   |snd=>
    simp only[loc]at hl;simp only[ri]at h
    obtain⟨r1,r2,r3⟩:=right a b ca cb e ha.size ha hb hl h
    exact⟨r1,r2,kT.of rfl r3⟩
   |idx i=>simp only[loc,ao]at hl
  |d t x=>
   simp only[VO,V]at hc
   cases t with
   |pair ta tb=>
    simp only[dn]at hc
    obtain⟨ca,cb,e,ha,hb⟩:=hc
    have ha':V E (.d ta x.1) ca:=by simpa only[V]using ha
    have hb':V E (.d tb x.2) cb:=by simpa only[V]using hb
    cases st with
    |arr=>exact absurd rfl oJ
    |fst=>
     simp only[loc]at hl;simp only[ri]at h
     obtain⟨r1,r2,r3⟩:=left _ _ ca cb e ha' hb' hl h
     exact⟨r1,r2,kT.of rfl r3⟩
    |snd=>
     simp only[loc]at hl;simp only[ri]at h
     obtain⟨r1,r2,r3⟩:=right (.d ta x.1) (.d tb x.2) ca cb e ha.size ha' hb' hl h
     exact⟨r1,r2,kT.of rfl r3⟩
    |idx i=>simp only[loc,ao]at hl
   |arr m t=>
    simp only[dn]at hc
    cases st with
    |arr=>exact absurd rfl oJ
    |idx i=>
     simp only[loc]at hl;simp only[ri]at h
     obtain⟨r1,l',e,r2,r3⟩:=elem t x i (λl=> .d (.arr m t) l) hc.2 hl h
     subst e
     refine⟨r1,?_,trivial⟩
     simp only[VO,V,dn]
     exact⟨by rw[r2];exact hc.1,r3⟩
    |fst=>simp only[loc,ao]at hl
    |snd=>simp only[loc,ao]at hl
   |_=>cases st <;> first | exact absurd rfl oJ | (simp only[loc,ao]at hl)
  |vec e t l=>
   simp only[VO]at hc
   cases st with
   |arr=>exact absurd rfl oJ
   |idx i=>
    simp only[loc]at hl;simp only[ri]at h
    obtain⟨r1,l',e',r2,r3⟩:=elem t l i (λl=> .vec e t l) hc hl h
    subst e'
    exact⟨r1,by simpa only[VO]using r3,rfl,rfl,r2⟩
   |fst=>simp only[loc,ao]at hl
   |snd=>simp only[loc,ao]at hl
  |_=>cases st <;> first | exact absurd rfl oJ | (simp only[loc,ao]at hl)
end Go.Ab
namespace Go.Ab
def Q7(E:Env)(id:Id)(fr:Bool)(e:TypeId)(t:Ty)(l:List t.den):Prop:=
 0 < t.size/\match E.β id with
  |none=>l=[]
  |some pl=>∃cur k,E.w.heap[pl.b]? =some (.cells cur e (0,0))/\cur.size=pl.cap*t.size/\l.length<=pl.cap/\pl.cap<=maxLen/\E.g pl.b= .own (.id id) k/\
    k<=l.length*t.size/\(fr=false->k=0)/\bA (dn E t) (cur.toList.take (l.length*t.size)) l
def az.uQ:az->Pl->Nat->TypeId->Prop
 | .bx e' 0 _,_,_,e=>e=e'
 | .bx e' (z+1) c,pl,n,e=>e=e'/\n=pl.cap*(z+1)/\pl.cap<=maxLen/\c.size<=n
 |_,_,_,_=>True
def az.qL:az->Nat->Nat
 | .bx _ (_+1) c,_=>c.size
 |_,n=>n
def az.CQ:az->Bool | .bx .. =>true | _=>false
theorem V.so{E:Env}{a:az}{cs:List Value}(h:V E a cs):a.CQ=false:=by
 cases a <;> first | rfl | (simp only[V]at h)
theorem zx{c:az}(h:c.CQ=false):c.strip=c:=by
 cases c <;> first | rfl | (simp[az.CQ]at h)
theorem yS{c:az}(h:c.CQ=false)(pl:Pl)(n:Nat)(e:TypeId):c.uQ pl n e:=by
 cases c <;> first | trivial | (simp[az.CQ]at h)
theorem AZ{c:az}(h:c.CQ=false)(n:Nat):c.qL n=n:=by
 cases c <;> first | rfl | (simp[az.CQ]at h)
theorem xo(c:az){c':az}(h:c'.CQ=false):(c.wrap c').strip=c':=by
 cases c <;> first | rfl | exact zx h
theorem wM{c c':az}{pl:Pl}{n:Nat}{e:TypeId}(hc:c.uQ pl n e)(h:c'.CQ=false)(hs:c'.size=c.strip.size):(c.wrap c').uQ pl n e:=by
 cases c with
 |bx e' z c=>cases z with
  |zero=>exact hc
  |succ z=>exact⟨hc.1,hc.2.1,hc.2.2.1,by rw[hs];exact hc.2.2.2⟩
 |_=>exact yS h pl n e
theorem yR{c c':az}{n:Nat}(h:c'.CQ=false)(hs:c'.size=c.strip.size):(c.wrap c').qL n=c.qL n:=by
 cases c with
 |bx e' z c=>cases z with
  |zero=>rfl
  |succ z=>exact hs
 |_=>exact AZ h n
theorem AB{c:az}{pl:Pl}{n:Nat}{e:TypeId}(h:c.uQ pl n e):c.qL n<=n:=by
 cases c with
 |bx e' z c=>cases z with
  |zero=>exact ay _
  |succ z=>exact h.2.2.2
 |_=>exact ay _
def Hz(id:Id)(fr:Bool):lG:=match fr with | true=> .free | false=> .own (.id id) 0
def yK(E:Env)(id:Id)(fr:Bool)(c:az):Prop:=
 ∃pl cur e,E.β id=some pl/\E.w.heap[pl.b]? =some (.cells cur e (0,0))/\E.g pl.b=Hz id fr/\c.uQ pl cur.size e/\V E c.strip (cur.toList.take (c.qL cur.size))
def Alike{α β:Type}(R:α->β->Prop):List α->List β->Prop
 |[],[]=>True
 |x::xs,y::ys=>R x y/\Alike R xs ys
 |_,_=>False
theorem Alike.mono{α β:Type}{R R':α->β->Prop}(h:∀x y,R x y->R' x y):∀ {xs:List α} {ys:List β},Alike R xs ys->Alike R' xs ys
 |[],[],_=>trivial
 |_::_,_::_,⟨h1,h2⟩=>⟨h _ _ h1,Alike.mono h h2⟩
 |[],_::_,h=>h.elim
 |_::_,[],h=>h.elim
def tx(E:Env)(t:Ty)(v:Value)(x:t.den):Prop:=∃cs,dn E t cs x/\gd t.agg cs v
def tM(E:Env)(kt vt:Ty)(e:MapEntry)(x:kt.den×vt.den):Prop:=tx E kt e.key x.1/\tx E vt e.val x.2
theorem tM.mono{E E':Env}(h:oO E E'){kt vt:Ty}{e:MapEntry}{x:kt.den×vt.den}(he:tM E kt vt e x):tM E' kt vt e x:=
 let⟨⟨c1,a1,b1⟩,c2,a2,b2⟩:=he
 ⟨⟨c1,a1.mono h,b1⟩,c2,a2.mono h,b2⟩
def D8(E:Env)(kt vt:Ty)(es:List MapEntry)(l:List (kt.den×vt.den)):Prop:=∃l',Alike (tM E kt vt) es l'/\l'.Perm l
theorem D8.mono{E E':Env}(h:oO E E'){kt vt:Ty}{es:List MapEntry}{l:List (kt.den×vt.den)}(hm:D8 E kt vt es l):D8 E' kt vt es l:=
 let⟨l',h1,h2⟩:=hm
 ⟨l',h1.mono λ_ _ he=>he.mono h,h2⟩
def mz(es:List MapEntry)(clock:Nat):Prop:=(es.map (·.born)).Nodup/\∀e∈es,e.born < clock
theorem mz.nil(n:Nat):mz [] n:=⟨jS,λ_ h=>(by cases h)⟩
theorem mz.push{es:List MapEntry}{clock:Nat}(h:mz es clock){e:MapEntry}(he:e.born=clock):mz (es++ [e]) (clock+1):=by
 refine⟨?_,λx hx=> ?_⟩
 ·rw[iD,mh]
  refine⟨h.1,by simp,λa ha b hb=> ?_⟩
  obtain⟨x,hx,rfl⟩:=dD.1 ha
  have:=h.2 x hx
  simp only[bR,fT,ck]at hb
  omega
 ·rcases bP.1 hx with hx | hx
  ·have:=h.2 x hx;omega
  ·rw[ck]at hx;subst hx;omega
theorem mz.erase{es:List MapEntry}{clock:Nat}(h:mz es clock)(j:Nat):mz (es.eraseIdx j) clock:=
 ⟨h.1.sublist ((List.eraseIdx_sublist es j).map _),λx hx=>h.2 x ((List.eraseIdx_sublist es j).subset hx)⟩
theorem mz.set{es:List MapEntry}{clock:Nat}(h:mz es clock){j:Nat}{e x:MapEntry}(hj:es[j]? =some e)(hx:x.born=e.born):mz (es.set j x) clock:=by
 have jt:=(dR.1 hj).1
 have U2:=(dR.1 hj).2
 have e1:(es.set j x).map (·.born)=es.map (·.born):=by
  rw[List.map_set,hx,<-U2]
  have:es[j].born=(es.map (·.born))[j]'(by simpa using jt):=by simp
  rw[this,gI]
 refine⟨by rw[e1];exact h.1,λy hy=> ?_⟩
 rcases List.mem_or_eq_of_mem_set hy with hy | hy
 ·exact h.2 y hy
 ·rw[hy,hx,<-U2]
  exact h.2 _ (bw jt)
def S9(E:Env)(id:Id)(kt vt:Ty)(l:List (kt.den×vt.den)):Prop:=
 ∃pl es clock,E.β id=some pl/\E.w.heap[pl.b]? =some (.map es clock)/\E.g pl.b= .own (.id id) 0/\(D8 E kt vt es.toList l/\(l.map (·.1)).Nodup)/\mz es.toList clock
def QB(E:Env)(i q:Id)(ver:Nat)(kt vt:Ty)(rest:List (kt.den×vt.den))(cur:Option (kt.den×vt.den)):Prop:=
 ∃pl mb since seen c0,E.β i=some pl/\E.w.heap[pl.b]? =some (.mapIter (some mb) since seen c0)/\E.g pl.b= .own (.id i) 0/\∀vr,ver=vr+1->E.uw q vr/\
  (E.cur q vr->(∃k v l,E.s q=some (.obj vr true (.mp k v l)))/\∃plq es clock,E.β q=some plq/\plq.b=mb/\E.w.heap[plq.b]? =some (.map es clock)/\E.g plq.b= .own (.id q) 0/\
   (∀x∈es.toList,x.born < since)/\(since<=c0/\since<=clock)/\(es.toList.map (·.born)).Nodup/\D8 E kt vt (es.toList.filter λe=> !seen.contains e.born) rest/\
   ∀x,cur=some x->∃(e:MapEntry) (seen':Array Nat),e∈es.toList/\seen=seen'.push e.born/\c0=clock/\tM E kt vt e x)
def GM:Nat->LoopState->Option Code->Prop
 | 0,st,pe=>st= .ready/\pe=none
 | 1,st,_=>st= .busy
 | 2,st,pe=>st= .done/\pe=some .ret
 |n+3,st,pe=>st= .done/\pe=some (.exit n)
def tN(E:Env)(f:az)(tmps:Array Value):Prop:=f.list.length=tmps.size/\∀i,VS E (f.list.getD i .undef) (tmps.getD i undef)
def Tb(E:Env)(id:Id)(c:pv)(f:az)(p:Nat):Prop:=
 ∃pl r,E.β id=some pl/\E.w.heap[pl.b]? =some (.loop r)/\E.g pl.b= .own (.id id) 0/\(r.params=c.ps/\r.assign=c.as/\r.body=c.b)/\tN E f r.tmps/\GM p r.state r.pending
def qf(E:Env)(id:Id)(fr:Bool):az->Prop
 | .qK c f p=>Tb E id c f p
 | .vec e t l=>Q7 E id fr e t l
 | .mp kt vt l=>S9 E id kt vt l
 | .oK q ver kt vt rest cur=>QB E id q ver kt vt rest cur
 |c=>yK E id fr c
theorem qf.box{E:Env}{id:Id}{fr:Bool}{c:az}(h:qf E id fr c)(hn:c.iO=false):yK E id fr c:=by
 cases c <;> first | exact h | (simp[az.iO]at hn)
theorem yK.obj{E:Env}{id:Id}{fr:Bool}{c:az}(h:yK E id fr c):qf E id fr c:=by
 cases c <;> first | exact h | (obtain⟨_,_,_,_,_,_,_,hv⟩:=h;simp only[az.strip,V]at hv)
def jd(E:Env):Prop:=∀id ver fr c,E.s id=some (.obj ver fr c)->qf E id fr c
structure Trans(w w':World)(g g':Nat->lG):Prop where
 os:w'.os=w.os
 tape:w'.tape=w.tape
 output:w'.output=w.output/\w.drawn<=w'.drawn
 size:w.heap.size<=w'.heap.size
 yO:∀b,b < w.heap.size->match g b with
  | .free=>g' b= .free/\w'.heap[b]? =w.heap[b]?
  | .own .eL k=>g' b= .own .eL k/\w'.heap[b]? =w.heap[b]?
  | .own (.id _) k=>(g' b= .free\/∃i k',g' b= .own (.id i) k'/\k<=k')/\∀off v,off < k->w.cell? ⟨b,off,none⟩=some v->w'.cell? ⟨b,off,none⟩=some v
theorem Trans.refl(w:World)(g:Nat->lG):Trans w w g g:=
 ⟨rfl,rfl,⟨rfl,ay _⟩,ay _,λb _=>by
  cases g b with
  |free=>exact⟨rfl,rfl⟩
  |own o k=>cases o with
   |eL=>exact⟨rfl,rfl⟩
   |id i=>exact⟨.inr ⟨i,k,rfl,ay _⟩,λ_ _ _ h=>h⟩⟩
theorem Trans.trans{w w' w'':World}{g g' g'':Nat->lG}(h:Trans w w' g g')(h':Trans w' w'' g' g''):Trans w w'' g g'':=by
 refine⟨h'.os.trans h.os,h'.tape.trans h.tape,⟨h'.output.1.trans h.output.1,Nat.le_trans h.output.2 h'.output.2⟩,Nat.le_trans h.size h'.size,λb hb=> ?_⟩
 have h1:=h.yO b hb
 have h2:=h'.yO b (nO hb h.size)
 cases hg:g b with
 |free=>
  rw[hg]at h1;simp only at h1 ⊢
  rw[h1.1]at h2;simp only at h2
  exact⟨h2.1,h2.2.trans h1.2⟩
 |own o k=>
  cases o with
  |eL=>
   rw[hg]at h1;simp only at h1 ⊢
   rw[h1.1]at h2;simp only at h2
   exact⟨h2.1,h2.2.trans h1.2⟩
  |id i=>
   rw[hg]at h1;simp only at h1 ⊢
   obtain⟨Rq,UQ⟩:=h1
   rcases Rq with Rq | ⟨i',k',Rq,hk⟩
   ·rw[Rq]at h2;simp only at h2
    exact⟨.inl h2.1,λoff v ho hv=>by
     have:=UQ off v ho hv
     simpa only[World.cell?,h2.2]using this⟩
   ·rw[Rq]at h2;simp only at h2
    refine⟨?_,λoff v ho hv=>h2.2 off v (by omega) (UQ off v ho hv)⟩
    rcases h2.1 with Tr | ⟨i'',k'',Tr,hk'⟩
    ·exact .inl Tr
    ·exact .inr ⟨i'',k'',Tr,by omega⟩
theorem Trans.mem{E E':Env}(h:Trans E.w E'.w E.g E'.g):oO E E':=by
 refine⟨?_,λb ob hf ho=>by
  have h1:=h.yO b (bT.1 ho).1
  rw[hf]at h1
  exact⟨h1.1,h1.2.trans ho⟩⟩
 intro b off v ⟨hc,ho⟩
 have hb:b < E.w.heap.size:=World.block_lt_of_cell? _ _ hc
 have h1:=h.yO b hb
 unfold Env.has pj at*
 cases hg:E.g b with
 |free=>
  rw[hg]at h1;simp only at h1
  refine⟨?_,by rw[h1.1];trivial⟩
  simpa only[World.cell?,h1.2]using hc
 |own o k=>
  rw[hg]at ho;simp only at ho
  cases o with
  |eL=>
   rw[hg]at h1;simp only at h1
   refine⟨?_,by rw[h1.1];exact ho⟩
   simpa only[World.cell?,h1.2]using hc
  |id i=>
   rw[hg]at h1;simp only at h1
   refine⟨h1.2 off v ho hc,?_⟩
   rcases h1.1 with h2 | ⟨i',k',h2,hk⟩
   ·rw[h2];trivial
   ·rw[h2];show off < k';omega
theorem tN.mono{E E':Env}(h:c7 E E'){f:az}{tmps:Array Value}(hs:tN E f tmps):tN E' f tmps:=⟨hs.1,λi=>(hs.2 i).mono h⟩
theorem qf.OQ{E E':Env}(h:c7 E E'){id:Id}{fr:Bool}{c:az}(ho:qf E id fr c)(hβ:E'.β id=E.β id)
    (hb:∀pl,E.β id=some pl->E'.w.heap[pl.b]? =E.w.heap[pl.b]? /\E'.g pl.b=E.g pl.b)
    (hq:∀q ver k v l,(∃kt vt rest cu,c= .oK q (ver+1) kt vt rest cu)->E.s q=some (.obj ver true (.mp k v l))->E'.cur q ver->(∃k v l,E'.s q=some (.obj ver true (.mp k v l)))/\∀pl,E.β q=some pl->E'.w.heap[pl.b]? =E.w.heap[pl.b]? /\E'.g pl.b=E.g pl.b):qf E' id fr c:=by
  by_cases hn:c.iO=false
  · obtain⟨pl,cur,e,h1,h2,h3,h5,h4⟩:=ho.box hn
    obtain⟨b1,b2⟩:=hb pl h1
    exact yK.obj ⟨pl,cur,e,by rw[hβ,h1],by rw[b1,h2],by rw[b2,h3],h5,h4.mono h⟩
  · cases c <;> first
      | (exact absurd rfl hn)
      | (obtain⟨pl,r,h1,h2,h3,h4,h5,h6⟩:=ho
         obtain⟨b1,b2⟩:=hb pl h1
         exact⟨pl,r,by rw[hβ,h1],by rw[b1,h2],by rw[b2,h3],h4,h5.mono h,h6⟩)
      | (obtain⟨pl,es,clock,h1,h2,h3,h4⟩:=ho
         obtain⟨b1,b2⟩:=hb pl h1
         exact⟨pl,es,clock,by rw[hβ,h1],by rw[b1,h2],by rw[b2,h3],⟨h4.1.1.mono h.mem,h4.1.2⟩,h4.2⟩)
      | (obtain⟨pl,mb,since,seen,c0,h1,h2,h3,hv⟩:=ho
         obtain⟨b1,b2⟩:=hb pl h1
         refine⟨pl,mb,since,seen,c0,by rw[hβ,h1],by rw[b1,h2],by rw[b2,h3],λvr H4=> ?_⟩
         obtain⟨h4,h5⟩:=hv vr H4
         refine⟨h.uw _ _ h4,λhc=> ?_⟩
         obtain⟨c1,e1⟩:=h.cur _ _ h4 hc
         obtain⟨⟨k,v,l,hk⟩,plq,es,clock,g1,g2,g3,g4,g5,g6,g7,g8,g9⟩:=h5 c1
         obtain⟨q1,q2⟩:=hq _ _ _ _ _ ⟨_,_,_,_,by rw[H4]⟩ hk hc
         obtain⟨q3,q4⟩:=q2 plq g1
         exact⟨q1,plq,es,clock,by rw[e1,g1],g2,by rw[q3,g3],by rw[q4,g4],g5,g6,g7,g8.mono h.mem,λx hx=>
           let⟨e,se,a1,a2,a3,a4⟩:=g9 x hx
           ⟨e,se,a1,a2,a3,a4.mono h.mem⟩⟩)
      |skip
    rename_i e t l
    obtain⟨hz,ho⟩:=ho
    refine⟨hz,?_⟩
    rw[hβ]
    cases hp:E.β id with
    |none=>rw[hp]at ho;exact ho
    |some pl=>
      rw[hp]at ho
      simp only at ho ⊢
      obtain⟨b1,b2⟩:=hb pl hp
      obtain⟨cur,k,h1,h2,h3,h4,h5,h6,h7,h8⟩:=ho
      exact⟨cur,k,by rw[b1,h1],h2,h3,h4,by rw[b2,h5],h6,h7,h8.mono λc x hx=>hx.mono h.mem⟩
theorem qf.mono{E E':Env}(h:c7 E E'){id:Id}{fr:Bool}{c:az}(ho:qf E id fr c)(hβ:E'.β id=E.β id)
  (hb:∀pl,E.β id=some pl->E'.w.heap[pl.b]? =E.w.heap[pl.b]? /\E'.g pl.b=E.g pl.b)
  (hq:∀q ver k v l,E.s q=some (.obj ver true (.mp k v l))->E'.cur q ver->(∃k v l,E'.s q=some (.obj ver true (.mp k v l)))/\∀pl,E.β q=some pl->E'.w.heap[pl.b]? =E.w.heap[pl.b]? /\E'.g pl.b=E.g pl.b):qf E' id fr c:=
 ho.OQ h hβ hb λq ver k v l _=>hq q ver k v l
def AS.env(s:AS)(w:World)(g:Nat->lG)(β:Id->Option Pl):Env:= {w,g,β,s:=s.cz}
structure Ctx where
 E:Env
def Ctx.ok(C:Ctx):Prop:=(∀i j,C.E.s (.new i j)=none)/\∀k v fr c,C.E.s (.dB k)=some (.obj v fr c)->v=0
def pF(D:Nat):Deferred:= {target:= .collected D,args:= #[]}
def IN(n:Nat)(ds:List Deferred)(w:World)(g:Nat->lG):Prop:=
 ds.Nodup/\∀d∈ds,∃D,d=pF D/\n<=D/\w.heap[D]? =some (.deferred (some []))/\g D= .own .eL 0
theorem IN.mono{n:Nat}{ds:List Deferred}{w w':World}{g g':Nat->lG}(h:IN n ds w g)(ht:Trans w w' g g'):IN n ds w' g':=
 ⟨h.1,λd hd=>by
  obtain⟨D,h1,h2,h3,h4⟩:=h.2 d hd
  have:=ht.yO D (bT.1 h3).1
  rw[h4]at this
  exact⟨D,h1,h2,this.2.trans h3,this.1⟩⟩
structure Inv(C:Ctx)(g:Nat->lG)(β:Id->Option Pl)(s:AS)(a:Act)(w:World):Prop where
 defers:IN C.E.w.heap.size a.defers w g
 size:a.tmps.size=s.cO.length
 cO:∀i,VS (s.env w g β) (s.slot i) (a.tmps.getD i undef)
 bU:jd (s.env w g β)
 trans:Trans C.E.w w C.E.g g
 le:c7 C.E (s.env w g β)
def iN(C:Ctx)(s:AS)(a:Act)(w:World):Prop:=∃g β,Inv C g β s a w
theorem Ck(s:AS)(d:Nat)(v:az)(i:Nat):(s.put (some d) v).slot i=if i=d/\d < s.cO.length then v else s.slot i:=by
 simp only[AS.put,AS.slot,aF,List.getElem?_set]
 by_cases h:d=i
 ·subst h
  by_cases hl:d < s.cO.length
  ·simp[hl]
  ·simp[hl]
 ·simp[h,Ne.symm h]
@[simp] theorem vJ(s:AS)(d:Option Tmp)(v:az):(s.put d v).cz=s.cz:=by
 cases d <;> rfl
@[simp] theorem En(s:AS)(d:Option Tmp)(v:az)(w:World)(g:Nat->lG)(β:Id->Option Pl):(s.put d v).env w g β=s.env w g β:=by
 simp[AS.env]
theorem Ha(a:Act)(d:Nat)(v:Value)(i:Nat):(a.put (some d) v).tmps.getD i undef=if i=d/\d < a.tmps.size then v else a.tmps.getD i undef:=by
 simp only[Act.put,cY,ee]
 by_cases h:d=i
 ·subst h
  by_cases hl:d < a.tmps.size
  ·simp[hl]
  ·simp[hl]
 ·simp[h,Ne.symm h]
theorem Inv.put{C:Ctx}{g:Nat->lG}{β:Id->Option Pl}{s:AS}{a:Act}{w:World}(h:Inv C g β s a w)(d:Option Tmp){v:az}{x:Value}(hv:VS (s.env w g β) v x):
  Inv C g β (s.put d v) (a.put d x) w:=by
 cases d with
 |none=>exact h
 |some d=>
  refine⟨h.defers,by simpa[Act.put,AS.put]using h.size,λi=> ?_,by simpa using h.bU,h.trans,by simpa using h.le⟩
  rw[En,Ck,Ha,h.size]
  split
  ·exact hv
  ·exact h.cO i
theorem Inv.step{C:Ctx}{g g':Nat->lG}{β β':Id->Option Pl}{s s':AS}{a:Act}{w w':World}(h:Inv C g β s a w)(hs:s'.cO=s.cO)
  (ht:Trans w w' g g') (he:c7 (s.env w g β) (s'.env w' g' β')) (ho:jd (s'.env w' g' β')):Inv C g' β' s' a w':=
 ⟨h.defers.mono ht,by rw[hs];exact h.size,λi=>by
  have:s'.slot i=s.slot i:=by simp[AS.slot,hs]
  rw[this]
  exact(h.cO i).mono he,ho,h.trans.trans ht,h.le.trans he⟩
theorem Lb{E:Env}(v:Value):VS E (ofConst v) v:=by
 cases v with
 |bool b=>exact⟨_,by simp[ofConst,V,dn],rfl⟩
 |int k n=>exact⟨_,by simp[ofConst,V,dn],rfl⟩
 |string s=>exact⟨_,by simp[ofConst,V,dn],rfl⟩
 |slice a l c=>cases a with
  |none=>
   cases l with
   |zero=>cases c with
    |zero=>exact⟨_,by simp[ofConst,V],rfl⟩
    |succ _=>trivial
   |succ _=>trivial
  |some _=>trivial
 |pointer a=>cases a with
  |none=>exact⟨_,by simp[ofConst,V],rfl⟩
  |some _=>trivial
 |map r=>cases r with
  |none=>exact⟨_,by simp[ofConst,V],rfl⟩
  |some _=>trivial
 |nilFunc=>exact⟨_,by simp[ofConst,V],rfl⟩
 |_=>trivial
theorem Inv.ev{C:Ctx}{g:Nat->lG}{β:Id->Option Pl}{s:AS}{a:Act}{w:World}(h:Inv C g β s a w)(x:Operand):VS (s.env w g β) (s.ev x) (a.eval x):=by
 cases x with
 |tmp t=>exact h.cO t
 |const v=>exact Lb v
 |func f=>exact⟨_,by simp only[AS.ev,V];exact⟨[],rfl,by simp[VC]⟩,rfl⟩
 |global _=>trivial
theorem eX(s:AS)(id:Id)(e:ea)(h:s.cz id≠none):(s.aX id e).cz id=some e:=by
 cases id with
 |dB k=>
  simp only[AS.cz,AS.aX]at*
  have hk:k < s.cT.length:=by
   rcases mO k s.cT.length with h' | h'
   ·exact h'
   ·exact absurd (dS h') h
  simp[hk]
 |new i j=>
  simp only[AS.cz,AS.aX]at*
  have hj:j < (s.news.getD i []).length:=by
   rcases mO j (s.news.getD i []).length with h' | h'
   ·exact h'
   ·exact absurd (dS h') h
  have hi:i < s.news.length:=by
   rcases mO i s.news.length with h' | h'
   ·exact h'
   ·simp[dS h']at hj
  have:((s.news.set i ((s.news.getD i []).set j e)).getD i [])=(s.news.getD i []).set j e:=by
   simp[aF,hi]
  rw[this]
  simp only[List.getElem?_set,hj,if_true]
theorem dh(s:AS)(id id':Id)(e:ea)(h:id'≠id):(s.aX id e).cz id'=s.cz id':=by
 cases id with
 |dB k=>
  cases id' with
  |dB k'=>
   simp only[AS.cz,AS.aX]
   rw[fc (λe=>h (by rw[e]))]
  |new i j=>rfl
 |new i j=>
  cases id' with
  |dB k'=>rfl
  |new i' j'=>
   simp only[AS.cz,AS.aX]
   by_cases hi:i'=i
   ·subst hi
    have hj:j≠j':=λe=>h (by rw[e])
    by_cases hl:i' < s.news.length
    ·have:((s.news.set i' ((s.news.getD i' []).set j e)).getD i' [])=(s.news.getD i' []).set j e:=by
      simp[aF,hl]
     rw[this,fc hj]
    ·rw[List.set_eq_of_length_le (by omega)]
   ·have:(s.news.set i ((s.news.getD i []).set j e)).getD i' []=s.news.getD i' []:=by
     simp only[aF]
     rw[fc (Ne.symm hi)]
    rw[this]
@[simp] theorem du(s:AS)(id:Id)(e:ea):(s.aX id e).cO=s.cO:=by cases id <;> rfl
@[simp] theorem Qs(s:AS)(i:Nat)(es:List ea):(s.born i es).cO=s.cO:=rfl
theorem eJ{s:AS}{id:Id}{v:Nat}{fr:Bool}{c:az}(h:s.obj id=some (v,fr,c)):s.cz id=some (.obj v fr c):=by
 unfold AS.obj at h
 split at h
 ·rename_i h';simp at h;obtain⟨rfl,rfl,rfl⟩:=h;exact h'
 ·cases h
theorem c7.aX{s:AS}{w w':World}{g g':Nat->lG}{β β':Id->Option Pl}{id:Id}{v v':Nat}{fr fr':Bool}{c c':az}(hs:s.cz id=some (.obj v fr c))(hv:v<=v')
  (ht:Trans w w' g g') (hβ:∀i,i≠id->β' i=β i) (hβ':v'=v->β' id=β id):c7 (s.env w g β) ((s.aX id (.obj v' fr' c')).env w' g' β'):=by
 have lr:=eX s id (.obj v' fr' c') (by rw[hs];simp)
 refine⟨Trans.mem ht,λi ver hb=> ?_,λi ver hb hc=> ?_⟩
 ·by_cases hi:i=id
  ·subst hi
   obtain⟨_,h2⟩:=hb
   refine⟨by show(s.aX i (.obj v' fr' c')).cz i≠none;rw[lr];simp,λv'' fr'' c'' he=> ?_⟩
   have he':(s.aX i (.obj v' fr' c')).cz i=some (.obj v'' fr'' c''):=he
   rw[lr]at he'
   simp only[ax,ea.obj.injEq]at he'
   have:=h2 v fr c hs
   omega
  ·have:=dh s id i (.obj v' fr' c') hi
   obtain⟨h1,h2⟩:=hb
   exact⟨by show(s.aX id (.obj v' fr' c')).cz i≠none;rw[this];exact h1,λv'' fr'' c'' he=>h2 v'' fr'' c'' (this.symm.trans he)⟩
 ·obtain⟨fr'',c'',hc⟩:=hc
  by_cases hi:i=id
  ·subst hi
   have hc':(s.aX i (.obj v' fr' c')).cz i=some (.obj ver fr'' c''):=hc
   rw[lr]at hc'
   simp only[ax,ea.obj.injEq]at hc'
   have h2:=hb.2 v fr c hs
   have e:v'=v:=by omega
   refine⟨⟨fr,c,?_⟩,hβ' e⟩
   rw[<-hc'.1,e];exact hs
  ·have hc':(s.aX id (.obj v' fr' c')).cz i=some (.obj ver fr'' c''):=hc
   rw[dh s id i _ hi]at hc'
   exact⟨⟨fr'',c'',hc'⟩,hβ i hi⟩
theorem jd.aX{s:AS}{w w':World}{g g':Nat->lG}{β β':Id->Option Pl}{id:Id}{v':Nat}{fr':Bool}{c':az}(h:jd (s.env w g β))(jb:s.cz id≠none)
  (he:c7 (s.env w g β) ((s.aX id (.obj v' fr' c')).env w' g' β')) (hβ:∀i,i≠id->β' i=β i)
  (hb:∀i ver fr c pl,i≠id->s.cz i=some (.obj ver fr c)->β i=some pl->w'.heap[pl.b]? =w.heap[pl.b]? /\g' pl.b=g pl.b)
  (ho:qf ((s.aX id (.obj v' fr' c')).env w' g' β') id fr' c')
  (PT:∀ver k v l,s.cz id=some (.obj ver true (.mp k v l))->v'=ver/\fr'=true/\(∃k v l,c'= .mp k v l)/\∀pl,β id=some pl->w'.heap[pl.b]? =w.heap[pl.b]? /\g' pl.b=g pl.b):jd ((s.aX id (.obj v' fr' c')).env w' g' β'):=by
 intro i ver fr c hi
 by_cases dz:i=id
 ·subst dz
  have hi':(s.aX i (.obj v' fr' c')).cz i=some (.obj ver fr c):=hi
  rw[eX s i _ jb]at hi'
  simp only[ax,ea.obj.injEq]at hi'
  obtain⟨rfl,rfl,rfl⟩:=hi'
  exact ho
 ·have hi':(s.aX id (.obj v' fr' c')).cz i=some (.obj ver fr c):=hi
  rw[dh s id i _ dz]at hi'
  refine(h i ver fr c hi').mono he (hβ i dz) (λpl hp=>hb i ver fr c pl dz hi' hp) λq vq k v l hq hc=> ?_
  have hq:s.cz q=some (.obj vq true (.mp k v l)):=hq
  by_cases T4:q=id
  ·subst T4
   obtain⟨rfl,rfl,⟨k',v',l',rfl⟩,QG⟩:=PT _ _ _ _ hq
   exact⟨⟨k',v',l',eX s q _ jb⟩,QG⟩
  ·exact⟨⟨k,v,l,by show(s.aX id _).cz q=_;rw[dh s id q _ T4];exact hq⟩,λpl hp=>hb q vq true _ pl T4 hq hp⟩
theorem AL{s:AS}{w:World}{g:Nat->lG}{β:Id->Option Pl}{id:Id}{v:Nat}{fr:Bool}{c:az}(hs:s.cz id=some (.obj v fr c)):
  ∀ver k v1 l,s.cz id=some (.obj ver true (.mp k v1 l))->v=ver/\true=true/\(∃k v l,c= .mp k v l)/\∀pl,β id=some pl->w.heap[pl.b]? =w.heap[pl.b]? /\g pl.b=g pl.b:=λver k v1 l hl=>by
 rw[hs]at hl
 cases hl
 exact⟨rfl,rfl,⟨_,_,_,rfl⟩,λ_ _=>⟨rfl,rfl⟩⟩
theorem mV{s:AS}{id:Id}{v:Nat}{fr:Bool}{c:az}(hs:s.cz id=some (.obj v fr c))(hc:∀k v1 l,c≠ .mp k v1 l){Q:Nat->Prop}:
  ∀ver k v1 l,s.cz id=some (.obj ver true (.mp k v1 l))->Q ver:=λver k v1 l hl=>by
 rw[hs]at hl
 cases hl
 exact absurd rfl (hc _ _ _)
theorem xT{s:AS}{id:Id}{v:Nat}{c:az}(hs:s.cz id=some (.obj v false c)){Q:Nat->Prop}:
  ∀ver k v1 l,s.cz id=some (.obj ver true (.mp k v1 l))->Q ver:=λver k v1 l hl=>by
 rw[hs]at hl
 cases hl
theorem vE{s:AS}{id:Id}{v:Nat}{fr:Bool}{c:az}(hs:s.cz id=some (.obj v fr c))(h:s.pd id=true):fr=false:=by
 have e:s.obj id=some (v,fr,c):=by simp[AS.obj,hs]
 unfold AS.pd at h
 rw[e]at h
 simpa using h
theorem qf.label{E:Env}{id:Id}{fr:Bool}{c:az}(h:qf E id fr c){pl:Pl}(hp:E.β id=some pl):
    pl.b < E.w.heap.size/\((∃k,E.g pl.b= .own (.id id) k)\/(fr=true/\E.g pl.b= .free)):=by
  by_cases hn:c.iO=false
  · obtain⟨pl',cur,e,h1,h2,h3,h4⟩:=h.box hn
    rw[hp]at h1
    obtain rfl:pl=pl':=by simpa using h1
    refine⟨(bT.1 h2).1,?_⟩
    cases fr with
    |true=>exact .inr ⟨rfl,h3⟩
    |false=>exact .inl ⟨0,h3⟩
  · cases c <;> first
      | (exact absurd rfl hn)
      | (obtain⟨pl',r,h1,h2,h3,_,_,_⟩:=h
         rw[hp]at h1
         obtain rfl:pl=pl':=by simpa using h1
         exact⟨(bT.1 h2).1,.inl ⟨0,h3⟩⟩)
      | (obtain⟨pl',es,clock,h1,h2,h3,_⟩:=h
         rw[hp]at h1
         obtain rfl:pl=pl':=by simpa using h1
         exact⟨(bT.1 h2).1,.inl ⟨0,h3⟩⟩)
      | (obtain⟨pl',mb,since,seen,c0,h1,h2,h3,_⟩:=h
         rw[hp]at h1
         obtain rfl:pl=pl':=by simpa using h1
         exact⟨(bT.1 h2).1,.inl ⟨0,h3⟩⟩)
      |skip
    obtain⟨_,h⟩:=h
    rw[hp]at h
    obtain⟨cur,k,h1,_,_,_,h5,_⟩:=h
    exact⟨(bT.1 h1).1,.inl ⟨k,h5⟩⟩
def lM{α:Type}(f:Nat->α)(b:Nat)(x:α):Nat->α:=λb'=>if b'=b then x else f b'
@[simp] theorem fP{α:Type}(f:Nat->α)(b:Nat)(x:α):lM f b x b=x:=by simp[lM]
theorem fE{α:Type}(f:Nat->α)(b:Nat)(x:α){b':Nat}(h:b'≠b):lM f b x b'=f b':=by simp[lM,h]
def Bw:az->Nat->Prop
 | .vec _ t l,j=>j < l.length*t.size
 |_,_=>True
theorem Bw.of{c:az}(h:c.iO=false)(j:Nat):Bw c j:=by
 cases c <;> first | trivial | (simp[az.iO]at h)
theorem Lr{w:World}{b:Nat}{es:Array MapEntry}{clock:Nat}(h:w.heap[b]? =some (.map es clock))(j:Nat):w.cell? ⟨b,j,none⟩=none:=by
 simp[World.cell?,h]
theorem Eu{C:Ctx}{g:Nat->lG}{β:Id->Option Pl}{s:AS}{a:Act}{w:World}(h:Inv C g β s a w)(id:Id):
    ∃g',Inv C g' β (s.freeze id) a w/\c7 (s.env w g β) ((s.freeze id).env w g' β)/\Trans w w g g'/\
      (∀v fr c,s.cz id=some (.obj v fr c)->∀pl,β id=some pl->∀j x,w.cell? ⟨pl.b,j,none⟩=some x->
        Bw c j->pj g' pl.b j):=by
  unfold AS.freeze
  cases hs:s.cz id with
  |none=>exact⟨g,h,c7.refl _,Trans.refl _ _,λ_ _ _ hh=>by cases hh⟩
  |some e=>
    cases e with
    |dead=>exact⟨g,h,c7.refl _,Trans.refl _ _,λ_ _ _ hh=>by cases hh⟩
    |obj v fr c=>
      simp only
      have kG:qf (s.env w g β) id fr c:=h.bU id v fr c hs
      cases hp:β id with
      |none=>
        have ht:=Trans.refl w g
        have he:c7 (s.env w g β) ((s.aX id (.obj v true c)).env w g β):=c7.aX hs (ay _) ht (λ_ _=>rfl) (λ_=>rfl)
        refine⟨g,h.step (du _ _ _) ht he ?_,he,ht,λ_ _ _ _ pl xw=>by cases xw⟩
        refine jd.aX h.bU (by rw[hs];simp) he (λ_ _=>rfl) (λ_ _ _ _ _ _ _ _=>⟨rfl,rfl⟩) ?_ (AL hs)
        by_cases hn:c.iO=false
        · obtain⟨pl,_,_,h1,_⟩:=kG.box hn
          have h1':β id=some pl:=h1
          rw[hp]at h1';cases h1'
        · cases c <;> first
            | (exact absurd rfl hn)
            | (obtain⟨pl,_,h1,_⟩:=kG
               have h1':β id=some pl:=h1
               rw[hp]at h1';cases h1')
            | (obtain⟨pl,_,_,h1,_⟩:=kG
               have h1':β id=some pl:=h1
               rw[hp]at h1';cases h1')
            | (obtain⟨pl,_,_,_,_,h1,_⟩:=kG
               have h1':β id=some pl:=h1
               rw[hp]at h1';cases h1')
            |skip
          obtain⟨hz,ho⟩:=kG
          have ho':(match β id with
            |none=>_
            |some pl=>_):=ho
          refine⟨hz,?_⟩
          show(match β id with
            |none=>_
            |some pl=>_)
          rw[hp]at ho' ⊢
          exact ho'
      |some pl=>
        have RP:=kG.label (pl:=pl) hp
        by_cases hn:c.iO=false
        · obtain⟨pl',cur,e,h1,h2,h3,h5,h4⟩:=kG.box hn
          have h1':β id=some pl':=h1
          rw[hp]at h1'
          obtain rfl:pl=pl':=by simpa using h1'
          have h3':g pl.b=Hz id fr:=h3
          have ht:Trans w w g (lM g pl.b .free):=by
            refine⟨rfl,rfl,⟨rfl,ay _⟩,ay _,λb hb=> ?_⟩
            by_cases Ew:b=pl.b
            · subst Ew
              rw[h3',fP]
              cases fr with
              |true=>exact⟨rfl,rfl⟩
              |false=>exact⟨.inl rfl,λ_ _ _ hh=>hh⟩
            · rw[fE _ _ _ Ew]
              exact(Trans.refl w g).yO b hb
          have he:c7 (s.env w g β) ((s.aX id (.obj v true c)).env w (lM g pl.b .free) β):=c7.aX hs (ay _) ht (λ_ _=>rfl) (λ_=>rfl)
          refine⟨lM g pl.b .free,h.step (du _ _ _) ht he ?_,he,ht,?_⟩
          · refine jd.aX h.bU (by rw[hs];simp) he (λ_ _=>rfl) (λi ver fr' c' pl' hi db xw=>⟨rfl,?_⟩) ?_ (mV hs λk v1 l e=>by rw[e]at hn;simp[az.iO]at hn)
            · by_cases Ew:pl'.b=pl.b
              · rw[Ew,fP]
                have hl:=(h.bU i ver fr' c' db).label (pl:=pl') xw
                have Jb:(∃k,g pl'.b= .own (.id i) k)\/(fr'=true/\g pl'.b= .free):=hl.2
                rw[Ew,h3']at Jb
                cases fr with
                |true=>exact h3'.symm▸rfl
                |false=>
                  exfalso
                  rcases Jb with⟨k,hk⟩ | ⟨_,hk⟩
                  · simp only[Hz,lG.own.injEq,Own.id.injEq]at hk
                    exact hi hk.1.symm
                  · cases hk
              · rw[fE _ _ _ Ew]
            · exact yK.obj ⟨pl,cur,e,hp,h2,fP _ _ _,h5,V.mono he h4⟩
          · intro v1 fr1 c1 hh pl1 Ez j x hx hj
            obtain rfl:pl=pl1:=by simpa using Ez
            unfold pj;rw[fP];trivial
        · cases c <;> first | (exact absurd rfl hn) | skip
          rotate_left
          rotate_left
          · rename_i q vq kt vt rest cu
            have ht:=Trans.refl w g
            have he:c7 (s.env w g β) ((s.aX id (.obj v true (.oK q vq kt vt rest cu))).env w g β):=c7.aX hs (ay _) ht (λ_ _=>rfl) (λ_=>rfl)
            have hob':=kG
            obtain⟨pl',mb,since,seen,c0,h1,h2,_⟩:=kG
            have h1':β id=some pl':=h1
            rw[hp]at h1'
            obtain rfl:pl=pl':=by simpa using h1'
            refine⟨g,h.step (du _ _ _) ht he ?_,he,ht,λ_ _ _ _ pl1 Ez j x hx _=> ?_⟩
            · refine jd.aX h.bU (by rw[hs];simp) he (λ_ _=>rfl) (λ_ _ _ _ _ _ _ _=>⟨rfl,rfl⟩) ?_ (AL hs)
              exact qf.mono he (fr:=true) hob' rfl (λ_ _=>⟨rfl,rfl⟩) λq2 v2 k2 v3 l2 Bq _=>⟨⟨k2,v3,l2,by
                have Bq:s.cz q2=some (.obj v2 true (.mp k2 v3 l2)):=Bq
                have jb:q2≠id:=λe=>by rw[e,hs]at Bq;cases Bq
                show(s.aX id _).cz q2=_
                rw[dh s id q2 _ jb];exact Bq⟩,λ_ _=>⟨rfl,rfl⟩⟩
            · obtain rfl:pl=pl1:=by simpa using Ez
              have h2:w.heap[pl.b]? =some (.mapIter (some mb) since seen c0):=h2
              simp[World.cell?,h2]at hx
          · rename_i k f p
            have ht:=Trans.refl w g
            have he:c7 (s.env w g β) ((s.aX id (.obj v true (.qK k f p))).env w g β):=c7.aX hs (ay _) ht (λ_ _=>rfl) (λ_=>rfl)
            obtain⟨pl',r,h1,h2,h3,h4,h5,h6⟩:=kG
            have h1':β id=some pl':=h1
            rw[hp]at h1'
            obtain rfl:pl=pl':=by simpa using h1'
            refine⟨g,h.step (du _ _ _) ht he ?_,he,ht,λ_ _ _ _ pl1 Ez j x hx _=> ?_⟩
            · exact jd.aX h.bU (by rw[hs];simp) he (λ_ _=>rfl) (λ_ _ _ _ _ _ _ _=>⟨rfl,rfl⟩) ⟨pl,r,hp,h2,h3,h4,h5.mono he,h6⟩ (AL hs)
            · obtain rfl:pl=pl1:=by simpa using Ez
              have h2:w.heap[pl.b]? =some (.loop r):=h2
              simp[World.cell?,h2]at hx
          rotate_left
          · obtain⟨pl',es,clock,h1,h2,h3,h4⟩:=kG
            have h1':β id=some pl':=h1
            rw[hp]at h1'
            obtain rfl:pl=pl':=by simpa using h1'
            have ht:=Trans.refl w g
            rename_i kt vt l
            have he:c7 (s.env w g β) ((s.aX id (.obj v true (.mp kt vt l))).env w g β):=c7.aX hs (ay _) ht (λ_ _=>rfl) (λ_=>rfl)
            refine⟨g,h.step (du _ _ _) ht he ?_,he,ht,λ_ _ _ _ pl1 Ez j x hx _=> ?_⟩
            · exact jd.aX h.bU (by rw[hs];simp) he (λ_ _=>rfl) (λ_ _ _ _ _ _ _ _=>⟨rfl,rfl⟩) ⟨pl,es,clock,hp,h2,h3,⟨h4.1.1.mono he.mem,h4.1.2⟩,h4.2⟩ (AL hs)
            · obtain rfl:pl=pl1:=by simpa using Ez
              have h2:w.heap[pl.b]? =some (.map es clock):=h2
              rw[Lr h2]at hx
              cases hx
          rename_i e t l
          obtain⟨hz,ho⟩:=kG
          have ho':(match β id with
            |none=>l=[]
            |some pl=>∃cur k,w.heap[pl.b]? =some (.cells cur e (0,0))/\cur.size=pl.cap*t.size/\l.length<=pl.cap/\pl.cap<=maxLen/\g pl.b= .own (.id id) k/\
                k<=l.length*t.size/\(fr=false->k=0)/\bA (dn (s.env w g β) t) (cur.toList.take (l.length*t.size)) l):=ho
          rw[hp]at ho'
          obtain⟨cur,k,h1,h2,h3,h4,h5,h6,h7,h8⟩:=ho'
          have ht:Trans w w g (lM g pl.b (.own (.id id) (l.length*t.size))):=by
            refine⟨rfl,rfl,⟨rfl,ay _⟩,ay _,λb hb=> ?_⟩
            by_cases Ew:b=pl.b
            · subst Ew
              rw[h5,fP]
              exact⟨.inr ⟨id,_,rfl,h6⟩,λ_ _ _ hh=>hh⟩
            · rw[fE _ _ _ Ew]
              exact(Trans.refl w g).yO b hb
          have he:c7 (s.env w g β) ((s.aX id (.obj v true (.vec e t l))).env w (lM g pl.b (.own (.id id) (l.length*t.size))) β):=c7.aX hs (ay _) ht (λ_ _=>rfl) (λ_=>rfl)
          refine⟨_,h.step (du _ _ _) ht he ?_,he,ht,?_⟩
          · refine jd.aX h.bU (by rw[hs];simp) he (λ_ _=>rfl) (λi ver fr' c' pl' hi db xw=>⟨rfl,?_⟩) ?_ (mV hs λk v1 l e=>by cases e)
            · by_cases Ew:pl'.b=pl.b
              · exfalso
                have hl:=(h.bU i ver fr' c' db).label (pl:=pl') xw
                have Jb:(∃k,g pl'.b= .own (.id i) k)\/(fr'=true/\g pl'.b= .free):=hl.2
                rw[Ew,h5]at Jb
                rcases Jb with⟨k,hk⟩ | ⟨_,hk⟩
                · simp only[lG.own.injEq,Own.id.injEq]at hk
                  exact hi hk.1.symm
                · cases hk
              · rw[fE _ _ _ Ew]
            · refine⟨hz,?_⟩
              show(match β id with
                |none=>l=[]
                |some pl=>_)
              rw[hp]
              exact⟨cur,_,h1,h2,h3,h4,fP _ _ _,ay _,(by intro hh;cases hh),h8.mono λc x hx=>hx.mono he.mem⟩
          · intro v1 fr1 c1 hh pl1 Ez j x hx hj
            obtain rfl:pl=pl1:=by simpa using Ez
            simp only[ax,ea.obj.injEq]at hh
            obtain⟨_,_,rfl⟩:=hh
            unfold pj;rw[fP];exact hj
end Go.Ab
namespace Go.Ab
def Q4(E E':Env)(ids:List Id):Prop:=
 ∀id∈ids,∀v fr c,E.s id=some (.obj v fr c)->∀pl,E.β id=some pl->∀j x,E.w.cell? ⟨pl.b,j,none⟩=some x->
  Bw c j->E'.has pl.b j x
theorem Bb{s:AS}{id i:Id}{v:Nat}{fr:Bool}{c:az}(h:s.cz i=some (.obj v fr c)):∃fr',(s.freeze id).cz i=some (.obj v fr' c):=by
 unfold AS.freeze
 by_cases hi:i=id
 ·subst hi
  rw[h]
  exact⟨true,eX s i _ (by rw[h];simp)⟩
 ·split
  ·exact⟨fr,by rw[dh s id i _ hi];exact h⟩
  ·exact⟨fr,h⟩
theorem gj{C:Ctx}{β:Id->Option Pl}{a:Act}{w:World}:∀(ids:List Id) {g:Nat->lG} {s:AS},Inv C g β s a w->
  ∃g',Inv C g' β (s.bD ids) a w/\c7 (s.env w g β) ((s.bD ids).env w g' β)/\Trans w w g g'/\Q4 (s.env w g β) ((s.bD ids).env w g' β) ids
 |[],g,s,h=>⟨g,h,c7.refl _,Trans.refl _ _,λ_ hi=>by cases hi⟩
 |id::ids,g,s,h=>by
  obtain⟨g1,h1,e1,t1,f1⟩:=Eu h id
  obtain⟨g2,h2,e2,t2,f2⟩:=gj ids h1
  refine⟨g2,h2,e1.trans e2,t1.trans t2,λi hi v fr c hs pl hp j x hx hj=> ?_⟩
  rcases dd.1 hi with rfl | hi
  ·exact e2.mem.has _ _ _ ⟨hx,f1 v fr c hs pl hp j x hx hj⟩
  ·obtain⟨fr',hs'⟩:=Bb (id:=id) hs
   exact f2 i hi v fr' c hs' pl hp j x hx hj
theorem EU(s:AS)(id:Id):(s.freeze id).cO=s.cO:=by unfold AS.freeze;split <;> simp
theorem l5:∀(ids:List Id) (s:AS),(s.bD ids).cO=s.cO
 |[],_=>rfl
 |id::ids,s=>by rw[AS.bD,l5 ids,EU]
theorem GA(s:AS)(id:Id)(q:Nat):(s.freeze id).eh q=s.eh q:=by
 unfold AS.freeze
 split
 ·rename_i v b c h
  cases id with
  |dB k=>rfl
  |new i j=>
   simp only[AS.aX,AS.eh]
   by_cases hq:i=q
   ·subst hq
    simp only[AS.cz]at h
    by_cases hl:i < s.news.length
    ·rw[List.getElem?_set_self hl,cQ hl]
     rw[aF,cQ hl]at h ⊢
     simp only[fq]at h ⊢
     cases hh:s.news[i]with
     |nil=>rw[hh]at h;simp at h
     |cons x xs=>cases j <;> simp[List.set]
    ·rw[List.set_eq_of_length_le (by omega)]
   ·rw[fc hq]
 ·rfl
theorem pO:∀(ids:List Id) (s:AS) (q:Nat),(s.bD ids).eh q=s.eh q
 |[],_,_=>rfl
 |id::ids,s,q=>by rw[AS.bD,pO ids,GA]
theorem BF{e:TypeId}{t:Ty}:∀ {p:List v8} {n:Nat} {v:az},(loc (.vec e t []) p).eval=some (n,v)->n=0/\v= .vec e t []
 |[],n,v,h=>by
  simp only[loc,aw,da]at h
  exact⟨h.1.symm,h.2.symm⟩
 | .arr::p,n,v,h=>by
  simp only[loc]at h
  exact BF h
 | .idx i::p,n,v,h=>by simp[loc,bZ]at h
 | .fst::p,n,v,h=>by simp only[loc,ao]at h
 | .snd::p,n,v,h=>by simp only[loc,ao]at h
theorem AO{k:pv}{f:az}{m:Nat}:∀ {p:List v8} {n:Nat} {v:az},(loc (.qK k f m) p).eval=some (n,v)->n=0/\v= .qK k f m
 |[],n,v,h=>by
  simp only[loc,aw,da]at h
  exact⟨h.1.symm,h.2.symm⟩
 | .arr::p,n,v,h=>by
  simp only[loc]at h
  exact AO h
 | .idx i::p,n,v,h=>by simp only[loc,ao]at h
 | .fst::p,n,v,h=>by simp only[loc,ao]at h
 | .snd::p,n,v,h=>by simp only[loc,ao]at h
theorem EG{k t:Ty}{l:List (k.den×t.den)}:∀ {p:List v8} {n:Nat} {v:az},(loc (.mp k t l) p).eval=some (n,v)->n=0/\v= .mp k t l
 |[],n,v,h=>by
  simp only[loc,aw,da]at h
  exact⟨h.1.symm,h.2.symm⟩
 | .arr::p,n,v,h=>by
  simp only[loc]at h
  exact EG h
 | .idx i::p,n,v,h=>by simp only[loc,ao]at h
 | .fst::p,n,v,h=>by simp only[loc,ao]at h
 | .snd::p,n,v,h=>by simp only[loc,ao]at h
theorem AN{q:Id}{ver:Nat}{k t:Ty}{l:List (k.den×t.den)}{cu:Option (k.den×t.den)}:∀ {p:List v8} {n:Nat} {v:az},(loc (.oK q ver k t l cu) p).eval=some (n,v)->n=0/\v= .oK q ver k t l cu
 |[],n,v,h=>by
  simp only[loc,aw,da]at h
  exact⟨h.1.symm,h.2.symm⟩
 | .arr::p,n,v,h=>by
  simp only[loc]at h
  exact AN h
 | .idx i::p,n,v,h=>by simp only[loc,ao]at h
 | .fst::p,n,v,h=>by simp only[loc,ao]at h
 | .snd::p,n,v,h=>by simp only[loc,ao]at h
theorem zr{E:Env}{s:AS}(hs:E.s=s.cz)(ho:jd E){id:Id}{ver:Nat}{p:List v8}{n:Nat}{t:Ty}{l:List t.den}(h:(s.row id ver p).eval=some (n,⟨t,l⟩)):
    ∃fr c,E.s id=some (.obj ver fr c)/\((E.β id=none/\l=[]/\n=0)\/∃pl cur e,E.β id=some pl/\E.w.heap[pl.b]? =some (.cells cur e (0,0))/\n+l.length*t.size<=cur.size/\
      bA (dn E t) ((cur.toList.drop n).take (l.length*t.size)) l/\
      ∀j,j < n+l.length*t.size->Bw c j):=by
  unfold AS.row at h
  cases kG:s.obj id with
  |none=>rw[kG]at h;simp only[ao]at h
  |some r=>
    obtain⟨v,fr,c⟩:=r
    rw[kG]at h
    obtain⟨h1,h2⟩:=aC.1 h
    obtain⟨⟨n',v'⟩,h3,h4⟩:=au.1 h2
    have hv:v=ver:=by simpa using h1
    subst hv
    have db:E.s id=some (.obj v fr c):=by rw[hs];exact eJ kG
    refine⟨fr,c,db,?_⟩
    have hO:=ho id v fr c db
    have HV:∀(pl:Pl) (cur:Array Value) (e:TypeId) (m:Nat) (t':Ty) (l':List t'.den) (n':Nat),E.β id=some pl->E.w.heap[pl.b]? =some (.cells cur e (0,0))->c.iO=false->
        V E (.d (.arr m t') l') ((cur.toList.drop n').take (az.d (.arr m t') l').size)->n'+(az.d (.arr m t') l').size<=cur.toList.length->(Out.ok (n',(⟨t',l'⟩:(t:Ty)×List t.den))).eval=some (n,⟨t,l⟩)->
        ∃pl cur e,E.β id=some pl/\E.w.heap[pl.b]? =some (.cells cur e (0,0))/\n+l.length*t.size<=cur.size/\bA (dn E t) ((cur.toList.drop n).take (l.length*t.size)) l/\
          ∀j,j < n+l.length*t.size->Bw c j:=by
      intro pl cur e m t' l' n' hp hh hn hv hl he
      simp only[aw,da]at he
      obtain⟨rfl,he⟩:=he
      obtain⟨rfl,he⟩:=he
      simp only[V,dn]at hv
      obtain⟨P3,zP⟩:=hv
      have oG:∀(t:Ty) (l:List t.den),l.length=m->(az.d (.arr m t) l).size=l.length*t.size:=λt l hh=>by simp[az.size,Ty.size,hh]
      rw[oG _ _ P3]at zP hl
      exact⟨pl,cur,e,hp,hh,by simpa using hl,zP,λj _=>Bw.of hn j⟩
    by_cases hn:c.iO=false
    · right
      obtain⟨pl,cur,e,hp,hh,hg,hk,hV⟩:=hO.box hn
      have hN:=AB hk
      generalize c.qL cur.size=N at hN hV
      have hNl:(cur.toList.take N).length=N:=by rw[cU,c6];omega
      obtain⟨u,hu⟩:∃u,c.strip=u:=⟨_,rfl⟩
      rw[hu]at hV h3
      have J7:∀m k:Nat,m+k<=(cur.toList.take N).length->((cur.toList.take N).drop m).take k=(cur.toList.drop m).take k/\m+k<=cur.toList.length:=λm k RU=>by
        rw[hNl]at RU
        refine⟨?_,by rw[c6];omega⟩
        rw[oN,jU,fp (by omega)]
      rcases ow p u (cur.toList.take N) n' v' (VO.of hV) h3 with⟨rfl,rfl⟩ | ⟨hV',hle⟩
      · cases v' with
        |d t' x=>cases t' with
          |arr m t'=>
            have hs:=hV.size
            have hc:=J7 0 (az.d (.arr m t') x).size (by omega)
            refine HV pl cur e m t' x 0 hp hh hn ?_ hc.2 (by simpa only using h4)
            rw[<-hc.1,aI,bz (by omega)]
            exact hV
          |_=>simp only[ao]at h4
        |vec=>simp only[V]at hV
        |_=>simp only[ao]at h4
      · cases v' with
        |d t' x=>cases t' with
          |arr m t'=>
            have hc:=J7 _ _ hle
            exact HV pl cur e m t' x n' hp hh hn (by rw[<-hc.1];exact hV') hc.2 (by simpa only using h4)
          |_=>simp only[ao]at h4
        |vec=>simp only[V]at hV'
        |_=>simp only[ao]at h4
    · cases c <;> first
        | (exact absurd rfl hn)
        | (obtain⟨rfl,rfl⟩:=EG h3
           simp only[ao]at h4)
        | (obtain⟨rfl,rfl⟩:=AN h3
           simp only[ao]at h4)
        | (obtain⟨rfl,rfl⟩:=AO h3
           simp only[ao]at h4)
        |skip
      rename_i e t0 l0
      obtain⟨hz,hO⟩:=hO
      cases hp:E.β id with
      |none=>
        rw[hp]at hO
        have OA:l0=[]:=hO
        subst OA
        obtain⟨rfl,rfl⟩:=BF h3
        simp only[aw,da]at h4
        obtain⟨rfl,he⟩:=h4
        obtain⟨rfl,he⟩:=he
        exact .inl ⟨rfl,rfl,rfl⟩
      |some pl=>
        rw[hp]at hO
        obtain⟨cur,k,q1,q2,q3,q4,q5,q6,q7,q8⟩:=hO
        right
        have hlen:(cur.toList.take (l0.length*t0.size)).length=l0.length*t0.size:=bA.length (λc x hx=>dn.size hx) q8
        have LP:l0.length*t0.size<=cur.size:=by rw[q2];exact dr _ q3
        rcases ow (E:=E) p (.vec e t0 l0) (cur.toList.take (l0.length*t0.size)) n' v' q8 h3 with⟨rfl,rfl⟩ | ⟨hV',hle⟩
        · simp only[aw,da]at h4
          obtain⟨rfl,he⟩:=h4
          obtain⟨rfl,he⟩:=he
          exact⟨pl,cur,e,rfl,q1,by omega,by simpa using q8,λj hj=>by show j < l.length*t.size;omega⟩
        · have hle':=hle
          rw[hlen]at hle'
          rw[oN,jU,fp (by omega)]at hV'
          cases v' with
          |d t' x=>cases t' with
            |arr m t'=>
              simp only[aw,da]at h4
              obtain⟨rfl,he⟩:=h4
              obtain⟨rfl,he⟩:=he
              simp only[V,dn]at hV'
              obtain⟨P3,zP⟩:=hV'
              have oG:∀(t:Ty) (l:List t.den),l.length=m->(az.d (.arr m t) l).size=l.length*t.size:=λt l hh=>by simp[az.size,Ty.size,hh]
              rw[oG _ _ P3]at zP hle'
              refine⟨pl,cur,e,rfl,q1,by omega,zP,λj hj=> ?_⟩
              show j < l0.length*t0.size
              omega
            |_=>simp only[ao]at h4
          |vec=>simp only[V]at hV'
          |_=>simp only[ao]at h4
theorem wP{E:Env}{t:Ty}{cs:List Value}{l:List t.den}(h:bA (dn E t) cs l)(i len:Nat):bA (dn E t) ((cs.drop (i*t.size)).take (len*t.size)) (cut l i len):=
 bA.take (λ_ _ hx=>hx.size) len (bA.drop (λ_ _ hx=>hx.size) i h)
theorem rV{α:Type}{l:List α}{i len:Nat}(h:i+len<=l.length):(cut l i len).length=len:=by
 simp[cut];omega
theorem G0{E E':Env}{s:AS}(hs:E.s=s.cz)(ho:jd E)(he:c7 E E'){id:Id}{ver c i len n:Nat}{p:List v8}{t':Ty}{l:List t'.den}{cs:List Value}
  (h1:(s.row id ver p).eval=some (n,⟨t',l⟩)) (h3:decide (n+i*t'.size=c/\i+len<=l.length)=true) (hv:V E (.cP id ver p c i len) cs) (hf:Q4 E E' (az.cP id ver p c i len).shared):dn E' (.slice t') cs (cut l i len):=by
 simp only[decide_eq_true_eq]at h3
 obtain⟨hc,hlen⟩:=h3
 obtain⟨fr,c0,db,nX⟩:=zr hs ho h1
 simp only[V]at hv
 obtain⟨a,cap,J6,hle,nb,hb,fF⟩:=hv
 have fF:=fF ⟨fr,c0,db⟩
 have M5:(cut l i len).length=len:=rV hlen
 simp only[dn]
 refine⟨a,cap,?_⟩
 rcases nX with⟨hp,hl,_⟩ | ⟨pl,cur,e,hp,hh,oG,pT,hbound⟩
 ·rw[hp]at fF
  simp only at fF
  obtain⟨rfl,rfl,rfl⟩:=fF
  refine⟨[],?_,by omega,by omega,λ_ _ hh=>by simp at hh,?_⟩
  ·rw[M5];exact J6
  ·have:cut l i 0=[]:=by simp[cut]
   rw[this];rfl
 ·rw[hp]at fF
  simp only at fF
  refine⟨((((cur.toList.drop n).take (l.length*t'.size)).drop (i*t'.size)).take (len*t'.size)),by rw[M5];exact J6,by omega,by rw[M5];exact nb,?_,(wP pT i len).mono λ_ _ hx=>hx.mono he.mem⟩
  have hmul:(i+len)*t'.size<=l.length*t'.size:=dr _ hlen
  rw[eM]at hmul
  rw[B4 _ _ _ _ _ hmul]
  intro j v hj
  rw[dq]at hj
  split at hj
  ·rename_i PQ
   rw[gf,hc]at hj
   have TO:0 < len:=by
    rcases lH len with h0 | h0
    ·subst h0;simp at PQ
    ·exact h0
   refine⟨pl.b,c,fF.1 (.inl TO),?_⟩
   refine hf id (by simp[az.shared]) ver fr c0 db pl hp (c+j) v ?_ (hbound _ (by omega))
   rw[cell_of_row E.w pl.b (c+j) cur e (0,0) hh]
   simpa using hj
  ·cases hj
theorem qJ{E E':Env}{s:AS}(hs:E.s=s.cz)(ho:jd E)(he:c7 E E'):∀(v:az) (t:Ty) (x:t.den) (cs:List Value),V E v cs->(s.jj t v).eval=some x->Q4 E E' v.shared->dn E' t cs x
 | .d t' x',t,x,cs,hv,h,_=>by
  have h':(Out.opt (uU t' t x')).eval=some x:=by cases t <;> simpa only[AS.jj]using h
  simp only[V]at hv
  exact tR (jW.1 h') (hv.mono he.mem)
 | .df,.slice t,x,cs,hv,h,_=>by
  simp only[AS.jj,aw]at h
  subst h
  simp only[V]at hv
  simp only[dn]
  exact⟨none,0,[],by simpa using hv,by simp,by simp,λi v hh=>by simp at hh,rfl⟩
 | .df,.iv t,x,cs,hv,h,_=>by
  simp only[AS.jj,aw]at h
  subst h
  simp only[V]at hv
  simp only[dn]
  exact⟨λ_=>hv,λl hl=>(by cases hl)⟩
 | .cP id ver p c i len,.iv t,x,cs,hv,h,hf=>by
  simp only[AS.jj]at h
  obtain⟨⟨n,t',l⟩,h1,h2⟩:=au.1 h
  obtain⟨h3,h4⟩:=bZ.1 h2
  exact tR (jW.1 h4) (G0 hs ho he h1 h3 hv hf)
 | .cP id ver p c i len,.slice t,x,cs,hv,h,hf=>by
  simp only[AS.jj]at h
  obtain⟨⟨n,t',l⟩,h1,h2⟩:=au.1 h
  obtain⟨h3,h4⟩:=bZ.1 h2
  exact tR (jW.1 h4) (G0 hs ho he h1 h3 hv hf)
 | .pr a b,.pair ta tb,x,cs,hv,h,hf=>by
  simp only[AS.jj]at h
  obtain⟨x1,h1,h2⟩:=au.1 h
  obtain⟨x2,h3,h4⟩:=au.1 h2
  obtain rfl:=aw.1 h4
  simp only[V]at hv
  obtain⟨ca,cb,e,ha,hb⟩:=hv
  simp only[dn]
  exact⟨ca,cb,e,qJ hs ho he a ta x1 ca ha h1 (λi hi=>hf i (by simp[az.shared,hi])),qJ hs ho he b tb x2 cb hb h3 (λi hi=>hf i (by simp[az.shared,hi]))⟩
 | .df,.int _,_,_,_,h,_ | .df,.bool,_,_,_,h,_ | .df,.str,_,_,_,h,_ | .df,.unit,_,_,_,h,_ | .df,.pair _ _,_,_,_,h,_ | .df,.arr _ _,_,_,_,h,_ | .df,.oV _,_,_,_,h,_=>by simp only[AS.jj,ao]at h
 | .cP ..,.int _,_,_,_,h,_ | .cP ..,.bool,_,_,_,h,_ | .cP ..,.str,_,_,_,h,_ | .cP ..,.unit,_,_,_,h,_ | .cP ..,.pair _ _,_,_,_,h,_ | .cP ..,.arr _ _,_,_,_,h,_ | .cP ..,.oV _,_,_,_,h,_=>by simp only[AS.jj,ao]at h
 | .pr _ _,.int _,_,_,_,h,_ | .pr _ _,.bool,_,_,_,h,_ | .pr _ _,.str,_,_,_,h,_ | .pr _ _,.unit,_,_,_,h,_ | .pr _ _,.slice _,_,_,_,h,_ | .pr _ _,.arr _ _,_,_,_,h,_ | .pr _ _,.iv _,_,_,_,h,_ | .pr _ _,.oV _,_,_,_,h,_=>by simp only[AS.jj,ao]at h
 | .undef,t,_,_,_,h,_=>by cases t <;> simp only[AS.jj,ao]at h
 | .gone,t,_,_,_,h,_=>by cases t <;> simp only[AS.jj,ao]at h
 | .oI,t,_,_,_,h,_=>by cases t <;> simp only[AS.jj,ao]at h
 | .qt,t,_,_,_,h,_=>by cases t <;> simp only[AS.jj,ao]at h
 | .yl ..,t,_,_,_,h,_ | .qK ..,t,_,_,_,h,_=>by cases t <;> simp only[AS.jj,ao]at h
 | .tl,t,_,_,_,h,_=>by cases t <;> simp only[AS.jj,ao]at h
 | .sb _,t,_,_,_,h,_=>by cases t <;> simp only[AS.jj,ao]at h
 | .ptr ..,t,_,_,_,h,_=>by cases t <;> simp only[AS.jj,ao]at h
 | .ed ..,t,_,_,_,h,_=>by cases t <;> simp only[AS.jj,ao]at h
 | .fn ..,t,_,_,_,h,_=>by cases t <;> simp only[AS.jj,ao]at h
 | .cons ..,t,_,_,_,h,_=>by cases t <;> simp only[AS.jj,ao]at h
 | .nil,t,_,_,_,h,_=>by cases t <;> simp only[AS.jj,ao]at h
 | .vec ..,t,_,_,_,h,_=>by cases t <;> simp only[AS.jj,ao]at h
 | .bx ..,t,_,_,_,h,_ | .oh ..,t,_,_,_,h,_ | .mp ..,t,_,_,_,h,_ | .oK ..,t,_,_,_,h,_=>by cases t <;> simp only[AS.jj,ao]at h
theorem s9{s:AS}{t:Ty}{v:az}{x:t.den}(h:(s.jj t v).eval=some x):v.fg=true:=by
 cases v <;> first
  |rfl
  | (cases t <;> simp only[AS.jj,ao]at h)
theorem Cw{s:AS}{t:Ty}{v:az}{x:t.den}(h:(s.jj t v).eval=some x):v.agg=t.agg:=by
 cases v with
 |d t' x'=>
  have h':(Out.opt (uU t' t x')).eval=some x:=by cases t <;> simpa only[AS.jj]using h
  exact Di (jW.1 h')
 |_=>cases t <;> first | rfl | (simp only[AS.jj,ao]at h)
theorem sE{C:Ctx}{g:Nat->lG}{β:Id->Option Pl}{s:AS}{a:Act}{w:World}(h:Inv C g β s a w){v:az}{y:Value}(hv:VS (s.env w g β) v y){t:Ty}{x:t.den}(ht:(s.jj t v).eval=some x):
  ∃g',Inv C g' β (s.bD v.shared) a w/\c7 (s.env w g β) ((s.bD v.shared).env w g' β)/\Trans w w g g'/\
   ∃cs,dn ((s.bD v.shared).env w g' β) t cs x/\gd t.agg cs y:=by
 obtain⟨g',h1,h2,h3,h4⟩:=gj v.shared h
 obtain⟨cs,hV,hO⟩:=hv.fg (s9 ht)
 exact⟨g',h1,h2,h3,cs,qJ rfl h.bU h2 v t x cs hV ht h4,by rw[<-Cw ht];exact hO⟩
theorem Ba{α:Type}{R:List Value->α->Prop}{f:α->List Value->Option (List Value)}(hf:∀x cs r,f x cs=some r->∃c,cs=c++r/\R c x):
  ∀(l:List α) (cs r:List Value),LA f l cs=some r->∃c,cs=c++r/\bA R c l
 |[],cs,r,h=>by
  simp only[LA,ax]at h
  exact⟨[],by simp[h],rfl⟩
 |x::xs,cs,r,h=>by
  simp only[LA]at h
  cases hx:f x cs with
  |none=>rw[hx]at h;cases h
  |some r1=>
   rw[hx]at h
   obtain⟨c1,e1,h1⟩:=hf x cs r1 hx
   obtain⟨c2,e2,h2⟩:=Ba hf xs r1 r h
   exact⟨c1++c2,by rw[e1,e2,bk],c1,c2,rfl,h1,h2⟩
theorem tS(E:Env):∀(t:Ty) (x:t.den) (cs r:List Value),rq t x cs=some r->∃c,cs=c++r/\dn E t c x
 | .int k,x,cs,r,h=>by
  cases cs with
  |nil=>simp[rq]at h
  |cons v r'=>
   cases v <;> simp only[rq]at h <;> try (cases h;done)
   rename_i k' n
   split at h
   ·rename_i h1 h2
    simp at h1 h2 h
    subst h1 h2 h
    exact⟨[.int k n],rfl,by simp[dn]⟩
   ·cases h
 | .bool,x,cs,r,h=>by
  cases cs with
  |nil=>simp[rq]at h
  |cons v r'=>
   cases v <;> simp only[rq]at h <;> try (cases h;done)
   rename_i b
   split at h
   ·rename_i h1
    simp at h1 h
    subst h1 h
    exact⟨[.bool b],rfl,by simp[dn]⟩
   ·cases h
 | .str,x,cs,r,h=>by
  cases cs with
  |nil=>simp[rq]at h
  |cons v r'=>
   cases v <;> simp only[rq]at h <;> try (cases h;done)
   rename_i b
   split at h
   ·rename_i h1
    simp at h1 h
    subst h1 h
    exact⟨[.string b],rfl,by simp[dn]⟩
   ·cases h
 | .slice t,x,cs,r,h=>by
  cases x with
  |cons _ _=>simp[rq]at h
  |nil=>
   cases cs with
   |nil=>simp[rq]at h
   |cons v r'=>
    unfold rq at h
    split at h <;> try (cases h;done)
    all_goals simp_all
    exact⟨[.slice none 0 0],rfl,by simp only[dn];exact⟨none,0,[],rfl,by simp,by simp,λi v hh=>by simp at hh,rfl⟩⟩
 | .iv t,x,cs,r,h=>by
  cases x with
  |some _=>simp[rq]at h
  |none=>
   cases cs with
   |nil=>simp[rq]at h
   |cons v r'=>
    unfold rq at h
    split at h <;> try (cases h;done)
    all_goals simp_all
    exact⟨[.slice none 0 0],rfl,by simp[dn]⟩
 | .oV t,x,cs,r,h=>by
  cases x with
  |some _=>simp[rq]at h
  |none=>
   cases cs with
   |nil=>simp[rq]at h
   |cons v r'=>
    unfold rq at h
    split at h <;> try (cases h;done)
    all_goals simp_all
    exact⟨[.pointer none],rfl,by simp[dn]⟩
 | .unit,x,cs,r,h=>by
  simp only[rq,ax]at h
  exact⟨[],by simp[h],by simp[dn]⟩
 | .pair a b,x,cs,r,h=>by
  simp only[rq]at h
  cases hx:rq a x.1 cs with
  |none=>rw[hx]at h;cases h
  |some r1=>
   rw[hx]at h
   obtain⟨c1,e1,h1⟩:=tS E a x.1 cs r1 hx
   obtain⟨c2,e2,h2⟩:=tS E b x.2 r1 r h
   exact⟨c1++c2,by rw[e1,e2,bk],by simp only[dn];exact⟨c1,c2,rfl,h1,h2⟩⟩
 | .arr n t,x,cs,r,h=>by
  simp only[rq]at h
  split at h
  ·rename_i h1
   obtain⟨c,e,hc⟩:=Ba (λx cs r hh=>tS E t x cs r hh) _ _ _ h
   exact⟨c,e,by simp only[dn];exact⟨by simpa using h1,hc⟩⟩
  ·cases h
theorem HJ(E:Env):∀(a:az) (cs r:List Value),Ao a cs=some r->∃c,cs=c++r/\V E a c:=by
 intro a
 induction a with
 |d t x=>
  intro cs r h
  simp only[Ao]at h
  obtain⟨c,e,hc⟩:=tS E t x cs r h
  exact⟨c,e,by simpa only[V]using hc⟩
 |pr a b iha ihb=>
  intro cs r h
  simp only[Ao]at h
  cases hx:Ao a cs with
  |none=>rw[hx]at h;cases h
  |some r1=>
   rw[hx]at h
   obtain⟨c1,e1,h1⟩:=iha cs r1 hx
   obtain⟨c2,e2,h2⟩:=ihb r1 r h
   exact⟨c1++c2,by rw[e1,e2,bk],by simp only[V];exact⟨c1,c2,rfl,h1,h2⟩⟩
 |df=>intro cs r h;unfold Ao at h;split at h <;> simp_all <;> exact⟨[.slice none 0 0],rfl,by simp[V]⟩
 |oI=>intro cs r h;unfold Ao at h;split at h <;> simp_all <;> exact⟨[.pointer none],rfl,by simp[V]⟩
 |qt=>intro cs r h;unfold Ao at h;split at h <;> simp_all <;> exact⟨[.nilFunc],rfl,by simp[V]⟩
 |tl=>intro cs r h;unfold Ao at h;split at h <;> simp_all <;> exact⟨[.map none],rfl,by simp[V]⟩
 |_=>intro cs r h;simp[Ao]at h
theorem pP{P:Program}{T:TypeId}{z:az}(h:E8 P T z=true)(E:Env):
  ∃i zv,P.info? T=some i/\i.zero=some zv/\V E z zv.cells.toList/\gd z.agg zv.cells.toList zv:=by
 unfold E8 at h
 split at h <;> try (cases h;done)
 rename_i i hi
 split at h <;> try (cases h;done)
 rename_i zv hz
 simp only[ak,beq_iff_eq]at h
 obtain⟨h1,h2⟩:=h
 split at h1 <;> try (cases h1;done)
 rename_i he
 obtain⟨c,e,hV⟩:=HJ E z _ _ he
 rw[cH]at e
 rw[<-e]at hV
 refine⟨i,zv,hi,hz,hV,?_⟩
 cases F6:z.agg with
 |true=>
  rw[F6]at h2
  cases zv <;> simp[oc]at h2
  simp[gd,Value.cells]
 |false=>
  rw[F6]at h2
  cases zv <;> first | (simp[oc]at h2;done) | simp[gd,Value.cells]
end Go.Ab
namespace Go.Ab
def Fr(r:Option Nat):Fence:= {Fence.wide with round:=r}
def fU(P:Program)(o:Oper)(a:Act)(w:World)(K:Act->World->Prop):Prop:=
 (∃x w',(execOp a.eval o).run P w= .ok (.value x) w'/\K (a.put o.dst x) w')\/
 (∃w',(execOp a.eval o).run P w= .ok .skip w'/\K (a.put o.dst undef) w')\/
 (∃f args w',(execOp a.eval o).run P w= .ok (.enter f args) w'/\Calls P f args w' λe w''=>∃x,e= .returned x/\K (a.put o.dst x) w'')\/
 (∃l f tmps as b w',(execOp a.eval o).run P w= .ok (.round l f tmps as b) w'/\∀r n,RoundIn (Fr r) n P l f tmps as b w' λe w''=>∃x,e= .returned x/\K (a.put o.dst x) w'')
theorem fU.plain{P:Program}{o:Oper}{a:Act}{w:World}{K:Act->World->Prop}(h:fU P o a w K)(c:Call):o.op≠ .defer c:=λho=>by
 have hd:∀x w',(execOp a.eval o).run P w= .ok x w'->∃d,x= .defer d:=λx w' hx=>by
  simp only[execOp,ho,Sem.run_bind]at hx
  cases hr:(resolve a.eval c o.type).run P w with
  |ok d w1=>
   rw[hr]at hx
   simp only[Result.andThen_ok,Sem.run_pure,Result.ok.injEq]at hx
   exact⟨d,hx.1.symm⟩
  |halt _ _=>rw[hr]at hx;simp[Result.andThen]at hx
 rcases h with⟨x,w',hr,_⟩ | ⟨w',hr,_⟩ | ⟨f,args,w',hr,_⟩ | ⟨l,f,tmps,as,b,w',hr,_⟩
 ·obtain⟨d,e⟩:=hd _ _ hr;cases e
 ·obtain⟨d,e⟩:=hd _ _ hr;cases e
 ·obtain⟨d,e⟩:=hd _ _ hr;cases e
 ·obtain⟨d,e⟩:=hd _ _ hr;cases e
theorem fU.wpIn{r:Option Nat}{n:Nat}{P:Program}{o:Oper}{a:Act}{w:World}{K:Act->World->Prop}{Q:Exit->Act->World->Prop}(h:fU P o a w K):o.wpIn (Fr r) n P a w K Q:=by
 have hp:=h.plain
 refine⟨λ_ _=>trivial,?_⟩
 rw[Oper.semAt_eq _ _ _ hp]
 rcases h with⟨x,w',hr,hk⟩ | ⟨w',hr,hk⟩ | ⟨f,args,w',hr,hk⟩ | ⟨l,f,tmps,as,b,w',hr,hk⟩
 rotate_left 3
 ·rw[hr,Oper.uponIn_round]
  refine⟨λh=>(by cases h),(hk r (n - 1)).mono λe w'' ⟨x,he,hx⟩=> ?_⟩
  subst he
  exact hx
 ·rw[hr,Oper.uponIn_value];exact hk
 ·rw[hr,Oper.uponIn_skip];exact hk
 ·rw[hr,Oper.uponIn_enter]
  refine⟨λh=>(by cases h),?_⟩
  have h1:CallsIn (Fr r) (n - 1) P f args w' _:=callsIn_wide.2 hk
  refine h1.mono λe w'' ⟨x,he,hx⟩=> ?_
  subst he
  exact hx
theorem fU.mono{P:Program}{o:Oper}{a:Act}{w:World}{K K':Act->World->Prop}(h:fU P o a w K)(hk:∀a w,K a w->K' a w):fU P o a w K':=by
 rcases h with⟨x,w',hr,h⟩ | ⟨w',hr,h⟩ | ⟨f,args,w',hr,h⟩ | ⟨l,f,tmps,as,b,w',hr,h⟩
 ·exact .inl ⟨x,w',hr,hk _ _ h⟩
 ·exact .inr (.inl ⟨w',hr,hk _ _ h⟩)
 ·exact .inr (.inr (.inl ⟨f,args,w',hr,h.mono λe w'' ⟨x,he,hx⟩=>⟨x,he,hk _ _ hx⟩⟩))
 ·exact .inr (.inr (.inr ⟨l,f,tmps,as,b,w',hr,λr n=>(h r n).mono λe w'' ⟨x,he,hx⟩=>⟨x,he,hk _ _ hx⟩⟩))
section
variable {P:Program} {C:Ctx} {g:Nat->lG} {β:Id->Option Pl} {s:AS} {a:Act} {w:World} {o:Oper}
theorem Inv.value(h:Inv C g β s a w){v:az}{x:Value}(hv:VS (s.env w g β) v x)(hr:(execOp a.eval o).run P w= .ok (.value x) w):fU P o a w (iN C (s.put o.dst v)):=
 .inl ⟨x,w,hr,g,β,h.put o.dst hv⟩
theorem ef{f:Sem Value}{x:Value}{w':World}(he:execOp a.eval o=(do pure (.value (<-f))))(hf:f.run P w= .ok x w'):(execOp a.eval o).run P w= .ok (.value x) w':=by
 rw[he,Sem.run_bind,hf];rfl
theorem Dn{f:Sem Unit}{w':World}(he:execOp a.eval o=(do f;pure .skip))(hf:f.run P w= .ok () w'):(execOp a.eval o).run P w= .ok .skip w':=by
 rw[he,Sem.run_bind,hf];rfl
theorem pD{E:Env}{k:IntKind}{n:Int}{y:Value}(h:VS E (.d (.int k) n) y):y= .int k n:=by
 obtain⟨cs,hv,ho⟩:=h
 simp only[V,dn]at hv
 have ho':cs=[y]:=ho
 rw[hv]at ho'
 simpa using ho'.symm
theorem AA{E:Env}{b:Bool}{y:Value}(h:VS E (.d .bool b) y):y= .bool b:=by
 obtain⟨cs,hv,ho⟩:=h
 simp only[V,dn]at hv
 have ho':cs=[y]:=ho
 rw[hv]at ho'
 simpa using ho'.symm
theorem vB{E:Env}{b:ByteArray}{y:Value}(h:VS E (.d .str b) y):y= .string b:=by
 obtain⟨cs,hv,ho⟩:=h
 simp only[V,dn]at hv
 have ho':cs=[y]:=ho
 rw[hv]at ho'
 simpa using ho'.symm
theorem ky{E:Env}(k:IntKind)(n:Int):VS E (.d (.int k) n) (.int k n):=⟨[.int k n],by simp[V,dn],rfl⟩
theorem pR{E:Env}(b:Bool):VS E (.d .bool b) (.bool b):=⟨[.bool b],by simp[V,dn],rfl⟩
theorem D9{E:Env}(b:ByteArray):VS E (.d .str b) (.string b):=⟨[.string b],by simp[V,dn],rfl⟩
theorem Jf{T:TypeId}{d:TypeDesc}(h:P.underlying T=some d):∃i,P.info? T=some i:=by
 unfold Program.underlying at h
 split at h
 ·rename_i h';exact⟨_,h'⟩
 ·rename_i i _ h';exact⟨_,h'⟩
 ·cases h
theorem run_sizeOf{T:TypeId}{i:TypeInfo}(h:P.info? T=some i)(w:World):(sizeOf T).run P w= .ok i.size w:=by
 simp[sizeOf,typeInfo,h]
theorem lJ{T:TypeId}{i:TypeInfo}(h:P.info? T=some i):P.cellsOf T=i.size:=by simp[Program.cellsOf,h]
theorem nU{T:TypeId}{v:az}(h:fits P T v=true):v.fg=true/\∃i,P.info? T=some i/\i.size=v.size/\∀w,(isAgg T).run P w= .ok v.agg w:=by
 unfold fits at h
 simp only[ak,beq_iff_eq]at h
 obtain⟨⟨h1,h2⟩,h3⟩:=h
 cases hu:P.underlying T with
 |none=>rw[hu]at h3;cases h3
 |some d=>
  obtain⟨i,hi⟩:=Jf hu
  refine⟨h1,i,hi,by rw[lJ hi]at h2;exact h2,λw=> ?_⟩
  rw[hu]at h3
  unfold isAgg
  rw[Sem.run_bind,run_underlying hu w]
  cases d <;> simp at h3 <;> simp[h3]
theorem sB{T:TypeId}{v:az}(hf:fits P T v=true){b off:Nat}{cs:List Value}(hl:cs.length=v.size)(hc:∀j x,cs[j]? =some x->w.cell? ⟨b,off+j,none⟩=some x):
  ∃y,(loadVar T ⟨b,off,none⟩).run P w= .ok y w/\gd v.agg cs y:=by
 obtain⟨_,i,hi,hs,F6⟩:=nU hf
 unfold loadVar
 rw[Sem.run_bind,F6 w]
 simp only[Result.andThen_ok]
 have tE:∀j x,cs[j]? =some x->w.cell? ((⟨b,off,none⟩:Addr).add j)=some x:=λj x hj=>by
  rw[Addr.add_lit];exact hc j x hj
 cases ha:v.agg with
 |true=>
  refine⟨.agg cs.toArray,?_,rfl⟩
  simp only[if_true,Sem.run_bind,run_sizeOf hi,Result.andThen_ok,hs,<-hl,run_loadCells_list w _ cs tE]
  rfl
 |false=>
  have h1:v.size=1:=az.GW ha
  obtain⟨y,rfl⟩:∃y,cs=[y]:=by
   match cs,hl with
   |[y],_=>exact⟨y,rfl⟩
   |[],hh=>simp[h1]at hh
   |_::_::_,hh=>simp[h1]at hh
  refine⟨y,?_,rfl⟩
  have:=hc 0 y rfl
  rw[cK]at this
  simp[this]
theorem uB{T:TypeId}{v:az}{E:Env}(hf:fits P T v=true){cs:List Value}{y:Value}(hV:V E v cs)(ho:gd v.agg cs y){b off:Nat}{cur:Array Value}{e:TypeId}
  (hh:w.heap[b]? =some (.cells cur e (0,0))) (hle:off+cs.length<=cur.size):
  (storeVar T ⟨b,off,none⟩ y).run P w= .ok () (w.setRow b (dJ cur.toList off cs).toArray):=by
 obtain⟨_,i,hi,hs,_⟩:=nU hf
 have J6:y.cells=cs.toArray:=ho.cells hV.one
 have hl:=hV.size
 have oJ:=run_storeCells_at P b off e cs 0 cur w hh (by simpa using hle) hV.one
 simp only[cK]at oJ
 unfold storeVar
 simp only[J6,Sem.run_bind,run_sizeOf hi,Result.andThen_ok,ir,hl,hs,ne_eq,not_true_eq_false,if_false]
 simpa[dJ]using oJ
theorem nr(w:World)(ob:Obj){b:Nat}(h:b < w.heap.size):(w.alloc ob).heap[b]? =w.heap[b]? :=by
 show(w.heap.push ob)[b]? =w.heap[b]?
 rw[Array.getElem?_push,if_neg (Nat.ne_of_lt h)]
theorem oP(w:World)(ob:Obj):(w.alloc ob).heap[w.heap.size]? =some ob:=by
 show(w.heap.push ob)[w.heap.size]? =some ob
 simp
theorem Trans.alloc(w:World)(g:Nat->lG)(ob:Obj)(l:lG):Trans w (w.alloc ob) g (lM g w.heap.size l):=by
 refine⟨rfl,rfl,⟨rfl,ay _⟩,by simp,λb hb=> ?_⟩
 rw[fE _ _ _ (by omega),nr w ob hb]
 cases g b with
 |free=>exact⟨rfl,rfl⟩
 |own o k=>cases o with
  |eL=>exact⟨rfl,rfl⟩
  |id i=>exact⟨.inr ⟨i,k,rfl,ay _⟩,λoff v _ hv=>by rw[World.cell?_alloc_lt w ob _ hb];exact hv⟩
theorem Trans.drew(w:World)(g:Nat->lG):Trans w w.drew g g:=Trans.refl w g |> λh=>⟨h.os,h.tape,⟨h.output.1,Nat.le_succ _⟩,h.size,h.yO⟩
theorem jd.same{w':World}{g':Nat->lG}(h:jd (s.env w g β))(he:c7 (s.env w g β) (s.env w' g' β))
  (hb:∀i ver fr c pl,s.cz i=some (.obj ver fr c)->β i=some pl->w'.heap[pl.b]? =w.heap[pl.b]? /\g' pl.b=g pl.b):jd (s.env w' g' β):=
 λi ver fr c hi=>(h i ver fr c hi).mono he rfl (λpl hp=>hb i ver fr c pl hi hp) λq vq k v l hq _=>⟨⟨k,v,l,hq⟩,λpl hp=>hb q vq true _ pl hq hp⟩
theorem c7.same{w':World}{g':Nat->lG}(ht:Trans w w' g g'):c7 (s.env w g β) (s.env w' g' β):=
 ⟨Trans.mem ht,λ_ _ h=>h,λ_ _ _ h=>⟨h,rfl⟩⟩
theorem Inv.vG(h:Inv C g β s a w)(ob:Obj):Inv C (lM g w.heap.size .free) β s a (w.alloc ob):=by
 have ht:=Trans.alloc w g ob .free
 have he:c7 (s.env w g β) (s.env (w.alloc ob) (lM g w.heap.size .free) β):=c7.same ht
 refine h.step rfl ht he (jd.same h.bU he λi ver fr c pl hi hp=> ?_)
 have hl:=((h.bU i ver fr c hi).label (pl:=pl) hp).1
 have hl':pl.b < w.heap.size:=hl
 exact⟨nr w ob hl',fE _ _ _ (by omega)⟩
theorem Inv.drew(h:Inv C g β s a w):Inv C g β s a w.drew:=by
 have ht:=Trans.drew w g
 have he:c7 (s.env w g β) (s.env w.drew g β):=c7.same ht
 exact h.step rfl ht he (jd.same h.bU he λ_ _ _ _ _ _ _=>⟨rfl,rfl⟩)
theorem jZ{q:Nat}(h:s.eh q=true):(∀j,s.cz (.new q j)=none)/\q < s.news.length:=by
 unfold AS.eh at h
 split at h
 ·rename_i hn
  refine⟨λj=> ?_,(dR.1 hn).1⟩
  simp[AS.cz,aF,hn]
 ·cases h
theorem ru{q:Nat}(hq:q < s.news.length)(es:List ea)(j:Nat):(s.born q es).cz (.new q j)=es[j]? :=by
 simp[AS.cz,AS.born,aF,hq]
theorem jf{q:Nat}(es:List ea){id:Id}(h:∀j,id≠ .new q j):(s.born q es).cz id=s.cz id:=by
 cases id with
 |dB k=>rfl
 |new i j=>
  have:i≠q:=λe=>h j (by rw[e])
  simp only[AS.cz,AS.born,aF]
  rw[fc (Ne.symm this)]
def vF(β:Id->Option Pl)(id:Id)(p:Option Pl):Id->Option Pl:=λi=>if i=id then p else β i
@[simp] theorem jP(β:Id->Option Pl)(id:Id)(p:Option Pl):vF β id p id=p:=by simp[vF]
theorem sG(β:Id->Option Pl)(id:Id)(p:Option Pl){i:Id}(h:i≠id):vF β id p i=β i:=by simp[vF,h]
theorem Inv.yP(h:Inv C g β s a w){q:Nat}(hq:s.eh q=true){w':World}{g':Nat->lG}{c:az}{p:Option Pl}(ht:Trans w w' g g')
  (hb:∀b,b < w.heap.size->w'.heap[b]? =w.heap[b]? /\g' b=g b)
  (ho:c7 (s.env w g β) ((s.born q [.obj 0 false c]).env w' g' (vF β (.new q 0) p))->qf ((s.born q [.obj 0 false c]).env w' g' (vF β (.new q 0) p)) (.new q 0) false c):
  Inv C g' (vF β (.new q 0) p) (s.born q [.obj 0 false c]) a w'/\c7 (s.env w g β) ((s.born q [.obj 0 false c]).env w' g' (vF β (.new q 0) p)):=by
 obtain⟨hv,hl⟩:=jZ hq
 have jb:∀id,s.cz id≠none->∀j,id≠ .new q j:=λid dz j e=>dz (by rw[e];exact hv j)
 have he:c7 (s.env w g β) ((s.born q [.obj 0 false c]).env w' g' (vF β (.new q 0) p)):=by
  refine⟨Trans.mem ht,λid ver J4=> ?_,λid ver J4 hc=> ?_⟩
  ·have dz:=jb id J4.1
   have e:=jf (s:=s) [.obj 0 false c] dz
   exact⟨by show(s.born q _).cz id≠none;rw[e];exact J4.1,λv fr c' hh=>J4.2 v fr c' (e.symm.trans hh)⟩
  ·have dz:=jb id J4.1
   have e:=jf (s:=s) [.obj 0 false c] dz
   obtain⟨fr,c',hc⟩:=hc
   exact⟨⟨fr,c',e.symm.trans hc⟩,sG _ _ _ (dz 0)⟩
 refine⟨h.step rfl ht he λid ver fr c' dz=> ?_,he⟩
 have hid':(s.born q [.obj 0 false c]).cz id=some (.obj ver fr c'):=dz
 by_cases hi:∃j,id= .new q j
 ·obtain⟨j,rfl⟩:=hi
  rw[ru hl]at hid'
  cases j with
  |zero=>
   simp only[fZ,ax,ea.obj.injEq]at hid'
   obtain⟨rfl,rfl,rfl⟩:=hid'
   exact ho he
  |succ j=>simp at hid'
 ·have hi':∀j,id≠ .new q j:=λj e=>hi ⟨j,e⟩
  rw[jf _ hi']at hid'
  refine(h.bU id ver fr c' hid').mono he (sG _ _ _ (hi' 0)) (λpl hp=> ?_) λq2 vq k v l Bq _=> ?_
  ·exact hb pl.b ((h.bU id ver fr c' hid').label (pl:=pl) hp).1
  ·have T3:s.cz q2=some (.obj vq true (.mp k v l)):=Bq
   refine⟨⟨k,v,l,by show(s.born q _).cz q2=_;rw[jf _ (jb q2 (by rw[T3];simp))];exact T3⟩,λpl hp=>hb pl.b ((h.bU q2 vq true _ T3).label (pl:=pl) hp).1⟩
theorem mS{q:Nat}(hq:s.eh q=true)(c:az)(w':World)(g':Nat->lG)(β':Id->Option Pl):((s.born q [.obj 0 false c]).env w' g' β').uw (.new q 0) 0:=by
 have e:=ru (s:=s) (jZ hq).2 [.obj 0 false c] 0
 refine⟨by show(s.born q [.obj 0 false c]).cz (.new q 0)≠none;rw[e];simp,λv fr c' _=>aV _⟩
theorem Inv.Jn(h:Inv C g β s a w){q:Nat}(hq:s.eh q=true){v:az}{cs:List Value}{e:TypeId}(hk:∀pl n,v.uQ pl n e)(hN:∀n,v.qL n=n)(hv:V (s.env w g β) v.strip cs):
  ∃g' β',Inv C g' β' (s.born q [.obj 0 false v]) a (w.alloc (.cells cs.toArray e))/\
   VS ((s.born q [.obj 0 false v]).env (w.alloc (.cells cs.toArray e)) g' β') (.ptr (.new q 0) 0 [] 0) (.pointer (some ⟨w.heap.size,0,none⟩)):=by
 have ht:=Trans.alloc w g (.cells cs.toArray e) (.own (.id (.new q 0)) 0)
 obtain⟨h1,h2⟩:=h.yP hq (c:=v) (p:=some ⟨w.heap.size,0⟩) ht (λb hb=>⟨nr w _ hb,fE _ _ _ (by omega)⟩) (λhe=>
  yK.obj ⟨⟨w.heap.size,0⟩,cs.toArray,e,jP _ _ _,oP w _,fP _ _ _,hk _ _,by rw[hN,show cs.toArray.toList.take cs.toArray.size=cs by simp];exact hv.mono he⟩)
 refine⟨_,_,h1,?_⟩
 refine⟨[.pointer (some ⟨w.heap.size,0,none⟩)],?_,rfl⟩
 simp only[V]
 exact⟨_,rfl,mS hq _ _ _ _,λ_=>⟨_,jP _ _ _,rfl⟩⟩
theorem Inv.Qf(h:Inv C g β s a w){q:Nat}(hq:s.eh q=true){v:az}{cs:List Value}(hv:V (s.env w g β) v cs)(e:TypeId):
  ∃g' β',Inv C g' β' (s.born q [.obj 0 false v]) a (w.alloc (.cells cs.toArray e))/\
   VS ((s.born q [.obj 0 false v]).env (w.alloc (.cells cs.toArray e)) g' β') (.ptr (.new q 0) 0 [] 0) (.pointer (some ⟨w.heap.size,0,none⟩)):=
 h.Jn hq (λpl n=>yS hv.so pl n e) (λn=>AZ hv.so n) (by rw[zx hv.so];exact hv)
theorem Ll(P:Program)(T:TypeId){z:az}{E:Env}{cs:List Value}(hv:V E z cs):(∀pl n,(boxed P T z).uQ pl n T)/\(∀n,(boxed P T z).qL n=n)/\V E (boxed P T z).strip cs:=by
 unfold boxed
 split
 ·exact⟨λ_ _=>rfl,λ_=>rfl,hv⟩
 ·exact⟨λpl n=>yS hv.so pl n T,λn=>AZ hv.so n,by rw[zx hv.so];exact hv⟩
theorem Inv.NT(h:Inv C g β s a w){t:Ty}{x:t.den}{cs:List Value}(hv:dn (s.env w g β) t cs x)(e:TypeId):
  ∃g',Inv C g' β s a (w.alloc (.cells cs.toArray e))/\c7 (s.env w g β) (s.env (w.alloc (.cells cs.toArray e)) g' β)/\
   VS (s.env (w.alloc (.cells cs.toArray e)) g' β) (.ed t x) (.pointer (some ⟨w.heap.size,0,none⟩)):=by
 have ht:=Trans.alloc w g (.cells cs.toArray e) .free
 have he:c7 (s.env w g β) (s.env (w.alloc (.cells cs.toArray e)) (lM g w.heap.size .free) β):=c7.same ht
 refine⟨_,h.vG _,he,[.pointer (some ⟨w.heap.size,0,none⟩)],?_,rfl⟩
 simp only[V]
 refine⟨w.heap.size,0,cs,rfl,λi v hi=>⟨_,_,rfl,?_,?_⟩,hv.mono he.mem⟩
 ·show(w.alloc (.cells cs.toArray e)).cell? ⟨w.heap.size,0+i,none⟩=some v
  rw[World.cell?_alloc_new,aO];simpa using hi
 ·show pj (lM g w.heap.size .free) w.heap.size (0+i)
  unfold pj;rw[fP];trivial
theorem Ch(T:TypeId)(y:Value)(w:World):(newVar T y).run P w= .ok ⟨w.heap.size,0,none⟩ (w.alloc (.cells y.cells T)):=by
 simp[newVar,newRow]
theorem Hv(h:Inv C g β s a w){T:TypeId}(ho:o.op= .alloc T){z:az}{q:Nat}(hq:s.eh q=true)(hz:E8 P T z=true):
  fU P o a w (iN C ((s.born q [.obj 0 false (boxed P T z)]).put o.dst (.ptr (.new q 0) 0 [] 0))):=by
 obtain⟨i,zv,hi,Hk,hV,hO⟩:=pP hz (s.env w g β)
 obtain⟨hk,hN,hV⟩:=Ll P T hV
 obtain⟨g',β',h1,h2⟩:=h.Jn hq hk hN hV
 refine .inl ⟨.pointer (some ⟨w.heap.size,0,none⟩),w.alloc (.cells zv.cells T),?_,g',β',?_⟩
 ·refine ef (f:=Instr.alloc T true (.tuple #[])) (by simp only[execOp,ho]) ?_
  simp[Instr.alloc,zeroValue,typeInfo,hi,Hk,Ch]
 ·have:=h1.put o.dst h2
  simpa using this
theorem VS.Se{E:Env}{t:Ty}{x:t.den}{y:Value}(h:VS E (.ed t x) y)(dt:Bool):VS E (Pb dt t x) y:=by
 cases dt with
 |false=>exact h
 |true=>
  obtain⟨cs,hv,ho⟩:=h
  simp only[V]at hv
  refine⟨cs,?_,ho⟩
  simp only[Pb,V,dn]
  simpa using hv
theorem Dx{E:Env}{t:Ty}{y:Value}(h:VS E (.d (.oV t) none) y):y= .pointer none:=by
 obtain⟨cs,hv,ho⟩:=h
 simp only[V,dn]at hv
 have ho':cs=[y]:=ho
 have e:=hv.1 trivial
 rw[e]at ho'
 simpa using ho'.symm
theorem xI{E:Env}{t:Ty}{x:t.den}{y:Value}(h:VS E (.d (.oV t) (some x)) y):VS E (.ed t x) y:=by
 obtain⟨cs,hv,ho⟩:=h
 simp only[V,dn]at hv
 refine⟨cs,?_,ho⟩
 simp only[V]
 simpa using hv
theorem Lj(h:Inv C g β s a w){T:TypeId}{x:Operand}{obj dt:Bool}(ho:o.op= .box T x){s':AS}(he:(FA P s obj dt o.dst T (s.ev x)).eval=some s'):fU P o a w (iN C s'):=by
 unfold FA at he
 cases hd:o.dst with
 |none=>rw[hd]at he;simp only[ao]at he
 |some q=>
  rw[hd]at he
  have J8:=h.ev x
  have mU:∀cs:List Value,(a.eval x).cells=cs.toArray->(execOp a.eval o).run P w= .ok (.value (.pointer (some ⟨w.heap.size,0,none⟩))) (w.alloc (.cells cs.toArray T)):=by
   intro cs J6
   refine ef (f:=Instr.box T (a.eval x)) (by simp only[execOp,ho]) ?_
   simp[Instr.box,Ch,J6]
  cases obj with
  |true=>
   obtain⟨hg,nj⟩:=aC.1 he
   obtain rfl:=aw.1 nj
   simp only[ak]at hg
   obtain⟨hq,hf⟩:=hg
   obtain⟨hc,_⟩:=nU hf
   obtain⟨cs,hV,hO⟩:=J8.fg hc
   obtain⟨g',β',h1,h2⟩:=h.Qf hq hV T
   refine .inl ⟨_,_,mU cs (hO.cells hV.one),g',β',?_⟩
   rw[hd]
   exact h1.put (some q) h2
  |false=>
   simp only at he
   cases ht:Hd P depth T with
   |none=>rw[ht]at he;simp only[ao]at he
   |some t=>
    rw[ht]at he
    obtain⟨_,he⟩:=aC.1 he
    obtain⟨y,h1,h2⟩:=au.1 he
    obtain rfl:=aw.1 h2
    obtain⟨g1,i1,e1,t1,cs,hR,hO⟩:=sE h J8 h1
    obtain⟨g2,i2,e2,hv⟩:=i1.NT hR T
    refine .inl ⟨_,_,mU cs (hO.cells hR.one),g2,β,?_⟩
    rw[hd]
    exact i2.put (some q) (hv.Se dt)
theorem pW{E:Env}{t:Ty}{x:t.den}{y:Value}(h:VS E (.ed t x) y):∃b off vs,y= .pointer (some ⟨b,off,none⟩)/\uv E (some ⟨b,off,none⟩) vs/\dn E t vs x:=by
 obtain⟨cs,hv,ho⟩:=h
 simp only[V]at hv
 obtain⟨b,off,vs,e,hr,hx⟩:=hv
 have ho':cs=[y]:=ho
 rw[e]at ho'
 exact⟨b,off,vs,by simpa using ho'.symm,hr,hx⟩
theorem pJ{E:Env}{id:Id}{ver n:Nat}{p:List v8}{y:Value}(h:VS E (.ptr id ver p n) y):
  ∃a,y= .pointer (some a)/\E.uw id ver/\(E.cur id ver->∃pl,E.β id=some pl/\a=⟨pl.b,n,none⟩):=by
 obtain⟨cs,hv,ho⟩:=h
 simp only[V]at hv
 obtain⟨a,e,hb,hc⟩:=hv
 have ho':cs=[y]:=ho
 rw[e]at ho'
 exact⟨a,by simpa using ho'.symm,hb,hc⟩
theorem nJ{E:Env}{id:Id}{ver c i len:Nat}{p:List v8}{y:Value}(h:VS E (.cP id ver p c i len) y):
  ∃a cap,y= .slice a len cap/\len<=cap/\(0 < len->a.isSome=true)/\E.uw id ver/\
   (E.cur id ver->match E.β id with
    |some pl=>(0 < len\/i=0->a=some ⟨pl.b,c,none⟩)/\(p=[]->i=0->cap=pl.cap)
    |none=>a=none/\len=0/\cap=0):=by
 obtain⟨cs,hv,ho⟩:=h
 simp only[V]at hv
 obtain⟨a,cap,e,rest⟩:=hv
 have ho':cs=[y]:=ho
 rw[e]at ho'
 exact⟨a,cap,by simpa using ho'.symm,rest⟩
theorem pc{E:Env}{t:Ty}{l:List t.den}{y:Value}(h:VS E (.d (.slice t) l) y):
  ∃a cap vs,y= .slice a l.length cap/\l.length<=cap/\(0 < l.length->a.isSome=true)/\uv E a vs/\bA (dn E t) vs l:=by
 obtain⟨cs,hv,ho⟩:=h
 simp only[V,dn]at hv
 obtain⟨a,cap,vs,e,rest⟩:=hv
 have ho':cs=[y]:=ho
 rw[e]at ho'
 exact⟨a,cap,vs,by simpa using ho'.symm,rest⟩
theorem km{E:Env}{y:Value}(h:VS E .df y):y= .slice none 0 0:=by
 obtain⟨cs,hv,ho⟩:=h
 simp only[V]at hv
 have ho':cs=[y]:=ho
 rw[hv]at ho'
 simpa using ho'.symm
theorem Kw{E:Env}{id:Id}{fr:Bool}{c:az}(h:qf E id fr c){p:List v8}{n:Nat}{v:az}(hl:(loc c.strip p).eval=some (n,v))(hf:v.fg=true):
  ∃pl cur e,E.β id=some pl/\E.w.heap[pl.b]? =some (.cells cur e (0,0))/\V E v ((cur.toList.drop n).take v.size)/\n+v.size<=cur.size:=by
 by_cases hn:c.iO=false
 ·obtain⟨pl,cur,e,hp,hh,hg,hk,hV⟩:=h.box hn
  have hN:=AB hk
  generalize c.qL cur.size=N at hN hV
  have hNl:(cur.toList.take N).length=N:=by rw[cU,c6];omega
  obtain⟨u,hu⟩:∃u,c.strip=u:=⟨_,rfl⟩
  rw[hu]at hV hl
  rcases ow p u (cur.toList.take N) n v (VO.of hV) hl with⟨rfl,rfl⟩ | ⟨h1,h2⟩
  ·have hs:=hV.size
   rw[hNl]at hs
   refine⟨pl,cur,e,hp,hh,?_,by omega⟩
   rw[aI,<-hs]
   exact hV
  ·rw[hNl]at h2
   rw[oN,jU,fp (by omega)]at h1
   exact⟨pl,cur,e,hp,hh,h1,by omega⟩
 ·cases c <;> first | (exact absurd rfl hn) | skip
  rotate_left
  ·have hl:(loc (.mp _ _ _) p).eval=_:=hl
   obtain⟨_,rfl⟩:=EG hl
   simp[az.fg]at hf
  ·have hl:(loc (.oK _ _ _ _ _ _) p).eval=_:=hl
   obtain⟨_,rfl⟩:=AN hl
   simp[az.fg]at hf
  ·have hl:(loc (.qK _ _ _) p).eval=_:=hl
   obtain⟨_,rfl⟩:=AO hl
   simp[az.fg]at hf
  rename_i e t l
  obtain⟨hz,h⟩:=h
  cases hp:E.β id with
  |none=>
   rw[hp]at h
   have:l=[]:=h
   subst this
   obtain⟨_,rfl⟩:=BF hl
   simp[az.fg]at hf
  |some pl=>
   rw[hp]at h
   obtain⟨cur,k,q1,q2,q3,q4,q5,q6,q7,q8⟩:=h
   have hlen:=bA.length (λc x hx=>dn.size hx) q8
   have oG:l.length*t.size<=cur.size:=by rw[q2];exact dr _ q3
   rcases ow (E:=E) p (.vec e t l) _ n v q8 hl with⟨rfl,rfl⟩ | ⟨h1,h2⟩
   ·simp[az.fg]at hf
   ·rw[hlen]at h2
    rw[oN,jU,fp (by omega)]at h1
    exact⟨pl,cur,e,rfl,q1,h1,by omega⟩
theorem Kt{E:Env}{v v':az}(h:(Qi v).eval=some v'):(∀cs,V E v cs->V E v' cs)/\v'.agg=v.agg:=by
 unfold Qi at h
 split at h
 ·rename_i t l
  obtain⟨h1,h2⟩:=bZ.1 h
  obtain rfl:=aw.1 h2
  refine⟨λcs hv=> ?_,rfl⟩
  simp only[V,dn]at hv ⊢
  exact hv.1 (Option.isNone_iff_eq_none.1 h1)
 ·obtain rfl:=aw.1 h
  exact⟨λ_ h=>h,rfl⟩
theorem BE(h:Inv C g β s a w){T:TypeId}{x:az}{y:Value}(hx:VS (s.env w g β) x y){v:az}(he:(xU P s T x).eval=some v):
  ∃ad z,y= .pointer (some ad)/\(loadVar T ad).run P w= .ok z w/\VS (s.env w g β) v z:=by
 unfold xU at he
 split at he
 ·rename_i id ver p n
  cases kG:s.obj id with
  |none=>rw[kG]at he;simp only[ao]at he
  |some r=>
   obtain⟨v0,fr,c⟩:=r
   rw[kG]at he
   obtain⟨h1,h2⟩:=aC.1 he
   obtain⟨⟨n',v'⟩,h3,h4⟩:=au.1 h2
   obtain⟨h5,h6⟩:=aC.1 h4
   obtain⟨h7,h8⟩:=bZ.1 h6
   obtain⟨n1,n2⟩:=Kt (E:=s.env w g β) h8
   simp only[decide_eq_true_eq]at h7
   have QQ:v0=ver:=by simpa using h1
   subst QQ h7
   have db:=eJ kG
   obtain⟨ad,rfl,hb,hc⟩:=pJ hx
   obtain⟨pl,hp,rfl⟩:=hc ⟨fr,c,db⟩
   obtain⟨HW,_⟩:=nU h5
   obtain⟨pl',cur,e,hp',hh,hV,hle⟩:=Kw (h.bU id v0 fr c db) h3 HW
   rw[hp]at hp'
   obtain rfl:pl=pl':=by simpa using hp'
   obtain⟨z,zR,y8⟩:=sB (P:=P) (w:=w) h5 (b:=pl.b) (off:=n') hV.size (λj x hj=>by
    rw[cell_of_row w pl.b (n'+j) cur e (0,0) hh]
    rw[dq]at hj
    split at hj
    ·rw[gf]at hj;simpa using hj
    ·cases hj)
   exact⟨_,z,rfl,zR,VS.of (n1 _ hV) (by rw[n2];exact y8)⟩
 ·rename_i t x'
  obtain⟨h1,h2⟩:=aC.1 he
  obtain rfl:=aw.1 h2
  obtain⟨b,off,vs,rfl,hr,hR⟩:=pW hx
  obtain⟨z,zR,y8⟩:=sB (P:=P) (w:=w) h1 (b:=b) (off:=off) hR.size (λj x hj=>by
   obtain⟨b',off',e,hh⟩:=hr j x hj
   simp only[ax,Addr.mk.injEq,and_true]at e
   obtain⟨rfl,rfl⟩:=e
   exact hh.1)
  exact⟨_,z,rfl,zR,VS.of (by simpa only[V]using hR) y8⟩
 ·rename_i t x'
  obtain⟨u,e,he⟩:=ql.1 he
  subst e
  have hx:=xI hx
  obtain⟨h1,h2⟩:=aC.1 he
  obtain rfl:=aw.1 h2
  obtain⟨b,off,vs,rfl,hr,hR⟩:=pW hx
  obtain⟨z,zR,y8⟩:=sB (P:=P) (w:=w) h1 (b:=b) (off:=off) hR.size (λj x hj=>by
   obtain⟨b',off',e,hh⟩:=hr j x hj
   simp only[ax,Addr.mk.injEq,and_true]at e
   obtain⟨rfl,rfl⟩:=e
   exact hh.1)
  exact⟨_,z,rfl,zR,VS.of (by simpa only[V]using hR) y8⟩
 ·simp only[ao]at he
theorem Kk(h:Inv C g β s a w){T:TypeId}{x:Operand}(ho:o.op= .load T x){v:az}(he:(xU P s T (s.ev x)).eval=some v):fU P o a w (iN C (s.put o.dst v)):=by
 obtain⟨ad,z,hy,hr,hv⟩:=BE h (h.ev x) he
 refine h.value hv (ef (f:=Instr.loadAt T (a.eval x)) (by simp only[execOp,ho]) ?_)
 simp[Instr.loadAt,Instr.sureAddr,hy,hr]
theorem Trans.setRow(w:World){b:Nat}{i:Id}(hg:g b= .own (.id i) 0)(cur:Array Value):Trans w (w.setRow b cur) g g:=by
 refine⟨by simp,by simp,by simp,by simp,λb' hb=> ?_⟩
 by_cases he:b'=b
 ·subst he
  rw[hg]
  exact⟨.inr ⟨i,0,rfl,ay _⟩,λ_ _ hh=>by omega⟩
 ·rw[setRow_other w b b' cur he]
  cases Aq:g b' with
  |free=>exact⟨rfl,rfl⟩
  |own o' k=>cases o' with
   |eL=>exact⟨rfl,rfl⟩
   |id i'=>exact⟨.inr ⟨i',k,rfl,ay _⟩,λoff v _ hv=>by rw[cell_setRow_other w b cur _ he];exact hv⟩
theorem Inv.apart(h:Inv C g β s a w){id:Id}{k:Nat}{b:Nat}(hg:g b= .own (.id id) k){i:Id}{ver:Nat}{fr:Bool}{c:az}{pl:Pl}(hi:i≠id)(hs:s.cz i=some (.obj ver fr c))(hp:β i=some pl):pl.b≠b:=by
 intro hb
 have hl:(∃k,g pl.b= .own (.id i) k)\/(fr=true/\g pl.b= .free):=((h.bU i ver fr c hs).label (pl:=pl) hp).2
 rw[hb,hg]at hl
 rcases hl with⟨k',hk⟩ | ⟨_,hk⟩
 ·simp only[lG.own.injEq,Own.id.injEq]at hk
  exact hi hk.1.symm
 ·cases hk
theorem G4(h:Inv C g β s a w){T:TypeId}{x v:az}{y z:Value}(hx:VS (s.env w g β) x y)(hz:VS (s.env w g β) v z){s':AS}(he:(vA P s T x v).eval=some s'):
  ∃ad w',y= .pointer (some ad)/\(storeVar T ad z).run P w= .ok () w'/\∃g' β',Inv C g' β' s' a w':=by
 unfold vA at he
 split at he
 ·rename_i id ver p n
  cases kG:s.obj id with
  |none=>rw[kG]at he;simp only[ao]at he
  |some r=>
   obtain⟨v0,fr,c⟩:=r
   rw[kG]at he
   obtain⟨h1,h2⟩:=aC.1 he
   obtain⟨⟨n',o'⟩,h3,h4⟩:=au.1 h2
   obtain⟨h5,h6⟩:=aC.1 h4
   obtain⟨h7,h8⟩:=bZ.1 h6
   obtain⟨c',h9,Rp⟩:=au.1 h8
   obtain rfl:=aw.1 Rp
   simp only[decide_eq_true_eq]at h7
   simp only[ak,beq_iff_eq,bX]at h1
   obtain⟨⟨QQ,PK⟩,Bp⟩:=h1
   subst QQ h7 PK
   have db:=eJ kG
   obtain⟨ad,rfl,hb,hc⟩:=pJ hx
   obtain⟨pl,hp,rfl⟩:=hc ⟨false,c,db⟩
   have hp:β id=some pl:=hp
   obtain⟨HW,_⟩:=nU Bp
   obtain⟨cs,hV,hO⟩:=hz.fg HW
   have hOb:=h.bU id v0 false c db
   obtain⟨hcel',_⟩:=nU h5
   have Ui:c.iO=false\/c.iO=true:=by cases c.iO <;> simp
   rcases Ui with hn | hn
   ·obtain⟨pl',cur,e,hp',hh,hg,hk,hVc⟩:=hOb.box hn
    have hp':β id=some pl':=hp'
    rw[hp]at hp'
    obtain rfl:pl=pl':=by simpa using hp'
    have hg:g pl.b= .own (.id id) 0:=hg
    have hh:w.heap[pl.b]? =some (.cells cur e (0,0)):=hh
    have hN:=AB hk
    have hNl:(cur.toList.take (c.qL cur.size)).length=c.qL cur.size:=by rw[cU,c6];omega
    obtain⟨u1,u2,u3⟩:=na p c.strip (cur.toList.take (c.qL cur.size)) n' o' v c' cs (VO.of hVc) h3 hV h9
    have u4:=u2.to (u3.o6 hVc.o6)
    have oG:c'.size=c.strip.size:=by
     have e1:=u4.size
     have e2:=hVc.size
     rw[jM u1]at e1
     omega
    rw[hNl]at u1
    have K5:(dJ cur.toList n' cs).length=cur.toList.length:=jM (by have e1:cur.toList.length=cur.size:=c6;omega)
    have Ua:(dJ cur.toList n' cs).take (c.qL cur.size)=dJ (cur.toList.take (c.qL cur.size)) n' cs:=by
     conv=>lhs;rw[<-dL (c.qL cur.size) cur.toList]
     rw[sZ (by rw[hNl];exact u1),gF (by rw[jM (by rw[hNl];exact u1),hNl];exact ay _)]
     exact bz (by rw[jM (by rw[hNl];exact u1),hNl];exact ay _)
    have mU:=uB (P:=P) (w:=w) Bp hV hO (b:=pl.b) (off:=n') hh (by have e1:cur.toList.length=cur.size:=c6;have e2:cs.toArray.size=cs.length:=ir;omega)
    have ht:=Trans.setRow w hg (dJ cur.toList n' cs).toArray
    have hle:c7 (s.env w g β) ((s.aX id (.obj v0 false (c.wrap c'))).env (w.setRow pl.b (dJ cur.toList n' cs).toArray) g β):=c7.aX db (ay _) ht (λ_ _=>rfl) (λ_=>rfl)
    refine⟨_,_,rfl,mU,g,β,h.step (du _ _ _) ht hle (jd.aX h.bU (by rw[db];simp) hle (λ_ _=>rfl) (λi ver fr c pl2 hi Br CF=>⟨setRow_other w pl.b pl2.b _ (h.apart hg hi Br CF),rfl⟩) ?_ (mV db λk v1 l e=>by rw[e]at hn;simp[az.iO]at hn))⟩
    exact yK.obj ⟨pl,_,e,hp,setRow_heap w pl.b cur _ e (0,0) hh,hg,by rw[ir,K5,c6];exact wM hk u4.so oG,by
     rw[xo c u4.so,ir,K5,c6,yR u4.so oG,show(dJ cur.toList n' cs).toArray.toList=dJ cur.toList n' cs from rfl,Ua]
     exact V.mono hle u4⟩
   ·cases c <;> first | (simp[az.iO]at hn;done) | skip
    rotate_left
    ·have h3:(loc (.mp _ _ _) p).eval=_:=h3
     obtain⟨_,rfl⟩:=EG h3
     simp[az.fg]at hcel'
    ·have h3:(loc (.oK _ _ _ _ _ _) p).eval=_:=h3
     obtain⟨_,rfl⟩:=AN h3
     simp[az.fg]at hcel'
    ·have h3:(loc (.qK _ _ _) p).eval=_:=h3
     obtain⟨_,rfl⟩:=AO h3
     simp[az.fg]at hcel'
    rename_i e t l
    obtain⟨Hl,hOb⟩:=hOb
    have hOb:(match β id with
     |none=>l=[]
     |some pl=>∃cur k,w.heap[pl.b]? =some (.cells cur e (0,0))/\cur.size=pl.cap*t.size/\l.length<=pl.cap/\pl.cap<=maxLen/\g pl.b= .own (.id id) k/\
       k<=l.length*t.size/\(false=false->k=0)/\bA (dn (s.env w g β) t) (cur.toList.take (l.length*t.size)) l):=hOb
    rw[hp]at hOb
    obtain⟨cur,k,q1,q2,q3,q4,q5,q6,q7,q8⟩:=hOb
    have hk:=q7 rfl
    subst hk
    have hlen:=bA.length (λc x hx=>dn.size hx) q8
    have oG:l.length*t.size<=cur.size:=by rw[q2];exact dr _ q3
    obtain⟨u1,u2,u3⟩:=na (E:=s.env w g β) p (.vec e t l) _ n' o' v c' cs q8 h3 hV h9
    rw[hlen]at u1
    have mU:=uB (P:=P) (w:=w) Bp hV hO (b:=pl.b) (off:=n') q1 (by omega)
    cases c' <;> first | (exact u3.elim) | skip
    rename_i e' t' l'
    obtain⟨rfl,rfl,hl'⟩:=u3
    have ht:=Trans.setRow w q5 (dJ cur.toList n' cs).toArray
    have hle:c7 (s.env w g β) ((s.aX id (.obj v0 false (.vec e' t' l'))).env (w.setRow pl.b (dJ cur.toList n' cs).toArray) g β):=c7.aX db (ay _) ht (λ_ _=>rfl) (λ_=>rfl)
    refine⟨_,_,rfl,mU,g,β,h.step (du _ _ _) ht hle (jd.aX h.bU (by rw[db];simp) hle (λ_ _=>rfl) (λi ver fr c pl2 hi Br CF=>⟨setRow_other w pl.b pl2.b _ (h.apart q5 hi Br CF),rfl⟩) ?_ (mV db λk v1 l e=>by cases e))⟩
    refine⟨Hl,?_⟩
    show(match β id with
     |none=>l'=[]
     |some pl=>_)
    rw[hp]
    have K5:(dJ cur.toList n' cs).length=cur.toList.length:=jM (by simp;omega)
    refine⟨_,0,setRow_heap w pl.b cur _ e' (0,0) q1,by rw[ir,K5];simpa using q2,by omega,q4,q5,by omega,λ_=>rfl,?_⟩
    have e2:(dJ cur.toList n' cs).take (l'.length*t'.size)=dJ (cur.toList.take (l.length*t'.size)) n' cs:=by
     rw[hl']
     conv=>lhs;rw[<-dL (l.length*t'.size) cur.toList]
     rw[sZ (by rw[hlen];exact u1),gF (by rw[jM (by rw[hlen];exact u1),hlen];exact ay _)]
     exact bz (by rw[jM (by rw[hlen];exact u1),hlen];exact ay _)
    rw[show(dJ cur.toList n' cs).toArray.toList=dJ cur.toList n' cs from rfl,e2]
    exact bA.mono (λ_ _ hx=>hx.mono hle.mem) u2
 ·simp only[ao]at he
theorem IF(h:Inv C g β s a w){T:TypeId}{x v:Operand}(ho:o.op= .store T x v){s':AS}(he:(vA P s T (s.ev x) (s.ev v)).eval=some s'):fU P o a w (iN C (s'.put o.dst .undef)):=by
 obtain⟨ad,w',hy,hr,g',β',hi⟩:=G4 h (h.ev x) (h.ev v) he
 refine .inr (.inl ⟨w',Dn (f:=Instr.storeAt T (a.eval x) (a.eval v)) (by simp only[execOp,ho]) ?_,g',β',hi.put o.dst VS.undef⟩)
 simp[Instr.storeAt,Instr.sureAddr,hy,hr]
end
end Go.Ab
namespace Go.Ab
section
variable {P:Program} {C:Ctx} {g:Nat->lG} {β:Id->Option Pl} {s:AS} {a:Act} {w:World} {o:Oper}
theorem DI(h:Inv C g β s a w){x:Operand}(ho:o.op= .move x\/o.op= .assign x):fU P o a w (iN C (s.put o.dst (s.ev x))):=by
 refine h.value (h.ev x) ?_
 rcases ho with ho | ho <;> simp[execOp,ho]
theorem Ky(h:Inv C g β s a w){c x y:Operand}(ho:o.op= .pick c x y){v:az}(he:(Jq (s.ev c) (s.ev x) (s.ev y)).eval=some v):fU P o a w (iN C (s.put o.dst v)):=by
 have hc:=h.ev c
 have hx:=h.ev x
 have hy:=h.ev y
 unfold Jq at he
 split at he
 ·rename_i b hb
  rw[hb]at hc
  have Vx:=AA hc
  have hr:(execOp a.eval o).run P w= .ok (.value (if b then a.eval x else a.eval y)) w:=by
   simp[execOp,ho,Vx,asBool]
  split at he
  ·rename_i bx by' Vs Vt
   obtain rfl:=aw.1 he
   rw[Vs]at hx
   rw[Vt]at hy
   refine h.value ?_ hr
   cases b
   ·simpa using hy
   ·simpa using hx
  ·cases b with
   |true=>
    simp only[Out.eval,ax]at he
    subst he
    exact h.value (by simpa using hx) hr
   |false=>
    simp only[Out.eval,ax]at he
    subst he
    exact h.value (by simpa using hy) hr
 ·simp only[ao]at he
theorem CY(h:Inv C g β s a w){x:Operand}(ho:o.op= .nilCheck x){s':AS}(he:(match s.ev x with
  | .ptr id v p n=>Out.ok (s.put o.dst (.ptr id v p n))
  | .ed t y=> .ok (s.put o.dst (.ed t y))
  | .d (.oV t) y=> .get (y:Option t.den) λy=> .ok (s.put o.dst (.ed t y))
  | .fn f c=> .ok (s.put o.dst (.fn f c))
  |_=> .fail).eval=some s'):fU P o a w (iN C s'):=by
 have hx:=h.ev x
 split at he
 ·rename_i id v p n hv
  obtain rfl:=aw.1 he
  rw[hv]at hx
  obtain⟨ad,hy,_⟩:=pJ hx
  exact h.value hx (by simp[execOp,ho,hy])
 ·rename_i t y hv
  obtain rfl:=aw.1 he
  rw[hv]at hx
  obtain⟨b,off,vs,hy,_⟩:=pW hx
  exact h.value hx (by simp[execOp,ho,hy])
 ·rename_i t y hv
  obtain⟨z,e,he⟩:=ql.1 he
  subst e
  obtain rfl:=aw.1 he
  rw[hv]at hx
  have hx:=xI hx
  obtain⟨b,off,vs,hy,_⟩:=pW hx
  exact h.value hx (by simp[execOp,ho,hy])
 ·rename_i f c hv
  obtain rfl:=aw.1 he
  rw[hv]at hx
  obtain⟨cs,hV,hO⟩:=hx.fg rfl
  simp only[V]at hV
  obtain⟨vs,e,hc⟩:=hV
  have hO':cs=[a.eval x]:=hO
  rw[e]at hO'
  have hy:a.eval x= .func (.func f) #[] vs.toArray:=by simpa using hO'.symm
  refine h.value (v:= .fn f c) ⟨cs,by simp only[V];exact⟨vs,e,hc⟩,hO⟩ (by simp[execOp,ho,hy])
 ·simp only[ao]at he
theorem Gd{op:BinOp}{k k':IntKind}{x y:Int}{v:az}(he:(LY op k x k' y).eval=some v)(T:TypeId)(E:Env):
  ∃z,(binOp op T (.int k x) (.int k' y)).run P w= .ok z w/\VS E v z:=by
 unfold LY at he
 have same:∀(hk:decide (k=k')=true),k=k':=λhk=>by simpa using hk
 cases op with
 |shl=>
  obtain⟨h1,h2⟩:=bZ.1 he
  obtain rfl:=aw.1 h2
  have h1:¬y < 0:=by simpa using h1
  exact⟨_,by simp[binOp,Op.shift,h1],ky _ _⟩
 |shr=>
  obtain⟨h1,h2⟩:=bZ.1 he
  obtain rfl:=aw.1 h2
  have h1:¬y < 0:=by simpa using h1
  exact⟨_,by simp[binOp,Op.shift,h1],ky _ _⟩
 |quo=>
  obtain⟨h1,h2⟩:=aC.1 he
  obtain rfl:=same h1
  obtain⟨h3,h4⟩:=bZ.1 h2
  obtain rfl:=aw.1 h4
  have h3:y≠0:=by simpa using h3
  exact⟨_,by simp[binOp,Op.intDiv,h3],ky _ _⟩
 |rem=>
  obtain⟨h1,h2⟩:=aC.1 he
  obtain rfl:=same h1
  obtain⟨h3,h4⟩:=bZ.1 h2
  obtain rfl:=aw.1 h4
  have h3:y≠0:=by simpa using h3
  exact⟨_,by simp[binOp,Op.intDiv,h3],ky _ _⟩
 |add | sub | mul=>
  obtain⟨h1,h2⟩:=aC.1 he
  obtain rfl:=same h1
  obtain rfl:=aw.1 h2
  exact⟨_,by simp[binOp,Op.intArith],ky _ _⟩
 |and | or | xor | andNot=>
  obtain⟨h1,h2⟩:=aC.1 he
  obtain rfl:=same h1
  obtain rfl:=aw.1 h2
  refine⟨_,?_,ky _ _⟩
  unfold binOp Op.intBits
  simp[cW]
 |eql | neq | lss | leq | gtr | geq=>
  obtain⟨h1,h2⟩:=aC.1 he
  obtain rfl:=same h1
  obtain rfl:=aw.1 h2
  refine⟨_,?_,pR _⟩
  simp[binOp,Op.intCmp]
theorem G5{op:BinOp}{x y:ByteArray}{v:az}(he:(MP op x y).eval=some v)(T:TypeId)(E:Env):
  ∃z,(binOp op T (.string x) (.string y)).run P w= .ok z w/\VS E v z:=by
 unfold MP at he
 cases op <;> simp only[ao]at he
 case add=>
  obtain⟨h1,h2⟩:=bZ.1 he
  obtain rfl:=aw.1 h2
  have h1:¬((x.size+y.size:Nat):Int) > IntKind.i64.max:=by simpa using h1
  refine⟨.string (x++y),?_,D9 _⟩
  show(Op.stringOp .add x y).run P w=_
  unfold Op.stringOp
  simp only[h1,if_false]
  rfl
 all_goals
  obtain rfl:=aw.1 he
  exact⟨_,by simp[binOp,Op.stringOp],pR _⟩
theorem l8{op:BinOp}{T:TypeId}{x y:Operand}{u v:Value}(h1:u≠ .nilIface)(h2:oc u=false):(eqGuard op T x y u v).run P w= .ok () w:=by
 unfold eqGuard
 cases op <;> simp
 all_goals (cases u <;> simp_all [oc])
theorem rz{T:TypeId}{b:Bool}(h:w8 P T b=true):∃i,P.info? T=some i/\∀w,(isAgg T).run P w= .ok b w:=by
 unfold w8 at h
 cases hu:P.underlying T with
 |none=>rw[hu]at h;cases h
 |some d=>
  obtain⟨i,hi⟩:=Jf hu
  refine⟨i,hi,λw=> ?_⟩
  rw[hu]at h
  unfold isAgg
  rw[Sem.run_bind,run_underlying hu w]
  cases d <;> simp at h <;> simp[h]
theorem qG{T:TypeId}{b:Bool}(h:w8 P T b=true){cs:List Value}{off n:Nat}(hn:P.cellsOf T=n)(hb:b=false->n=1)(hl:off+n<=cs.length):
  ∃y,(part T cs.toArray off).run P w= .ok y w/\gd b ((cs.drop off).take n) y:=by
 obtain⟨i,hi,F6⟩:=rz h
 rw[lJ hi]at hn
 unfold part
 rw[Sem.run_bind,F6 w]
 simp only[Result.andThen_ok]
 cases b with
 |true=>
  refine⟨.agg ((cs.drop off).take n).toArray,?_,rfl⟩
  simp only[if_true,Sem.run_bind,run_sizeOf hi,Result.andThen_ok,hn,Sem.run_pure]
  simp[List.extract_eq_take_drop]
 |false=>
  have h1:=hb rfl
  subst h1
  have jt:off < cs.length:=by omega
  refine⟨cs[off],?_,?_⟩
  ·simp[jt]
  ·show(cs.drop off).take 1=[cs[off]]
   rw[aq jt,ng,eH]
theorem qH{t:Ty}(h:t.agg=false):t.size=1:=by
 cases t <;> first | rfl | (simp[Ty.agg]at h)
theorem vb{α:Type}(f:α->α->Bool)(x y:α)(xs ys:List α):kL f (x::xs) (y::ys)=(f x y && kL f xs ys):=rfl
theorem pS(E:Env):∀(n:Nat) (T:TypeId) (t:Ty),ov P n T t=true->∀(d:Nat),n<=d->∀(cx cy:List Value) (x y:t.den) (u v:Value),dn E t cx x->dn E t cy y->gd t.agg cx u->gd t.agg cy v->
  (Op.equalIn d T u v).run P w= .ok (t.beq x y) w
 | 0,T,t,h,_,_,_,_,_,_,_,_,_,_,_,_=>by simp[ov]at h
 |n+1,T,t,h,0,hd,_,_,_,_,_,_,_,_,_,_=>by omega
 |n+1,T,t,h,d+1,hd,cx,cy,x,y,u,v,hx,hy,hu,hv=>by
  simp only[ov]at h
  split at h
  ·rename_i k k' hT
   simp only[dn]at hx hy
   have e1:cx=[u]:=hu
   have e2:cy=[v]:=hv
   rw[hx]at e1;rw[hy]at e2
   simp only[dC,and_true]at e1 e2
   subst e1 e2
   rw[run_equalIn_int w d T _ _ _ _ hT];rfl
  ·rename_i hT
   simp only[dn]at hx hy
   have e1:cx=[u]:=hu
   have e2:cy=[v]:=hv
   rw[hx]at e1;rw[hy]at e2
   simp only[dC,and_true]at e1 e2
   subst e1 e2
   rw[run_equalIn_bool' w d T _ _ hT];rfl
  ·rename_i hT
   simp only[dn]at hx hy
   have e1:cx=[u]:=hu
   have e2:cy=[v]:=hv
   rw[hx]at e1;rw[hy]at e2
   simp only[dC,and_true]at e1 e2
   subst e1 e2
   rw[run_equalIn_string w d T _ _ hT];rfl
  ·rename_i m e m' t' hT
   simp only[ak,beq_iff_eq]at h
   obtain⟨⟨⟨⟨rfl,P6⟩,oG⟩,xu⟩,pT⟩:=h
   simp only[dn]at hx hy
   obtain⟨TP,TC⟩:=hx
   obtain⟨VQ,Vy⟩:=hy
   have e1:u= .agg cx.toArray:=hu
   have e2:v= .agg cy.toArray:=hv
   subst e1 e2
   obtain⟨i,hi,F6⟩:=rz xu
   have hsz':=oG
   rw[lJ hi]at hsz'
   simp only[Op.equalIn,Sem.run_bind,run_underlying hT,Result.andThen_ok,run_sizeOf hi,hsz']
   simp only[Std.Legacy.Range.forIn_eq_forIn_range']
   have hm:([:m]:Std.Legacy.Range).size=m:=by simp[Std.Legacy.Range.size]
   rw[hm]
   have Hl:∀c z,dn E t' c z->c.length=t'.size:=λc z hz=>hz.size
   have bx:t'.agg=false->t'.size=1:=qH
   have key:∀(k:Nat) (x y:List t'.den) (j:Nat),x.length=k->y.length=k->bA (dn E t') (cx.drop (j*t'.size)) x->bA (dn E t') (cy.drop (j*t'.size)) y->
     (forIn (List.range' j k) ((none,()):Option Bool×Unit) λi __s=>(do
      let __do_lift <-part e cx.toArray (i*t'.size)
      let __do_lift_1 <-part e cy.toArray (i*t'.size)
      let __do_lift <-Op.equalIn d e __do_lift __do_lift_1
      if(!__do_lift)=true then pure (ForInStep.done (some false,())) else pure (ForInStep.yield (none,())):Sem (ForInStep (Option Bool×Unit)))).run P w= .ok (if kL t'.beq x y then none else some false,()) w:=by
    intro k
    induction k with
    |zero=>
     intro x y j hx hy _ _
     rw[List.length_eq_zero_iff.1 hx,List.length_eq_zero_iff.1 hy]
     rfl
    |succ k ih=>
     intro x y j hx hy hcx' hcy'
     cases x with
     |nil=>simp at hx
     |cons x0 xs=>
      cases y with
      |nil=>simp at hy
      |cons y0 ys=>
       have gx:=bA.get Hl hcx' 0 (by simp)
       have gy:=bA.get Hl hcy' 0 (by simp)
       simp only[mP,aI,List.getElem_cons_zero]at gx gy
       have lenx:((cx.drop (j*t'.size)).take t'.size).length=t'.size:=gx.size
       have leny:((cy.drop (j*t'.size)).take t'.size).length=t'.size:=gy.size
       have zR:t'.size≠0:=by simpa using P6
       have TL:j*t'.size+t'.size<=cx.length:=by simp only[cU,dx]at lenx;omega
       have VL:j*t'.size+t'.size<=cy.length:=by simp only[cU,dx]at leny;omega
       obtain⟨ux,h1,o1⟩:=qG (w:=w) xu oG bx (cs:=cx) (off:=j*t'.size) TL
       obtain⟨uy,h2,o2⟩:=qG (w:=w) xu oG bx (cs:=cy) (off:=j*t'.size) VL
       have h3:=pS E n e t' pT d (by omega) _ _ x0 y0 ux uy gx gy o1 o2
       have nx:bA (dn E t') (cx.drop ((j+1)*t'.size)) xs:=by
        have:=bA.drop Hl 1 hcx'
        rw[fI]at this
        simpa[eM]using this
       have ny:bA (dn E t') (cy.drop ((j+1)*t'.size)) ys:=by
        have:=bA.drop Hl 1 hcy'
        rw[fI]at this
        simpa[eM]using this
       have:=ih xs ys (j+1) (by simpa using hx) (by simpa using hy) nx ny
       rw[List.range'_succ,List.forIn_cons]
       simp only[Sem.run_bind,h1,h2,h3,Result.andThen_ok,vb]
       rcases fL (t'.beq x0 y0) with hb | hb
       ·simp only[hb,cq,bJ,if_false,Sem.run_pure,Result.andThen_ok,bO]
        exact this
       ·simp only[hb,dX,if_true,Sem.run_pure,Result.andThen_ok,dF,bJ,if_false]
   have:=key m x y 0 TP VQ (by simpa using TC) (by simpa using Vy)
   rw[this]
   show _=Result.ok (kL t'.beq x y) w
   cases kL t'.beq x y <;> rfl
  ·rename_i t0 _ _ fs hT
   simp only[ak,bX]at h
   obtain⟨oJ,PL⟩:=h
   have hF:P.fieldsOf T=fs:=by simp[Program.fieldsOf,hT]
   have hT':P.underlying T=some (.struct (P.fieldsOf T)):=by rw[hF];exact hT
   have key:∀(fl:List Field) (t:Ty) (off:Nat),wU P (ov P n) fl t off=true->∀(x y:t.den),dn E t (cx.drop off) x->dn E t (cy.drop off) y->
     (Op.eqFields d cx.toArray cy.toArray fl).run P w= .ok (t.beq x y) w:=by
    intro fl
    induction fl with
    |nil=>
     intro t off hc x y _ _
     cases t <;> first | (simp[wU]at hc;done) | rfl
    |cons f fl ih=>
     intro t off hc x y hx hy
     cases t <;> first | (simp[wU]at hc;done) | skip
     rename_i ta tb
     simp only[wU,ak,bX,beq_iff_eq,beq_eq_false_iff_ne]at hc
     obtain⟨⟨⟨⟨⟨⟨TU,NI⟩,hz⟩,oG⟩,xu⟩,pT⟩,LN⟩:=hc
     simp only[dn]at hx hy
     obtain⟨xa,xb,ex,Sc,Ul⟩:=hx
     obtain⟨ya,yb,ey,Vd,Wc⟩:=hy
     have bx:ta.agg=false->ta.size=1:=qH
     have lx:xa.length=ta.size:=Sc.size
     have ly:ya.length=ta.size:=Vd.size
     have split:∀(cs xa xb:List Value),cs.drop off=xa++xb->xa.length=ta.size->(cs.drop off).take ta.size=xa/\cs.drop (off+ta.size)=xb/\off+ta.size<=cs.length:=by
      intro cs xa xb e l
      refine⟨by rw[e];exact List.take_left' l,by rw[<-fI,e];exact List.drop_left' l,?_⟩
      have:=congrArg List.length e
      simp only[dx,aj]at this
      omega
     obtain⟨sx1,sx2,sx3⟩:=split cx xa xb ex lx
     obtain⟨sy1,sy2,sy3⟩:=split cy ya yb ey ly
     obtain⟨ux,h1,o1⟩:=qG (w:=w) xu oG bx (cs:=cx) (off:=off) sx3
     obtain⟨uy,h2,o2⟩:=qG (w:=w) xu oG bx (cs:=cy) (off:=off) sy3
     rw[sx1]at o1
     rw[sy1]at o2
     have h3:=pS E n f.type ta pT d (by omega) _ _ x.1 y.1 ux uy Sc Vd o1 o2
     have h4:=ih tb (off+ta.size) LN x.2 y.2 (by rw[sx2];exact Ul) (by rw[sy2];exact Wc)
     simp only[Op.eqFields,ne_eq,TU,not_false_eq_true,if_true,Sem.run_bind,NI,h1,h2,h3,Result.andThen_ok]
     show _=Result.ok (ta.beq x.1 y.1 && tb.beq x.2 y.2) w
     rcases fL (ta.beq x.1 y.1) with hb | hb
     ·simp only[hb,cq,bJ,if_false,bO]
      exact h4
     ·simp[hb]
   have xu:t0.agg=true:=by
    cases hl:fs.toList <;> rw[hl]at PL <;> cases t0 <;> first | rfl | (simp[wU]at PL;done)
   rw[xu]at hu hv
   have e1:u= .agg cx.toArray:=hu
   have e2:v= .agg cy.toArray:=hv
   subst e1 e2
   rw[run_equalIn_struct w d T _ _ hT' oJ,hF]
   exact key fs.toList t0 0 PL x y (by simpa using hx) (by simpa using hy)
  ·cases h
end
end Go.Ab
namespace Go.Ab
section
variable {P:Program} {C:Ctx} {g:Nat->lG} {β:Id->Option Pl} {s:AS} {a:Act} {w:World} {o:Oper}
theorem Mt{E:Env}{v:az}{y c:Value}(h:VS E v y)(hc:v.fg=true)(ha:v.agg=false)(hV:∀cs,V E v cs->cs=[c]):y=c:=by
 have:=h.single hc ha
 simpa using hV _ this
theorem vX{E:Env}{y:Value}(h:VS E .oI y):y= .pointer none:=Mt h rfl rfl λcs hv=>by simpa only[V]using hv
theorem AQ{E:Env}{y:Value}(h:VS E .qt y):y= .nilFunc:=Mt h rfl rfl λcs hv=>by simpa only[V]using hv
theorem Dr{E:Env}{f:FuncId}{c:az}{y:Value}(h:VS E (.fn f c) y):∃vs,y= .func (.func f) #[] vs.toArray/\VC E c vs:=by
 have h1:=h.single rfl rfl
 simp only[V]at h1
 obtain⟨vs,e,hc⟩:=h1
 exact⟨vs,by simpa using e,hc⟩
theorem fA{T:TypeId}{u v:Value}{b:Bool}(h:∀d,(Op.equalIn (d+1) T u v).run P w= .ok b w):(Op.equal T u v).run P w= .ok b w:=h 9999
theorem Bc{T:TypeId}{x y:az}{u v:Value}{E:Env}(hx:VS E x u)(hy:VS E y v){b:Bool}(he:(sP P T x y).eval=some b):
  (Op.equal T u v).run P w= .ok b w/\u≠ .nilIface/\(oc u=false\/(oc v=true/\P.eqGuardType P.depth T=false))/\
   (∀op,binOp op T u v=(match op with | .eql=>do pure (.bool (<-Op.equal T u v)) | .neq=>do pure (.bool (!(<-Op.equal T u v))) | _=>binOp op T u v)):=by
 unfold sP at he
 split at he
 ·rename_i t x' t' y'
  obtain⟨y'',h1,h2⟩:=au.1 he
  obtain⟨rfl,h1⟩:=jI (jW.1 h1)
  simp only at h1
  subst h1
  obtain⟨h3,h4⟩:=aC.1 h2
  obtain rfl:=aw.1 h4
  simp only[ak,gP,bX,decide_eq_true_eq]at h3
  obtain⟨h3,h5⟩:=h3
  obtain⟨cx,hVx,hOx⟩:=hx.fg rfl
  obtain⟨cy,hVy,hOy⟩:=hy.fg rfl
  simp only[V]at hVx hVy
  have hr:=pS (w:=w) E depth T t' h5 10000 (by decide) cx cy x' y' u v hVx hVy hOx hOy
  refine⟨hr,?_⟩
  rcases h3 with⟨xu,VH⟩ | rfl
  ·have hOx':gd t'.agg cx u:=hOx
   have hOy':gd t'.agg cy v:=hOy
   rw[xu]at hOx' hOy'
   have e1:u= .agg cx.toArray:=hOx'
   have e2:v= .agg cy.toArray:=hOy'
   subst e1 e2
   exact⟨by simp,.inr ⟨rfl,VH⟩,λop=>by cases op <;> rfl⟩
  ·simp only[dn]at hVx hVy
   have e1:cx=[u]:=hOx
   have e2:cy=[v]:=hOy
   rw[hVx]at e1;rw[hVy]at e2
   simp only[dC,and_true]at e1 e2
   subst e1 e2
   exact⟨by simp,.inl rfl,λop=>by cases op <;> rfl⟩
 ·obtain⟨h1,h2⟩:=aC.1 he
  obtain rfl:=aw.1 h2
  rw[km hx,km hy]
  unfold sP.isSl at h1
  split at h1 <;> try (cases h1;done)
  rename_i e hT
  exact⟨fA λd=>by simp[Op.equalIn,run_underlying hT],by simp,.inl rfl,λop=>by cases op <;> rfl⟩
 ·obtain⟨h1,h2⟩:=aC.1 he
  obtain⟨h3,h4⟩:=bZ.1 h2
  obtain rfl:=aw.1 h4
  obtain⟨ad,cap,vs,rfl,_,hs,_⟩:=pc hx
  rw[km hy]
  have hs:=hs (by simpa using h3)
  obtain⟨ad',rfl⟩:=cv.1 hs
  unfold sP.isSl at h1
  split at h1 <;> try (cases h1;done)
  rename_i e hT
  exact⟨fA λd=>by simp[Op.equalIn,run_underlying hT],by simp,.inl rfl,λop=>by cases op <;> rfl⟩
 ·obtain⟨h1,h2⟩:=aC.1 he
  obtain⟨h3,h4⟩:=bZ.1 h2
  obtain rfl:=aw.1 h4
  obtain⟨ad,cap,vs,rfl,_,hs,_⟩:=pc hy
  rw[km hx]
  have hs:=hs (by simpa using h3)
  obtain⟨ad',rfl⟩:=cv.1 hs
  unfold sP.isSl at h1
  split at h1 <;> try (cases h1;done)
  rename_i e hT
  exact⟨fA λd=>by simp[Op.equalIn,run_underlying hT],by simp,.inl rfl,λop=>by cases op <;> rfl⟩
 ·obtain⟨h1,h2⟩:=aC.1 he
  obtain⟨h3,h4⟩:=bZ.1 h2
  obtain rfl:=aw.1 h4
  obtain⟨ad,cap,rfl,_,hs,_⟩:=nJ hx
  rw[km hy]
  have hs:=hs (by simpa using h3)
  obtain⟨ad',rfl⟩:=cv.1 hs
  unfold sP.isSl at h1
  split at h1 <;> try (cases h1;done)
  rename_i e hT
  exact⟨fA λd=>by simp[Op.equalIn,run_underlying hT],by simp,.inl rfl,λop=>by cases op <;> rfl⟩
 ·obtain⟨h1,h2⟩:=aC.1 he
  obtain⟨h3,h4⟩:=bZ.1 h2
  obtain rfl:=aw.1 h4
  obtain⟨ad,cap,rfl,_,hs,_⟩:=nJ hy
  rw[km hx]
  have hs:=hs (by simpa using h3)
  obtain⟨ad',rfl⟩:=cv.1 hs
  unfold sP.isSl at h1
  split at h1 <;> try (cases h1;done)
  rename_i e hT
  exact⟨fA λd=>by simp[Op.equalIn,run_underlying hT],by simp,.inl rfl,λop=>by cases op <;> rfl⟩
 ·obtain⟨h1,h2⟩:=aC.1 he
  obtain rfl:=aw.1 h2
  rw[vX hx,vX hy]
  unfold sP.isPt at h1
  split at h1 <;> try (cases h1;done)
  rename_i e hT
  exact⟨fA λd=>by simp[Op.equalIn,run_underlying hT],by simp,.inl rfl,λop=>by cases op <;> rfl⟩
 ·obtain⟨h1,h2⟩:=aC.1 he
  obtain rfl:=aw.1 h2
  obtain⟨ad,rfl,_⟩:=pJ hx
  rw[vX hy]
  unfold sP.isPt at h1
  split at h1 <;> try (cases h1;done)
  rename_i e hT
  exact⟨fA λd=>by simp[Op.equalIn,run_underlying hT],by simp,.inl rfl,λop=>by cases op <;> rfl⟩
 ·obtain⟨h1,h2⟩:=aC.1 he
  obtain rfl:=aw.1 h2
  obtain⟨ad,rfl,_⟩:=pJ hy
  rw[vX hx]
  unfold sP.isPt at h1
  split at h1 <;> try (cases h1;done)
  rename_i e hT
  exact⟨fA λd=>by simp[Op.equalIn,run_underlying hT],by simp,.inl rfl,λop=>by cases op <;> rfl⟩
 ·rename_i t q
  obtain⟨h1,h2⟩:=aC.1 he
  obtain rfl:=aw.1 h2
  unfold sP.isPt at h1
  split at h1 <;> try (cases h1;done)
  rename_i e hT
  rw[vX hy]
  cases q with
  |none=>
   rw[Dx hx]
   exact⟨fA λd=>by simp[Op.equalIn,run_underlying hT],by simp,.inl rfl,λop=>by cases op <;> rfl⟩
  |some z=>
   obtain⟨b,off,vs,rfl,_⟩:=pW (xI hx)
   exact⟨fA λd=>by simp[Op.equalIn,run_underlying hT],by simp,.inl rfl,λop=>by cases op <;> rfl⟩
 ·rename_i t q
  obtain⟨h1,h2⟩:=aC.1 he
  obtain rfl:=aw.1 h2
  unfold sP.isPt at h1
  split at h1 <;> try (cases h1;done)
  rename_i e hT
  rw[vX hx]
  cases q with
  |none=>
   rw[Dx hy]
   exact⟨fA λd=>by simp[Op.equalIn,run_underlying hT],by simp,.inl rfl,λop=>by cases op <;> rfl⟩
  |some z=>
   obtain⟨b,off,vs,rfl,_⟩:=pW (xI hy)
   exact⟨fA λd=>by simp[Op.equalIn,run_underlying hT],by simp,.inl rfl,λop=>by cases op <;> rfl⟩
 ·obtain⟨h1,h2⟩:=aC.1 he
  obtain rfl:=aw.1 h2
  rw[AQ hx,AQ hy]
  unfold sP.isFn at h1
  split at h1 <;> try (cases h1;done)
  rename_i hT
  exact⟨fA λd=>by simp[Op.equalIn,run_underlying hT],by simp,.inl rfl,λop=>by cases op <;> rfl⟩
 ·obtain⟨h1,h2⟩:=aC.1 he
  obtain rfl:=aw.1 h2
  obtain⟨vs,rfl,_⟩:=Dr hx
  rw[AQ hy]
  unfold sP.isFn at h1
  split at h1 <;> try (cases h1;done)
  rename_i hT
  exact⟨fA λd=>by simp[Op.equalIn,run_underlying hT],by simp,.inl rfl,λop=>by cases op <;> rfl⟩
 ·obtain⟨h1,h2⟩:=aC.1 he
  obtain rfl:=aw.1 h2
  obtain⟨vs,rfl,_⟩:=Dr hy
  rw[AQ hx]
  unfold sP.isFn at h1
  split at h1 <;> try (cases h1;done)
  rename_i hT
  exact⟨fA λd=>by simp[Op.equalIn,run_underlying hT],by simp,.inl rfl,λop=>by cases op <;> rfl⟩
 ·simp only[ao]at he
theorem FR{op:BinOp}{T:TypeId}{x y:Operand}{u v:Value}(hu:oc u=true)(hv:oc v=true)(hm:P.eqGuardType P.depth T=false):(eqGuard op T x y u v).run P w= .ok () w:=by
 cases u <;> first | (simp[oc]at hu;done) | skip
 cases v <;> first | (simp[oc]at hv;done) | skip
 exact run_eqGuard_agg w op T x y _ _ hm
theorem Hy(h:Inv C g β s a w){op:BinOp}{T U:TypeId}{x y:Operand}(ho:o.op= .binOp op T x y U){v:az}(he:(O9 P T op (s.ev x) (s.ev y)).eval=some v):fU P o a w (iN C (s.put o.dst v)):=by
 have hx:=h.ev x
 have hy:=h.ev y
 have fin:∀z,(binOp op T (a.eval x) (a.eval y)).run P w= .ok z w->(eqGuard op T x y (a.eval x) (a.eval y)).run P w= .ok () w->VS (s.env w g β) v z->fU P o a w (iN C (s.put o.dst v)):=by
  intro z h1 h2 h3
  refine h.value h3 ?_
  simp[execOp,ho,h1,h2]
 unfold O9 at he
 split at he
 ·rename_i k n k' m hn hm
  rw[hn]at hx;rw[hm]at hy
  have e1:=pD hx
  have e2:=pD hy
  obtain⟨z,h1,h2⟩:=Gd (P:=P) (w:=w) he T (s.env w g β)
  exact fin z (by rw[e1,e2];exact h1) (by rw[e1,e2];exact l8 (by simp) rfl) h2
 ·rename_i n m hn hm
  rw[hn]at hx;rw[hm]at hy
  have e1:=vB hx
  have e2:=vB hy
  obtain⟨z,h1,h2⟩:=G5 (P:=P) (w:=w) he T (s.env w g β)
  exact fin z (by rw[e1,e2];exact h1) (by rw[e1,e2];exact l8 (by simp) rfl) h2
 ·have grd:(oc (a.eval x)=false\/(oc (a.eval y)=true/\P.eqGuardType P.depth T=false))->a.eval x≠ .nilIface->(eqGuard op T x y (a.eval x) (a.eval y)).run P w= .ok () w:=by
   intro hh jb
   rcases hh with hh | ⟨hh,hm⟩
   ·exact l8 jb hh
   ·rcases fL (oc (a.eval x)) with hx | hx
    ·exact FR hx hh hm
    ·exact l8 jb hx
  split at he
  ·obtain⟨b,h1,h2⟩:=au.1 he
   obtain rfl:=aw.1 h2
   obtain⟨q1,q2,q3,q4⟩:=Bc (w:=w) hx hy h1
   refine fin (.bool b) ?_ (grd q3 q2) (pR b)
   rw[q4 .eql]
   simp[q1]
  ·obtain⟨b,h1,h2⟩:=au.1 he
   obtain rfl:=aw.1 h2
   obtain⟨q1,q2,q3,q4⟩:=Bc (w:=w) hx hy h1
   refine fin (.bool (!b)) ?_ (grd q3 q2) (pR (!b))
   rw[q4 .neq]
   simp[q1]
  ·simp only[ao]at he
theorem KT(h:Inv C g β s a w){op:UnOp}{T:TypeId}{x:Operand}(ho:o.op= .unOp op T x){v:az}(he:(S5 op (s.ev x)).eval=some v):fU P o a w (iN C (s.put o.dst v)):=by
 have hx:=h.ev x
 unfold S5 at he
 split at he
 ·rename_i b hb
  rw[hb]at hx
  obtain rfl:=aw.1 he
  exact h.value (pR _) (by simp[execOp,ho,AA hx,Op.unary])
 ·rename_i k n hb
  rw[hb]at hx
  obtain rfl:=aw.1 he
  exact h.value (ky _ _) (by simp[execOp,ho,pD hx,Op.unary,Op.intArith])
 ·rename_i k n hb
  rw[hb]at hx
  obtain rfl:=aw.1 he
  refine h.value (ky _ _) ?_
  simp only[execOp,ho,pD hx,Op.unary,Op.intBits]
  simp[cW]
 ·simp only[ao]at he
end
end Go.Ab
namespace Go.Ab
section
variable {P:Program} {C:Ctx} {g:Nat->lG} {β:Id->Option Pl} {s:AS} {a:Act} {w:World} {o:Oper}
theorem rP{E:Env}{v:az}{y:Value}(h:VS E v y){n:Int}(he:(asInt v).eval=some n):∃k,y= .int k n:=by
 unfold asInt at he
 split at he
 ·rename_i k m
  obtain rfl:=aw.1 he
  exact⟨k,pD h⟩
 ·simp only[ao]at he
theorem rK{k:IntKind}{i:Int}{y:Nat}(code:BoundsCode)(h:0<=i/\i<=(y:Int)):(Instr.sliceBound (.int k i) y code).run P w= .ok i.toNat w:=
 run_sliceBound w k i y code h.1 h.2
theorem rp(h:Inv C g β s a w){n cap:Nat}(hn:n<=cap){lo hi:Option Operand}{r:Nat×Nat}(he:(bounds s n lo hi).eval=some r)(isS:Bool){mx:Option Value}{cap':Nat}
  (hm:(mx=none/\cap'=cap)\/∃k mv,hi.isSome=true/\mx=some (.int k mv)/\(r.2:Int)<=mv/\mv<=n/\cap'=mv.toNat):
  (Instr.sliceBounds isS n cap (lo.map a.eval) (hi.map a.eval) mx).run P w= .ok (r.1,r.2,cap') w/\r.1<=r.2/\r.2<=n:=by
 unfold bounds at he
 obtain⟨hh,h1,h2⟩:=au.1 he
 obtain⟨ll,h3,h4⟩:=au.1 h2
 obtain rfl:=aw.1 h4
 have Oy:hh<=n/\∀y,hi.map a.eval=some y->∃k i,y= .int k i/\0<=i/\i<=(n:Int)/\hh=i.toNat:=by
  cases hi with
  |none=>
   simp only at h1
   obtain rfl:=aw.1 h1
   exact⟨ay _,λy hy=>by cases hy⟩
  |some x=>
   simp only at h1
   obtain⟨i,q1,q2⟩:=au.1 h1
   obtain⟨q3,q4⟩:=bZ.1 q2
   obtain rfl:=aw.1 q4
   simp only[decide_eq_true_eq]at q3
   obtain⟨k,hk⟩:=rP (h.ev x) q1
   refine⟨by omega,λy hy=> ?_⟩
   simp only[eF,ax]at hy
   exact⟨k,i,by rw[<-hy];exact hk,q3.1,q3.2,rfl⟩
 have NB:hi.map a.eval=none->hh=n:=by
  intro hy
  cases hi with
  |none=>simp only at h1;exact(aw.1 h1).symm
  |some x=>cases hy
 have lo1:ll<=hh/\∀y,lo.map a.eval=some y->∃k i,y= .int k i/\0<=i/\i<=(hh:Int)/\ll=i.toNat:=by
  cases lo with
  |none=>
   simp only at h3
   obtain rfl:=aw.1 h3
   exact⟨aV _,λy hy=>by cases hy⟩
  |some x=>
   simp only at h3
   obtain⟨i,q1,q2⟩:=au.1 h3
   obtain⟨q3,q4⟩:=bZ.1 q2
   obtain rfl:=aw.1 q4
   simp only[decide_eq_true_eq]at q3
   obtain⟨k,hk⟩:=rP (h.ev x) q1
   refine⟨by omega,λy hy=> ?_⟩
   simp only[eF,ax]at hy
   exact⟨k,i,by rw[<-hy];exact hk,q3.1,q3.2,rfl⟩
 have lo0:lo.map a.eval=none->ll=0:=by
  intro hy
  cases lo with
  |none=>simp only at h3;exact(aw.1 h3).symm
  |some x=>cases hy
 refine⟨?_,lo1.1,Oy.1⟩
 unfold Instr.sliceBounds
 rcases hm with⟨rfl,rfl⟩ | ⟨k2,mv,hs,rfl,U6,OD,rfl⟩
 ·cases SN:hi.map a.eval with
  |none=>
   obtain rfl:=NB SN
   cases AG:lo.map a.eval with
   |none=>
    obtain rfl:=lo0 AG
    rfl
   |some y=>
    obtain⟨k,i,rfl,q1,q2,rfl⟩:=lo1.2 y AG
    simp only[Sem.run_bind,Sem.run_pure,Result.andThen_ok,rK _ ⟨q1,q2⟩]
  |some z=>
   obtain⟨k',i',rfl,p1,p2,rfl⟩:=Oy.2 z SN
   have hb:∀code,(Instr.sliceBound (.int k' i') cap' code).run P w= .ok i'.toNat w:=λcode=>rK code ⟨p1,by omega⟩
   cases AG:lo.map a.eval with
   |none=>
    obtain rfl:=lo0 AG
    simp only[Sem.run_bind,Sem.run_pure,Result.andThen_ok,hb]
   |some y=>
    obtain⟨k,i,rfl,q1,q2,rfl⟩:=lo1.2 y AG
    simp only[Sem.run_bind,Sem.run_pure,Result.andThen_ok,hb,rK _ ⟨q1,q2⟩]
 ·cases SN:hi.map a.eval with
  |none=>cases hi <;> simp_all
  |some z=>
   obtain⟨k',i',rfl,p1,p2,rfl⟩:=Oy.2 z SN
   have U6:((i'.toNat:Nat):Int)<=mv:=U6
   have h0:∀code,(Instr.sliceBound (.int k2 mv) cap code).run P w= .ok mv.toNat w:=λcode=>rK code ⟨by omega,by omega⟩
   have hb:∀code,(Instr.sliceBound (.int k' i') mv.toNat code).run P w= .ok i'.toNat w:=λcode=>rK code ⟨p1,by omega⟩
   cases AG:lo.map a.eval with
   |none=>
    obtain rfl:=lo0 AG
    simp only[Sem.run_bind,Sem.run_pure,Result.andThen_ok,hb,h0]
   |some y=>
    obtain⟨k,i,rfl,q1,q2,rfl⟩:=lo1.2 y AG
    simp only[Sem.run_bind,Sem.run_pure,Result.andThen_ok,hb,h0,rK _ ⟨q1,q2⟩]
theorem mC{T:TypeId}{z:Nat}(h1:ki P T=some z)(h2:ra P T=none):∃e,P.underlying T=some (.slice e)/\P.cellsOf e=z/\0 < z:=by
 unfold ki at h1
 unfold ra at h2
 split at h1
 ·rename_i n e hT;rw[hT]at h2;cases h2
 ·rename_i e hT
  cases hc:P.cellsOf e with
  |zero=>rw[hc]at h1;cases h1
  |succ k=>
   rw[hc]at h1
   simp only[ax]at h1
   exact⟨e,hT,by omega,by omega⟩
 ·cases h1
theorem rr{T:TypeId}{z n:Nat}(h1:ki P T=some z)(h2:ra P T=some n):∃e,P.underlying T=some (.array n e)/\P.cellsOf e=z/\0 < z:=by
 unfold ki at h1
 unfold ra at h2
 split at h1
 ·rename_i n e hT
  rw[hT]at h2
  simp only[ax]at h2
  subst h2
  cases hc:P.cellsOf e with
  |zero=>rw[hc]at h1;cases h1
  |succ k=>
   rw[hc]at h1
   simp only[ax]at h1
   exact⟨e,hT,by omega,by omega⟩
 ·rename_i e hT;rw[hT]at h2;cases h2
 ·cases h1
theorem mI{e:TypeId}{z:Nat}(h:P.cellsOf e=z)(hz:0 < z)(w:World):(sizeOf e).run P w= .ok z w:=by
 unfold Program.cellsOf at h
 cases hi:P.info? e with
 |none=>rw[hi]at h;simp at h;omega
 |some i=>rw[hi]at h;rw[run_sizeOf hi];simpa using h
set_option maxHeartbeats 1000000 in
theorem Cj(h:Inv C g β s a w){T:TypeId}{x:Operand}{lo hi mx:Option Operand}(ho:o.op= .slice T x lo hi mx)
  (hm:mx=none\/∃m y hv mv,mx=some m/\hi=some y/\(asInt (s.ev y)).eval=some hv/\(asInt (s.ev m)).eval=some mv/\0<=hv/\hv<=mv/\mv<=NO (s.ev x))
  {v:az} (he:(vz P s T (s.ev x) lo hi).eval=some v):fU P o a w (iN C (s.put o.dst (FM mx v))):=by
 have hx:=h.ev x
 have fin:∀z,(Instr.sliceAt T (a.eval x) (lo.map a.eval) (hi.map a.eval) (mx.map a.eval)).run P w= .ok z w->VS (s.env w g β) (FM mx v) z->fU P o a w (iN C (s.put o.dst (FM mx v))):=by
  intro z h1 h2
  exact h.value h2 (ef (f:=Instr.sliceAt T (a.eval x) (lo.map a.eval) (hi.map a.eval) (mx.map a.eval)) (by simp only[execOp,ho]) h1)
 have no:∀ {q:Prop},NO (s.ev x)= -1->(mx=none->q)->q:=by
  intro q h1 h2
  rcases hm with h3 | ⟨_,_,hv,mv,_,_,_,_,h3,h4,h5⟩
  ·exact h2 h3
  ·omega
 have sl:∀(e:TypeId) (z:Nat) (ad:Option Addr) (len cap:Nat) (b:Nat×Nat),NO (s.ev x)=(len:Int)->P.underlying T=some (.slice e)->P.cellsOf e=z->0 < z->a.eval x= .slice ad len cap->len<=cap->(bounds s len lo hi).eval=some b->
   ∃cap',(Instr.sliceAt T (a.eval x) (lo.map a.eval) (hi.map a.eval) (mx.map a.eval)).run P w= .ok (.slice (if cap'=b.1 then ad else ad.map (·.add (b.1*z))) (b.2 - b.1) (cap' - b.1)) w/\b.1<=b.2/\b.2<=len/\b.2<=cap'/\cap'<=cap/\(mx=none->cap'=cap):=by
  intro e z ad len cap b hL hT hz nW hy K4 hb
  rcases hm with rfl | ⟨m,y,hv,mv,rfl,rfl,q1,q2,q3,q4,q5⟩
  ·obtain⟨h1,h2,h3⟩:=rp (P:=P) h K4 hb true (.inl ⟨rfl,rfl⟩)
   refine⟨cap,?_,h2,h3,by omega,ay _,λ_=>rfl⟩
   rw[hy]
   simp[Instr.sliceAt,Instr.slice,run_underlying hT,h1,mI hz nW]
  ·obtain⟨k,hk⟩:=rP (h.ev m) q2
   have AE:(b.2:Int)<=mv:=by
    obtain⟨hh,h1,h2⟩:=au.1 hb
    obtain⟨i,r1,r2⟩:=au.1 h1
    obtain⟨r3,r4⟩:=bZ.1 r2
    obtain rfl:=aw.1 r4
    obtain⟨ll,_,h4⟩:=au.1 h2
    obtain rfl:=aw.1 h4
    rw[q1]at r1
    obtain rfl:=bB r1
    show((hv.toNat:Nat):Int)<=mv
    omega
   obtain⟨h1,h2,h3⟩:=rp (P:=P) h K4 hb true (mx:=some (.int k mv)) (cap':=mv.toNat) (.inr ⟨k,mv,rfl,rfl,AE,by omega,rfl⟩)
   refine⟨mv.toNat,?_,h2,h3,by omega,by omega,λh=>by cases h⟩
   rw[hy,eF (a:=m),hk]
   simp[Instr.sliceAt,Instr.slice,run_underlying hT,mI hz nW]
   simp only[eF]at h1
   simp[h1]
 have ar:∀(e:TypeId) (z n:Nat) (ad:Addr) (b:Nat×Nat),mx=none->P.underlying T=some (.array n e)->P.cellsOf e=z->0 < z->a.eval x= .pointer (some ad)->(bounds s n lo hi).eval=some b->
   (Instr.sliceAt T (a.eval x) (lo.map a.eval) (hi.map a.eval) (mx.map a.eval)).run P w= .ok (.slice (some (if n=b.1 then ad else ad.add (b.1*z))) (b.2 - b.1) (n - b.1)) w/\b.1<=b.2/\b.2<=n:=by
  intro e z n ad b hN hT hz nW hy hb
  obtain⟨h1,h2,h3⟩:=rp (P:=P) h (ay n) hb false (.inl ⟨rfl,rfl⟩)
  refine⟨?_,h2,h3⟩
  rw[hy,hN]
  simp[Instr.sliceAt,Instr.sureAddr,run_underlying hT,h1,mI hz nW]
 have cutR:∀(t:Ty) (z:Nat) (ad ad':Option Addr) (len' cap':Nat) (vs:List Value) (l:List t.den) (b:Nat×Nat),z=t.size->uv (s.env w g β) ad vs->bA (dn (s.env w g β) t) vs l->b.1<=b.2->b.2<=l.length->
   (∀bb off,ad=some ⟨bb,off,none⟩->b.1 < b.2->ad'=some ⟨bb,off+b.1*z,none⟩)->(b.1 < b.2->ad'.isSome=true)->len'=b.2 - b.1->len'<=cap'->VS (s.env w g β) (.d (.slice t) (cut l b.1 (b.2 - b.1))) (.slice ad' len' cap'):=by
  intro t z ad ad' len' cap' vs l b hz hr hc h1 h2 PF nb hlen hle
  subst hz hlen
  have HX:(cut l b.1 (b.2 - b.1)).length=b.2 - b.1:=rV (by omega)
  refine⟨_,?_,rfl⟩
  simp only[V,dn]
  refine⟨ad',cap',(vs.drop (b.1*t.size)).take ((b.2 - b.1)*t.size),by rw[HX],by omega,by rw[HX];intro hp;exact nb (by omega),?_,wP hc b.1 _⟩
  intro i v hi
  rw[dq]at hi
  split at hi
  ·rename_i VJ
   rw[gf]at hi
   obtain⟨bb,off,e,hh⟩:=hr _ v hi
   have jt:b.1 < b.2:=by
    rcases mO b.1 b.2 with h' | h'
    ·exact h'
    ·rw[j5 h',mP]at VJ;omega
   exact⟨bb,_,PF bb off e jt,by rw[ew];exact hh⟩
  ·cases hi
 unfold vz at he
 split at he
 ·rename_i st oJ
  rw[oJ]at hx
  have e1:=vB hx
  obtain⟨h1,h2⟩:=aC.1 he
  obtain⟨b,h3,h4⟩:=au.1 h2
  obtain rfl:=aw.1 h4
  split at h1 <;> try (cases h1;done)
  rename_i hT
  obtain⟨q1,q2,q3⟩:=rp (P:=P) h (ay _) h3 false (.inl ⟨rfl,rfl⟩)
  refine no (by rw[oJ];rfl) λhN=> ?_
  subst hN
  refine fin (.string (st.extract b.1 b.2)) ?_ (D9 _)
  rw[e1]
  simp[Instr.sliceAt,Instr.slice,run_underlying hT,q1]
 ·rename_i t l hl
  rw[hl]at hx
  obtain⟨ad,cap,vs,hy,K4,nb,nX,pT⟩:=pc hx
  obtain⟨h1,h2⟩:=aC.1 he
  obtain⟨b,h3,h4⟩:=au.1 h2
  obtain rfl:=aw.1 h4
  split at h1 <;> try (cases h1;done)
  rename_i z zR y8
  obtain⟨e,hT,hz,nW⟩:=mC zR y8
  have Ke:z=t.size:=by simpa using h1
  obtain⟨cap',q1,q2,q3,q4,_,_⟩:=sl e z ad _ cap b (by rw[hl];rfl) hT hz nW hy K4 h3
  refine fin _ q1 ?_
  rw[show FM mx (.d (.slice t) (cut l b.1 (b.2 - b.1)))= .d (.slice t) (cut l b.1 (b.2 - b.1)) by cases mx <;> rfl]
  refine cutR t z ad _ _ _ vs l b Ke nX pT q2 q3 ?_ ?_ rfl (by omega)
  ·intro bb off e1 jt
   rw[if_neg (by omega),e1]
   simp[Addr.add_lit]
  ·intro jt
   rw[if_neg (by omega)]
   have:=nb (by omega)
   cases ad <;> simp_all
 ·rename_i hl
  rw[hl]at hx
  have hy:=km hx
  obtain⟨h1,h2⟩:=aC.1 he
  obtain⟨b,h3,h4⟩:=au.1 h2
  obtain rfl:=aw.1 h4
  split at h1 <;> try (cases h1;done)
  rename_i z zR y8
  obtain⟨e,hT,hz,nW⟩:=mC zR y8
  obtain⟨cap',q1,q2,q3,q4,q6,q5⟩:=sl e z none 0 0 b (by rw[hl];rfl) hT hz nW hy (ay _) h3
  have yI:b.1=0:=by omega
  have AE:b.2=0:=by omega
  have AF:cap'=0:=by omega
  refine fin _ q1 ?_
  rw[show FM mx .df= .df by cases mx <;> rfl,yI,AE,AF]
  exact⟨_,by simp[V],rfl⟩
 ·rename_i id ver p c i len hl
  rw[hl]at hx
  obtain⟨ad,cap,hy,K4,nb,Bn,fF⟩:=nJ hx
  obtain⟨r,PY,he⟩:=au.1 he
  obtain⟨h1,h2⟩:=aC.1 he
  obtain⟨b,h3,h4⟩:=au.1 h2
  obtain rfl:=aw.1 h4
  split at h1 <;> try (cases h1;done)
  rename_i z zR y8
  obtain⟨e,hT,hz,nW⟩:=mC zR y8
  have Ke:z=r.2.1.size:=by simpa using h1
  obtain⟨cap',q1,q2,q3,q4,q6,q5⟩:=sl e z ad _ cap b (by rw[hl];rfl) hT hz nW hy K4 h3
  obtain⟨p',QO,CF⟩:∃p',FM mx (.cP id ver p (c+b.1*r.2.1.size) (i+b.1) (b.2 - b.1))= .cP id ver p' (c+b.1*r.2.1.size) (i+b.1) (b.2 - b.1)/\(p'=[]->p=[]/\mx=none):=by
   cases mx with
   |none=>exact⟨p,rfl,λh=>⟨h,rfl⟩⟩
   |some m=>exact⟨p++ [.arr],rfl,λh=>by simp at h⟩
  refine fin _ q1 ?_
  rw[QO]
  refine⟨_,?_,rfl⟩
  simp only[V]
  refine⟨_,_,rfl,by omega,?_,Bn,λhc=> ?_⟩
  ·intro jt
   rw[if_neg (by omega)]
   have:=nb (by omega)
   cases ad <;> simp_all
  ·have fF:=fF hc
   cases hp:β id with
   |none=>
    have hp':(s.env w g β).β id=none:=hp
    rw[hp']at fF ⊢
    simp only at fF ⊢
    obtain⟨rfl,rfl,rfl⟩:=fF
    have AF:cap'=0:=by omega
    refine⟨by simp,by omega,by omega⟩
   |some pl=>
    have hp':(s.env w g β).β id=some pl:=hp
    rw[hp']at fF ⊢
    simp only at fF ⊢
    refine⟨λhh=> ?_,λT0 NB=> ?_⟩
    ·by_cases PH:cap'=b.1
     ·rw[if_pos PH]
      have Tv:b.1=0:=by omega
      rw[Tv,mP,cK]
      exact fF.1 (.inr (by omega))
     ·rw[if_neg PH,fF.1 (by omega),<-Ke]
      simp[Addr.add_lit]
    ·obtain⟨e1,e2⟩:=CF T0
     have:=fF.2 e1 (by omega)
     have:=q5 e2
     omega
 ·rename_i id ver p n hl
  rw[hl]at hx
  obtain⟨ad,hy,Bn,fF⟩:=pJ hx
  obtain⟨r,PY,he⟩:=au.1 he
  obtain⟨h1,h2⟩:=aC.1 he
  obtain⟨h5,h6⟩:=bZ.1 h2
  obtain⟨b,h3,h4⟩:=au.1 h6
  obtain rfl:=aw.1 h4
  split at h1 <;> try (cases h1;done)
  rename_i z m zR y8
  obtain⟨e,hT,hz,nW⟩:=rr zR y8
  have Ke:z=r.2.1.size:=by simpa using h1
  rw[y8,fq]at h3
  refine no (by rw[hl];rfl) λhN=> ?_
  obtain⟨q1,q2,q3⟩:=ar e z m ad b hN hT hz nW hy h3
  subst hN
  obtain⟨fr,c0,db,_⟩:=zr rfl h.bU PY
  obtain⟨pl,hp,J2⟩:=fF ⟨fr,c0,db⟩
  refine fin _ q1 ⟨_,?_,rfl⟩
  simp only[FM,V]
  refine⟨_,_,rfl,by omega,λ_=>rfl,Bn,λ_=> ?_⟩
  rw[hp]
  simp only
  refine⟨λhh=> ?_,λT0=>by simp at T0⟩
  rw[J2]
  by_cases PH:m=b.1
  ·have Tv:b.1=0:=by omega
   rw[if_pos PH,Tv,mP,cK]
  ·rw[if_neg PH,<-Ke,Addr.add_lit]
 ·rename_i n t l hl
  rw[hl]at hx
  obtain⟨bb,off,vs,hy,nX,hR⟩:=pW hx
  obtain⟨h1,h2⟩:=aC.1 he
  obtain⟨b,h3,h4⟩:=au.1 h2
  obtain rfl:=aw.1 h4
  split at h1 <;> try (cases h1;done)
  rename_i z m zR y8
  obtain⟨e,hT,hz,nW⟩:=rr zR y8
  simp only[ak,beq_iff_eq]at h1
  obtain⟨Ke,rfl⟩:=h1
  refine no (by rw[hl];rfl) λhN=> ?_
  obtain⟨q1,q2,q3⟩:=ar e z m _ b hN hT hz nW hy h3
  subst hN
  simp only[dn]at hR
  obtain⟨hlen,pT⟩:=hR
  refine fin _ q1 (cutR t z (some ⟨bb,off,none⟩) _ _ _ vs l b Ke nX pT q2 (by omega) ?_ (λ_=>rfl) rfl (by omega))
  intro bb' off' e1 jt
  simp only[ax,Addr.mk.injEq,and_true]at e1
  obtain⟨rfl,rfl⟩:=e1
  rw[if_neg (by omega),Addr.add_lit]
 ·simp only[ao]at he
end
end Go.Ab
namespace Go.Ab
section
variable {P:Program} {C:Ctx} {g:Nat->lG} {β:Id->Option Pl} {s:AS} {a:Act} {w:World} {o:Oper}
theorem Bx(h:Inv C g β s a w){T:TypeId}{x y:Operand}(ho:o.op= .indexAddr T x y){i:Int}(hi:(asInt (s.ev y)).eval=some i){v:az}(he:(nZ P s T (s.ev x) i).eval=some v):fU P o a w (iN C (s.put o.dst v)):=by
 have hx:=h.ev x
 obtain⟨k,hy⟩:=rP (h.ev y) hi
 have fin:∀z,(Instr.indexAt T (a.eval x) (a.eval y)).run P w= .ok z w->VS (s.env w g β) v z->fU P o a w (iN C (s.put o.dst v)):=by
  intro z h1 h2
  exact h.value h2 (ef (f:=Instr.indexAt T (a.eval x) (a.eval y)) (by simp only[execOp,ho]) h1)
 have sl:∀(e:TypeId) (z:Nat) (ad:Addr) (len cap:Nat),P.underlying T=some (.slice e)->P.cellsOf e=z->0 < z->a.eval x= .slice (some ad) len cap->0<=i/\i < (len:Int)->
   (Instr.indexAt T (a.eval x) (a.eval y)).run P w= .ok (.pointer (some (ad.add (i.toNat*z)))) w:=by
  intro e z ad len cap hT hz nW hv hb
  rw[hv,hy]
  simp[Instr.indexAt,asIntOf,run_underlying hT,hb,mI hz nW]
 have ar:∀(e:TypeId) (z n:Nat) (ad:Addr),P.underlying T=some (.array n e)->P.cellsOf e=z->0 < z->a.eval x= .pointer (some ad)->0<=i/\i < (n:Int)->
   (Instr.indexAt T (a.eval x) (a.eval y)).run P w= .ok (.pointer (some (ad.add (i.toNat*z)))) w:=by
  intro e z n ad hT hz nW hv hb
  rw[hv,hy]
  simp[Instr.indexAt,Instr.sureAddr,asIntOf,run_underlying hT,hb,mI hz nW]
 have elt:∀(t:Ty) (z:Nat) (bb off:Nat) (vs:List Value) (l:List t.den),z=t.size->uv (s.env w g β) (some ⟨bb,off,none⟩) vs->bA (dn (s.env w g β) t) vs l->0<=i/\i < (l.length:Int)->
   VS (s.env w g β) (.ed t (nth t l i.toNat)) (.pointer (some ⟨bb,off+i.toNat*z,none⟩)):=by
  intro t z bb off vs l hz hr hc hb
  subst hz
  have jt:i.toNat < l.length:=by omega
  rw[BY jt]
  obtain⟨hp,_⟩:=yq hc jt
  refine⟨_,?_,rfl⟩
  simp only[V]
  refine⟨_,_,_,rfl,λj v hj=> ?_,hp⟩
  rw[dq]at hj
  split at hj
  ·rw[gf]at hj
   obtain⟨b',o',e,hh⟩:=hr _ v hj
   simp only[ax,Addr.mk.injEq,and_true]at e
   obtain⟨rfl,rfl⟩:=e
   exact⟨_,_,rfl,by rw[ew];exact hh⟩
  ·cases hj
 unfold nZ at he
 split at he
 ·rename_i t l hl
  rw[hl]at hx
  obtain⟨ad,cap,vs,hv,K4,nb,nX,pT⟩:=pc hx
  obtain⟨h1,h2⟩:=aC.1 he
  obtain⟨h3,h4⟩:=bZ.1 h2
  obtain rfl:=aw.1 h4
  simp only[decide_eq_true_eq]at h3
  split at h1 <;> try (cases h1;done)
  rename_i z zR y8
  obtain⟨e,hT,hz,nW⟩:=mC zR y8
  have Ke:z=t.size:=by simpa using h1
  have hlen:=bA.length (λc x hx=>dn.size hx) pT
  have jt:i.toNat < l.length:=by omega
  have h0:0 < vs.length:=by rw[hlen];exact Nat.mul_pos (by omega) (by omega)
  obtain⟨bb,off,e1,_⟩:=nX 0 vs[0] (by simp[h0])
  subst e1
  have:=sl e z _ _ cap hT hz nW hv h3
  rw[Addr.add_lit]at this
  exact fin _ this (elt t z bb off vs l Ke nX pT h3)
 ·rename_i n t l hl
  rw[hl]at hx
  obtain⟨bb,off,vs,hv,nX,hR⟩:=pW hx
  obtain⟨h1,h2⟩:=aC.1 he
  obtain⟨h3,h4⟩:=bZ.1 h2
  obtain rfl:=aw.1 h4
  simp only[decide_eq_true_eq]at h3
  split at h1 <;> try (cases h1;done)
  rename_i z m zR y8
  obtain⟨e,hT,hz,nW⟩:=rr zR y8
  simp only[ak,beq_iff_eq]at h1
  obtain⟨Ke,rfl⟩:=h1
  simp only[dn]at hR
  have:=ar e z m _ hT hz nW hv h3
  rw[Addr.add_lit]at this
  exact fin _ this (elt t z bb off vs l Ke nX hR.2 (by rw[hR.1];exact h3))
 ·rename_i id ver p c j len hl
  rw[hl]at hx
  obtain⟨ad,cap,hv,K4,nb,Bn,fF⟩:=nJ hx
  obtain⟨r,PY,he⟩:=au.1 he
  obtain⟨h1,h2⟩:=aC.1 he
  obtain⟨h3,h4⟩:=bZ.1 h2
  obtain rfl:=aw.1 h4
  simp only[decide_eq_true_eq]at h3
  split at h1 <;> try (cases h1;done)
  rename_i z zR y8
  obtain⟨e,hT,hz,nW⟩:=mC zR y8
  have Ke:z=r.2.1.size:=by simpa using h1
  have hs:=nb (by omega)
  obtain⟨ad',rfl⟩:=cv.1 hs
  refine fin _ (sl e z ad' len cap hT hz nW hv h3) ⟨_,?_,rfl⟩
  simp only[V]
  refine⟨_,rfl,Bn,λhc=> ?_⟩
  have fF:=fF hc
  cases hp:β id with
  |none=>
   have hp':(s.env w g β).β id=none:=hp
   rw[hp']at fF
   exact absurd fF.1 (by simp)
  |some pl=>
   have hp':(s.env w g β).β id=some pl:=hp
   rw[hp']at fF
   have e1:=fF.1 (.inl (by omega))
   simp only[ax]at e1
   exact⟨pl,hp,by rw[e1,Addr.add_lit,Ke]⟩
 ·rename_i id ver p n hl
  rw[hl]at hx
  obtain⟨ad,hv,Bn,fF⟩:=pJ hx
  obtain⟨h1,h2⟩:=aC.1 he
  obtain⟨h3,h4⟩:=bZ.1 h2
  obtain rfl:=aw.1 h4
  simp only[decide_eq_true_eq]at h3
  split at h1 <;> try (cases h1;done)
  rename_i z m zR y8
  obtain⟨e,hT,hz,nW⟩:=rr zR y8
  rw[y8,fq]at h3
  refine fin _ (ar e z m ad hT hz nW hv h3) ⟨_,?_,rfl⟩
  simp only[V]
  refine⟨_,rfl,Bn,λhc=> ?_⟩
  obtain⟨pl,hp,J2⟩:=fF hc
  exact⟨pl,hp,by rw[J2,Addr.add_lit,zR,fq]⟩
 ·simp only[ao]at he
theorem uz{T:TypeId}{f off:Nat}{ft:TypeId}(h:fieldInfo P T f=some (off,ft)):∃fs fd,P.underlying T=some (.struct fs)/\fs[f]? =some fd/\fd.offset=off/\fd.type=ft:=by
 unfold fieldInfo at h
 split at h
 ·rename_i fs hT
  split at h
  ·rename_i fd hf
   simp only[ax,da]at h
   exact⟨fs,fd,hT,hf,h.1,h.2⟩
  ·cases h
 ·cases h
theorem uf{E:Env}:∀(x:az) (f off:Nat) (v:az) (cs:List Value),V E x cs->partOf x f=some (off,v)->V E v ((cs.drop off).take v.size)/\off+v.size<=cs.length:=by
 intro x f
 induction f generalizing x with
 |zero=>
  intro off v cs hx h
  cases x with
  |d t y=>
   cases t <;> simp only[partOf,reduceCtorEq]at h
   rename_i ta tb
   simp only[ax,da]at h
   obtain⟨rfl,rfl⟩:=h
   simp only[V,dn]at hx ⊢
   obtain⟨ca,cb,rfl,ha,hb⟩:=hx
   have:=ha.size
   simp only[az.size,aI,aj,aO]
   rw[List.take_left' this]
   exact⟨ha,by omega⟩
  |pr b c=>
   simp only[partOf,ax,da]at h
   obtain⟨rfl,rfl⟩:=h
   simp only[V]at hx
   obtain⟨ca,cb,rfl,ha,hb⟩:=hx
   have:=ha.size
   simp only[aI,aj,aO]
   rw[List.take_left' this]
   exact⟨ha,by omega⟩
  |_=>simp only[partOf,reduceCtorEq]at h
 |succ f ih=>
  intro off v cs hx h
  have second:∀(ca cb:List Value) (n:Nat) (b:az),cs=ca++cb->ca.length=n->V E b cb->(match partOf b f with | some (o,v)=>some (n+o,v) | none=>none)=some (off,v)->V E v ((cs.drop off).take v.size)/\off+v.size<=cs.length:=by
   intro ca cb n b e hl hb hh
   cases hp:partOf b f with
   |none=>rw[hp]at hh;cases hh
   |some r=>
    obtain⟨o',v'⟩:=r
    rw[hp]at hh
    simp only[ax,da]at hh
    obtain⟨rfl,rfl⟩:=hh
    obtain⟨h1,h2⟩:=ih b o' v' cb hb hp
    subst e
    rw[<-hl,jN,eu (by omega),aS,jm]
    exact⟨h1,by simp only[aj];omega⟩
  cases x with
  |d t y=>
   cases t with
   |pair ta tb=>
    simp only[partOf]at h
    simp only[V,dn]at hx
    obtain⟨ca,cb,e,ha,hb⟩:=hx
    exact second ca cb ta.size (.d tb y.2) e ha.size (by simpa only[V]using hb) h
   |_=>simp only[partOf,reduceCtorEq]at h
  |pr b c=>
   simp only[partOf]at h
   simp only[V]at hx
   obtain⟨ca,cb,e,ha,hb⟩:=hx
   exact second ca cb b.size c e ha.size hb h
  |_=>simp only[partOf,reduceCtorEq]at h
theorem Bd(h:Inv C g β s a w){T:TypeId}{x:Operand}{f:Nat}(ho:o.op= .fieldAddr T x f){v:az}(he:(tV P T (s.ev x) f).eval=some v):fU P o a w (iN C (s.put o.dst v)):=by
 have hx:=h.ev x
 unfold tV at he
 split at he
 ·rename_i off ft hf
  obtain⟨fs,fd,hT,SJ,rfl,rfl⟩:=uz hf
  obtain⟨h1,h2⟩:=aC.1 he
  have hz:P.cellsOf fd.type≠0:=by simpa using h1
  have run:∀bb n,a.eval x= .pointer (some ⟨bb,n,none⟩)->(Instr.fieldAt T (a.eval x) f).run P w= .ok (.pointer (some ⟨bb,n+fd.offset,none⟩)) w:=by
   intro bb n hy
   rw[hy]
   simp[Instr.fieldAt,run_underlying hT,SJ,Instr.sureAddr,fieldPlace,mI (P:=P) (e:=fd.type) rfl (by omega),hz,Addr.add_lit]
  have runS:∀ad,a.eval x= .pointer (some ad)->(Instr.fieldAt T (a.eval x) f).run P w= .ok (.pointer (some (ad.add fd.offset))) w:=by
   intro ad hy
   rw[hy]
   simp[Instr.fieldAt,run_underlying hT,SJ,Instr.sureAddr,fieldPlace,mI (P:=P) (e:=fd.type) rfl (by omega),hz]
  have fin:∀z,(Instr.fieldAt T (a.eval x) f).run P w= .ok z w->VS (s.env w g β) v z->fU P o a w (iN C (s.put o.dst v)):=by
   intro z h1 h2
   exact h.value h2 (ef (f:=Instr.fieldAt T (a.eval x) f) (by simp only[execOp,ho]) h1)
  split at h2
  ·rename_i id ver p n hl
   rw[hl]at hx
   obtain rfl:=aw.1 h2
   obtain⟨ad,hy,Bn,fF⟩:=pJ hx
   refine fin _ (runS ad hy) ⟨_,?_,rfl⟩
   simp only[V]
   refine⟨_,rfl,Bn,λhc=> ?_⟩
   obtain⟨pl,hp,J2⟩:=fF hc
   exact⟨pl,hp,by rw[J2,Addr.add_lit]⟩
  ·rename_i t y hl
   rw[hl]at hx
   obtain⟨bb,off,vs,hy,nX,hR⟩:=pW hx
   split at h2
   ·rename_i o' t' y' hp
    obtain⟨h3,h4⟩:=aC.1 h2
    obtain rfl:=aw.1 h4
    have h3:fd.offset=o':=by simpa using h3
    obtain⟨hV,hle⟩:=uf (.d t y) f o' (.d t' y') vs (by simpa only[V]using hR) hp
    refine fin _ (run bb off hy) ⟨_,?_,rfl⟩
    simp only[V]at hV ⊢
    refine⟨_,_,_,rfl,λj u hj=> ?_,hV⟩
    rw[dq]at hj
    split at hj
    ·rw[gf]at hj
     obtain⟨b',o'',e,hh⟩:=nX _ u hj
     simp only[ax,Addr.mk.injEq,and_true]at e
     obtain⟨rfl,rfl⟩:=e
     exact⟨_,_,rfl,by rw[h3,ew];exact hh⟩
    ·cases hj
   ·simp only[ao]at h2
  ·rename_i t q hl
   obtain⟨y,e,h5⟩:=ql.1 h2
   subst e
   rw[hl]at hx
   have hx:=xI hx
   obtain⟨bb,off,vs,hy,nX,hR⟩:=pW hx
   split at h5
   ·rename_i o' t' y' hp
    obtain⟨h3,h4⟩:=aC.1 h5
    obtain rfl:=aw.1 h4
    have h3:fd.offset=o':=by simpa using h3
    obtain⟨hV,hle⟩:=uf (.d t y) f o' (.d t' y') vs (by simpa only[V]using hR) hp
    refine fin _ (run bb off hy) ⟨_,?_,rfl⟩
    simp only[V]at hV ⊢
    refine⟨_,_,_,rfl,λj u hj=> ?_,hV⟩
    rw[dq]at hj
    split at hj
    ·rw[gf]at hj
     obtain⟨b',o'',e,hh⟩:=nX _ u hj
     simp only[ax,Addr.mk.injEq,and_true]at e
     obtain⟨rfl,rfl⟩:=e
     exact⟨_,_,rfl,by rw[h3,ew];exact hh⟩
    ·cases hj
   ·simp only[ao]at h5
  ·simp only[ao]at h2
 ·simp only[ao]at he
theorem CK{x:az}{f:Nat}{r:Nat×az}(h:partOf x f=some r):x.agg=true/\x.fg=true:=by
 cases x with
 |d t y=>cases t <;> cases f <;> simp[partOf]at h <;> exact⟨rfl,rfl⟩
 |pr b c=>exact⟨rfl,rfl⟩
 |_=>cases f <;> simp[partOf]at h
theorem uX{T:TypeId}{v:az}(h:fits P T v=true):w8 P T v.agg=true/\P.cellsOf T=v.size/\v.fg=true:=by
 unfold fits at h
 simp only[ak,beq_iff_eq]at h
 exact⟨h.2,h.1.2,h.1.1⟩
theorem HP(h:Inv C g β s a w){T:TypeId}{x:Operand}{f:Nat}(ho:o.op= .field T x f){v:az}(he:(Er P T (s.ev x) f).eval=some v):fU P o a w (iN C (s.put o.dst v)):=by
 have hx:=h.ev x
 unfold Er at he
 split at he
 ·rename_i off ft o' v' hf hp
  obtain⟨fs,fd,hT,SJ,rfl,rfl⟩:=uz hf
  obtain⟨h1,h2⟩:=aC.1 he
  obtain rfl:=aw.1 h2
  simp only[ak,beq_iff_eq]at h1
  obtain⟨rfl,Bp⟩:=h1
  obtain⟨xu,HW⟩:=CK hp
  obtain⟨cs,hV,hO⟩:=hx.fg HW
  rw[xu]at hO
  have hy:a.eval x= .agg cs.toArray:=hO
  obtain⟨hVp,hle⟩:=uf _ _ _ _ cs hV hp
  obtain⟨q1,q2,q3⟩:=uX Bp
  obtain⟨y,hr,hOy⟩:=qG (w:=w) q1 q2 (λhh=>az.GW hh) hle
  refine h.value (VS.of hVp hOy) (ef (f:=Instr.field T (a.eval x) f) (by simp only[execOp,ho]) ?_)
  rw[hy]
  simp[Instr.field,run_underlying hT,SJ,asAgg,hr]
 ·simp only[ao]at he
theorem H5(h:Inv C g β s a w){T:TypeId}{x y:Operand}(ho:o.op= .index T x y){i:Int}(hi:(asInt (s.ev y)).eval=some i){v:az}(he:(EC P T (s.ev x) i).eval=some v):fU P o a w (iN C (s.put o.dst v)):=by
 have hx:=h.ev x
 obtain⟨k,hy⟩:=rP (h.ev y) hi
 have fin:∀z,(Instr.index T (a.eval x) (a.eval y)).run P w= .ok z w->VS (s.env w g β) v z->fU P o a w (iN C (s.put o.dst v)):=by
  intro z h1 h2
  exact h.value h2 (ef (f:=Instr.index T (a.eval x) (a.eval y)) (by simp only[execOp,ho]) h1)
 unfold EC at he
 split at he
 ·rename_i n t l m e hl hT
  rw[hl]at hx
  obtain⟨h1,h2⟩:=aC.1 he
  obtain⟨h3,h4⟩:=bZ.1 h2
  obtain rfl:=aw.1 h4
  simp only[ak,beq_iff_eq,decide_eq_true_eq]at h1 h3
  obtain⟨rfl,Bp⟩:=h1
  obtain⟨q1,q2,q3⟩:=uX Bp
  obtain⟨cs,hV,hO⟩:=hx.fg rfl
  have Wd:a.eval x= .agg cs.toArray:=hO
  simp only[V,dn]at hV
  obtain⟨hlen,pT⟩:=hV
  have jt:i.toNat < l.length:=by omega
  obtain⟨hp,hle⟩:=yq pT jt
  have q2':P.cellsOf e=t.size:=q2
  have q1':w8 P e t.agg=true:=q1
  obtain⟨y',hr,hOy⟩:=qG (w:=w) q1' q2' qH hle
  obtain⟨j,hj,_⟩:=rz q1'
  rw[<-BY jt]at hp
  refine fin y' ?_ (VS.of (by simpa only[V]using hp) hOy)
  rw[Wd,hy]
  have oG:=run_sizeOf hj w
  rw[<-lJ hj,q2']at oG
  simp[Instr.index,asIntOf,run_underlying hT,h3,oG,hr]
 ·rename_i st hl hT
  rw[hl]at hx
  obtain⟨h3,h4⟩:=bZ.1 he
  obtain rfl:=aw.1 h4
  simp only[decide_eq_true_eq]at h3
  have e1:=vB hx
  have jt:i.toNat < st.data.toList.length:=by
   have:st.size=st.data.toList.length:=by rw[c6];rfl
   omega
  have TE:st[i.toNat]? =some (st.data.toList[i.toNat]):=by
   have hlt':i.toNat < st.size:=by omega
   rw[getElem?_pos st i.toNat hlt']
   rfl
  refine fin (.int .u8 ((st.data.toList.getD i.toNat 0).toNat:Int)) ?_ (ky _ _)
  rw[e1,hy]
  simp[Instr.index,asIntOf,run_underlying hT,h3.1,TE,aF,cQ jt]
 ·simp only[ao]at he
theorem O3{E:Env}:∀(c:az) (vs:List Value) (i:Nat) (v:az),VC E c vs->c.list[i]? =some v->∃y,vs[i]? =some y/\VS E v y:=by
 intro c
 induction c with
 |cons x y _ ih=>
  intro vs i v hc hi
  simp only[VC]at hc
  obtain⟨u,vs',cs,rfl,hV,hO,hc⟩:=hc
  cases i with
  |zero=>
   simp only[az.list,fZ,ax]at hi
   subst hi
   exact⟨u,rfl,VS.of hV hO⟩
  |succ i=>
   simp only[az.list,kQ]at hi ⊢
   exact ih vs' i v hc hi
 |_=>intro vs i v hc hi;simp[az.list]at hi
theorem Ep(h:Inv C g β s a w){x:Operand}{i:Nat}(ho:o.op= .extract x i){v:az}(he:(Out.opt ((s.ev x).list[i]?)).eval=some v):fU P o a w (iN C (s.put o.dst v)):=by
 have hx:=h.ev x
 have he:=jW.1 he
 cases hc:s.ev x with
 |cons p q=>
  rw[hc]at hx he
  obtain⟨vs,hy,hVC⟩:=hx
  obtain⟨y,hv,hVS⟩:=O3 _ vs i v hVC he
  refine h.value hVS (ef (f:=Instr.extract (a.eval x) i) (by simp only[execOp,ho]) ?_)
  rw[hy]
  simp[Instr.extract,hv]
 |_=>rw[hc]at he;simp[az.list]at he
theorem IQ(h:Inv C g β s a w):∀(l:List Operand),rS (nR s l)=true->VC (s.env w g β) (nR s l) (l.map a.eval)
 |[],_=>by simp[nR,VC]
 |x::xs,hc=>by
  simp only[nR,rS,ak]at hc
  obtain⟨cs,hV,hO⟩:=(h.ev x).fg hc.1
  simp only[nR,VC,bR]
  exact⟨_,_,cs,rfl,hV,hO,IQ h xs hc.2⟩
theorem CS(h:Inv C g β s a w){f:FuncId}{first caps:Array Operand}(ho:o.op= .makeFunc (.func f) first caps)(h1:first.isEmpty=true)(h2:rS (nR s caps.toList)=true):
  fU P o a w (iN C (s.put o.dst (.fn f (nR s caps.toList)))):=by
 have hf:first= #[]:=by simpa using h1
 refine h.value (x:= .func (.func f) #[] (caps.toList.map a.eval).toArray) ⟨_,?_,rfl⟩ (ef (f:=Instr.makeFunc (.func f) (first.map a.eval) (caps.map a.eval)) (by simp only[execOp,ho]) ?_)
 ·simp only[V]
  exact⟨_,rfl,IQ h _ h2⟩
 ·subst hf
  have:caps.map a.eval=(caps.toList.map a.eval).toArray:=by apply gA;simp
  simp[Instr.makeFunc,this]
theorem II(h:Inv C g β s a w){T:TypeId}{x:Operand}(ho:o.op= .sliceToArrayPointer T x){s':AS}(he:(xp P s o.dst T (s.ev x)).eval=some s'):fU P o a w (iN C s'):=by
 have hx:=h.ev x
 unfold xp at he
 split at he
 ·rename_i n e hT
  split at he
  ·rename_i t ht
   obtain⟨h1,h2⟩:=aC.1 he
   obtain⟨l,h3,h4⟩:=au.1 h2
   obtain⟨h5,h6⟩:=bZ.1 h4
   obtain rfl:=aw.1 h6
   simp only[ak,bX,beq_iff_eq,beq_eq_false_iff_ne,decide_eq_true_eq]at h1 h5
   obtain⟨⟨hz,hn⟩,P6⟩:=h1
   obtain⟨g1,i1,e1,t1,cs,hR,hO⟩:=sE h hx h3
   simp only[dn]at hR
   obtain⟨ad,cap,vs,rfl,K4,nb,nX,pT⟩:=hR
   have hO': [Value.slice ad (List.length l) cap]=[a.eval x]:=hO
   have hy:a.eval x= .slice ad (List.length l) cap:=by simpa using hO'.symm
   have hlen:=bA.length (λc x hx=>dn.size hx) pT
   have h0:0 < vs.length:=by rw[hlen];exact Nat.mul_pos (by omega) (by omega)
   obtain⟨bb,off,e2,_⟩:=nX 0 vs[0] (by simp[h0])
   subst e2
   refine .inl ⟨.pointer (some ⟨bb,off,none⟩),w,?_,g1,β,i1.put o.dst ⟨_,?_,rfl⟩⟩
   ·refine ef (f:=Instr.arrayAt T (a.eval x)) (by simp only[execOp,ho]) ?_
    rw[hy]
    have:¬List.length l < n:=by omega
    simp[Instr.arrayAt,run_underlying hT,this]
   ·simp only[V]
    refine⟨bb,off,vs.take (n*t.size),rfl,λj u hj=> ?_,?_⟩
    ·rw[dq]at hj
     split at hj
     ·exact nX j u hj
     ·cases hj
    ·simp only[dn]
     exact⟨by simp;omega,bA.take (λ_ _ hx=>hx.size) n pT⟩
  ·simp only[ao]at he
 ·simp only[ao]at he
end
end Go.Ab
namespace Go.Ab
theorem BD{α:Type}{f:α->α->Bool}(hf:∀x y,f x y=true->x=y):∀ {xs ys:List α},kL f xs ys=true->xs=ys
 |[],[],_=>rfl
 |x::xs,y::ys,h=>by
  simp only[kL,ak]at h
  rw[hf _ _ h.1,BD hf h.2]
 |[],_::_,h=>by simp[kL]at h
 |_::_,[],h=>by simp[kL]at h
theorem beq_eq:∀(t:Ty) (x y:t.den),t.comp=true->t.beq x y=true->x=y
 | .int _,x,y,_,h=>by simpa[Ty.beq]using h
 | .bool,x,y,_,h=>by simpa[Ty.beq]using h
 | .str,x,y,_,h=>by
  have h:(x:ByteArray).toList=(y:ByteArray).toList:=by simpa[Ty.beq]using h
  rw[Go.ByteArray.toList_eq,Go.ByteArray.toList_eq]at h
  exact ByteArray.ext (Array.toList_inj.1 h)
 | .slice _,_,_,h,_=>by simp[Ty.comp]at h
 | .unit,_,_,_,_=>rfl
 | .pair a b,x,y,hc,h=>by
  simp only[Ty.comp,ak]at hc
  simp only[Ty.beq,ak]at h
  exact Prod.ext (beq_eq a _ _ hc.1 h.1) (beq_eq b _ _ hc.2 h.2)
 | .arr _ t,x,y,hc,h=>BD (λx y=>beq_eq t x y hc) h
def Plain(c:Value):Prop:=∀n,Instr.sameBits n c c=true
theorem dn.plain{E:Env}:∀ {t:Ty} {cs:List Value} {x:t.den},t.comp=true->dn E t cs x->∀c∈cs,Plain c
 | .int _,_,_,_,h,c,hc,n=>by simp only[dn]at h;rw[h,ck]at hc;subst hc;cases n <;> simp[Instr.sameBits]
 | .bool,_,_,_,h,c,hc,n=>by simp only[dn]at h;rw[h,ck]at hc;subst hc;cases n <;> simp[Instr.sameBits]
 | .str,_,_,_,h,c,hc,n=>by simp only[dn]at h;rw[h,ck]at hc;subst hc;cases n <;> exact(Go.MapKept.bytes_beq _ _).2 rfl
 | .slice _,_,_,hc,_,_,_,_=>by simp[Ty.comp]at hc
 | .unit,_,_,_,h,c,hc,_=>by simp only[dn]at h;rw[h]at hc;cases hc
 | .pair a b,_,_,hp,h,c,hc,n=>by
  simp only[Ty.comp,ak]at hp
  simp only[dn]at h
  obtain⟨ca,cb,rfl,ha,hb⟩:=h
  rcases bP.1 hc with hc | hc
  ·exact dn.plain hp.1 ha c hc n
  ·exact dn.plain hp.2 hb c hc n
 | .arr _ t,_,_,hp,h,c,hc,n=>by
  simp only[dn]at h
  exact bA.all (p:=Plain) (λc x hx v hv=>dn.plain (t:=t) hp hx v hv) h.2 c hc n
theorem dn.Pj{E:Env}:∀ {t:Ty} {cs cs':List Value} {x:t.den},t.comp=true->dn E t cs x->dn E t cs' x->cs=cs'
 | .int _,_,_,_,_,h,h'=>by simp only[dn]at h h';rw[h,h']
 | .bool,_,_,_,_,h,h'=>by simp only[dn]at h h';rw[h,h']
 | .str,_,_,_,_,h,h'=>by simp only[dn]at h h';rw[h,h']
 | .slice _,_,_,_,hc,_,_=>by simp[Ty.comp]at hc
 | .unit,_,_,_,_,h,h'=>by simp only[dn]at h h';rw[h,h']
 | .pair a b,_,_,_,hp,h,h'=>by
  simp only[Ty.comp,ak]at hp
  simp only[dn]at h h'
  obtain⟨ca,cb,rfl,ha,hb⟩:=h
  obtain⟨ca',cb',rfl,ha',hb'⟩:=h'
  rw[dn.Pj hp.1 ha ha',dn.Pj hp.2 hb hb']
 | .arr _ t,cs,cs',x,hp,h,h'=>by
  simp only[dn]at h h'
  have key:∀(l:List t.den) (cs cs':List Value),bA (dn E t) cs l->bA (dn E t) cs' l->cs=cs':=by
   intro l
   induction l with
   |nil=>intro cs cs' h h';have h:cs=[]:=h;have h':cs'=[]:=h';rw[h,h']
   |cons x l ih=>
    intro cs cs' h h'
    obtain⟨c,r,rfl,hx,hr⟩:=h
    obtain⟨c',r',rfl,hx',hr'⟩:=h'
    rw[dn.Pj (t:=t) hp hx hx',ih _ _ hr hr']
  exact key _ _ _ h.2 h'.2
theorem tx.Pj{E:Env}{t:Ty}{v v':Value}{x:t.den}(hc:t.comp=true)(h:tx E t v x)(h':tx E t v' x):v=v':=by
 obtain⟨cs,h1,h2⟩:=h
 obtain⟨cs',h1',h2'⟩:=h'
 have e:=dn.Pj hc h1 h1'
 subst e
 unfold gd at h2 h2'
 cases ha:t.agg with
 |true=>rw[ha]at h2 h2';rw[h2,h2']
 |false=>
  rw[ha]at h2 h2'
  have h2:cs=[v]:=h2
  have h2':cs=[v']:=h2'
  rw[h2]at h2'
  simpa using h2'
theorem tx.same{E:Env}{t:Ty}{v:Value}{x:t.den}(hc:t.comp=true)(h:tx E t v x):Instr.sameBits 10000 v v=true:=by
 obtain⟨cs,h1,h2⟩:=h
 have hp:=dn.plain hc h1
 unfold gd at h2
 cases ha:t.agg with
 |true=>
  rw[ha]at h2
  have h2:v= .agg cs.toArray:=h2
  subst h2
  simp only[Instr.sameBits,beq_self_eq_true,bO,dw]
  intro p hp'
  obtain⟨a,b⟩:=p
  have:∀(l:List Value),(a,b)∈l.zip l->a∈l/\a=b:=by
   intro l
   induction l with
   |nil=>intro h;simp at h
   |cons y l ih=>
    intro h
    simp only[List.zip_cons_cons,dd,da]at h
    rcases h with⟨rfl,rfl⟩ | h
    ·exact⟨aN,rfl⟩
    ·exact⟨aL _ (ih h).1,(ih h).2⟩
  obtain⟨hm,rfl⟩:=this _ hp'
  exact hp a (by simpa using hm) _
 |false=>
  rw[ha]at h2
  have h2:cs=[v]:=h2
  subst h2
  exact hp v (by simp) _
theorem KF{P:Program}{w:World}{E:Env}{t:Ty}{v:Value}{x:t.den}(hc:t.comp=true)(h:tx E t v x):(Instr.keyThatStays v v).run P w= .ok v w:=by
 unfold Instr.keyThatStays
 rw[if_pos (h.same hc)]
 rfl
section
variable {P:Program} {w:World} {E:Env}
theorem rX:∀(n:Nat) (T:TypeId) (t:Ty),ov P n T t=true->t.comp=true
 | 0,T,t,h=>by simp[ov]at h
 |n+1,T,t,h=>by
  simp only[ov]at h
  split at h
  ·rfl
  ·rfl
  ·rfl
  ·rename_i m e m' t' hT
   simp only[ak]at h
   exact rX n e t' h.2
  ·rename_i t0 _ _ fs hT
   simp only[ak]at h
   have key:∀(fl:List Field) (t:Ty) (off:Nat),wU P (ov P n) fl t off=true->t.comp=true:=by
    intro fl
    induction fl with
    |nil=>intro t off hc;cases t <;> first | rfl | (simp[wU]at hc;done)
    |cons f fl ih=>
     intro t off hc
     cases t <;> first | (simp[wU]at hc;done) | skip
     rename_i ta tb
     simp only[wU,ak]at hc
     simp only[Ty.comp,ak]
     exact⟨rX n _ _ hc.1.2,ih tb _ hc.2⟩
   exact key _ _ _ h.2
  ·cases h
theorem mB(em:Bool):∀(n:Nat) (T:TypeId) (t:Ty),ov P n T t=true->∀(d:Nat),n<=d->∀(v:Value) (x:t.den),tx E t v x->(Instr.checkKey em d T v).run P w= .ok () w
 | 0,T,t,h,_,_,_,_,_=>by simp[ov]at h
 |n+1,T,t,h,0,hd,_,_,_=>by omega
 |n+1,T,t,h,d+1,hd,v,x,⟨cs,hx,hv⟩=>by
  simp only[ov]at h
  split at h
  ·rename_i hT
   simp only[dn]at hx
   have e1:cs=[v]:=hv
   rw[hx]at e1
   simp only[dC,and_true]at e1
   subst e1
   simp[Instr.checkKey,run_underlying hT]
  ·rename_i hT
   simp only[dn]at hx
   have e1:cs=[v]:=hv
   rw[hx]at e1
   simp only[dC,and_true]at e1
   subst e1
   simp[Instr.checkKey,run_underlying hT]
  ·rename_i hT
   simp only[dn]at hx
   have e1:cs=[v]:=hv
   rw[hx]at e1
   simp only[dC,and_true]at e1
   subst e1
   simp[Instr.checkKey,run_underlying hT]
  ·rename_i m e m' t' hT
   simp only[ak,beq_iff_eq]at h
   obtain⟨⟨⟨⟨rfl,P6⟩,oG⟩,xu⟩,pT⟩:=h
   simp only[dn]at hx
   obtain⟨TP,TC⟩:=hx
   have e1:v= .agg cs.toArray:=hv
   subst e1
   obtain⟨i,hi,F6⟩:=rz xu
   have hsz':=oG
   rw[lJ hi]at hsz'
   simp only[Instr.checkKey,Sem.run_bind,run_underlying hT,Result.andThen_ok]
   simp only[Std.Legacy.Range.forIn_eq_forIn_range']
   have hm:([:m]:Std.Legacy.Range).size=m:=by simp[Std.Legacy.Range.size]
   rw[hm]
   have Hl:∀c z,dn E t' c z->c.length=t'.size:=λc z hz=>hz.size
   have bx:t'.agg=false->t'.size=1:=qH
   have key:∀(k:Nat) (x:List t'.den) (j:Nat),x.length=k->bA (dn E t') (cs.drop (j*t'.size)) x->
     (forIn (List.range' j k) () λi __s=>(do
      let __do_lift <-sizeOf e
      let __do_lift <-part e cs.toArray (i*__do_lift)
      Instr.checkKey em d e __do_lift
      pure (ForInStep.yield ()):Sem (ForInStep Unit))).run P w= .ok () w:=by
    intro k
    induction k with
    |zero=>intro x j _ _;rfl
    |succ k ih=>
     intro x j hx hcx'
     cases x with
     |nil=>simp at hx
     |cons x0 xs=>
      have gx:=bA.get Hl hcx' 0 (by simp)
      simp only[mP,aI,List.getElem_cons_zero]at gx
      have lenx:((cs.drop (j*t'.size)).take t'.size).length=t'.size:=gx.size
      have zR:t'.size≠0:=by simpa using P6
      have TL:j*t'.size+t'.size<=cs.length:=by simp only[cU,dx]at lenx;omega
      obtain⟨ux,h1,o1⟩:=qG (w:=w) xu oG bx (cs:=cs) (off:=j*t'.size) TL
      have h3:=mB em n e t' pT d (by omega) ux x0 ⟨_,gx,o1⟩
      have nx:bA (dn E t') (cs.drop ((j+1)*t'.size)) xs:=by
       have:=bA.drop Hl 1 hcx'
       rw[fI]at this
       simpa[eM]using this
      have:=ih xs (j+1) (by simpa using hx) nx
      rw[List.range'_succ,List.forIn_cons]
      simp only[Sem.run_bind,run_sizeOf hi,hsz',h1,h3,Result.andThen_ok,Sem.run_pure]
      exact this
   exact(congrArg (λr:Result Unit=>r.andThen λ_ w'=>Sem.run P (pure ()) w') (key m x 0 TP (by simpa using TC))).trans rfl
  ·rename_i t0 _ _ fs hT
   simp only[ak,bX]at h
   obtain⟨oJ,PL⟩:=h
   have xu:t0.agg=true:=by
    cases hl:fs.toList <;> rw[hl]at PL <;> cases t0 <;> first | rfl | (simp[wU]at PL;done)
   rw[xu]at hv
   have e1:v= .agg cs.toArray:=hv
   subst e1
   have key:∀(fl:List Field) (t:Ty) (off:Nat),wU P (ov P n) fl t off=true->∀(x:t.den),dn E t (cs.drop off) x->
     (forIn fl () λf __s=>(do
      if f.name≠ "_" then
       let __do_lift <-part f.type cs.toArray f.offset
       Instr.checkKey em d f.type __do_lift
       pure (ForInStep.yield ())
      else pure (ForInStep.yield ()):Sem (ForInStep Unit))).run P w= .ok () w:=by
    intro fl
    induction fl with
    |nil=>intro t off _ x _;rfl
    |cons f fl ih=>
     intro t off hc x hx
     cases t <;> first | (simp[wU]at hc;done) | skip
     rename_i ta tb
     simp only[wU,ak,bX,beq_iff_eq,beq_eq_false_iff_ne]at hc
     obtain⟨⟨⟨⟨⟨⟨TU,NI⟩,hz⟩,oG⟩,xu⟩,pT⟩,LN⟩:=hc
     simp only[dn]at hx
     obtain⟨xa,xb,ex,Sc,Ul⟩:=hx
     have bx:ta.agg=false->ta.size=1:=qH
     have lx:xa.length=ta.size:=Sc.size
     have sx1:(cs.drop off).take ta.size=xa:=by rw[ex];exact List.take_left' lx
     have sx2:cs.drop (off+ta.size)=xb:=by rw[<-fI,ex];exact List.drop_left' lx
     have sx3:off+ta.size<=cs.length:=by
      have:=congrArg List.length ex
      simp only[dx,aj]at this
      omega
     obtain⟨ux,h1,o1⟩:=qG (w:=w) xu oG bx (cs:=cs) (off:=off) sx3
     rw[sx1]at o1
     have h3:=mB em n f.type ta pT d (by omega) ux x.1 ⟨_,Sc,o1⟩
     have h4:=ih tb (off+ta.size) LN x.2 (by rw[sx2];exact Ul)
     rw[List.forIn_cons]
     simp only[ne_eq,TU,not_false_eq_true,if_true,Sem.run_bind,NI,h1,h3,Result.andThen_ok,Sem.run_pure]
     exact h4
   have:=key fs.toList t0 0 PL x (by simpa using hx)
   simp only[Instr.checkKey,Sem.run_bind,run_underlying hT,Result.andThen_ok,Array.forIn_toList]at this ⊢
   exact(congrArg (λr:Result Unit=>r.andThen λ_ w'=>Sem.run P (pure ()) w') this).trans rfl
  ·cases h
theorem xz{K:TypeId}{kt vt:Ty}(hK:ov P depth K kt=true){v:Value}{x:kt.den}(hx:tx E kt v x):∀(es:List MapEntry) (l:List (kt.den×vt.den)) (i:Nat),Alike (tM E kt vt) es l->
  ∃r,(Instr.findAsking K v es i).run P w= .ok r w/\match r with | none=>iY kt x l=none | some (j,u)=>∃n e,iY kt x l=some n/\j=i+n/\es[n]? =some e/\u=e.val
 |[],[],i,_=>⟨none,by simp[Instr.findAsking],rfl⟩
 |e::es,p::l,i,⟨he,hr⟩=>by
  have hx':=hx
  obtain⟨c1,r1,o1⟩:=hx'
  obtain⟨c2,r2,o2⟩:=he.1
  have heq:(Op.equal K v e.key).run P w= .ok (kt.beq x p.1) w:=pS E depth K kt hK 10000 (by decide) c1 c2 x p.1 v e.key r1 r2 o1 o2
  cases hb:kt.beq x p.1 with
  |true=>
   rw[hb]at heq
   refine⟨some (i,e.val),by simp[Instr.findAsking,heq],0,e,by simp[iY,hb],rfl,rfl,rfl⟩
  |false=>
   rw[hb]at heq
   obtain⟨r,h1,h2⟩:=xz hK hx es l (i+1) hr
   refine⟨r,by simp[Instr.findAsking,heq,h1],?_⟩
   cases r with
   |none=>simp only at h2 ⊢;simp[iY,hb,h2]
   |some u=>
    obtain⟨j,u⟩:=u
    obtain⟨n,e',g1,g2,g3,g4⟩:=h2
    exact⟨n+1,e',by simp[iY,hb,g1],by omega,by simpa using g3,g4⟩
 |[],_::_,_,h=>h.elim
 |_::_,[],_,h=>h.elim
theorem DM{d:TypeDesc}{kt vt:Ty}{v:Value}{x:kt.den}(hd:∀u y,tx E kt u y->Instr.sameNow d v u=some (kt.beq x y)):∀(es:List MapEntry) (l:List (kt.den×vt.den)) (i:Nat),Alike (tM E kt vt) es l->
  ∃r,Instr.findNow d v es i=some r/\match r with | none=>iY kt x l=none | some (j,u)=>∃n e,iY kt x l=some n/\j=i+n/\es[n]? =some e/\u=e.val
 |[],[],i,_=>⟨none,rfl,rfl⟩
 |e::es,p::l,i,⟨he,hr⟩=>by
  have h0:=hd e.key p.1 he.1
  cases hb:kt.beq x p.1 with
  |true=>
   rw[hb]at h0
   exact⟨some (i,e.val),by simp[Instr.findNow,h0],0,e,by simp[iY,hb],rfl,rfl,rfl⟩
  |false=>
   rw[hb]at h0
   obtain⟨r,h1,h2⟩:=DM hd es l (i+1) hr
   refine⟨r,by simp[Instr.findNow,h0,h1],?_⟩
   cases r with
   |none=>simp only at h2 ⊢;simp[iY,hb,h2]
   |some u=>
    obtain⟨j,u⟩:=u
    obtain⟨n,e',g1,g2,g3,g4⟩:=h2
    exact⟨n+1,e',by simp[iY,hb,g1],by omega,by simpa using g3,g4⟩
 |[],_::_,_,h=>h.elim
 |_::_,[],_,h=>h.elim
theorem wX{K:TypeId}{kt vt:Ty}(hK:ov P depth K kt=true){v:Value}{x:kt.den}(hx:tx E kt v x){es:List MapEntry}{l:List (kt.den×vt.den)}(h:Alike (tM E kt vt) es l):
  ∃r,(Instr.findKey K v es).run P w= .ok r w/\match r with | none=>iY kt x l=none | some (j,u)=>∃e,iY kt x l=some j/\es[j]? =some e/\u=e.val:=by
 have fin:∀r:Option (Nat×Value),(match r with | none=>iY kt x l=none | some (j,u)=>∃n e,iY kt x l=some n/\j=0+n/\es[n]? =some e/\u=e.val)->match r with | none=>iY kt x l=none | some (j,u)=>∃e,iY kt x l=some j/\es[j]? =some e/\u=e.val:=by
  intro r hr
  cases r with
  |none=>exact hr
  |some u=>
   obtain⟨j,u⟩:=u
   obtain⟨n,e,g1,g2,g3,g4⟩:=hr
   obtain rfl:j=n:=by omega
   exact⟨e,g1,g3,g4⟩
 have scalar:∀d,P.underlying K=some d->(∀u y,tx E kt u y->Instr.sameNow d v u=some (kt.beq x y))->∃r,(Instr.findKey K v es).run P w= .ok r w/\match r with | none=>iY kt x l=none | some (j,u)=>∃e,iY kt x l=some j/\es[j]? =some e/\u=e.val:=by
  intro d hd hs
  obtain⟨r,h1,h2⟩:=DM hs es l 0 h
  exact⟨r,by simp[Instr.findKey,run_underlying hd,h1],fin r h2⟩
 have agg:∀d,P.underlying K=some d->(∀u y,tx E kt u y->Instr.sameNow d v u=none)->∃r,(Instr.findKey K v es).run P w= .ok r w/\match r with | none=>iY kt x l=none | some (j,u)=>∃e,iY kt x l=some j/\es[j]? =some e/\u=e.val:=by
  intro d hd hs
  cases es with
  |nil=>
   cases l with
   |nil=>exact⟨none,by simp[Instr.findKey,run_underlying hd,Instr.findNow],rfl⟩
   |cons _ _=>exact h.elim
  |cons e es=>
   cases l with
   |nil=>exact h.elim
   |cons p l=>
    have hn:Instr.findNow d v (e::es) 0=none:=by simp[Instr.findNow,hs e.key p.1 h.1.1]
    obtain⟨r,h1,h2⟩:=xz (w:=w) (vt:=vt) hK hx (e::es) (p::l) 0 h
    exact⟨r,by simp[Instr.findKey,run_underlying hd,hn,h1],fin r h2⟩
 have hK0:=hK
 unfold depth at hK0
 simp only[ov]at hK0
 obtain⟨cx,rx,ox⟩:=hx
 split at hK0
 ·rename_i k k' hT
  refine scalar _ hT λu y ⟨cy,ry,oy⟩=> ?_
  simp only[dn]at rx ry
  have e1:cx=[v]:=ox
  have e2:cy=[u]:=oy
  rw[rx]at e1;rw[ry]at e2
  simp only[dC,and_true]at e1 e2
  subst e1 e2
  simp[Instr.sameNow,Ty.beq]
 ·rename_i hT
  refine scalar _ hT λu y ⟨cy,ry,oy⟩=> ?_
  simp only[dn]at rx ry
  have e1:cx=[v]:=ox
  have e2:cy=[u]:=oy
  rw[rx]at e1;rw[ry]at e2
  simp only[dC,and_true]at e1 e2
  subst e1 e2
  simp[Instr.sameNow,Ty.beq]
 ·rename_i hT
  refine scalar _ hT λu y ⟨cy,ry,oy⟩=> ?_
  simp only[dn]at rx ry
  have e1:cx=[v]:=ox
  have e2:cy=[u]:=oy
  rw[rx]at e1;rw[ry]at e2
  simp only[dC,and_true]at e1 e2
  subst e1 e2
  have hs:∀a b:ByteArray,(a==b)=(a.toList==b.toList):=λa b=>by
   by_cases yH:a=b
   ·subst yH
    rw[(Go.MapKept.bytes_beq a a).2 rfl];simp
   ·have h1:(a==b)=false:=by
     cases h:(a==b) with
     |false=>rfl
     |true=>exact absurd ((Go.MapKept.bytes_beq a b).1 h) yH
    have h2:(a.toList==b.toList)=false:=by
     cases h:(a.toList==b.toList) with
     |false=>rfl
     |true=>exact absurd (beq_eq .str a b rfl h) yH
    rw[h1,h2]
  simp[Instr.sameNow,Ty.beq,hs]
 ·rename_i m e m' t' hT
  exact agg _ hT λu y _=>by simp[Instr.sameNow]
 ·rename_i t0 _ _ fs hT
  exact agg _ hT λu y _=>by simp[Instr.sameNow]
 ·cases hK0
end
section
variable {α β:Type} {R:α->β->Prop}
theorem Alike.get:∀ {xs:List α} {ys:List β} {i:Nat} {x:α},Alike R xs ys->xs[i]? =some x->∃y,ys[i]? =some y/\R x y
 |[],_,_,_,_,h=>by simp at h
 |_::_,[],_,_,h,_=>h.elim
 |x::xs,y::ys,0,z,⟨h1,_⟩,h=>by simp at h;subst h;exact⟨y,rfl,h1⟩
 |x::xs,y::ys,i+1,z,⟨_,h2⟩,h=>by simp at h;simpa using Alike.get h2 h
theorem Alike.set{x:α}{y:β}(hx:R x y):∀ {xs:List α} {ys:List β} (i:Nat),Alike R xs ys->Alike R (xs.set i x) (ys.set i y)
 |[],[],_,_=>trivial
 |[],_::_,_,h=>h.elim
 |_::_,[],_,h=>h.elim
 |_::_,_::_,0,⟨_,h2⟩=>⟨hx,h2⟩
 |_::_,_::_,i+1,⟨h1,h2⟩=>⟨h1,Alike.set hx i h2⟩
theorem Alike.push{x:α}{y:β}(hx:R x y):∀ {xs:List α} {ys:List β},Alike R xs ys->Alike R (xs++ [x]) (ys++ [y])
 |[],[],_=>⟨hx,trivial⟩
 |[],_::_,h=>h.elim
 |_::_,[],h=>h.elim
 |_::_,_::_,⟨h1,h2⟩=>⟨h1,Alike.push hx h2⟩
theorem Alike.erase:∀ {xs:List α} {ys:List β} (i:Nat),Alike R xs ys->Alike R (xs.eraseIdx i) (ys.eraseIdx i)
 |[],[],_,_=>by simp[Alike]
 |[],_::_,_,h=>h.elim
 |_::_,[],_,h=>h.elim
 |_::_,_::_,0,⟨_,h2⟩=>h2
 |_::_,_::_,i+1,⟨h1,h2⟩=>⟨h1,Alike.erase i h2⟩
end
theorem xR{α:Type}{f:α->α->Bool}(hf:∀x,f x x=true):∀xs:List α,kL f xs xs=true
 |[]=>rfl
 |x::xs=>by simp[kL,hf x,xR hf xs]
theorem beq_refl:∀(t:Ty) (x:t.den),t.comp=true->t.beq x x=true
 | .int _,x,_=>by simp[Ty.beq]
 | .bool,x,_=>by simp[Ty.beq]
 | .str,x,_=>by simp[Ty.beq]
 | .slice _,_,h=>by simp[Ty.comp]at h
 | .iv _,_,h | .oV _,_,h=>by simp[Ty.comp]at h
 | .unit,_,_=>rfl
 | .pair a b,x,h=>by
  simp only[Ty.comp,ak]at h
  simp only[Ty.beq,beq_refl a _ h.1,beq_refl b _ h.2,Bool.and_self]
 | .arr _ t,x,h=>by
  simp only[Ty.comp]at h
  exact xR (λy=>beq_refl t y h) x
section
variable {β:Type} {kt:Ty}
theorem vU{x:kt.den}:eS kt x ([]:List (kt.den×β))=none:=rfl
theorem kz{x:kt.den}{p:kt.den×β}{l:List (kt.den×β)}:eS kt x (p::l)=if kt.beq x p.1=true then some p.2 else eS kt x l:=by
 unfold eS
 cases h:kt.beq x p.1 with
 |true=>simp[iY,h]
 |false=>
  simp only[iY,h]
  cases iY kt x l <;> simp
theorem Ko{x:kt.den}{v:β}:jK kt x v []=[(x,v)]:=rfl
theorem xe{x:kt.den}{v:β}{p:kt.den×β}{l:List (kt.den×β)}:jK kt x v (p::l)=if kt.beq x p.1=true then(x,v)::l else p::jK kt x v l:=by
 unfold jK
 cases h:kt.beq x p.1 with
 |true=>simp[iY,h]
 |false=>
  simp only[iY,h]
  cases iY kt x l <;> simp
theorem Kn{x:kt.den}:mm kt x ([]:List (kt.den×β))=[]:=rfl
theorem xd{x:kt.den}{p:kt.den×β}{l:List (kt.den×β)}:mm kt x (p::l)=if kt.beq x p.1=true then l else p::mm kt x l:=by
 unfold mm
 cases h:kt.beq x p.1 with
 |true=>simp[iY,h]
 |false=>
  simp only[iY,h]
  cases iY kt x l <;> simp
theorem vV{x:kt.den}{v:β}:∀l:List (kt.den×β),(jK kt x v l).Perm ((x,v)::mm kt x l)
 |[]=>mA _
 |p::l=>by
  rw[xe,xd]
  split
  ·exact mA _
  ·exact((vV l).cons p).trans (List.Perm.swap _ _ _)
theorem o5(hc:kt.comp=true){x:kt.den}:∀ {l:List (kt.den×β)},(l.map (·.1)).Nodup->mm kt x l=l.filter λp=> !kt.beq x p.1
 |[],_=>rfl
 |p::l,hn=>by
  rw[bR,dK]at hn
  rw[xd,kO]
  by_cases h:kt.beq x p.1=true
  ·rw[if_pos h]
   simp only[h,cq,bJ,if_false]
   have hx:=beq_eq kt _ _ hc h
   exact(ju.2 λq hq=>by
    simp only[bX]
    rw[Bool.eq_false_iff]
    intro hb
    have:=beq_eq kt _ _ hc hb
    exact hn.1 (by rw[<-hx,this];exact dD.2 ⟨q,hq,rfl⟩)).symm
  ·have h':kt.beq x p.1=false:=by simpa using h
   rw[if_neg h]
   simp only[h',dX,if_true]
   rw[o5 hc hn.2]
theorem mW(hc:kt.comp=true){x:kt.den}{v:β}:∀ {l:List (kt.den×β)},(l.map (·.1)).Nodup->(eS kt x l=some v↔(x,v)∈l)
 |[],_=>by simp[vU]
 |p::l,hn=>by
  rw[bR,dK]at hn
  rw[kz,dd]
  by_cases h:kt.beq x p.1=true
  ·rw[if_pos h]
   have hx:=beq_eq kt _ _ hc h
   constructor
   ·intro e;left;rw[hx,<-bB e]
   ·rintro(e | e)
    ·rw[<-e]
    ·exact absurd (dD.2 ⟨_,e,rfl⟩) (by rw[<-hx]at hn;exact hn.1)
  ·rw[if_neg h,mW hc hn.2]
   constructor
   ·exact .inr
   ·rintro(e | e)
    ·exact absurd (by rw[<-e];exact beq_refl kt x hc) h
    ·exact e
theorem Ie(hc:kt.comp=true){x:kt.den}{l l':List (kt.den×β)}(hn:(l.map (·.1)).Nodup)(hp:l'.Perm l):eS kt x l'=eS kt x l:=by
 apply Option.ext
 intro v
 rw[mW hc ((hp.map _).nodup_iff.2 hn),mW hc hn,hp.mem_iff]
theorem BK(hc:kt.comp=true){x:kt.den}{l l':List (kt.den×β)}(hn:(l.map (·.1)).Nodup)(hp:l'.Perm l):(mm kt x l').Perm (mm kt x l):=by
 rw[o5 hc ((hp.map _).nodup_iff.2 hn),o5 hc hn]
 exact hp.filter _
theorem Ig(hc:kt.comp=true){x:kt.den}{v:β}{l l':List (kt.den×β)}(hn:(l.map (·.1)).Nodup)(hp:l'.Perm l):(jK kt x v l').Perm (jK kt x v l):=
 (vV l').trans (((BK hc hn hp).cons _).trans (vV l).symm)
theorem vg(hc:kt.comp=true){x:kt.den}{l:List (kt.den×β)}(hn:(l.map (·.1)).Nodup):((mm kt x l).map (·.1)).Nodup:=by
 rw[o5 hc hn]
 exact hn.sublist (List.filter_sublist.map _)
theorem Ae(hc:kt.comp=true){x:kt.den}{v:β}{l:List (kt.den×β)}(hn:(l.map (·.1)).Nodup):((jK kt x v l).map (·.1)).Nodup:=by
 rw[((vV l).map _).nodup_iff,bR,dK]
 refine⟨λh=> ?_,vg hc hn⟩
 obtain⟨p,hp,he⟩:=dD.1 h
 rw[o5 hc hn,eW]at hp
 have:=hp.2
 have he:p.1=x:=he
 rw[he,beq_refl kt x hc]at this
 cases this
end
theorem xi{E:Env}:∀(v:az) (t:Ty) (x:t.den) (cs:List Value),V E v cs->(nm t v).eval=some x->dn E t cs x/\v.agg=t.agg/\v.fg=true
 | .d t' x',t,x,cs,hv,h=>by
  have h':(Out.opt (py t' t x')).eval=some x:=by cases t <;> simpa only[nm]using h
  obtain⟨rfl,h'⟩:=jI (jW.1 h')
  simp only at h'
  subst h'
  simp only[V]at hv
  exact⟨hv,rfl,rfl⟩
 | .df,.slice t,x,cs,hv,h=>by
  simp only[nm,aw]at h
  subst h
  simp only[V]at hv
  simp only[dn]
  exact⟨⟨none,0,[],by simpa using hv,by simp,by simp,λi v hh=>by simp at hh,rfl⟩,rfl,rfl⟩
 | .pr a b,.pair ta tb,x,cs,hv,h=>by
  simp only[nm]at h
  obtain⟨x1,h1,h2⟩:=au.1 h
  obtain⟨x2,h3,h4⟩:=au.1 h2
  obtain rfl:=aw.1 h4
  simp only[V]at hv
  obtain⟨ca,cb,rfl,ha,hb⟩:=hv
  simp only[dn]
  exact⟨⟨ca,cb,rfl,(xi a ta x1 ca ha h1).1,(xi b tb x2 cb hb h3).1⟩,rfl,rfl⟩
 | .df,.int _,_,_,_,h | .df,.bool,_,_,_,h | .df,.str,_,_,_,h | .df,.unit,_,_,_,h | .df,.pair _ _,_,_,_,h | .df,.arr _ _,_,_,_,h=>by simp only[nm,ao]at h
 | .pr _ _,.int _,_,_,_,h | .pr _ _,.bool,_,_,_,h | .pr _ _,.str,_,_,_,h | .pr _ _,.unit,_,_,_,h | .pr _ _,.slice _,_,_,_,h | .pr _ _,.arr _ _,_,_,_,h=>by simp only[nm,ao]at h
 | .undef,t,_,_,_,h | .gone,t,_,_,_,h | .oI,t,_,_,_,h | .qt,t,_,_,_,h | .yl ..,t,_,_,_,h | .tl,t,_,_,_,h | .ptr ..,t,_,_,_,h | .ed ..,t,_,_,_,h | .cP ..,t,_,_,_,h | .fn ..,t,_,_,_,h
 | .cons ..,t,_,_,_,h | .nil,t,_,_,_,h | .vec ..,t,_,_,_,h | .sb _,t,_,_,_,h | .bx ..,t,_,_,_,h | .oh ..,t,_,_,_,h | .mp ..,t,_,_,_,h | .oK ..,t,_,_,_,h | .qK ..,t,_,_,_,h=>by cases t <;> simp only[nm,ao]at h
theorem CZ{v:az}{t:Ty}{x:t.den}(h:(nm t v).eval=some x):v.fg=true:=by
 cases v <;> first | rfl | (cases t <;> simp only[nm,ao]at h)
theorem uh{E:Env}{v:az}{y:Value}(hv:VS E v y){t:Ty}{x:t.den}(h:(nm t v).eval=some x):tx E t y x:=by
 obtain⟨cs,h1,h2⟩:=hv.fg (CZ h)
 obtain⟨h3,h4,_⟩:=xi v t x cs h1 h
 exact⟨cs,h3,by rw[<-h4];exact h2⟩
theorem sX{P:Program}{T K V':TypeId}{kt vt:Ty}(h:mapOf P T=some (K,V',kt,vt)):P.underlying T=some (.map K V')/\ov P depth K kt=true/\E8 P V' (.d vt vt.zero)=true:=by
 unfold mapOf at h
 split at h
 ·rename_i K0 V0 hT
  split at h
  ·split at h
   ·rename_i hc
    simp only[ax,da]at h
    obtain⟨rfl,rfl,rfl,rfl⟩:=h
    rw[ak]at hc
    exact⟨hT,hc.1,hc.2⟩
   ·cases h
  ·cases h
 ·cases h
theorem FG{k v k' v':Ty}{l:List (k.den×v.den)}{l':List (k'.den×v'.den)}(h:HE k v k' v' l=some l'):∃(e1:k=k') (e2:v=v'),(e1▸e2▸l)=l':=by
 unfold HE at h
 split at h
 ·rename_i e;exact⟨e.1,e.2,by simpa using h⟩
 ·cases h
section
variable {P:Program} {C:Ctx} {g:Nat->lG} {β:Id->Option Pl} {s:AS} {a:Act} {w:World} {o:Oper}
theorem rB(h:Inv C g β s a w){id:Id}{ver:Nat}{kt vt:Ty}{l:List (kt.den×vt.den)}(ho:(s.oZ id ver kt vt).eval=some l){y:Value}(hv:VS (s.env w g β) (.oh id ver) y):
  ∃fr pl es clock,s.cz id=some (.obj ver fr (.mp kt vt l))/\β id=some pl/\y= .map (some pl.b)/\w.heap[pl.b]? =some (.map es clock)/\g pl.b= .own (.id id) 0/\D8 (s.env w g β) kt vt es.toList l/\mz es.toList clock/\(l.map (·.1)).Nodup:=by
 unfold AS.oZ at ho
 split at ho
 ·rename_i v fr k' v' l' kG
  obtain⟨P4,RY⟩:=aC.1 ho
  have P4:v=ver:=by simpa using P4
  obtain⟨rfl,rfl,rfl⟩:=FG (jW.1 RY)
  subst P4
  have db:=eJ kG
  obtain⟨pl,es,clock,h1,h2,h3,h4⟩:=h.bU id v fr _ db
  have hs:=hv.single rfl rfl
  simp only[V]at hs
  obtain⟨b,hb,_,hc⟩:=hs
  obtain⟨pl',h5,h6⟩:=hc ⟨fr,_,db⟩
  have h1:β id=some pl:=h1
  have h5:β id=some pl':=h5
  rw[h1]at h5
  obtain rfl:pl=pl':=by simpa using h5
  refine⟨fr,pl,es,clock,db,h1,?_,h2,h3,h4.1.1,h4.2,h4.1.2⟩
  have hb:y= .map (some b):=by simpa using hb
  rw[hb,h6]
 ·simp only[ao]at ho
theorem EI(h:Inv C g β s a w){T:TypeId}(dA:o.op= .makeMap T none){s':AS}(he:(vd P s o.dst T).eval=some s'):fU P o a w (iN C s'):=by
 unfold vd at he
 split at he
 ·rename_i K V' kt vt q hm hd
  obtain⟨hq,he⟩:=aC.1 he
  obtain rfl:=aw.1 he
  have ht:=Trans.alloc w g (.map #[] 0) (.own (.id (.new q 0)) 0)
  obtain⟨h1,h2⟩:=h.yP hq (c:= .mp kt vt []) (p:=some ⟨w.heap.size,0⟩) ht (λb hb=>⟨nr w _ hb,fE _ _ _ (by omega)⟩) (λ_=>
   ⟨⟨w.heap.size,0⟩,#[],0,jP _ _ _,oP w _,fP _ _ _,⟨⟨[],trivial,mA _⟩,jS⟩,mz.nil _⟩)
  refine .inl ⟨.map (some w.heap.size),w.alloc (.map #[] 0),?_,_,_,h1.put o.dst (v:= .oh (.new q 0) 0) ⟨[.map (some w.heap.size)],?_,rfl⟩⟩
  ·refine ef (f:=Instr.makeMap T none) (by simp only[execOp,dA];rfl) ?_
   simp[Instr.makeMap,run_newObj_alloc]
  ·simp only[V]
   exact⟨_,rfl,mS hq _ _ _ _,λ_=>⟨_,jP _ _ _,rfl⟩⟩
 ·simp only[ao]at he
theorem tx.vs{E:Env}{t:Ty}{v:Value}{x:t.den}(h:tx E t v x):VS E (.d t x) v:=by
 obtain⟨cs,h1,h2⟩:=h
 exact⟨cs,by simpa only[V]using h1,h2⟩
theorem Gl(h:Inv C g β s a w){T:TypeId}{x i:Operand}{ok:Bool}(dA:o.op= .lookup T x i ok){v:az}(he:(tY P s T (s.ev x) (s.ev i) ok).eval=some v):fU P o a w (iN C (s.put o.dst v)):=by
 unfold tY at he
 split at he
 ·rename_i K V' kt vt id ver hm hx
  obtain⟨l,h1,he⟩:=au.1 he
  obtain⟨k,h2,he⟩:=au.1 he
  obtain rfl:=aw.1 he
  obtain⟨hT,hK,hz⟩:=sX hm
  have Bu:=h.ev x
  rw[hx]at Bu
  obtain⟨fr,pl,es,clock,g1,g2,g3,g4,g5,g6,g7,gn⟩:=rB h h1 Bu
  have wq:=rX depth K kt hK
  obtain⟨l0,g6,gp⟩:=g6
  rw[<-Ie wq gn gp]
  clear gn h1
  generalize l0=l at g6
  have hk:=uh (h.ev i) h2
  have Ot:=mB (P:=P) (w:=w) es.isEmpty depth K kt hK 10000 (by decide) _ _ hk
  obtain⟨r,hf,hr⟩:=wX (P:=P) (w:=w) hK hk g6
  obtain⟨iz,zv,z1,z2,z3,z4⟩:=pP hz (s.env w g β)
  have Kd:tx (s.env w g β) vt zv vt.zero:=⟨_,by simpa only[V]using z3,z4⟩
  have hzero:(zeroValue V').run P w= .ok zv w:=by simp[zeroValue,typeInfo,z1,z2]
  obtain⟨val,mU,r9⟩:∃val:Value×Bool,(Instr.lookup T (a.eval x) (a.eval i) ok).run P w= .ok (if ok then .tuple #[val.1,.bool val.2] else val.1) w/\tx (s.env w g β) vt val.1 ((eS kt k l).getD vt.zero)/\val.2=(eS kt k l).isSome:=by
   cases r with
   |none=>
    simp only at hr
    have hg:eS kt k l=none:=by simp[eS,hr]
    refine⟨(zv,false),?_,by rw[hg];exact Kd,by rw[hg];rfl⟩
    simp[Instr.lookup,run_underlying hT,g3,Go.MapKept.run_getObj_map g4,Ot,hf,hzero]
   |some u=>
    obtain⟨j,u⟩:=u
    obtain⟨e,m1,m2,rfl⟩:=hr
    obtain⟨p,m3,m4⟩:=g6.get m2
    have hg:eS kt k l=some p.2:=by simp[eS,m1,m3]
    refine⟨(e.val,true),?_,by rw[hg];exact m4.2,by rw[hg];rfl⟩
    simp[Instr.lookup,run_underlying hT,g3,Go.MapKept.run_getObj_map g4,Ot,hf]
  refine h.value (x:=if ok then .tuple #[val.1,.bool val.2] else val.1) ?_ (ef (f:=Instr.lookup T (a.eval x) (a.eval i) ok) (by simp only[execOp,dA]) mU)
  unfold OP
  cases ok with
  |true=>
   obtain⟨cs,c1,c2⟩:=r9.1
   refine⟨[val.1,.bool val.2],rfl,?_⟩
   simp only[VC]
   refine⟨_,_,cs,rfl,by simpa only[V]using c1,c2,_,_,[.bool val.2],rfl,?_,rfl,rfl⟩
   simp only[V,dn,r9.2]
  |false=>exact r9.1.vs
 ·simp only[ao]at he
theorem Inv.MH(h:Inv C g β s a w){id:Id}{ver:Nat}{fr:Bool}{kt vt:Ty}{l l':List (kt.den×vt.den)}{pl:Pl}{es es':Array MapEntry}{clock clock':Nat}(db:s.cz id=some (.obj ver fr (.mp kt vt l)))(hp:β id=some pl)
  (hb:w.heap[pl.b]? =some (.map es clock)) (hg:g pl.b= .own (.id id) 0) (hr:D8 (s.env w g β) kt vt es'.toList l') (VU:(l'.map (·.1)).Nodup) (Rx:mz es'.toList clock') (P2:s.pd id=true):
  Inv C g β (s.aX id (.obj ver false (.mp kt vt l'))) a {w with heap:=w.heap.setIfInBounds pl.b (.map es' clock')}:=by
 have jt:pl.b < w.heap.size:=(bT.1 hb).1
 have hother:∀b',b'≠pl.b->({w with heap:=w.heap.setIfInBounds pl.b (.map es' clock')}:World).heap[b']? =w.heap[b']? :=λb' jb=>by
  show(w.heap.setIfInBounds pl.b _)[b']? =_
  rw[ee,if_neg (λe=>jb e.symm)]
 have ht:Trans w {w with heap:=w.heap.setIfInBounds pl.b (.map es' clock')} g g:=by
  refine⟨rfl,rfl,⟨rfl,ay _⟩,by simp,λb' _=> ?_⟩
  by_cases he:b'=pl.b
  ·subst he
   rw[hg]
   exact⟨.inr ⟨id,0,rfl,ay _⟩,λ_ _ hh=>by omega⟩
  ·rw[hother b' he]
   cases Aq:g b' with
   |free=>exact⟨rfl,rfl⟩
   |own o' k=>cases o' with
    |eL=>exact⟨rfl,rfl⟩
    |id i'=>exact⟨.inr ⟨i',k,rfl,ay _⟩,λoff v _ hv=>by simpa only[World.cell?,hother b' he]using hv⟩
 have hle:c7 (s.env w g β) ((s.aX id (.obj ver false (.mp kt vt l'))).env {w with heap:=w.heap.setIfInBounds pl.b (.map es' clock')} g β):=c7.aX db (ay _) ht (λ_ _=>rfl) (λ_=>rfl)
 refine h.step (du _ _ _) ht hle (jd.aX h.bU (by rw[db];simp) hle (λ_ _=>rfl) (λi ver fr c pl2 hi Br CF=>⟨hother _ (h.apart hg hi Br CF),rfl⟩) ?_ (by obtain rfl:=vE db P2;exact xT db))
 refine⟨pl,es',clock',hp,?_,hg,⟨hr.mono hle.mem,VU⟩,Rx⟩
 show(w.heap.setIfInBounds pl.b _)[pl.b]? =_
 rw[ee,if_pos rfl,if_pos jt]
theorem Gq(h:Inv C g β s a w){T:TypeId}{m k x:Operand}(dA:o.op= .mapUpdate T m k x){s':AS}(he:(uc P s T (s.ev m) (s.ev k) (s.ev x)).eval=some s'):fU P o a w (iN C (s'.put o.dst .undef)):=by
 unfold uc at he
 split at he
 ·rename_i K V' kt vt id ver hm hx
  obtain⟨l,h1,he⟩:=au.1 he
  obtain⟨kx,h2,he⟩:=au.1 he
  obtain⟨vx,h3,he⟩:=au.1 he
  obtain⟨P2,he⟩:=aC.1 he
  obtain rfl:=aw.1 he
  obtain⟨hT,hK,_⟩:=sX hm
  have Bu:=h.ev m
  rw[hx]at Bu
  obtain⟨fr,pl,es,clock,g1,g2,g3,g4,g5,g6,g7,gn⟩:=rB h h1 Bu
  obtain⟨l0,g6,gp⟩:=g6
  have hk:=uh (h.ev k) h2
  have hv:=uh (h.ev x) h3
  have Ot:=mB (P:=P) (w:=w) false depth K kt hK 10000 (by decide) _ _ hk
  obtain⟨r,hf,hr⟩:=wX (P:=P) (w:=w) hK hk g6
  have wq:=rX depth K kt hK
  have fin:∀(es':Array MapEntry) (clock':Nat),(Instr.mapUpdate T (a.eval m) (a.eval k) (a.eval x)).run P w= .ok () {w with heap:=w.heap.setIfInBounds pl.b (.map es' clock')}->Alike (tM (s.env w g β) kt vt) es'.toList (jK kt kx vx l0)->mz es'.toList clock'->
    fU P o a w (iN C ((s.aX id (.obj ver false (.mp kt vt (jK kt kx vx l)))).put o.dst .undef)):=λes' clock' mU LI Rx=>
   .inr (.inl ⟨_,Dn (f:=Instr.mapUpdate T (a.eval m) (a.eval k) (a.eval x)) (by simp only[execOp,dA]) mU,g,β,(h.MH g1 g2 g4 g5 ⟨_,LI,Ig wq gn gp⟩ (Ae wq gn) Rx P2).put o.dst VS.undef⟩)
  cases r with
  |none=>
   simp only at hr
   refine fin (es.push {key:=a.eval k,val:=a.eval x,born:=clock}) (clock+1) ?_ ?_ (by rw[Array.toList_push];exact g7.push rfl)
   ·simp[Instr.mapUpdate,run_underlying hT,g3,Go.MapKept.run_getObj_map g4,Ot,hf,Go.MapKept.run_setObj_map _ g4]
   ·simp only[jK,hr,Array.toList_push]
    exact g6.push ⟨hk,hv⟩
  |some u=>
   obtain⟨j,u⟩:=u
   obtain⟨e,m1,m2,rfl⟩:=hr
   obtain⟨p,m3,m4⟩:=g6.get m2
   have Tx:kt.beq kx p.1=true:=by
    have:∀(l:List (kt.den×vt.den)) (j:Nat),iY kt kx l=some j->∀p,l[j]? =some p->kt.beq kx p.1=true:=by
     intro l
     induction l with
     |nil=>intro j hj;simp[iY]at hj
     |cons q l ih=>
      intro j hj p hp
      simp only[iY]at hj
      cases hb:kt.beq kx q.1 with
      |true=>
       rw[hb]at hj
       simp only[ax]at hj
       subst hj
       simp at hp
       subst hp
       exact hb
      |false=>
       rw[hb]at hj
       simp only[fB]at hj
       obtain⟨j',hj',rfl⟩:=hj
       exact ih j' hj' p (by simpa using hp)
    exact this l0 j m1 p m3
   have Um:=beq_eq kt kx p.1 wq Tx
   have TM:e.key=a.eval k:=tx.Pj wq (Um▸m4.1) hk
   have m2':es[j]? =some e:=by simpa using m2
   refine fin (es.modify j λe=> {e with key:=a.eval k,val:=a.eval x}) clock ?_ ?_ (by rw[Array.toList_modify,Go.ChangeMaps.modify_eq_set _ _ _ _ m2];exact g7.set m2 rfl)
   ·simp[Instr.mapUpdate,run_underlying hT,g3,Go.MapKept.run_getObj_map g4,Ot,hf,m2',TM,KF wq hk,Go.MapKept.run_setObj_map _ g4]
   ·simp only[jK,m1,Array.toList_modify]
    rw[Go.ChangeMaps.modify_eq_set _ _ _ _ m2]
    exact Alike.set (R:=tM (s.env w g β) kt vt) ⟨hk,hv⟩ j g6
 ·simp only[ao]at he
end
end Go.Ab
end
