/-
  Made short by a program of mine (wip/tools/mini.py).
-/
import Derived.WalkKit
import Derived.KernelRfl
import Derived.MapKept
import Derived.ChangeMaps3
set_option linter.unusedVariables false
set_option linter.unusedSimpArgs false
set_option maxRecDepth 100000
set_option synthInstance.maxSize 5000
noncomputable section
namespace Go.Ab
theorem jW:type_of% @Array.ext':= @Array.ext'
theorem fF:type_of% @Array.getD_eq_getD_getElem?:= @Array.getD_eq_getD_getElem?
theorem lQ:type_of% @Array.getElem?_eq_getElem:= @Array.getElem?_eq_getElem
theorem fu:type_of% @Array.getElem?_eq_some_iff:= @Array.getElem?_eq_some_iff
theorem lJ:type_of% @Array.getElem?_modify:= @Array.getElem?_modify
theorem iL:type_of% @Array.getElem?_setIfInBounds:= @Array.getElem?_setIfInBounds
theorem eg:type_of% @Array.length_toList:= @Array.length_toList
theorem di:type_of% @Array.toList_append:= @Array.toList_append
theorem nH:type_of% @BitVec.ofInt_natCast:= @BitVec.ofInt_natCast
theorem pg:type_of% @BitVec.toNat_ofInt:= @BitVec.toNat_ofInt
theorem ph:type_of% @BitVec.toNat_ofNat:= @BitVec.toNat_ofNat
theorem ak:type_of% @Bool.and_eq_true:= @Bool.and_eq_true
theorem nI:type_of% @Bool.and_eq_true_iff:= @Bool.and_eq_true_iff
theorem lB:type_of% @Bool.and_false:= @Bool.and_false
theorem l9:type_of% @Bool.and_self:= @Bool.and_self
theorem lk:type_of% @Bool.and_true:= @Bool.and_true
theorem kE:type_of% @Bool.eq_false_or_eq_true:= @Bool.eq_false_or_eq_true
theorem fK:type_of% @Bool.false_and:= @Bool.false_and
theorem cF:type_of% @Bool.false_eq_true:= @Bool.false_eq_true
theorem dI:type_of% @Bool.not_eq_true':= @Bool.not_eq_true'
theorem gk:type_of% @Bool.not_false:= @Bool.not_false
theorem bY:type_of% @Bool.not_true:= @Bool.not_true
theorem j9:type_of% @Bool.or_eq_true:= @Bool.or_eq_true
theorem cv:type_of% @Bool.true_and:= @Bool.true_and
theorem qS:type_of% @Int.add_assoc:= @Int.add_assoc
theorem mK:type_of% @Int.add_emod:= @Int.add_emod
theorem lU:type_of% @Int.add_zero:= @Int.add_zero
theorem mL:type_of% @Int.dvd_refl:= @Int.dvd_refl
theorem iW:type_of% @Int.emod_emod_of_dvd:= @Int.emod_emod_of_dvd
theorem jq:type_of% @Int.emod_eq_of_lt:= @Int.emod_eq_of_lt
theorem ky:type_of% @Int.emod_lt_of_pos:= @Int.emod_lt_of_pos
theorem kU:type_of% @Int.emod_nonneg:= @Int.emod_nonneg
theorem kR:type_of% @Int.eq_ofNat_of_zero_le:= @Int.eq_ofNat_of_zero_le
theorem lC:type_of% @Int.fdiv_eq_ediv_of_nonneg:= @Int.fdiv_eq_ediv_of_nonneg
theorem nY:type_of% @Int.le_of_lt:= @Int.le_of_lt
theorem ln:type_of% @Int.le_refl:= @Int.le_refl
theorem iQ:type_of% @Int.mul_emod:= @Int.mul_emod
theorem pW:type_of% @Int.mul_nonneg:= @Int.mul_nonneg
theorem nZ:type_of% @Int.natCast_emod:= @Int.natCast_emod
theorem pa:type_of% @Int.natCast_mul:= @Int.natCast_mul
theorem pj:type_of% @Int.natCast_nonneg:= @Int.natCast_nonneg
theorem mM:type_of% @Int.pow_succ:= @Int.pow_succ
theorem oa:type_of% @Int.pow_zero:= @Int.pow_zero
theorem oc:type_of% @Int.sub_zero:= @Int.sub_zero
theorem lD:type_of% @Int.tdiv_eq_ediv_of_nonneg:= @Int.tdiv_eq_ediv_of_nonneg
theorem jX:type_of% @Int.tmod_eq_emod_of_nonneg:= @Int.tmod_eq_emod_of_nonneg
theorem aa:type_of% @Int.toNat_natCast:= @Int.toNat_natCast
theorem bK:type_of% @Int.toNat_zero:= @Int.toNat_zero
theorem pX:type_of% @Int.zero_add:= @Int.zero_add
theorem jz:type_of% @List.Perm.refl:= @List.Perm.refl
theorem kG:type_of% @List.all_cons:= @List.all_cons
theorem fy:type_of% @List.all_eq_true:= @List.all_eq_true
theorem oe:type_of% @List.all_nil:= @List.all_nil
theorem nj:type_of% @List.any_cons:= @List.any_cons
theorem jr:type_of% @List.any_eq_false:= @List.any_eq_false
theorem bR:type_of% @List.append_assoc:= @List.append_assoc
theorem dg:type_of% @List.append_nil:= @List.append_nil
theorem iu:type_of% @List.cons.injEq:= @List.cons.injEq
theorem kz:type_of% @List.cons_append:= @List.cons_append
theorem lz:type_of% @List.drop_append:= @List.drop_append
theorem iX:type_of% @List.drop_drop:= @List.drop_drop
theorem aA:type_of% @List.drop_eq_getElem_cons:= @List.drop_eq_getElem_cons
theorem bH:type_of% @List.drop_length:= @List.drop_length
theorem gM:type_of% @List.drop_of_length_le:= @List.drop_of_length_le
theorem pY:type_of% @List.drop_take:= @List.drop_take
theorem aW:type_of% @List.drop_zero:= @List.drop_zero
theorem df:type_of% @List.eq_nil_of_length_eq_zero:= @List.eq_nil_of_length_eq_zero
theorem kA:type_of% @List.filter_append:= @List.filter_append
theorem ix:type_of% @List.filter_cons:= @List.filter_cons
theorem kY:type_of% @List.filter_eq_self:= @List.filter_eq_self
theorem lV:type_of% @List.flatten_cons:= @List.flatten_cons
theorem og:type_of% @List.flatten_nil:= @List.flatten_nil
theorem iv:type_of% @List.foldl_cons:= @List.foldl_cons
theorem oI:type_of% @List.getD_cons_succ:= @List.getD_cons_succ
theorem mh:type_of% @List.getD_cons_zero:= @List.getD_cons_zero
theorem aX:type_of% @List.getD_eq_getElem?_getD:= @List.getD_eq_getElem?_getD
theorem kk:type_of% @List.getElem?_append_left:= @List.getElem?_append_left
theorem mi:type_of% @List.getElem?_cons_succ:= @List.getElem?_cons_succ
theorem iT:type_of% @List.getElem?_cons_zero:= @List.getElem?_cons_zero
theorem kB:type_of% @List.getElem?_drop:= @List.getElem?_drop
theorem dB:type_of% @List.getElem?_eq_getElem:= @List.getElem?_eq_getElem
theorem ij:type_of% @List.getElem?_eq_none:= @List.getElem?_eq_none
theorem fE:type_of% @List.getElem?_eq_some_iff:= @List.getElem?_eq_some_iff
theorem jY:type_of% @List.getElem?_map:= @List.getElem?_map
theorem iD:type_of% @List.getElem?_set_ne:= @List.getElem?_set_ne
theorem fv:type_of% @List.getElem?_take:= @List.getElem?_take
theorem mj:type_of% @List.getElem_map:= @List.getElem_map
theorem ae:type_of% @List.length_append:= @List.length_append
theorem aN:type_of% @List.length_cons:= @List.length_cons
theorem iy:type_of% @List.length_drop:= @List.length_drop
theorem nu:type_of% @List.length_filter_le:= @List.length_filter_le
theorem b8:type_of% @List.length_map:= @List.length_map
theorem bJ:type_of% @List.length_nil:= @List.length_nil
theorem eo:type_of% @List.length_replicate:= @List.length_replicate
theorem ej:type_of% @List.length_set:= @List.length_set
theorem fO:type_of% @List.length_take:= @List.length_take
theorem lT:type_of% @List.map_append:= @List.map_append
theorem j5:type_of% @List.map_congr_left:= @List.map_congr_left
theorem cG:type_of% @List.map_cons:= @List.map_cons
theorem pZ:type_of% @List.map_map:= @List.map_map
theorem jg:type_of% @List.map_nil:= @List.map_nil
theorem cf:type_of% @List.mem_append:= @List.mem_append
theorem cH:type_of% @List.mem_cons:= @List.mem_cons
theorem bj:type_of% @List.mem_cons_of_mem:= @List.mem_cons_of_mem
theorem bq:type_of% @List.mem_cons_self:= @List.mem_cons_self
theorem jG:type_of% @List.mem_filter:= @List.mem_filter
theorem lK:type_of% @List.mem_iff_getElem?:= @List.mem_iff_getElem?
theorem eb:type_of% @List.mem_map:= @List.mem_map
theorem j6:type_of% @List.mem_map_of_mem:= @List.mem_map_of_mem
theorem eQ:type_of% @List.mem_of_getElem?:= @List.mem_of_getElem?
theorem pk:type_of% @List.mem_replicate:= @List.mem_replicate
theorem aR:type_of% @List.mem_singleton:= @List.mem_singleton
theorem bu:type_of% @List.nil_append:= @List.nil_append
theorem fR:type_of% @List.nodup_cons:= @List.nodup_cons
theorem lE:type_of% @List.nodup_nil:= @List.nodup_nil
theorem iF:type_of% @List.pairwise_cons:= @List.pairwise_cons
theorem ml:type_of% @List.pairwise_singleton:= @List.pairwise_singleton
theorem gr:type_of% @List.set_getElem_self:= @List.set_getElem_self
theorem eS:type_of% @List.singleton_append:= @List.singleton_append
theorem jZ:type_of% @List.size_toArray:= @List.size_toArray
theorem oh:type_of% @List.take_append:= @List.take_append
theorem fQ:type_of% @List.take_append_drop:= @List.take_append_drop
theorem kJ:type_of% @List.take_append_of_le_length:= @List.take_append_of_le_length
theorem cz:type_of% @List.take_length:= @List.take_length
theorem cn:type_of% @List.take_of_length_le:= @List.take_of_length_le
theorem mm:type_of% @List.take_take:= @List.take_take
theorem jA:type_of% @List.take_zero:= @List.take_zero
theorem gY:type_of% @Nat.add_assoc:= @Nat.add_assoc
theorem gN:type_of% @Nat.add_mul:= @Nat.add_mul
theorem mn:type_of% @Nat.add_sub_cancel_left:= @Nat.add_sub_cancel_left
theorem dE:type_of% @Nat.add_zero:= @Nat.add_zero
theorem mO:type_of% @Nat.eq_zero_or_pos:= @Nat.eq_zero_or_pos
theorem dD:type_of% @Nat.le_of_ble_eq_true:= @Nat.le_of_ble_eq_true
theorem aC:type_of% @Nat.le_refl:= @Nat.le_refl
theorem oo:type_of% @Nat.le_trans:= @Nat.le_trans
theorem nk:type_of% @Nat.lt_irrefl:= @Nat.lt_irrefl
theorem p9:type_of% @Nat.lt_or_ge:= @Nat.lt_or_ge
theorem jH:type_of% @Nat.min_eq_left:= @Nat.min_eq_left
theorem oq:type_of% @Nat.mod_eq_of_lt:= @Nat.mod_eq_of_lt
theorem eR:type_of% @Nat.mul_le_mul_right:= @Nat.mul_le_mul_right
theorem lW:type_of% @Nat.mul_mod:= @Nat.mul_mod
theorem kb:type_of% @Nat.mul_one:= @Nat.mul_one
theorem kK:type_of% @Nat.one_mul:= @Nat.one_mul
theorem nK:type_of% @Nat.pow_add:= @Nat.pow_add
theorem lM:type_of% @Nat.sub_eq_zero_of_le:= @Nat.sub_eq_zero_of_le
theorem bl:type_of% @Nat.zero_add:= @Nat.zero_add
theorem bm:type_of% @Nat.zero_le:= @Nat.zero_le
theorem mo:type_of% @Nat.zero_lt_succ:= @Nat.zero_lt_succ
theorem mP:type_of% @Nat.zero_mul:= @Nat.zero_mul
theorem gj:type_of% @Option.getD_some:= @Option.getD_some
theorem dj:type_of% @Option.isSome_iff_exists:= @Option.isSome_iff_exists
theorem iG:type_of% @Option.map_eq_some_iff:= @Option.map_eq_some_iff
theorem jd:type_of% @Option.map_some:= @Option.map_some
theorem cM:type_of% @Option.some.inj:= @Option.some.inj
theorem aE:type_of% @Option.some.injEq:= @Option.some.injEq
theorem eN:type_of% @Prod.mk.injEq:= @Prod.mk.injEq
theorem mr:type_of% @Sum.getLeft?_inl:= @Sum.getLeft?_inl
theorem gO:type_of% @Sum.getRight?_inr:= @Sum.getRight?_inr
theorem nL:type_of% @Sum.isLeft_inl:= @Sum.isLeft_inl
theorem iZ:type_of% @Sum.isLeft_inr:= @Sum.isLeft_inr
end Go.Ab
namespace Go.Ab
inductive Ty where
 |int (k:IntKind) | bool | str | slice (t:Ty) | unit | pair (a b:Ty) | arr (n:Nat) (t:Ty)
 |kg (t:Ty)
 deriving DecidableEq,Inhabited
@[reducible] def Ty.den:Ty->Type
 | .int _=>Int
 | .bool=>Bool
 | .str=>ByteArray
 | .slice t=>List t.den
 | .unit=>Unit
 | .pair a b=>a.den×b.den
 | .arr _ t=>List t.den
 | .kg t=>Option (List t.den)
def Ty.size:Ty->Nat
 | .unit=>0
 | .pair a b=>a.size+b.size
 | .arr n t=>n*t.size
 | .int _ | .bool | .str | .slice _ | .kg _=>1
def Ty.agg:Ty->Bool
 | .unit | .pair _ _ | .arr _ _=>true
 | .int _ | .bool | .str | .slice _ | .kg _=>false
def Ty.zero:(t:Ty)->t.den
 | .int _=>(0:Int)
 | .bool=>false
 | .str=>ByteArray.empty
 | .slice _=> []
 | .unit=>()
 | .pair a b=>(a.zero,b.zero)
 | .arr n t=>List.replicate n t.zero
 | .kg _=>none
def Ty.comp:Ty->Bool
 | .slice _ | .kg _=>false
 | .pair a b=>a.comp && b.comp
 | .arr _ t=>t.comp
 | .int _ | .bool | .str | .unit=>true
def mW{α:Type}(f:α->α->Bool):List α->List α->Bool
 |[],[]=>true
 |x::xs,y::ys=>f x y && mW f xs ys
 |_,_=>false
def Ty.beq:(t:Ty)->t.den->t.den->Bool
 | .int _,x,y=>(x:Int)==y
 | .bool,x,y=>(x:Bool)==y
 | .str,x,y=>(x:ByteArray).toList==(y:ByteArray).toList
 | .slice t,x,y=>mW t.beq x y
 | .unit,_,_=>true
 | .pair a b,x,y=>a.beq x.1 y.1 && b.beq x.2 y.2
 | .arr _ t,x,y=>mW t.beq x y
 | .kg t,x,y=>mW t.beq (x.getD []) (y.getD [])
def qF(t t':Ty)(x:t.den):Option t'.den:=if h:t=t' then some (h▸x) else none
def DI:(a b:Ty)->Option (a.den->b.den)
 | .kg t,.slice t'=>if h:t=t' then some λo=>cast (congrArg (λt:Ty=>List t.den) h) (o.getD []) else none
 | .slice t,.kg t'=>if h:t=t' then some λl=>some (cast (congrArg (λt:Ty=>List t.den) h) l) else none
 | .pair a b,.pair c d=>match DI a c,DI b d with
  |some f,some k=>some λx=>(f x.1,k x.2)
  |_,_=>none
 | .slice a,.slice b=>match DI a b with
  |some f=>some (List.map f)
  |none=>none
 |a,b=>if h:a=b then some (cast (congrArg Ty.den h)) else none
def Vm(a b:Ty)(x:a.den):b.den:=match DI a b with | some f=>f x | none=>b.zero
def vT(t t':Ty)(x:t.den):Option t'.den:=
 match qF t t' x with
 |some y=>some y
 |none=>match DI t t' with
  |some f=>some (f x)
  |none=>none
def nth(t:Ty)(l:List t.den)(i:Nat):t.den:=l.getD i t.zero
inductive Id where
 |ew (k:Nat)
 |new (site j:Nat)
 deriving DecidableEq,Inhabited
inductive xy where
 |fst | snd
 |idx (i:Nat)
 |arr
inductive aH where
 |undef
 |gone
 |eV | o6 | rP | uw
 |d (t:Ty) (x:t.den)
 |pr (a b:aH)
 |ptr (id:Id) (ver:Nat) (p:List xy) (n:Nat)
 |gE (t:Ty) (x:t.den)
 |dh (id:Id) (ver:Nat) (p:List xy) (c i len:Nat)
 |fn (f:FuncId) (caps:aH)
 |cons (a b:aH)
 |nil
 |vec (e:TypeId) (t:Ty) (l:List t.den)
 |sb (l:List Int)
 |bx (e:TypeId) (z:Nat) (c:aH)
 |kO (id:Id) (ver:Nat)
 |mp (k v:Ty) (l:List (k.den×v.den))
 |qd (q:Id) (ver:Nat) (k v:Ty) (rest:List (k.den×v.den)) (cur:Option (k.den×v.den))
inductive gU where
 |dead
 |obj (ver:Nat) (fr:Bool) (c:aH)
structure AS where
 dU:List aH
 ez:List gU
 news:List (List gU)
def bG(n:Nat)(l:List aH):List aH:=List.replicate n .undef++l
def db(n:Nat)(l:List (List gU)):List (List gU):=List.replicate n []++l
inductive Out(α:Type):Type 1 where
 |ok (a:α)
 |fail
 |pq (c:Bool) (r:Out α)
 |get {β:Type} (x:Option β) (f:β->Out α)
 |br (c:Bool) (a b:Out α)
def Out.eval{α:Type}:Out α->Option α
 | .ok a=>some a
 | .fail=>none
 | .pq c r=>match c with | true=>r.eval | false=>none
 | .get x f=>match x with | some y=>(f y).eval | none=>none
 | .br c a b=>match c with | true=>a.eval | false=>b.eval
def aJ{α:Type}(c:Bool)(x y:Option α):Option α:=match c with | true=>x | false=>y
def aj{α β:Type}(x:Option α)(f:α->Option β):Option β:=match x with | some a=>f a | none=>none
def Out.run{α R:Type}:Out α->(α->Option R)->Option R
 | .ok a,k=>k a
 | .fail,_=>none
 | .pq c r,k=>aJ c (r.run k) none
 | .get x f,k=>aj x λy=>(f y).run k
 | .br c a b,k=>aJ c (a.run k) (b.run k)
def Out.bind{α β:Type}:Out α->(α->Out β)->Out β
 | .ok a,f=>f a
 | .fail,_=> .fail
 | .pq c r,f=> .pq c (r.bind f)
 | .get x g,f=> .get x λy=>(g y).bind f
 | .br c a b,f=> .br c (a.bind f) (b.bind f)
def Out.opt{α:Type}:Option α->Out α
 |some a=> .ok a
 |none=> .fail
def Out.guard{α:Type}(c:Bool)(r:Out α):Out α:=match c with | true=>r | false=> .fail
def aH.size:aH->Nat
 | .d t _=>t.size
 | .pr a b=>a.size+b.size
 |_=>1
def aH.agg:aH->Bool
 | .d t _=>t.agg
 | .pr _ _=>true
 |_=>false
def aH.iA:aH->Bool
 | .undef | .cons _ _ | .nil | .vec .. | .bx .. | .mp .. | .qd .. =>false
 |_=>true
def aH.strip:aH->aH
 | .bx _ _ c=>c
 |c=>c
def aH.wrap:aH->aH->aH
 | .bx e z _,c=> .bx e z c
 |_,c=>c
def yL:aH->aH->aH
 | .d a x,.d b y=> .d (.pair a b) (x,y)
 |a,b=> .pr a b
def ofConst:Value->aH
 | .bool b=> .d .bool b
 | .int k n=> .d (.int k) n
 | .string s=> .d .str s
 | .slice none 0 0=> .eV
 | .pointer none=> .o6
 | .nilFunc=> .rP
 | .map none=> .uw
 |_=> .undef
def AS.slot(s:AS)(i:Nat):aH:=s.dU.getD i .undef
def AS.ev(s:AS):Operand->aH
 | .tmp t=>s.slot t
 | .const v=>ofConst v
 | .func f=> .fn f .nil
 | .global _=> .undef
def AS.put(s:AS)(dst:Option Tmp)(v:aH):AS:=
 match dst with
 |some t=> {s with dU:=s.dU.set t v}
 |none=>s
def AS.dx(s:AS):Id->Option gU
 | .ew k=>s.ez[k]?
 | .new i j=>(s.news.getD i [])[j]?
def AS.bM(s:AS)(id:Id)(e:gU):AS:=
 match id with
 | .ew k=> {s with ez:=s.ez.set k e}
 | .new i j=> {s with news:=s.news.set i ((s.news.getD i []).set j e)}
def AS.gd(s:AS)(i:Nat):Bool:=match s.news[i]? with | some []=>true | _=>false
def AS.born(s:AS)(i:Nat)(es:List gU):AS:= {s with news:=s.news.set i es}
def AS.obj(s:AS)(id:Id):Option (Nat×Bool×aH):=
 match s.dx id with
 |some (.obj v f c)=>some (v,f,c)
 |_=>none
def E4(P:Program)(nl:Bool):Nat->TypeId->Option Ty
 | 0,_=>none
 |n+1,T=>
  match P.underlying T with
  |some (.int k)=>some (.int k)
  |some .bool=>some .bool
  |some .string=>some .str
  |some (.slice e)=>match E4 P false n e with | some t=>some (match nl with | true=> .kg t | false=> .slice t) | none=>none
  |some (.array k e)=>match E4 P nl n e with | some t=>some (.arr k t) | none=>none
  |some (.struct fs)=>fs.toList.foldr (λf acc=>match E4 P nl n f.type,acc with | some a,some b=>some (.pair a b) | _,_=>none) (some .unit)
  |_=>none
def Il(P:Program):Nat->TypeId->Option Ty:=E4 P false
def zeroOf(P:Program):Nat->TypeId->Option aH
 | 0,_=>none
 |n+1,T=>
  match P.underlying T with
  |some (.int k)=>some (.d (.int k) (0:Int))
  |some .bool=>some (.d .bool false)
  |some .string=>some (.d .str ByteArray.empty)
  |some (.slice _)=>some .eV
  |some (.pointer _)=>some .o6
  |some (.map _ _)=>some .uw
  |some (.func _ _ _)=>some .rP
  |some (.array k e)=>match Il P n e with | some t=>some (.d (.arr k t) (List.replicate k t.zero)) | none=>none
  |some (.struct fs)=>fs.toList.foldr (λf acc=>match zeroOf P n f.type,acc with | some a,some b=>some (yL a b) | _,_=>none) (some (.d .unit ()))
  |_=>none
def depth:Nat:=12
def fits(P:Program)(T:TypeId)(v:aH):Bool:=
 v.iA && (P.cellsOf T==v.size) &&
 (match P.underlying T with | some (.struct _)=>v.agg | some (.array _ _)=>v.agg | some _=> !v.agg | none=>false)
def nq:Nat->List xy
 | 0=> [.fst]
 |n+1=> .snd::nq n
def loc:aH->List xy->Out (Nat×aH)
 |c,[]=> .ok (0,c)
 |c,.arr::p=>loc c p
 | .pr a _,.fst::p=>loc a p
 | .pr a b,.snd::p=>(loc b p).bind λ(n,v)=> .ok (a.size+n,v)
 | .d (.pair a _) x,.fst::p=>loc (.d a x.1) p
 | .d (.pair a b) x,.snd::p=>(loc (.d b x.2) p).bind λ(n,v)=> .ok (a.size+n,v)
 | .d (.arr _ t) l,.idx i::p=> .pq (decide (i < (l:List t.den).length)) ((loc (.d t (nth t l i)) p).bind λ(n,v)=> .ok (i*t.size+n,v))
 | .vec _ t l,.idx i::p=> .pq (decide (i < l.length)) ((loc (.d t (nth t l i)) p).bind λ(n,v)=> .ok (i*t.size+n,v))
 |_,_::_=> .fail
def tY:aH->List xy->aH->Out aH
 |c,.arr::p,v=>tY c p v
 | .vec ..,[],_=> .fail
 | .mp ..,[],_=> .fail
 | .qd ..,[],_=> .fail
 |c,[],v=> .guard (v.iA && (c.size==v.size)) (.ok v)
 | .pr a b,.fst::p,v=>(tY a p v).bind λa'=> .ok (yL a' b)
 | .pr a b,.snd::p,v=>(tY b p v).bind λb'=> .ok (yL a b')
 | .d (.pair a b) x,.fst::p,v=>(tY (.d a x.1) p v).bind λa'=> .ok (yL a' (.d b x.2))
 | .d (.pair a b) x,.snd::p,v=>(tY (.d b x.2) p v).bind λb'=> .ok (yL (.d a x.1) b')
 | .d (.arr n t) l,.idx i::p,v=> .pq (decide (i < (l:List t.den).length)) ((tY (.d t (nth t l i)) p v).bind fun
   | .d t' y=>(Out.opt (qF t' t y)).bind λy=> .ok (.d (.arr n t) ((l:List t.den).set i y))
   |_=> .fail)
 | .vec e t l,.idx i::p,v=> .pq (decide (i < l.length)) ((tY (.d t (nth t l i)) p v).bind fun
   | .d t' y=>(Out.opt (qF t' t y)).bind λy=> .ok (.vec e t (l.set i y))
   |_=> .fail)
 |_,_::_,_=> .fail
def AS.row(s:AS)(id:Id)(ver:Nat)(p:List xy):Out (Nat×(t:Ty)×List t.den):=
 match s.obj id with
 |some (v,_,c)=> .guard (v==ver) ((loc c.strip p).bind fun
  | (n,.d (.arr _ t) l)=> .ok (n,⟨t,l⟩)
  | (n,.vec _ t l)=> .ok (n,⟨t,l⟩)
  |_=> .fail)
 |none=> .fail
def cut{α:Type}(l:List α)(i len:Nat):List α:=(l.drop i).take len
def AS.kQ(s:AS):(t:Ty)->aH->Out t.den
 |t,.d t' x=>Out.opt (vT t' t x)
 | .slice _,.eV=> .ok []
 | .kg _,.eV=> .ok none
 | .slice t,.dh id ver p c i len=>(s.row id ver p).bind λr=> .pq (decide (r.1+i*r.2.1.size=c/\i+len<=r.2.2.length)) (Out.opt (vT (.slice r.2.1) (.slice t) (cut r.2.2 i len)))
 | .kg t,.dh id ver p c i len=>(s.row id ver p).bind λr=> .pq (decide (r.1+i*r.2.1.size=c/\i+len<=r.2.2.length)) (Out.opt (vT (.slice r.2.1) (.kg t) (cut r.2.2 i len)))
 | .pair a b,.pr x y=>(s.kQ a x).bind λx=>(s.kQ b y).bind λy=> .ok (x,y)
 |_,_=> .fail
def aH.shared:aH->List Id
 | .dh id _ _ _ _ _=> [id]
 | .pr a b=>a.shared++b.shared
 |_=> []
def AS.freeze(s:AS)(id:Id):AS:=
 match s.dx id with
 |some (.obj v _ c)=>s.bM id (.obj v true c)
 |_=>s
def AS.cm(s:AS):List Id->AS
 |[]=>s
 |id::ids=>(s.freeze id).cm ids
end Go.Ab
namespace Go.Ab
def MX{α:Type}(f:α->List Value->Option (List Value)):List α->List Value->Option (List Value)
 |[],cs=>some cs
 |x::xs,cs=>match f x cs with | some r=>MX f xs r | none=>none
def tI:(t:Ty)->t.den->List Value->Option (List Value)
 | .int k,x,.int k' n::r=>match decide (k=k'),decide (n=(x:Int)) with | true,true=>some r | _,_=>none
 | .bool,x,.bool b::r=>match decide (b=(x:Bool)) with | true=>some r | false=>none
 | .str,x,.string s::r=>match decide (s=(x:ByteArray)) with | true=>some r | false=>none
 | .slice _,[],.slice none 0 0::r=>some r
 | .kg _,none,.slice none 0 0::r=>some r
 | .unit,_,r=>some r
 | .pair a b,x,r=>match tI a x.1 r with | some r'=>tI b x.2 r' | none=>none
 | .arr n t,l,r=>match decide ((l:List t.den).length=n) with | true=>MX (tI t) l r | false=>none
 |_,_,_=>none
def Bh:aH->List Value->Option (List Value)
 | .d t x,r=>tI t x r
 | .eV,.slice none 0 0::r=>some r
 | .o6,.pointer none::r=>some r
 | .rP,.nilFunc::r=>some r
 | .uw,.map none::r=>some r
 | .pr a b,r=>match Bh a r with | some r'=>Bh b r' | none=>none
 |_,_=>none
def pC:Value->Bool | .agg _=>true | _=>false
def Gj(P:Program)(T:TypeId)(z:aH):Bool:=
 match P.info? T with
 |some i=>match i.zero with
  |some zv=>(match Bh z zv.cells.toList with | some []=>true | _=>false) && (pC zv==z.agg)
  |none=>false
 |none=>false
structure aZ where
 val:aH
 ez:List gU
 news:List gU
structure Entry where
 params:List (Option Ty)
 X:Type
 run:List aH->List gU->Option X
 out:List aH->List gU->X->aZ
 sp:X->Out X:= .ok
 Oq:∀x y,(sp x).eval=some y->y=x:=by exact λx y h=>(cM h).symm
abbrev fD:=FuncId->List aH->Option Entry
def aH.ids:aH->List Id
 | .ptr id _ _ _=> [id]
 | .dh id _ _ _ _ _=> [id]
 | .pr a b=>a.ids++b.ids
 | .cons a b=>a.ids++b.ids
 | .fn _ c=>c.ids
 | .bx _ _ c=>c.ids
 | .kO id _=> [id]
 | .qd id _ _ _ _ _=> [id]
 |_=> []
def gU.ids:gU->List Id
 | .obj _ _ c=>c.ids
 | .dead=> []
def AS.reach(s:AS):Nat->List Id->List Id->List Id
 | 0,_,acc=>acc
 |_+1,[],acc=>acc
 |n+1,id::todo,acc=>if acc.contains id then s.reach n todo acc else s.reach n (((s.dx id).getD .dead).ids++todo) (acc++ [id])
def idxOf(id:Id):List Id->Option Nat
 |[]=>none
 |x::xs=>if x=id then some 0 else(idxOf id xs).map (· +1)
def aH.mg(ρ:Id->Nat->Option (Id×Nat)):aH->aH
 | .ptr id ver p n=>match ρ id ver with | some r=> .ptr r.1 r.2 p n | none=> .gone
 | .dh id ver p c i len=>match ρ id ver with | some r=> .dh r.1 r.2 p c i len | none=> .gone
 | .pr a b=> .pr (a.mg ρ) (b.mg ρ)
 | .cons a b=> .cons (a.mg ρ) (b.mg ρ)
 | .fn f c=> .fn f (c.mg ρ)
 | .bx e z c=> .bx e z (c.mg ρ)
 | .kO id ver=>match ρ id ver with | some r=> .kO r.1 r.2 | none=> .gone
 | .qd id _ k v rest cur=> .qd id 0 k v rest cur
 |v=>v
def AS.rY(s:AS)(ids:List Id)(id:Id)(ver:Nat):Option (Id×Nat):=
 match idxOf id ids,s.obj id with
 |some k,some (v,_,_)=>if v=ver then some (.ew k,0) else none
 |_,_=>none
def AS.nP(s:AS)(ids:List Id)(id:Id):gU:=
 match s.dx id with
 |some (.obj _ fr c)=> .obj 0 fr (c.mg (s.rY ids))
 |_=> .dead
def AS.tA(s:AS)(id:Id):Nat:=match s.obj id with | some (v,_,_)=>v | none=>0
def Qs(ids:List Id)(dst:Nat):Id->Id
 | .ew k=>ids.getD k (.ew 0)
 | .new _ j=> .new dst j
def AS.qN(s:AS)(ids:List Id)(dst:Nat):Id->Nat->Option (Id×Nat)
 | .ew k,v=>match ids[k]? with | some id=>some (id,s.tA id+v) | none=>none
 | .new _ j,v=>some (.new dst j,v)
def AS.pv(s:AS)(ids:List Id)(dst:Nat)(ver:Nat):gU->gU
 | .obj v fr c=> .obj (ver+v) fr (c.mg (s.qN ids dst))
 | .dead=> .dead
def AS.conv(s:AS):List (Option Ty)->List aH->Out (List aH×List Id)
 |[],[]=> .ok ([],[])
 |some t::ps,v::vs=>(s.kQ t v).bind λx=>(s.conv ps vs).bind λr=> .ok (.d t x::r.1,v.shared++r.2)
 |none::ps,v::vs=>(s.conv ps vs).bind λr=> .ok (v::r.1,r.2)
 |_,_=> .fail
def AS.lj(s0:AS)(all:List Id)(dst:Nat)(s:AS):List Id->List gU->AS
 |id::ids,e::es=>AS.lj s0 all dst (s.bM id (s0.pv all dst (s0.tA id) e)) ids es
 |_,_=>s
def aH.list:aH->List aH
 | .cons a b=>a::b.list
 |_=> []
def AS.made(s:AS)(ids:List Id)(t:Nat):List gU->AS
 |[]=>s
 |e::es=>s.born t ((e::es).map (s.pv ids t 0))
def AS.back(s:AS)(ids:List Id)(dst:Option Tmp)(g:aZ):Out AS:=
 match dst with
 |some t=> .guard ((g.ez.length==ids.length) && (g.news.isEmpty || s.gd t))
   (.ok ((AS.lj s ids t (s.made ids t g.news) ids g.ez).put dst (g.val.mg (s.qN ids t))))
 |none=> .guard ((g.ez.length==ids.length) && g.news.isEmpty) (.ok (AS.lj s ids 0 s ids g.ez))
def AS.Kp(s:AS)(vs:List aH):List Id:=s.reach 64 (vs.flatMap aH.ids) []
def AS.Cx(s:AS)(id:Id):Bool:=match s.obj id with | some (_,true,.mp ..)=>false | _=>true
def AS.enter(s:AS)(en:Entry)(dst:Option Tmp)(ids:List Id)(vs:List aH):Out AS:=
 .guard (ids.all λid=>(s.obj id).isSome && s.Cx id)
  (.get (en.run (vs.map (aH.mg (s.rY ids))) (ids.map (s.nP ids))) λx=>(en.sp x).bind λx=>s.back ids dst (en.out (vs.map (aH.mg (s.rY ids))) (ids.map (s.nP ids)) x))
def AS.call(s:AS)(en:Entry)(dst:Option Tmp)(vs:List aH):Out AS:=
 (s.conv en.params vs).bind λr=>(s.cm r.2).enter en dst ((s.cm r.2).Kp r.1) r.1
def dC(op:BinOp)(k:IntKind)(x y:Int):Int:=
 match op with
 | .and=>k.wrap ((BitVec.ofInt k.bits x &&& BitVec.ofInt k.bits y).toNat)
 | .or=>k.wrap ((BitVec.ofInt k.bits x ||| BitVec.ofInt k.bits y).toNat)
 | .xor=>k.wrap ((BitVec.ofInt k.bits x^^^BitVec.ofInt k.bits y).toNat)
 |_=>k.wrap ((BitVec.ofInt k.bits x &&& ~~~BitVec.ofInt k.bits y).toNat)
def Np(op:BinOp)(k:IntKind)(x:Int)(k':IntKind)(y:Int):Out aH:=
 match op with
 | .shl=> .pq (decide (0<=y)) (.ok (.d (.int k) (k.wrap (x*2^(min y.toNat k.bits)))))
 | .shr=> .pq (decide (0<=y)) (.ok (.d (.int k) (x.fdiv (2^(min y.toNat k.bits)))))
 |_=> .guard (decide (k=k')) (match op with
  | .add=> .ok (.d (.int k) (k.wrap (x+y)))
  | .sub=> .ok (.d (.int k) (k.wrap (x - y)))
  | .mul=> .ok (.d (.int k) (k.wrap (x*y)))
  | .quo=> .pq (!(decide (y=0))) (.ok (.d (.int k) (k.wrap (x.tdiv y))))
  | .rem=> .pq (!(decide (y=0))) (.ok (.d (.int k) (x.tmod y)))
  | .eql=> .ok (.d .bool (x==y))
  | .neq=> .ok (.d .bool (x !=y))
  | .lss=> .ok (.d .bool (decide (x < y)))
  | .leq=> .ok (.d .bool (decide (x<=y)))
  | .gtr=> .ok (.d .bool (decide (x > y)))
  | .geq=> .ok (.d .bool (decide (x>=y)))
  |op=> .ok (.d (.int k) (dC op k x y)))
def Ou(op:BinOp)(x y:ByteArray):Out aH:=
 match op with
 | .add=> .pq (decide (((x.size+y.size:Nat):Int)<=IntKind.i64.max)) (.ok (.d .str (x++y)))
 | .eql=> .ok (.d .bool (x.toList==y.toList))
 | .neq=> .ok (.d .bool (!(x.toList==y.toList)))
 | .lss=> .ok (.d .bool (Op.bytesLess x.toList y.toList))
 | .geq=> .ok (.d .bool (!(Op.bytesLess x.toList y.toList)))
 |_=> .fail
def xR(P:Program)(T:TypeId)(b:Bool):Bool:=
 match P.underlying T with | some (.struct _)=>b | some (.array _ _)=>b | some _=> !b | none=>false
def xF(P:Program)(pq:TypeId->Ty->Bool):List Field->Ty->Nat->Bool
 |[],.unit,_=>true
 |f::fs,.pair a b,off=> !(f.name== "_") && (f.offset==off) && !(a.size==0) && (P.cellsOf f.type==a.size) && xR P f.type a.agg && pq f.type a && xF P pq fs b (off+a.size)
 |_,_,_=>false
def pK(P:Program):Nat->TypeId->Ty->Bool
 | 0,_,_=>false
 |n+1,T,t=>match P.underlying T,t with
  |some (.int _),.int _=>true
  |some .bool,.bool=>true
  |some .string,.str=>true
  |some (.array m e),.arr m' t'=>(m==m') && !(t'.size==0) && (P.cellsOf e==t'.size) && xR P e t'.agg && pK P n e t'
  |some (.struct fs),t=> !P.stoodInHeld T && xF P (pK P n) fs.toList t 0
  |_,_=>false
def uj(P:Program)(T:TypeId):aH->aH->Out Bool
 | .d t x,.d t' y=>(Out.opt (qF t' t y)).bind λy=> .guard ((t.agg && !P.eqGuardType P.depth T || decide (t= .bool)) && pK P depth T t) (.ok (t.beq x y))
 | .eV,.eV=> .guard (isSl P T) (.ok true)
 | .d (.slice t) l,.eV=> .guard (isSl P T) (.pq (decide (0 < (l:List t.den).length)) (.ok false))
 | .eV,.d (.slice t) l=> .guard (isSl P T) (.pq (decide (0 < (l:List t.den).length)) (.ok false))
 | .dh _ _ _ _ _ len,.eV=> .guard (isSl P T) (.pq (decide (0 < len)) (.ok false))
 | .eV,.dh _ _ _ _ _ len=> .guard (isSl P T) (.pq (decide (0 < len)) (.ok false))
 | .o6,.o6=> .guard (isPt P T) (.ok true)
 | .ptr ..,.o6=> .guard (isPt P T) (.ok false)
 | .o6,.ptr .. => .guard (isPt P T) (.ok false)
 | .rP,.rP=> .guard (isFn P T) (.ok true)
 | .fn ..,.rP=> .guard (isFn P T) (.ok false)
 | .rP,.fn .. => .guard (isFn P T) (.ok false)
 |_,_=> .fail
where
 isSl (P:Program) (T:TypeId):Bool:=match P.underlying T with | some (.slice _)=>true | _=>false
 isPt (P:Program) (T:TypeId):Bool:=match P.underlying T with | some (.pointer _)=>true | _=>false
 isFn (P:Program) (T:TypeId):Bool:=match P.underlying T with | some (.func _ _ _)=>true | _=>false
def Q9(P:Program)(T:TypeId)(op:BinOp)(x y:aH):Out aH:=
 match x,y with
 | .d (.int k) a,.d (.int k') b=>Np op k a k' b
 | .d .str a,.d .str b=>Ou op a b
 |x,y=>match op with
  | .eql=>(uj P T x y).bind λb=> .ok (.d .bool b)
  | .neq=>(uj P T x y).bind λb=> .ok (.d .bool (!b))
  |_=> .fail
def Vf(op:UnOp)(x:aH):Out aH:=
 match op,x with
 | .not,.d .bool b=> .ok (.d .bool (!b))
 | .neg,.d (.int k) n=> .ok (.d (.int k) (k.wrap (0 - n)))
 | .xor,.d (.int k) n=> .ok (.d (.int k) (dC .xor k (if k.signed then -1 else k.max) n))
 |_,_=> .fail
def cr(s:ByteArray):List Int:=s.data.toList.map λb=>(b.toNat:Int)
def kC(l:List Int):ByteArray:=⟨(l.map λn=>UInt8.ofNat n.toNat).toArray⟩
def AS.Jo(s:AS)(t:Ty)(v:aH):Out t.den:=s.kQ t v
def MS(P:Program)(s:AS)(obj:Bool)(src dst:TypeId)(x:aH):Out aH:=
 match x,P.underlying dst,P.underlying src with
 | .d (.int _) n,some (.int k),some _=> .ok (.d (.int k) (k.wrap n))
 | .d .str a,some .string,some _=> .ok (.d .str a)
 | .d .str a,some (.slice e),some _=>match P.underlying e with
  |some (.int .u8)=>match obj with | true=> .ok (.sb (cr a)) | false=> .ok (.d (.slice (.int .u8)) (cr a))
  |_=> .fail
 |x,some .string,some (.slice e)=>match P.underlying e with
  |some (.int .u8)=>(s.Jo (.slice (.int .u8)) x).bind λl=> .ok (.d .str (kC l))
  |_=> .fail
 |_,_,_=> .fail
def MT(P:Program)(src dst:TypeId)(l:List Int):Out aH:=
 match P.underlying dst,P.underlying src with
 |some (.slice e),some (.slice _)=>match P.underlying e with
  |some (.int .u8)=> .guard (src==dst) (.ok (.d (.slice (.int .u8)) l))
  |_=> .fail
 |_,_=> .fail
def Es(P:Program)(s:AS)(obj:Bool)(src dst:TypeId)(x:aH):Out aH:=
 match x with
 | .sb l=>MT P src dst l
 |x=>MS P s obj src dst x
def GO(P:Program)(s:AS)(d:Option Tmp)(src dst:TypeId)(id:Id)(ver len:Nat):Out AS:=
 match s.obj id,P.underlying dst with
 |some (v,false,.vec _ (.int .u8) l),some (.slice e)=>match P.underlying e with
  |some (.int .u8)=> .guard ((v==ver) && (src==dst)) (.pq (decide (0 < len/\len=(l:List Int).length)) (.ok ((s.bM id .dead).put d (.d (.slice (.int .u8)) l))))
  |_=> .fail
 |_,_=> .fail
def Et(P:Program)(s:AS)(src dst:TypeId)(id:Id)(ver:Nat):Out aH:=
 match s.obj id with
 |some (v,_,.bx e 0 c)=>match P.underlying src,P.underlying dst with
  |some (.pointer t),some .unsafePointer=> .guard ((v==ver) && !(P.cellsOf t==0) && !(c.size==0)) (.ok (.ptr id ver [] 0))
  |some .unsafePointer,some (.pointer u)=> .guard ((v==ver) && !(P.cellsOf u==0) && liesAt P P.depth e (c.size / P.cellsOf e) 0 u 1) (.ok (.ptr id ver [] 0))
  |_,_=> .fail
 |_=> .fail
def Uz(P:Program)(T:TypeId):Bool:=match P.underlying T with | some (.pointer u)=>(P.info? u).isSome | _=>false
def SP(P:Program)(s:AS)(T:TypeId)(op:BinOp)(i:Id)(v:Nat)(j:Id)(w:Nat):Out aH:=
 match s.obj i with
 |some (v',_,_)=> .guard (decide (i=j) && (v==w) && (v==v') && Uz P T) (match op with | .eql=> .ok (.d .bool true) | .neq=> .ok (.d .bool false) | _=> .fail)
 |none=> .fail
def Ih(P:Program)(s:AS)(d:Option Tmp)(T:TypeId)(id:Id)(ver:Nat)(n:Int):Out AS:=
 match s.obj id,P.underlying T with
 |some (v,false,.vec e (.int .u8) l),some (.pointer u)=> .guard ((v==ver) && (u==e) && (P.cellsOf e==1))
   (.pq (decide (0 < n/\n<=((l:List Int).length:Int))) (.ok ((s.bM id .dead).put d (.d .str (kC ((l:List Int).take n.toNat))))))
 |_,_=> .fail
def asInt:aH->Out Int
 | .d (.int _) n=> .ok n
 |_=> .fail
def bounds(s:AS)(n:Nat)(lo hi:Option Operand):Out (Nat×Nat):=
 (match hi with
  |some h=>(asInt (s.ev h)).bind λh=> .pq (decide (0<=h/\h<=(n:Int))) (.ok h.toNat)
  |none=> .ok n).bind λh=>
 (match lo with
  |some l=>(asInt (s.ev l)).bind λl=> .pq (decide (0<=l/\l<=(h:Int))) (.ok l.toNat)
  |none=> .ok 0).bind λl=> .ok (l,h)
def lY(P:Program)(T:TypeId):Option Nat:=
 match P.underlying T with
 |some (.array _ e)=>match P.cellsOf e with | 0=>none | z+1=>some (z+1)
 |some (.slice e)=>match P.cellsOf e with | 0=>none | z+1=>some (z+1)
 |_=>none
def rW(P:Program)(T:TypeId):Option Nat:=
 match P.underlying T with
 |some (.array n _)=>some n
 |_=>none
def yd(P:Program)(s:AS)(T:TypeId)(x:aH)(lo hi:Option Operand):Out aH:=
 match x with
 | .d .str a=> .guard (match P.underlying T with | some .string=>true | _=>false) ((bounds s a.size lo hi).bind λb=> .ok (.d .str (a.extract b.1 b.2)))
 | .d (.slice t) l=> .guard (match lY P T,rW P T with | some z,none=>z==t.size | _,_=>false)
   ((bounds s (l:List t.den).length lo hi).bind λb=> .ok (.d (.slice t) (cut l b.1 (b.2 - b.1))))
 | .eV=> .guard (match lY P T,rW P T with | some _,none=>true | _,_=>false) ((bounds s 0 lo hi).bind λ_=> .ok .eV)
 | .dh id ver p c i len=>(s.row id ver p).bind λr=> .guard (match lY P T,rW P T with | some z,none=>z==r.2.1.size | _,_=>false)
   ((bounds s len lo hi).bind λb=> .ok (.dh id ver p (c+b.1*r.2.1.size) (i+b.1) (b.2 - b.1)))
 | .ptr id ver p n=>(s.row id ver p).bind λr=> .guard (match lY P T,rW P T with | some z,some _=>z==r.2.1.size | _,_=>false)
   (.pq (decide (rW P T=some r.2.2.length/\r.1=n)) ((bounds s ((rW P T).getD 0) lo hi).bind λb=> .ok (.dh id ver (p++ [.arr]) (n+b.1*r.2.1.size) b.1 (b.2 - b.1))))
 | .gE (.arr n t) l=> .guard (match lY P T,rW P T with | some z,some m=>(z==t.size) && (m==n) | _,_=>false)
   ((bounds s n lo hi).bind λb=> .ok (.d (.slice t) (cut l b.1 (b.2 - b.1))))
 |_=> .fail
def pB(P:Program)(s:AS)(T:TypeId)(x:aH)(i:Int):Out aH:=
 match x with
 | .d (.slice t) l=> .guard (match lY P T,rW P T with | some z,none=>z==t.size | _,_=>false)
   (.pq (decide (0<=i/\i < ((l:List t.den).length:Int))) (.ok (.gE t (nth t l i.toNat))))
 | .gE (.arr n t) l=> .guard (match lY P T,rW P T with | some z,some m=>(z==t.size) && (m==n) | _,_=>false)
   (.pq (decide (0<=i/\i < (n:Int))) (.ok (.gE t (nth t l i.toNat))))
 | .dh id ver p c j len=>(s.row id ver p).bind λr=> .guard (match lY P T,rW P T with | some z,none=>z==r.2.1.size | _,_=>false)
   (.pq (decide (0<=i/\i < (len:Int))) (.ok (.ptr id ver (p++ [.idx (j+i.toNat)]) (c+i.toNat*r.2.1.size))))
 | .ptr id ver p n=> .guard (match lY P T,rW P T with | some _,some _=>true | _,_=>false)
   (.pq (decide (0<=i/\i < (((rW P T).getD 0:Nat):Int))) (.ok (.ptr id ver (p++ [.idx i.toNat]) (n+i.toNat*(lY P T).getD 0))))
 |_=> .fail
def fieldInfo(P:Program)(T:TypeId)(f:Nat):Option (Nat×TypeId):=
 match P.underlying T with
 |some (.struct fs)=>match fs[f]? with | some x=>some (x.offset,x.type) | none=>none
 |_=>none
def partOf:aH->Nat->Option (Nat×aH)
 | .d (.pair a _) x,0=>some (0,.d a x.1)
 | .d (.pair a b) x,n+1=>match partOf (.d b x.2) n with | some (o,v)=>some (a.size+o,v) | none=>none
 | .pr a _,0=>some (0,a)
 | .pr a b,n+1=>match partOf b n with | some (o,v)=>some (a.size+o,v) | none=>none
 |_,_=>none
def uS(P:Program)(T:TypeId)(x:aH)(f:Nat):Out aH:=
 match fieldInfo P T f with
 |some (o,ft)=> .guard (!(P.cellsOf ft==0)) (match x with
  | .ptr id ver p n=> .ok (.ptr id ver (p++nq f) (n+o))
  | .gE t x=>match partOf (.d t x) f with
   |some (o',.d t' y)=> .guard (o==o') (.ok (.gE t' y))
   |_=> .fail
  |_=> .fail)
 |none=> .fail
def Fu(P:Program)(T:TypeId)(x:aH)(f:Nat):Out aH:=
 match fieldInfo P T f,partOf x f with
 |some (o,ft),some (o',v)=> .guard ((o==o') && fits P ft v) (.ok v)
 |_,_=> .fail
def FJ(P:Program)(T:TypeId)(x:aH)(i:Int):Out aH:=
 match x,P.underlying T with
 | .d (.arr n t) l,some (.array m e)=> .guard ((n==m) && fits P e (.d t t.zero)) (.pq (decide (0<=i/\i < (n:Int))) (.ok (.d t (nth t l i.toNat))))
 | .d .str a,some .string=> .pq (decide (0<=i/\i < (a.size:Int))) (.ok (.d (.int .u8) ((a.data.toList.getD i.toNat 0).toNat:Int)))
 |_,_=> .fail
def Sd:aH->Out aH
 | .d (.kg t) l=> .pq (l:Option (List t.den)).isNone (.ok .eV)
 |v=> .ok v
def yJ(P:Program)(s:AS)(T:TypeId)(x:aH):Out aH:=
 match x with
 | .ptr id ver p n=>match s.obj id with
  |some (v,_,c)=> .guard (v==ver) ((loc c.strip p).bind λr=> .guard (fits P T r.2) (.pq (decide (r.1=n)) (Sd r.2)))
  |none=> .fail
 | .gE t y=> .guard (fits P T (.d t y)) (.ok (.d t y))
 |_=> .fail
def wB(P:Program)(s:AS)(T:TypeId)(x v:aH):Out AS:=
 match x with
 | .ptr id ver p n=>match s.obj id with
  |some (ve,fr,c)=> .guard ((ve==ver) && !fr && fits P T v) ((loc c.strip p).bind λr=> .guard (fits P T r.2) (.pq (decide (r.1=n)) ((tY c.strip p v).bind λc'=> .ok (s.bM id (.obj ve fr (c.wrap c'))))))
  |none=> .fail
 |_=> .fail
def PG(P:Program)(T:TypeId)(x:aH):Out aH:=
 match P.underlying T,x with
 |some .string,.d .str a=> .ok (.d (.int .i64) (a.size:Int))
 |some (.slice _),.d (.slice t) l=> .ok (.d (.int .i64) ((l:List t.den).length:Int))
 |some (.slice _),.eV=> .ok (.d (.int .i64) (0:Int))
 |some (.slice _),.dh _ _ _ _ _ len=> .ok (.d (.int .i64) (len:Int))
 |some (.array n _),_=> .ok (.d (.int .i64) (n:Int))
 |_,_=> .fail
def we(P:Program)(s:AS)(t:Ty)(X:TypeId)(x:aH):Out (List t.den):=
 match x with
 | .d .str a=>match P.underlying X with
  |some .string=>Out.opt (qF (.slice (.int .u8)) (.slice t) (cr a))
  |_=> .fail
 |x=>match P.underlying X with
  |some (.slice _)=>s.Jo (.slice t) x
  |_=> .fail
def fk(n b:Nat):Bool:=decide (n*b<=140737488355328/\n<=9223372036854775807)
def uR(P:Program)(nl:Bool)(T:TypeId):Option (TypeId×Ty×Nat):=
 match P.underlying T with
 |some (.slice e)=>match E4 P nl depth e with
  |some t=>match(P.cellsOf e==t.size) && !(t.size==0) && Gj P e (.d t t.zero) with | true=>some (e,t,P.bytesOf e) | false=>none
  |none=>none
 |_=>none
def Br(P:Program)(T:TypeId):Option (TypeId×Ty×Nat):=uR P false T
def Fq(P:Program)(T:TypeId):Option (TypeId×Ty×Nat):=
 match Nat.ble 100000 T with
 |true=>uR P true (T - 100000)
 |false=>uR P false T
def G1(P:Program)(s:AS)(dst:Option Tmp)(T X:TypeId)(n:Int):Out AS:=
 match Br P T,dst,P.underlying X with
 |some (e,t,b),some q,some (.int _)=> .guard (s.gd q) (.pq (decide (0 < n) && fk n.toNat b)
   (.ok ((s.born q [.obj 0 false (.vec e t (List.replicate n.toNat t.zero))]).put dst (.dh (.new q 0) 0 [] 0 0 n.toNat))))
 |_,_,_=> .fail
def LL(mx:Bool):List aH->Out aH
 |[.d (.int k) x,.d (.int k') y]=> .guard (decide (k=k')) (.ok (.d (.int k) (match mx with | true=>(if x < y then y else x) | false=>(if y < x then y else x))))
 |_=> .fail
def sa(P:Program)(s:AS)(nl dt:Bool)(dst:Option Tmp)(T X:TypeId)(x y:aH):Out AS:=
 match uR P nl T,dst with
 |some (e,t,b),some q=>(we P s t X y).bind λm=>
  match x with
  | .eV=>match dt with
   |true=> .pq (fk m.length b && decide (0 < m.length)) (.ok (s.put dst (.d (.kg t) (some m))))
   |false=> .guard (s.gd q) (.pq (fk m.length b) (.ok ((s.born q [.obj 0 false (.vec e t m)]).put dst (.dh (.new q 0) 0 [] 0 0 m.length))))
  | .dh id ver [] 0 0 len=>match s.obj id with
   |some (v,fr,.vec e' t' l)=> .guard ((v==ver) && (e==e')) ((Out.opt (qF (.slice t') (.slice t) l)).bind λl=>
     .pq (decide (len<=l.length)) <| .pq ((!fr) || decide (len=l.length)) (.pq (fk (len+m.length) b)
      (.ok ((s.bM id (.obj (v+1) fr (.vec e t (l.take len++m)))).put dst (.dh id (v+1) [] 0 0 (len+m.length))))))
   |_=> .fail
  |_=> .fail
 |_,_=> .fail
def BZ(P:Program)(s:AS)(dst:Option Tmp)(T X:TypeId)(x y:aH):Out AS:=
 match Br P T,x with
 |some (_,t,_),.dh id ver [.arr] 0 0 len=>(we P s t X y).bind λm=>match s.obj id with
  |some (ve,false,.d (.arr n t') l)=> .guard ((ve==ver) && (len==n)) ((Out.opt (qF (.slice t') (.slice t) l)).bind λl=> .pq (decide (m.length<=n))
    (.ok ((s.bM id (.obj ve false (.d (.arr n t) (m++(l:List t.den).drop m.length)))).put dst (.d (.int .i64) (m.length:Int)))))
  |_=> .fail
 |_,_=> .fail
def ld(t:Ty)(s:AS):List (Nat×Operand)->List t.den->Out (List t.den×List Id)
 |[],l=> .ok (l,[])
 | (i,x)::ps,l=> .guard (decide (i < l.length)) ((s.kQ t (s.ev x)).bind λy=>(ld t s ps (l.set i y)).bind λr=> .ok (r.1,(s.ev x).shared++r.2))
def oz(P:Program)(fs:Array Field)(s:AS):List (Nat×Operand)->aH->Out aH
 |[],v=> .ok v
 | (i,x)::ps,v=>match fs[i]?,partOf v i with
  |some f,some (o,ew)=> .guard ((f.offset==o) && fits P f.type ew && fits P f.type (s.ev x)) ((tY v (nq i) (s.ev x)).bind λv'=>oz P fs s ps v')
  |_,_=> .fail
def vR(P:Program)(s:AS)(dst:Option Tmp)(T:TypeId)(parts:List (Nat×Operand)):Out AS:=
 match P.underlying T with
 |some (.struct fs)=>match zeroOf P depth T with
  |some z=> .guard (Gj P T z && z.agg && fs.toList.all λf=>(P.info? f.type).isSome)
    ((oz P fs s parts z).bind λv=> .ok (s.put dst v))
  |none=> .fail
 |some (.array n e)=>match Il P depth e with
  |some t=> .guard ((P.cellsOf e==t.size) && Gj P T (.d (.arr n t) (List.replicate n t.zero))) ((ld t s parts (List.replicate n t.zero)).bind λr=> .ok ((s.cm r.2).put dst (.d (.arr n t) r.1)))
  |none=> .fail
 |_=> .fail
def mJ(P:Program)(s:AS)(nl obj:Bool)(dst:Option Tmp)(T:TypeId)(n:Nat)(parts:List (Nat×Operand)):Out AS:=
 match uR P nl T,dst with
 |some (e,t,_),some q=> .guard (decide (n*t.size<=16777216)) ((ld t s parts (List.replicate n t.zero)).bind λr=>
   match obj with
   |true=> .guard (s.gd q) (.ok (((s.cm r.2).born q [.obj 0 false (.vec e t r.1)]).put dst (.dh (.new q 0) 0 [] 0 0 r.1.length)))
   |false=> .ok ((s.cm r.2).put dst (.d (.slice t) r.1)))
 |_,_=> .fail
def pD(P:Program)(s:AS)(dst:Option Tmp)(T:TypeId)(len cap:Int):Out AS:=
 match Br P T,dst with
 |some (e,t,b),some q=> .guard (s.gd q) (.pq (decide (0<=len/\len<=cap) && fk cap.toNat b)
   (.ok ((s.born q [.obj 0 false (.vec e t (List.replicate len.toNat t.zero))]).put dst (.dh (.new q 0) 0 [] 0 0 len.toNat))))
 |_,_=> .fail
def P0(P:Program)(T:TypeId):Bool:=
 match P.underlying T with
 |some (.struct fs)=>fs.toList.any λf=>match P.underlying f.type with | some (.pointer u)=>decide (u=T) | _=>false
 |_=>false
def boxed(P:Program)(T:TypeId)(z:aH):aH:=match P0 P T with | true=> .bx T 0 z | false=>z
def GG(P:Program)(s:AS)(obj:Bool)(dst:Option Tmp)(T:TypeId)(v:aH):Out AS:=
 match dst with
 |some q=>match obj with
  |true=> .guard (s.gd q && fits P T v) (.ok ((s.born q [.obj 0 false v]).put dst (.ptr (.new q 0) 0 [] 0)))
  |false=>match Il P depth T with
   |some t=> .guard (fits P T (.d t t.zero)) ((s.kQ t v).bind λx=> .ok ((s.cm v.shared).put dst (.gE t x)))
   |none=> .fail
 |none=> .fail
def yg(P:Program)(s:AS)(dst:Option Tmp)(T:TypeId)(x:aH):Out AS:=
 match P.underlying T with
 |some (.array n e)=>match Il P depth e with
  |some t=> .guard ((P.cellsOf e==t.size) && !(n==0) && !(t.size==0)) ((s.kQ (.slice t) x).bind λl=> .pq (decide (n<=(l:List t.den).length)) (.ok ((s.cm x.shared).put dst (.gE (.arr n t) (l.take n)))))
  |none=> .fail
 |_=> .fail
def po(s:AS):List Operand->aH
 |[]=> .nil
 |x::xs=> .cons (s.ev x) (po s xs)
def sD:aH->Bool
 | .cons a b=>a.iA && sD b
 | .nil=>true
 |_=>false
def Ky(c a b:aH):Out aH:=
 match c with
 | .d .bool c=>match a,b with
  | .d .bool x,.d .bool y=> .ok (.d .bool (bif c then x else y))
  |a,b=> .br c (.ok a) (.ok b)
 |_=> .fail
def isObj(da:List Nat):Option Tmp->Bool
 |some q=>da.any λx=>decide (x=q)
 |none=>false
def LA(da:List Nat)(dst:Option Tmp):Bool:=isObj da (dst.map (· +100000))
def PE(da:List Nat)(dst:Option Tmp):Bool:=isObj da (dst.map (· +200000))
def oM:(t:Ty)->aH->Out t.den
 |t,.d t' x=>Out.opt (qF t' t x)
 | .slice _,.eV=> .ok []
 | .pair a b,.pr x y=>(oM a x).bind λx=>(oM b y).bind λy=> .ok (x,y)
 |_,_=> .fail
def mapOf(P:Program)(T:TypeId):Option (TypeId×TypeId×Ty×Ty):=
 match P.underlying T with
 |some (.map K V)=>match Il P depth K,Il P depth V with
  |some kt,some vt=>match pK P depth K kt && Gj P V (.d vt vt.zero) with | true=>some (K,V,kt,vt) | false=>none
  |_,_=>none
 |_=>none
def kD{β:Type}(kt:Ty)(x:kt.den):List (kt.den×β)->Option Nat
 |[]=>none
 |p::l=>match kt.beq x p.1 with | true=>some 0 | false=>(kD kt x l).map (· +1)
def fj{β:Type}(kt:Ty)(x:kt.den)(l:List (kt.den×β)):Option β:=(kD kt x l).bind λi=>(l[i]?).map (·.2)
def lu{β:Type}(kt:Ty)(x:kt.den)(v:β)(l:List (kt.den×β)):List (kt.den×β):=
 match kD kt x l with | some i=>l.set i (x,v) | none=>l++ [(x,v)]
def mz{β:Type}(kt:Ty)(x:kt.den)(l:List (kt.den×β)):List (kt.den×β):=
 match kD kt x l with | some i=>l.eraseIdx i | none=>l
def IL(k v k' v':Ty)(l:List (k.den×v.den)):Option (List (k'.den×v'.den)):=if h:k=k'/\v=v' then some (h.1▸h.2▸l) else none
def AS.qf(s:AS)(id:Id)(ver:Nat)(kt vt:Ty):Out (List (kt.den×vt.den)):=
 match s.obj id with
 |some (v,_,.mp k' v' l)=> .guard (v==ver) (Out.opt (IL k' v' kt vt l))
 |_=> .fail
def AS.qu(s:AS)(id:Id):Bool:=match s.obj id with | some (_,fr,_)=> !fr | none=>false
def QC(vt:Ty)(ok:Bool)(r:Option vt.den):aH:=
 match ok with
 |true=> .cons (.d vt (r.getD vt.zero)) (.cons (.d .bool r.isSome) .nil)
 |false=> .d vt (r.getD vt.zero)
def wa(P:Program)(s:AS)(dst:Option Tmp)(T:TypeId):Out AS:=
 match mapOf P T,dst with
 |some (_,_,kt,vt),some q=> .guard (s.gd q) (.ok ((s.born q [.obj 0 false (.mp kt vt [])]).put dst (.kO (.new q 0) 0)))
 |_,_=> .fail
def uY(P:Program)(s:AS)(T:TypeId)(m k:aH)(ok:Bool):Out aH:=
 match mapOf P T,m with
 |some (_,_,kt,vt),.kO id ver=>(s.qf id ver kt vt).bind λl=>(oM kt k).bind λk=> .ok (QC vt ok (fj kt k l))
 |_,_=> .fail
def u6(P:Program)(s:AS)(T:TypeId)(m k v:aH):Out AS:=
 match mapOf P T,m with
 |some (_,_,kt,vt),.kO id ver=>(s.qf id ver kt vt).bind λl=>(oM kt k).bind λk=>(oM vt v).bind λv=> .guard (s.qu id) (.ok (s.bM id (.obj ver false (.mp kt vt (lu kt k v l)))))
 |_,_=> .fail
def u5(P:Program)(s:AS)(T:TypeId)(m k:aH):Out AS:=
 match mapOf P T,m with
 |some (_,_,kt,vt),.kO id ver=>(s.qf id ver kt vt).bind λl=>(oM kt k).bind λk=> .guard (s.qu id) (.ok (s.bM id (.obj ver false (.mp kt vt (mz kt k l)))))
 |_,_=> .fail
def AS.Hj(s:AS)(id:Id)(ver:Nat):Bool:=match s.obj id with | some (v,true,.mp ..)=>v==ver | _=>false
def gU.Nt(q:Id):gU->Bool
 | .obj _ _ (.qd q' ver _ _ _ _)=>decide (q'=q) && !(ver==0)
 |_=>false
def AS.C0(s:AS)(q:Id):Bool:=s.ez.any (gU.Nt q) || s.news.any λes=>es.any (gU.Nt q)
def FX(kt vt:Ty)(l:List (kt.den×vt.den))(j:Nat):kt.den×vt.den:=l.getD j (kt.zero,vt.zero)
def Js(P:Program)(s:AS)(dst:Option Tmp)(T:TypeId)(m:aH):Out AS:=
 match mapOf P T,m,dst with
 |some (_,_,kt,vt),.kO id ver,some q=>(s.qf id ver kt vt).bind λl=> .guard (s.qu id && s.gd q)
   (.ok (((s.bM id (.obj ver true (.mp kt vt l))).born q [.obj 0 false (.qd id (ver+1) kt vt l none)]).put dst (.ptr (.new q 0) 0 [] 0)))
 |_,_,_=> .fail
structure KS where
 i:Id
 v:Nat
 fr:Bool
 q:Id
 vr:Nat
 kt:Ty
 vt:Ty
 rest:List (kt.den×vt.den)
 cur:Option (kt.den×vt.den)
def AS.Ns(s:AS)(x:aH):Option KS:=
 match x with
 | .ptr i ver [] 0=>match s.obj i with
  |some (v,fr,.qd q (vr+1) kt vt rest cur)=>match v==ver,s.Hj q vr with
   |true,true=>some ⟨i,v,fr,q,vr,kt,vt,rest,cur⟩
   |_,_=>none
  |_=>none
 |_=>none
def IV(s:AS)(x:aH):Out aH:=
 match s.Ns x with
 |some ⟨_,_,_,_,_,kt,vt,_,some c⟩=> .ok (.cons (.d kt c.1) (.cons (.d vt c.2) .nil))
 |_=> .fail
def AS.drawn(s:AS)(t:KS)(dst:Option Tmp)(j:Nat):AS:=
 (s.bM t.i (.obj t.v t.fr (.qd t.q (t.vr+1) t.kt t.vt (t.rest.eraseIdx j) (some (FX t.kt t.vt t.rest j))))).put dst
  (.cons (.d .bool true) (.cons (.d t.kt (FX t.kt t.vt t.rest j).1) (.cons (.d t.vt (FX t.kt t.vt t.rest j).2) .nil)))
def AS.unlock(s:AS)(id:Id):AS:=match s.obj id with | some (v,_,c)=>s.bM id (.obj v false c) | none=>s
def AS.PV(s:AS)(t:KS)(dst:Option Tmp):Option AS:=
 match(s.bM t.i (.obj t.v t.fr (.qd t.q 0 t.kt t.vt [] none))).C0 t.q with
 |false=>some (((s.bM t.i (.obj t.v t.fr (.qd t.q 0 t.kt t.vt [] none))).unlock t.q).put dst (.cons (.d .bool false) .nil))
 |true=>none
open Classical in
def Vn{R:Type}(n:Nat)(k:Nat->Option R):Option R:=if h:∃r,0 < n/\∀j,j < n->k j=some r then some h.choose else none
open Classical in
def Rd{X R:Type}(S:X->Prop)(k:X->Option R):Option R:=if h:∃r,(∃x,S x)/\∀x,S x->k x=some r then some h.choose else none
def NL{R:Type}(s:AS)(dst:Option Tmp)(t:KS)(k:AS->Option R):Option R:=
 aJ (decide (0 < t.rest.length)) (Vn t.rest.length λj=>k (s.drawn t dst j)) (match s.PV t dst with | some s'=>k s' | none=>none)
def oV(P:Program)(Γ:fD)(da:List Nat)(o:Oper)(s:AS):Out AS:=
 match o.op with
 | .move x=> .ok (s.put o.dst (s.ev x))
 | .assign x=> .ok (s.put o.dst (s.ev x))
 | .pick c a b=>(Ky (s.ev c) (s.ev a) (s.ev b)).bind λv=> .ok (s.put o.dst v)
 | .alloc T=>match zeroOf P depth T,o.dst with
  |some z,some q=> .guard (s.gd q && Gj P T z) (.ok ((s.born q [.obj 0 false (boxed P T z)]).put o.dst (.ptr (.new q 0) 0 [] 0)))
  |_,_=> .fail
 | .box T x=>GG P s (isObj da o.dst) o.dst T (s.ev x)
 | .build T parts=>vR P s o.dst T parts.toList
 | .buildSlice T n parts=>mJ P s (LA da o.dst) (isObj da o.dst) o.dst T n parts.toList
 | .load T x=>(yJ P s T (s.ev x)).bind λv=> .ok (s.put o.dst v)
 | .store T x v=>(wB P s T (s.ev x) (s.ev v)).bind λs'=> .ok (s'.put o.dst .undef)
 | .nilCheck x=>match s.ev x with
  | .ptr id v p n=> .ok (s.put o.dst (.ptr id v p n))
  | .gE t y=> .ok (s.put o.dst (.gE t y))
  | .fn f c=> .ok (s.put o.dst (.fn f c))
  |_=> .fail
 | .binOp op T x y _=>match s.ev x,s.ev y with
  | .ptr i v [] 0,.ptr j w [] 0=>(SP P s T op i v j w).bind λv=> .ok (s.put o.dst v)
  |_,_=>(Q9 P T op (s.ev x) (s.ev y)).bind λv=> .ok (s.put o.dst v)
 | .unOp op _ x=>(Vf op (s.ev x)).bind λv=> .ok (s.put o.dst v)
 | .convert src dst x=>match src==dst,s.ev x with
  |true,.dh id ver [] 0 0 len=>GO P s o.dst src dst id ver len
  |_,.ptr id ver [] 0=>(Et P s src dst id ver).bind λv=> .ok (s.put o.dst v)
  |_,_=>(Es P s (isObj da o.dst) src dst (s.ev x)).bind λv=> .ok (s.put o.dst v)
 | .sliceToArrayPointer T x=>yg P s o.dst T (s.ev x)
 | .makeFunc (.func f) first caps=> .guard (first.isEmpty && sD (po s caps.toList)) (.ok (s.put o.dst (.fn f (po s caps.toList))))
 | .makeSlice T l c=>(asInt (s.ev l)).bind λl=>(asInt (s.ev c)).bind λc=>pD P s o.dst T l c
 | .slice T x lo hi none=>(yd P s T (s.ev x) lo hi).bind λv=> .ok (s.put o.dst v)
 | .fieldAddr T x f=>(uS P T (s.ev x) f).bind λv=> .ok (s.put o.dst v)
 | .field T x f=>(Fu P T (s.ev x) f).bind λv=> .ok (s.put o.dst v)
 | .indexAddr T x i=>(asInt (s.ev i)).bind λi=>(pB P s T (s.ev x) i).bind λv=> .ok (s.put o.dst v)
 | .index T x i=>(asInt (s.ev i)).bind λi=>(FJ P T (s.ev x) i).bind λv=> .ok (s.put o.dst v)
 | .extract x i=>(Out.opt ((s.ev x).list[i]?)).bind λv=> .ok (s.put o.dst v)
 | .makeMap T none=>wa P s o.dst T
 | .lookup T x i ok=>(uY P s T (s.ev x) (s.ev i) ok).bind λv=> .ok (s.put o.dst v)
 | .mapUpdate T m k x=>(u6 P s T (s.ev m) (s.ev k) (s.ev x)).bind λs'=> .ok (s'.put o.dst .undef)
 | .call c=>match c.callee with
  | .builtin .delete=>match c.args.toList,c.argTypes.toList with
   |[m,k],[T,_]=>(u5 P s T (s.ev m) (s.ev k)).bind λs'=> .ok (s'.put o.dst .nil)
   |_,_=> .fail
  | .builtin .copy=>match c.args.toList,c.argTypes.toList with
   |[x,y],[T,X]=>BZ P s o.dst T X (s.ev x) (s.ev y)
   |_,_=> .fail
  | .builtin .len=>match c.args.toList,c.argTypes.toList with
   |[x],[T]=>(PG P T (s.ev x)).bind λv=> .ok (s.put o.dst v)
   |_,_=> .fail
  | .builtin .append=>match c.args.toList,c.argTypes.toList with
   |[x,y],[T,X]=>match s.ev x,s.ev y with
    | .eV,.d (.int _) n=>G1 P s o.dst T X n
    |_,_=>sa P s (LA da o.dst) (PE da o.dst) o.dst T X (s.ev x) (s.ev y)
   |_,_=> .fail
  | .builtin .cap=>match c.args.toList,c.argTypes.toList with
   |[x],[T]=>match s.ev x,P.underlying T with
    | .eV,some (.slice _)=> .ok (s.put o.dst (.d (.int .i64) (0:Int)))
    |_,_=> .fail
   |_,_=> .fail
  | .builtin .max=>(LL true (c.args.toList.map s.ev)).bind λv=> .ok (s.put o.dst v)
  | .builtin .min=>(LL false (c.args.toList.map s.ev)).bind λv=> .ok (s.put o.dst v)
  | .builtin .unsafeSliceData=>match c.args.toList with
   |[x]=>match s.ev x with
    | .dh id ver [] 0 0 len=> .pq (decide (0 < len)) (.ok (s.put o.dst (.ptr id ver [.idx 0] 0)))
    |_=> .fail
   |_=> .fail
  | .builtin .unsafeString=>match c.args.toList,c.argTypes.toList with
   |[x,y],[T,_]=>match s.ev x,s.ev y with
    | .ptr id ver [.idx 0] 0,.d (.int .i64) n=>Ih P s o.dst T id ver n
    |_,_=> .fail
   |_,_=> .fail
  | .value f=>match s.ev f with
   | .fn f caps=>match Γ f (c.args.toList.map s.ev++caps.list) with
    |some en=>s.call en o.dst (c.args.toList.map s.ev++caps.list)
    |none=> .fail
   |_=> .fail
  |_=> .fail
 |_=> .fail
def BH(xs:Array Operand):List Nat:=xs.toList.filterMap λ | .tmp t=>some t | _=>none
def zJ(ops:Array Oper)(o:Oper):List Nat:=
 match o.guard with
 |some (j,_)=>match(ops[j]?).bind (·.dst) with | some t=> [t] | none=> []
 |none=> []
def Rv{R:Type}(P:Program)(Γ:fD)(da:List Nat)(ops:Array Oper)(o:Oper)(s:AS)(k:AS->Option R):Option R:=
 match o.guard with
 |none=>(oV P Γ da o s).run k
 |some (j,want)=>match(ops[j]?).bind (·.dst) with
  |some q=>match s.slot q with
   | .d .bool b=>match want with
    |true=>aJ b ((oV P Γ da o (s.put (some q) (.d .bool true))).run k) (k ((s.put (some q) (.d .bool false)).put o.dst .nil))
    |false=>aJ b (k ((s.put (some q) (.d .bool true)).put o.dst .nil)) ((oV P Γ da o (s.put (some q) (.d .bool false))).run k)
   | .nil=>k (s.put o.dst .nil)
   |_=>none
  |none=>none
def CU(s:AS)(x y:Operand):Option Nat:=
 match s.ev x,s.ev y with
 | .d (.slice t) l,.eV=>some (l:List t.den).length
 | .eV,.d (.slice t) l=>some (l:List t.den).length
 | .dh _ _ _ _ _ len,.eV=>some len
 | .eV,.dh _ _ _ _ _ len=>some len
 |_,_=>none
open Classical in
def nd{R:Type}(x y:Option R):Option R:=if x=y then x else none
def Pf{R:Type}(P:Program)(Γ:fD)(da:List Nat)(ops:Array Oper)(o:Oper)(s:AS)(k:AS->Option R):Option R:=
 match o.guard,o.op with
 |none,.binOp .eql T x y _=>match CU s x y,uj.isSl P T with
  |some n,true=>aJ (decide (0 < n)) (k (s.put o.dst (.d .bool false))) (nd (k (s.put o.dst (.d .bool true))) (k (s.put o.dst (.d .bool false))))
  |_,_=>Rv P Γ da ops o s k
 |none,.binOp .neq T x y _=>match CU s x y,uj.isSl P T with
  |some n,true=>aJ (decide (0 < n)) (k (s.put o.dst (.d .bool true))) (nd (k (s.put o.dst (.d .bool true))) (k (s.put o.dst (.d .bool false))))
  |_,_=>Rv P Γ da ops o s k
 |none,.range T m=>(Js P s o.dst T (s.ev m)).run k
 |none,.entry x=>((IV s (s.ev x)).bind λv=> .ok (s.put o.dst v)).run k
 |none,.next x false=>match s.Ns (s.ev x) with
  |some t=>NL s o.dst t k
  |none=>none
 |_,_=>Rv P Γ da ops o s k
def seen{α R:Type}(l:List α):(List α->R)->R:=List.rec (motive:=λ_=>(List α->R)->R) (λk=>k []) (λx _ ih k=>ih λl'=>k (x::l')) l
theorem y8{α R:Type}:∀(l:List α) (k:List α->R),seen l k=k l
 |[],_=>rfl
 |_::l,k=>y8 l _
def AS.seen{R:Type}(s:AS)(k:AS->R):R:=Go.Ab.seen s.dU λl=>k ⟨l,s.ez,s.news⟩
theorem AS.y8{R:Type}(s:AS)(k:AS->R):s.seen k=k s:=Go.Ab.y8 _ _
def Pg{R:Type}(P:Program)(Γ:fD)(da:List Nat)(ops:Array Oper):List Oper->AS->(AS->Option R)->Option R
 |[],s,k=>k s
 |o::l,s,k=>Pf P Γ da ops o s λs'=>s'.seen λs'=>Pg P Γ da ops l s' k
def Ff(acc:List Nat)(o:Oper):Nat:=(o.after.toList.filter (Region.binds .any)).foldr (λe m=>Nat.lor (Nat.lor (Nat.pow 2 e.on) (acc.getD e.on 0)) m) 0
def GA(ops:List Oper):List Nat:=ops.foldl (λacc o=>acc++ [Ff acc o]) []
structure vI where
 dst:Option Tmp
 dU:List Nat
 rs:List Id
 ws:List Id
def EI:Op->Bool
 | .move _=>true
 |_=>false
def HO(s:AS)(o:Oper):List Id:=match EI o.op with | true=> [] | false=>(BH o.op.operands).flatMap λi=>(s.slot i).ids
def qV:List (Option Ty)->List aH->List Id
 |none::ps,v::vs=>v.ids++qV ps vs
 |some _::ps,_::vs=>qV ps vs
 |_,_=> []
def writes(Γ:fD)(s:AS)(o:Oper):List Id:=
 match o.op with
 | .store _ x _=>(s.ev x).ids
 | .mapUpdate _ m _ _=>(s.ev m).ids
 | .convert src dst x=>match src==dst with | true=>(s.ev x).ids | false=> []
 | .call c=>match c.callee with
  | .builtin .append=>match c.args.toList with | x::_=>(s.ev x).ids | []=> []
  | .builtin .delete=>match c.args.toList with | x::_=>(s.ev x).ids | []=> []
  | .builtin .copy=>match c.args.toList with | x::_=>(s.ev x).ids | []=> []
  | .builtin .unsafeString=>match c.args.toList with | x::_=>(s.ev x).ids | []=> []
  | .value F=>match s.ev F with
   | .fn f caps=>match Γ f (c.args.toList.map s.ev++caps.list) with
    |some en=>s.reach 64 (qV en.params (c.args.toList.map s.ev++caps.list)) []
    |none=> []
   |_=> []
  |_=> []
 |_=> []
def jM(Γ:fD)(ops:Array Oper)(s:AS)(o:Oper):vI:=
 {dst:=o.dst,dU:=BH o.op.operands++zJ ops o,rs:=HO s o++writes Γ s o,ws:=writes Γ s o}
def meets(xs ys:List Id):Bool:=xs.any λx=>ys.any λy=>decide (x=y)
def vI.T1(f g:vI):Bool:=
 match f.dst with
 |some t=>(g.dU.any λx=>decide (x=t)) || decide (g.dst=some t)
 |none=>false
def Dc(d:Option Tmp)(ids:List Id):Bool:=
 match d with
 |some q=>ids.any λx=>match x with | .new i _=>decide (i=q) | .ew _=>false
 |none=>false
def vI.indep(f g:vI):Bool:= !f.T1 g && !g.T1 f && !meets f.ws g.rs && !meets g.ws f.rs && !Dc f.dst g.rs && !Dc g.dst f.rs
def Ez{R:Type}(P:Program)(Γ:fD)(da:List Nat)(ops:Array Oper)(anc:List Nat):Nat->List Oper->List (Nat×vI)->AS->(AS->Option R)->Option R
 |_,[],_,s,k=>k s
 |i,o::l,fs,s,k=>
  match fs.all λx=>(anc.getD i 0).testBit x.1 || x.2.indep (jM Γ ops s o) with
  |true=>Rv P Γ da ops o s λs'=>s'.seen λs'=>Ez P Γ da ops anc (i+1) l ((i,jM Γ ops s o)::fs) s' k
  |false=>none
def Fp(ops:List Oper):Bool:=ops.zipIdx.all λx=>x.1.after.toList.all λe=> !Region.binds .any e || decide (e.on < x.2)
structure OX where
 j:Nat
 p:List xy
 q:Nat
 T:TypeId
structure UL where
 j:Nat
 p:List xy
 t:Ty
structure om where
 bS:List Nat:=[]
 sites:List Nat:=[]
 J7:List Id:=[]
 data:List (Nat×Ty):=[]
 nB:List OX:=[]
 Fo:List UL:=[]
 Xx:List Nat:=[]
 Tk:List Id:=[]
 XT:List Nat:=[]
 Y5:List Nat:=[]
structure cV where
 X:Type
 run:AS->Option X
 out:X->Out (Exit×AS)
 set:Option (AS->X->Prop):=none
structure KT where
 an:om
 X:Type
 U7:Exit->AS->Option X
 out:X->Out (Exit×AS)
 ok:∀e s x,U7 e s=some x->(out x).eval=some (e,s)
structure fT where
 da:List Nat:=[]
 loops:Nat->om:=λ_=> {}
 outs:Nat->Bool->om:=λ_ _=> {}
 jw:Nat->Option cV:=λ_=>none
 nB:List OX:=[]
 trim:List Nat:=[]
 res:List (Option Ty):=[]
 Fo:List UL:=[]
 Up:Nat->Option KT:=λ_=>none
 Uq:Nat->Option KT:=λ_=>none
def gf:Code->Nat
 | .region id _ _=>id
 | .seq a _=>gf a
 | .block _ b=>gf b
 | .loop b=>gf b
 | .scope b=>gf b
 |_=>0
def lA(bS:List Nat):Nat->List aH->List aH
 |_,[]=> []
 |i,v::vs=>(match bS.any (λx=>decide (x=i)) with | true=>v | false=> .undef)::lA bS (i+1) vs
def nr(bS:List Nat):Nat->List (List gU)->List (List gU)
 |_,[]=> []
 |i,v::vs=>(match bS.any (λx=>decide (x=i)) with | true=>v | false=> [])::nr bS (i+1) vs
def aH.head:aH->Option (Id×Nat)
 | .dh id ver [] 0 0 _=>some (id,ver)
 | .ptr id ver [] 0=>some (id,ver)
 |_=>none
def yX(es:List gU)(b q:Nat)(i:Id)(ver:Nat):Option (Id×Nat):=
 match i with
 | .ew k=>some (.ew k,ver)
 | .new x j=>match decide (x=b) with
  |true=>(match es[j]? with | some (.obj v _ _)=>(match ver==v with | true=>some (.new q j,0) | false=>none) | _=>none)
  |false=>(match decide (x=q) with | true=>none | false=>some (.new x j,ver))
def gU.PW(ρ:Id->Nat->Option (Id×Nat)):gU->gU
 | .obj _ fr c=> .obj 0 fr (c.mg ρ)
 | .dead=> .dead
def aH.Sl(ρ:Id->Nat->Option (Id×Nat))(kp:Id->Bool):aH->aH
 | .qd q ver k v rest cur=>match kp q with | true=> .qd q ver k v rest cur | false=> .qd q 0 k v rest cur
 |c=>c.mg ρ
def gU.D5(ρ:Id->Nat->Option (Id×Nat))(kp:Id->Bool):gU->gU
 | .obj v fr c=> .obj v fr (c.Sl ρ kp)
 | .dead=> .dead
def wV(b q:Nat):Id->Bool | .ew _=>true | .new x _=> !decide (x=b) && !decide (x=q)
def AS.wx(s:AS)(b q:Nat)(es:List gU):AS:=
 {dU:=s.dU.map (aH.mg (yX es b q)),ez:=s.ez.map (gU.D5 (yX es b q) (wV b q)),
  news:=((s.news.map λes'=>es'.map (gU.D5 (yX es b q) (wV b q))).set b []).set q (es.map (gU.PW (yX es b q)))}
def AS.at(s:AS)(j:Nat):List xy->Out aH
 |[]=> .ok (s.slot j)
 |p=>match s.slot j with
  | .ptr id ver p0 _=>match s.obj id with
   |some (v,_,c)=> .guard (v==ver) ((loc c.strip (p0++p)).bind λr=> .ok r.2)
   |none=> .fail
  |_=> .fail
def AS.putAt(s:AS)(j:Nat)(v:aH):List xy->Out AS
 |[]=> .ok (s.put (some j) v)
 |p=>match s.slot j with
  | .ptr id _ p0 _=>match s.obj id with
   |some (ver,fr,c)=>match c.strip with
    | .vec .. => .fail
    |c1=>(tY c1 (p0++p) v).bind λc'=> .ok (s.bM id (.obj ver fr (c.wrap c')))
   |none=> .fail
  |_=> .fail
def AS.still(s:AS):List Nat->AS
 |[]=>s
 |q::l=>(match s.obj (.new q 0) with | some (v,fr,.qd i ver k t r _)=>s.bM (.new q 0) (.obj v fr (.qd i ver k t r none)) | _=>s).still l
def N0(α:Type):Setoid (List α):=⟨List.Perm,jz,List.Perm.symm,List.Perm.trans⟩
def IK{α:Type}(l:List α):List α:=(Quotient.exists_rep (Quotient.mk (N0 α) l)).choose
def AS.canon(s:AS):List Id->AS
 |[]=>s
 |id::l=>(match s.obj id with | some (v,fr,.mp k t r)=>s.bM id (.obj v fr (.mp k t (IK r))) | _=>s).canon l
def B0(s:AS):List UL->Out AS
 |[]=> .ok s
 |o::l=>match o.p,s.slot o.j with
  |_::_,.o6=>B0 s l
  |_,_=>(s.at o.j o.p).bind λu=>(s.kQ o.t u).bind λx=>((s.cm u.shared).putAt o.j (.d o.t x) o.p).bind λs'=>B0 s' l
def zE:(t:Ty)->t.den->Out aH
 | .kg t,x=> .pq (x:Option (List t.den)).isNone (.ok .eV)
 | .pair a b,x=>(zE a x.1).bind λu=>(zE b x.2).bind λv=> .ok (yL u v)
 |t,x=> .ok (.d t x)
def Lo(s:AS):List Nat->Out AS
 |[]=> .ok s
 |j::l=>match s.slot j with
  | .ptr id ver (.idx k::p) n=>match s.obj id with
   |some (v,false,.vec e t r)=> .guard (v==ver) (.pq (decide (k < r.length)) ((zE t (nth t r k)).bind λu=>
     Lo ((s.bM id (.obj v false (.bx e t.size (.pr (.d (.arr k t) (r.take k)) (.pr u (.d (.arr (r.drop (k+1)).length t) (r.drop (k+1)))))))).put (some j) (.ptr id ver (.snd:: .fst::p) n)) l))
   |_=> .fail
  | .ptr _ _ (.snd::_) _=>Lo s l
  |_=> .fail
def OB(s:AS):List Nat->Out AS
 |[]=> .ok s
 |j::l=>match s.slot j with
  | .ptr id ver (.snd:: .fst::p) n=>match s.obj id with
   |some (v,false,.bx e z (.pr (.d (.arr k t) l1) (.pr u (.d (.arr _ t') l2))))=> .guard ((v==ver) && (z==t.size) && !(z==0) && !(u.shared.any λi=>decide (i=id)))
     ((Out.opt (qF (.slice t') (.slice t) l2)).bind λl2=>(s.kQ t u).bind λx=>
      OB (((s.cm u.shared).bM id (.obj v false (.vec e t (l1++x::l2)))).put (some j) (.ptr id ver (.idx k::p) n)) l)
   |_=> .fail
  |_=> .fail
def tv(P:Program)(s:AS):List OX->Out AS
 |[]=> .ok s
 |o::l=>match o.p,s.slot o.j with
  |_::_,.o6=>tv P s l
  |_,_=>(s.at o.j o.p).bind λu=>match u with
  | .eV=>match Fq P o.T,s.gd o.q with
   |some (e,t,_),true=>((s.born o.q [.obj 0 false (.vec e t [])]).putAt o.j (.dh (.new o.q 0) 0 [] 0 0 0) o.p).bind λs'=>tv P s' l
   |_,_=> .fail
  |u=>match u.head with
   |some (.new b j,ver)=>match s.obj (.new b j),decide (o.q < s.news.length) with
    |some (v,_,_),true=>match v==ver with
     |true=>tv P (s.wx b o.q (s.news.getD b [])) l
     |false=> .fail
    |_,_=> .fail
   |_=> .fail
def Ik(s:AS):List Nat->Out AS
 |[]=> .ok s
 |j::l=>match s.slot j with
  | .dh id ver [] 0 0 len=>match s.obj id with
   |some (v,false,.vec e t r)=>match v==ver with
    |true=> .pq (decide (len<=r.length)) (Ik (s.bM id (.obj v false (.vec e t (r.take len)))) l)
    |false=> .fail
   |_=> .fail
  |_=> .fail
def asData(s:AS):List (Nat×Ty)->Out AS
 |[]=> .ok s
 | (j,t)::l=>(s.kQ t (s.slot j)).bind λx=>asData ((s.cm (s.slot j).shared).put (some j) (.d t x)) l
def aH.there(s:AS):aH->Bool
 | .ptr id _ _ _=>(s.obj id).isSome
 | .dh id _ _ _ _ _=>(s.obj id).isSome
 | .pr a b=>a.there s && b.there s
 | .cons a b=>a.there s && b.there s
 | .fn _ c=>c.there s
 | .bx _ _ c=>c.there s
 | .kO id _=>(s.obj id).isSome
 | .qd .. =>false
 |_=>true
def gU.there(s:AS):gU->Bool
 | .obj _ _ (.qd id _ _ _ _ _)=>(s.obj id).isSome
 | .obj _ _ c=>c.there s
 | .dead=>true
def yH(an:om)(s:AS):AS:= {dU:=lA an.bS 0 s.dU,ez:=s.ez,news:=nr an.sites 0 s.news}
def AS.Gx(s:AS):Bool:=(s.dU.all (aH.there s)) && (s.ez.all (gU.there s)) && (s.news.all λes=>es.all (gU.there s))
def norm(P:Program)(an:om)(s:AS):Out AS:=
 (OB (((s.cm an.J7).still an.Xx).canon an.Tk) an.Y5).bind λs=>(B0 s an.Fo).bind λs=>(asData s an.data).bind λs=> .guard (yH an s).Gx ((Lo (yH an s) an.XT).bind λs=>tv P s an.nB)
def AJ{R:Type}(nrm:AS->Out AS)(nrmX:Exit->AS->Out AS)(body:AS->(Exit->AS->Option R)->Option R):Nat->AS->(Exit->AS->Option R)->Option R
 | 0,_,_=>none
 |n+1,s,k=>body s λe s'=>match e with
  | .normal=>(nrm s').run λs1=>AJ nrm nrmX body n s1 k
  |e=>(nrmX e s').run (k e)
def Hb:Exit->Bool | .ret=>true | _=>false
def OE{R:Type}(le:cV)(s:AS)(k:Exit->AS->Option R):Option R:=
 match le.set with
 |none=>aj (le.run s) λx=>(le.out x).run λr=>k r.1 r.2
 |some S=>Rd (S s) λx=>(le.out x).run λr=>k r.1 r.2
def zT{R:Type}(P:Program)(j:Option KT)(run: {R:Type}->(Exit->AS->Option R)->Option R)(k:Exit->AS->Option R):Option R:=
 match j with
 |none=>run k
 |some j=>aj (run λe s=>(norm P j.an s).run (j.U7 e)) λx=>(j.out x).run λr=>k r.1 r.2
def ev(P:Program)(Γ:fD)(an:fT)(N:Nat):Code-> {R:Type}->AS->(Exit->AS->Option R)->Option R
 | .skip,_,s,k=>k .normal s
 | .region id ops draw,_,s,k=>zT P (an.Up id) (λk=>match draw with
  |true=>(match Fp ops.toList with
   |true=>Ez P Γ an.da ops (GA ops.toList) 0 ops.toList [] s λs'=>k .normal s'
   |false=>none)
  |false=>Pg P Γ an.da ops ops.toList s λs'=>k .normal s') k
 | .seq a b,_,s,k=>zT P (an.Uq (gf b)) (λk=>ev P Γ an N a s k) λe s'=>match e with | .normal=>ev P Γ an N b s' k | e=>k e s'
 | .cond c x y,_,s,k=>match s.ev c with
  | .d .bool b=>aJ b (ev P Γ an N x s k) (ev P Γ an N y s k)
  |_=>none
 | .block id b,_,s,k=>ev P Γ an N b s λe s'=>match e with | .exit i=>(match decide (i=id) with | true=>k .normal s' | false=>k (.exit i) s') | e=>k e s'
 | .loop b,_,s,k=>(norm P (an.loops (gf b)) s).run λs1=>match an.jw (gf b) with
  |some le=>OE le s1 k
  |none=>AJ (norm P (an.loops (gf b))) (λe=>norm P (an.outs (gf b) (Hb e))) (ev P Γ an N b) N s1 k
 | .scope b,_,s,k=>ev P Γ an N b s λe s'=>match e with | .goto _=>none | e=>k e s'
 | .label _,_,s,k=>k .normal s
 | .exit id,_,s,k=>k (.exit id) s
 | .ret,_,s,k=>k .ret s
 |_,_,_,_=>none
def C3(P:Program)(s:AS):ResultVar->Out aH
 | .tmp t=> .ok (s.slot t)
 | .cell a T=>yJ P s T (s.slot a)
def C2(P:Program)(s:AS)(r:ResultVar):Option Ty->Out (AS×aH)
 |none=>(C3 P s r).bind λv=> .ok (s,v)
 |some t=>(C3 P s r).bind λv=>(s.kQ t v).bind λx=> .ok (s.cm v.shared,.d t x)
def y1(P:Program)(s:AS):List ResultVar->List (Option Ty)->Out (AS×aH)
 |[],_=> .ok (s,.nil)
 |r::rs,ts=>(C2 P s r (ts.headD none)).bind λx=> .guard x.2.iA ((y1 P x.1 rs ts.tail).bind λy=> .ok (y.1,.cons x.2 y.2))
def F2(P:Program)(fn:Func)(ts:List (Option Ty))(s:AS):Out (AS×aH):=
 match fn.results.toList with
 |[r]=>C2 P s r (ts.headD none)
 |rs=>y1 P s rs ts
def mY:Code->List Code
 | .seq a b=>mY a++mY b
 | .cond _ a b=>mY a++mY b
 | .block _ b=>mY b
 | .scope b=>mY b
 | .loop b=>b::mY b
 |_=> []
def pz(fn:Func)(i:Nat):Code:=match fn.body with | some c=>(mY c).getD i .skip | none=> .skip
def zZ(P:Program)(Γ:fD)(an:fT)(N:Nat)(fn:Func)(i:Nat){R:Type}(s:AS)(kn:AS->Option R)(kx:Exit->AS->Option R):Option R:=
 ev P Γ an N (pz fn i) s λe s'=>match e with
  | .normal=>(norm P (an.loops (gf (pz fn i))) s').run kn
  |e=>(norm P (an.outs (gf (pz fn i)) (Hb e)) s').run (kx e)
def Hl(P:Program)(Γ:fD)(an:fT)(N:Nat)(fn:Func)(i:Nat){R:Type}(n:Nat)(s:AS)(k:Exit->AS->Option R):Option R:=
 AJ (norm P (an.loops (gf (pz fn i)))) (λe=>norm P (an.outs (gf (pz fn i)) (Hb e))) (ev P Γ an N (pz fn i)) n s k
def Id.Qw:Id->Bool | .new _ _=>true | .ew _=>false
def AS.zF(s:AS)(v:aH):List Id:=(s.reach 64 (v.ids++s.ez.flatMap gU.ids) []).filter Id.Qw
def xI(ids:List Id):Id->Nat->Option (Id×Nat)
 | .ew k,v=>some (.ew k,v)
 |id,v=>match idxOf id ids with | some j=>some (.new 0 j,v) | none=>none
def gU.fin(ids:List Id):gU->gU
 | .obj v fr c=> .obj v fr (c.mg (xI ids))
 | .dead=> .dead
def AS.Qe(s:AS)(ids:List Id)(v:aH):aZ:=
 {val:=v.mg (xI ids),ez:=s.ez.map (gU.fin ids),news:=ids.map λid=>((s.dx id).getD .dead).fin ids}
def AS.fin(s:AS)(v:aH):aZ:=s.Qe (s.zF v) v
def start(fn:Func)(args:List aH)(ez:List gU):AS:=
 {dU:=args++List.replicate (fn.ntmps - args.length) .undef,ez,news:=List.replicate fn.ntmps []}
def N7(fn:Func):List Nat:=fn.results.toList.map λr=>match r with | .tmp t=>t | .cell a _=>a
def AS.drop(s:AS)(ks:List Nat):AS:= {dU:=lA ks 0 s.dU,ez:=s.ez,news:=s.news}
def finish(P:Program)(an:fT)(fn:Func)(s:AS):Out aZ:=
 (B0 s an.Fo).bind λs=>(tv P (s.drop (N7 fn)) an.nB).bind λs=>(Ik s an.trim).bind λs=>(F2 P fn an.res s).bind λr=> .ok (r.1.fin r.2)
def OZ(P:Program)(Γ:fD)(an:fT)(N:Nat)(fn:Func)(args:List aH)(ez:List gU){R:Type}(k:aZ->Option R):Option R:=
 match fn.body with
 |some c=>ev P Γ an N c (start fn args ez) λe s=>match e with
  | .normal=>(finish P an fn s).run k
  | .ret=>(finish P an fn s).run k
  |_=>none
 |none=>none
end Go.Ab
namespace Go.Ab
inductive UM where
 |iR
 |id (i:Id)
inductive od where
 |free
 |own (o:UM) (k:Nat)
structure Pl where
 b:Nat
 cap:Nat
structure Env where
 w:World
 g:Nat->od
 β:Id->Option Pl
 s:Id->Option gU
def rq(g:Nat->od)(b off:Nat):Prop:=match g b with | .free=>True | .own _ k=>off < k
def Env.has(E:Env)(b off:Nat)(v:Value):Prop:=E.w.cell? ⟨b,off,none⟩=some v/\rq E.g b off
def cg{α:Type}(R:List Value->α->Prop):List Value->List α->Prop
 |cs,[]=>cs=[]
 |cs,x::xs=>∃c cs',cs=c++cs'/\R c x/\cg R cs' xs
def vJ(E:Env)(a:Option Addr)(vs:List Value):Prop:=
 ∀i v,vs[i]? =some v->∃b off,a=some ⟨b,off,none⟩/\E.has b (off+i) v
def eY(E:Env):(t:Ty)->List Value->t.den->Prop
 | .int k,cs,x=>cs=[.int k x]
 | .bool,cs,x=>cs=[.bool x]
 | .str,cs,x=>cs=[.string x]
 | .slice t,cs,l=>∃a cap vs,cs=[.slice a (l:List t.den).length cap]/\(l:List t.den).length<=cap/\(0 < (l:List t.den).length->a.isSome=true)/\vJ E a vs/\cg (eY E t) vs l
 | .unit,cs,_=>cs=[]
 | .pair a b,cs,x=>∃ca cb,cs=ca++cb/\eY E a ca x.1/\eY E b cb x.2
 | .arr n t,cs,l=>(l:List t.den).length=n/\cg (eY E t) cs l
 | .kg t,cs,x=>((x:Option (List t.den))=none->cs=[.slice none 0 0])/\∀l:List t.den,(x:Option (List t.den))=some l->
   ∃a cap vs,cs=[.slice a l.length cap]/\l.length<=cap/\(0 < l.length->a.isSome=true)/\vJ E a vs/\cg (eY E t) vs l
section
variable {α:Type} {R R':List Value->α->Prop} {z:Nat}
theorem cg.mono(h:∀c x,R c x->R' c x):∀ {cs:List Value} {l:List α},cg R cs l->cg R' cs l
 |_,[],hc=>hc
 |_,_::_,⟨c,cs',e,hx,hr⟩=>⟨c,cs',e,h _ _ hx,cg.mono h hr⟩
theorem cg.length(h:∀c x,R c x->c.length=z):∀ {cs:List Value} {l:List α},cg R cs l->cs.length=l.length*z
 |cs,[],hc=>by
  have:cs=[]:=hc
  simp[this]
 |_,x::xs,⟨c,cs',e,hx,hr⟩=>by
  rw[e,ae,h c x hx,cg.length h hr,aN,gN,kK,Nat.add_comm]
theorem cg.all{p:Value->Prop}(h:∀c x,R c x->∀v∈c,p v):∀ {cs:List Value} {l:List α},cg R cs l->∀v∈cs,p v
 |cs,[],hc,v,hv=>by
  have:cs=[]:=hc
  simp[this]at hv
 |_,_::_,⟨c,cs',e,hx,hr⟩,v,hv=>by
  rw[e]at hv
  rcases cf.1 hv with hv | hv
  ·exact h _ _ hx v hv
  ·exact cg.all h hr v hv
theorem cg.append:∀ {cs:List Value} {l:List α} {cs':List Value} {l':List α},cg R cs l->cg R cs' l'->cg R (cs++cs') (l++l')
 |cs,[],_,_,hc,h'=>by
  have:cs=[]:=hc
  simpa[this]using h'
 |_,x::xs,_,_,⟨c,cs1,e,hx,hr⟩,h'=>⟨c,cs1++_,by rw[e,bR],hx,cg.append hr h'⟩
theorem cg.take(h:∀c x,R c x->c.length=z):∀ {cs:List Value} {l:List α} (n:Nat),cg R cs l->cg R (cs.take (n*z)) (l.take n)
 |cs,[],n,hc=>by
  have:cs=[]:=hc
  simp[this,cg]
 |_,x::xs,0,_=>by simp[cg]
 |_,x::xs,n+1,⟨c,cs',e,hx,hr⟩=>by
  refine⟨c,cs'.take (n*z),?_,hx,cg.take h n hr⟩
  rw[e,oh,h c x hx,gN,kK,cn (by rw[h c x hx];omega),Nat.add_sub_cancel]
theorem cg.drop(h:∀c x,R c x->c.length=z):∀ {cs:List Value} {l:List α} (n:Nat),cg R cs l->cg R (cs.drop (n*z)) (l.drop n)
 |cs,[],n,hc=>by
  have:cs=[]:=hc
  simp[this,cg]
 |_,x::xs,0,hc=>by simpa using hc
 |_,x::xs,n+1,⟨c,cs',e,hx,hr⟩=>by
  rw[e,lz,h c x hx,gN,kK,gM (by rw[h c x hx];omega),Nat.add_sub_cancel]
  simpa using cg.drop h n hr
theorem cg.get(h:∀c x,R c x->c.length=z){cs:List Value}{l:List α}(hc:cg R cs l)(i:Nat)(hi:i < l.length):R ((cs.drop (i*z)).take z) l[i]:=by
 have h1:=cg.take h 1 (cg.drop h i hc)
 rw[aA hi]at h1
 simp only[kK,List.take_succ_cons,jA]at h1
 obtain⟨c,cs',e,hx,hr⟩:=h1
 have:cs'=[]:=hr
 rw[e,this,dg]
 exact hx
theorem cg.set(h:∀c x,R c x->c.length=z){cs:List Value}{l:List α}(hc:cg R cs l)(i:Nat)(hi:i < l.length){c:List Value}{x:α}(hx:R c x):
  cg R (cs.take (i*z)++c++cs.drop (i*z+c.length)) (l.set i x):=by
 rw[List.set_eq_take_append_cons_drop,if_pos hi,h c x hx]
 have h1:=cg.take h i hc
 have h2:=cg.drop h (i+1) hc
 rw[gN,kK]at h2
 have h3:cg R (c++cs.drop (i*z+z)) (x::l.drop (i+1)):=⟨c,_,rfl,hx,h2⟩
 rw[bR]
 exact cg.append h1 h3
theorem cg.one{c:List Value}{x:α}(h:R c x):cg R c [x]:=⟨c,[],by simp,h,rfl⟩
end
theorem eY.size{E:Env}:∀ {t:Ty} {cs:List Value} {x:t.den},eY E t cs x->cs.length=t.size
 | .int _,_,_,h=>by simp only[eY]at h;simp[h,Ty.size]
 | .bool,_,_,h=>by simp only[eY]at h;simp[h,Ty.size]
 | .str,_,_,h=>by simp only[eY]at h;simp[h,Ty.size]
 | .slice t,_,_,h=>by simp only[eY]at h;obtain⟨a,cap,vs,rfl,_⟩:=h;simp[Ty.size]
 | .unit,_,_,h=>by simp only[eY]at h;simp[h,Ty.size]
 | .pair a b,_,_,h=>by
  simp only[eY]at h
  obtain⟨ca,cb,rfl,ha,hb⟩:=h
  simp[Ty.size,eY.size ha,eY.size hb]
 | .arr n t,_,_,h=>by
  simp only[eY]at h
  rw[cg.length (λc x hx=>eY.size hx) h.2,h.1,Ty.size]
 | .kg t,_,x,h=>by
  simp only[eY]at h
  obtain⟨h1,h2⟩:=h
  cases hx:(x:Option (List t.den)) with
  |none=>rw[h1 hx];rfl
  |some l=>obtain⟨a,cap,vs,rfl,_⟩:=h2 l hx;rfl
theorem eY.one{E:Env}:∀ {t:Ty} {cs:List Value} {x:t.den},eY E t cs x->∀c∈cs,c.oneCell'=true
 | .int _,_,_,h=>by simp only[eY]at h;simp[h,Value.oneCell']
 | .bool,_,_,h=>by simp only[eY]at h;simp[h,Value.oneCell']
 | .str,_,_,h=>by simp only[eY]at h;simp[h,Value.oneCell']
 | .slice t,_,_,h=>by simp only[eY]at h;obtain⟨a,cap,vs,rfl,_⟩:=h;simp[Value.oneCell']
 | .unit,_,_,h=>by simp only[eY]at h;simp[h]
 | .pair a b,_,_,h=>by
  simp only[eY]at h
  obtain⟨ca,cb,rfl,ha,hb⟩:=h
  intro c hc
  rcases cf.1 hc with hc | hc
  ·exact eY.one ha c hc
  ·exact eY.one hb c hc
 | .arr n t,_,_,h=>by
  simp only[eY]at h
  exact cg.all (λc x hx=>eY.one hx) h.2
 | .kg t,_,x,h=>by
  simp only[eY]at h
  obtain⟨h1,h2⟩:=h
  cases hx:(x:Option (List t.den)) with
  |none=>rw[h1 hx];simp[Value.oneCell']
  |some l=>obtain⟨a,cap,vs,rfl,_⟩:=h2 l hx;simp[Value.oneCell']
structure qZ(E E':Env):Prop where
 has:∀b off v,E.has b off v->E'.has b off v
 fz:∀b ob,E.g b= .free->E.w.heap[b]? =some ob->E'.g b= .free/\E'.w.heap[b]? =some ob
theorem qZ.refl(E:Env):qZ E E:=⟨λ_ _ _ h=>h,λ_ _ h h'=>⟨h,h'⟩⟩
theorem qZ.trans{E E' E'':Env}(h:qZ E E')(h':qZ E' E''):qZ E E'':=⟨λb o v x=>h'.has b o v (h.has b o v x),λb ob h1 h2=>let⟨h3,h4⟩:=h.fz b ob h1 h2;h'.fz b ob h3 h4⟩
theorem vJ.mono{E E':Env}(h:qZ E E'){a:Option Addr}{vs:List Value}(hr:vJ E a vs):vJ E' a vs:=
 λi v hv=>let⟨b,off,ha,hh⟩:=hr i v hv;⟨b,off,ha,h.has _ _ _ hh⟩
theorem eY.mono{E E':Env}(hm:qZ E E'):∀ {t:Ty} {cs:List Value} {x:t.den},eY E t cs x->eY E' t cs x
 | .int _,_,_,h=>by simpa only[eY]using h
 | .bool,_,_,h=>by simpa only[eY]using h
 | .str,_,_,h=>by simpa only[eY]using h
 | .slice t,_,_,h=>by
  simp only[eY]at h ⊢
  obtain⟨a,cap,vs,e,hl,hs,hr,hc⟩:=h
  exact⟨a,cap,vs,e,hl,hs,hr.mono hm,hc.mono λc x hx=>eY.mono hm hx⟩
 | .unit,_,_,h=>by simpa only[eY]using h
 | .pair a b,_,_,h=>by
  simp only[eY]at h ⊢
  obtain⟨ca,cb,e,ha,hb⟩:=h
  exact⟨ca,cb,e,eY.mono hm ha,eY.mono hm hb⟩
 | .arr n t,_,_,h=>by
  simp only[eY]at h ⊢
  exact⟨h.1,h.2.mono λc x hx=>eY.mono hm hx⟩
 | .kg t,_,_,h=>by
  simp only[eY]at h ⊢
  refine⟨h.1,λl hx=> ?_⟩
  obtain⟨a,cap,vs,e,hl,hs,hr,hc⟩:=h.2 l hx
  exact⟨a,cap,vs,e,hl,hs,hr.mono hm,hc.mono λc x hx=>eY.mono hm hx⟩
def Env.cur(E:Env)(id:Id)(ver:Nat):Prop:=∃fr c,E.s id=some (.obj ver fr c)
def Env.w9(E:Env)(id:Id)(ver:Nat):Prop:=E.s id≠none/\∀v fr c,E.s id=some (.obj v fr c)->ver<=v
def jI(agg:Bool)(cs:List Value)(v:Value):Prop:=match agg with | true=>v= .agg cs.toArray | false=>cs=[v]
mutual
def V(E:Env):aH->List Value->Prop
 | .undef,_=>False
 | .gone,cs=>∃v,cs=[v]/\v.oneCell'=true
 | .eV,cs=>cs=[.slice none 0 0]
 | .o6,cs=>cs=[.pointer none]
 | .rP,cs=>cs=[.nilFunc]
 | .uw,cs=>cs=[.map none]
 | .sb l,cs=>∃(b cap:Nat) (arr:Array Value) (e:TypeId),cs=[.slice (some ⟨b,0,none⟩) l.length cap]/\l.length<=cap/\E.g b= .free/\E.w.heap[b]? =some (.cells arr e (arr.size,arr.size+1))/\∀(j:Nat) (v:Value),(l.map (Value.int .u8))[j]? =some v->arr[j]? =some v
 | .d t x,cs=>eY E t cs x
 | .pr a b,cs=>∃ca cb,cs=ca++cb/\V E a ca/\V E b cb
 | .ptr id ver _ n,cs=>∃a,cs=[.pointer (some a)]/\E.w9 id ver/\(E.cur id ver->∃pl,E.β id=some pl/\a=⟨pl.b,n,none⟩)
 | .gE t x,cs=>∃b off vs,cs=[.pointer (some ⟨b,off,none⟩)]/\vJ E (some ⟨b,off,none⟩) vs/\eY E t vs x
 | .dh id ver p c i len,cs=>∃a cap,cs=[.slice a len cap]/\len<=cap/\(0 < len->a.isSome=true)/\E.w9 id ver/\
   (E.cur id ver->match E.β id with
    |some pl=>(0 < len\/i=0->a=some ⟨pl.b,c,none⟩)/\(p=[]->i=0->cap=pl.cap)
    |none=>a=none/\len=0/\cap=0)
 | .fn f c,cs=>∃vs,cs=[.func (.func f) #[] vs.toArray]/\VC E c vs
 | .cons _ _,_=>False
 | .nil,_=>False
 | .vec ..,_=>False
 | .bx ..,_=>False
 | .kO id ver,cs=>∃b,cs=[.map (some b)]/\E.w9 id ver/\(E.cur id ver->∃pl,E.β id=some pl/\b=pl.b)
 | .mp ..,_ | .qd ..,_=>False
def VC(E:Env):aH->List Value->Prop
 | .nil,vs=>vs=[]
 | .cons a b,vs=>∃v vs' cs,vs=v::vs'/\V E a cs/\jI a.agg cs v/\VC E b vs'
 |_,_=>False
end
structure dZ(E E':Env):Prop where
 mem:qZ E E'
 w9:∀id ver,E.w9 id ver->E'.w9 id ver
 cur:∀id ver,E.w9 id ver->E'.cur id ver->E.cur id ver/\E'.β id=E.β id
theorem dZ.refl(E:Env):dZ E E:=⟨qZ.refl E,λ_ _ h=>h,λ_ _ _ h=>⟨h,rfl⟩⟩
theorem dZ.trans{E E' E'':Env}(h:dZ E E')(h':dZ E' E''):dZ E E'':=
 ⟨h.mem.trans h'.mem,λid v b=>h'.w9 id v (h.w9 id v b),λid v b c=>
  let⟨c1,e1⟩:=h'.cur id v (h.w9 id v b) c
  let⟨c2,e2⟩:=h.cur id v b c1
  ⟨c2,e1.trans e2⟩⟩
mutual
theorem V.mono{E E':Env}(h:dZ E E'):∀ {a:aH} {cs:List Value},V E a cs->V E' a cs
 | .undef,_,hv=>by simp only[V]at hv
 | .gone,_,hv=>by simpa only[V]using hv
 | .eV,_,hv=>by simpa only[V]using hv
 | .o6,_,hv=>by simpa only[V]using hv
 | .rP,_,hv=>by simpa only[V]using hv
 | .uw,_,hv=>by simpa only[V]using hv
 | .sb l,_,hv=>by
  simp only[V]at hv ⊢
  obtain⟨b,cap,arr,e,h1,h2,h3,h4,h5⟩:=hv
  obtain⟨h6,h7⟩:=h.mem.fz b _ h3 h4
  exact⟨b,cap,arr,e,h1,h2,h6,h7,h5⟩
 | .d t x,_,hv=>by simp only[V]at hv ⊢;exact hv.mono h.mem
 | .pr a b,_,hv=>by
  simp only[V]at hv ⊢
  obtain⟨ca,cb,e,ha,hb⟩:=hv
  exact⟨ca,cb,e,V.mono h ha,V.mono h hb⟩
 | .ptr id ver p n,_,hv=>by
  simp only[V]at hv ⊢
  obtain⟨a,e,hb,hc⟩:=hv
  refine⟨a,e,h.w9 _ _ hb,λc=> ?_⟩
  obtain⟨c1,e1⟩:=h.cur _ _ hb c
  rw[e1];exact hc c1
 | .gE t x,_,hv=>by
  simp only[V]at hv ⊢
  obtain⟨b,off,vs,e,hr,hx⟩:=hv
  exact⟨b,off,vs,e,hr.mono h.mem,hx.mono h.mem⟩
 | .dh id ver p c i len,_,hv=>by
  simp only[V]at hv ⊢
  obtain⟨a,cap,e,hl,hs,hb,hc⟩:=hv
  refine⟨a,cap,e,hl,hs,h.w9 _ _ hb,λc=> ?_⟩
  obtain⟨c1,e1⟩:=h.cur _ _ hb c
  rw[e1];exact hc c1
 | .fn f c,_,hv=>by
  simp only[V]at hv ⊢
  obtain⟨vs,e,hc⟩:=hv
  exact⟨vs,e,VC.mono h hc⟩
 | .cons _ _,_,hv=>by simp only[V]at hv
 | .nil,_,hv=>by simp only[V]at hv
 | .vec ..,_,hv=>by simp only[V]at hv
 | .bx ..,_,hv=>by simp only[V]at hv
 | .kO id ver,_,hv=>by
  simp only[V]at hv ⊢
  obtain⟨b,e,hb,hc⟩:=hv
  refine⟨b,e,h.w9 _ _ hb,λc=> ?_⟩
  obtain⟨c1,e1⟩:=h.cur _ _ hb c
  rw[e1];exact hc c1
 | .mp ..,_,hv | .qd ..,_,hv=>by simp only[V]at hv
theorem VC.mono{E E':Env}(h:dZ E E'):∀ {a:aH} {vs:List Value},VC E a vs->VC E' a vs
 | .nil,_,hv=>by simpa only[VC]using hv
 | .cons a b,_,hv=>by
  simp only[VC]at hv ⊢
  obtain⟨v,vs',cs,e,ha,ho,hb⟩:=hv
  exact⟨v,vs',cs,e,V.mono h ha,ho,VC.mono h hb⟩
 | .undef,_,hv=>by simp only[VC]at hv
 | .gone,_,hv=>by simp only[VC]at hv
 | .eV,_,hv=>by simp only[VC]at hv
 | .o6,_,hv=>by simp only[VC]at hv
 | .rP,_,hv=>by simp only[VC]at hv
 | .uw,_,hv=>by simp only[VC]at hv
 | .sb _,_,hv=>by simp only[VC]at hv
 | .d t x,_,hv=>by simp only[VC]at hv
 | .pr a b,_,hv=>by simp only[VC]at hv
 | .ptr ..,_,hv=>by simp only[VC]at hv
 | .gE ..,_,hv=>by simp only[VC]at hv
 | .dh ..,_,hv=>by simp only[VC]at hv
 | .fn ..,_,hv=>by simp only[VC]at hv
 | .vec ..,_,hv=>by simp only[VC]at hv
 | .bx ..,_,hv=>by simp only[VC]at hv
 | .kO ..,_,hv=>by simp only[VC]at hv
 | .mp ..,_,hv | .qd ..,_,hv=>by simp only[VC]at hv
end
theorem V.size{E:Env}:∀ {a:aH} {cs:List Value},V E a cs->cs.length=a.size
 | .undef,_,hv=>by simp only[V]at hv
 | .gone,_,hv=>by simp only[V]at hv;obtain⟨v,rfl,_⟩:=hv;rfl
 | .eV,_,hv=>by simp only[V]at hv;rw[hv];rfl
 | .o6,_,hv=>by simp only[V]at hv;rw[hv];rfl
 | .rP,_,hv=>by simp only[V]at hv;rw[hv];rfl
 | .uw,_,hv=>by simp only[V]at hv;rw[hv];rfl
 | .sb _,_,hv=>by simp only[V]at hv;obtain⟨_,_,_,_,rfl,_⟩:=hv;rfl
 | .d t x,_,hv=>by simp only[V]at hv;exact hv.size
 | .pr a b,_,hv=>by
  simp only[V]at hv
  obtain⟨ca,cb,rfl,ha,hb⟩:=hv
  simp[aH.size,V.size ha,V.size hb]
 | .ptr ..,_,hv=>by simp only[V]at hv;obtain⟨a,rfl,_⟩:=hv;rfl
 | .gE ..,_,hv=>by simp only[V]at hv;obtain⟨_,_,_,rfl,_⟩:=hv;rfl
 | .dh ..,_,hv=>by simp only[V]at hv;obtain⟨_,_,rfl,_⟩:=hv;rfl
 | .fn ..,_,hv=>by simp only[V]at hv;obtain⟨_,rfl,_⟩:=hv;rfl
 | .cons _ _,_,hv=>by simp only[V]at hv
 | .nil,_,hv=>by simp only[V]at hv
 | .vec ..,_,hv=>by simp only[V]at hv
 | .bx ..,_,hv=>by simp only[V]at hv
 | .kO ..,_,hv=>by simp only[V]at hv;obtain⟨_,rfl,_⟩:=hv;rfl
 | .mp ..,_,hv | .qd ..,_,hv=>by simp only[V]at hv
theorem V.one{E:Env}:∀ {a:aH} {cs:List Value},V E a cs->∀c∈cs,c.oneCell'=true
 | .undef,_,hv=>by simp only[V]at hv
 | .gone,_,hv=>by simp only[V]at hv;obtain⟨v,rfl,h⟩:=hv;simp[h]
 | .eV,_,hv=>by simp only[V]at hv;rw[hv];simp[Value.oneCell']
 | .o6,_,hv=>by simp only[V]at hv;rw[hv];simp[Value.oneCell']
 | .rP,_,hv=>by simp only[V]at hv;rw[hv];simp[Value.oneCell']
 | .uw,_,hv=>by simp only[V]at hv;rw[hv];simp[Value.oneCell']
 | .sb _,_,hv=>by simp only[V]at hv;obtain⟨_,_,_,_,rfl,_⟩:=hv;simp[Value.oneCell']
 | .d t x,_,hv=>by simp only[V]at hv;exact hv.one
 | .pr a b,_,hv=>by
  simp only[V]at hv
  obtain⟨ca,cb,rfl,ha,hb⟩:=hv
  intro c hc
  rcases cf.1 hc with hc | hc
  ·exact V.one ha c hc
  ·exact V.one hb c hc
 | .ptr ..,_,hv=>by simp only[V]at hv;obtain⟨a,rfl,_⟩:=hv;simp[Value.oneCell']
 | .gE ..,_,hv=>by simp only[V]at hv;obtain⟨_,_,_,rfl,_⟩:=hv;simp[Value.oneCell']
 | .dh ..,_,hv=>by simp only[V]at hv;obtain⟨_,_,rfl,_⟩:=hv;simp[Value.oneCell']
 | .fn ..,_,hv=>by simp only[V]at hv;obtain⟨_,rfl,_⟩:=hv;simp[Value.oneCell']
 | .cons _ _,_,hv=>by simp only[V]at hv
 | .nil,_,hv=>by simp only[V]at hv
 | .vec ..,_,hv=>by simp only[V]at hv
 | .bx ..,_,hv=>by simp only[V]at hv
 | .kO ..,_,hv=>by simp only[V]at hv;obtain⟨_,rfl,_⟩:=hv;simp[Value.oneCell']
 | .mp ..,_,hv | .qd ..,_,hv=>by simp only[V]at hv
theorem aH.H7:∀ {v:aH},v.agg=false->v.size=1
 | .d (.int _) _,_ | .d .bool _,_ | .d .str _,_ | .d (.slice _) _,_ | .d (.kg _) _,_=>rfl
 | .d .unit _,h | .d (.pair _ _) _,h | .d (.arr _ _) _,h=>by simp[aH.agg,Ty.agg]at h
 | .pr _ _,h=>by simp[aH.agg]at h
 | .undef,_ | .gone,_ | .eV,_ | .o6,_ | .rP,_ | .uw,_ | .ptr ..,_ | .gE ..,_ | .dh ..,_ | .fn ..,_ | .cons ..,_ | .nil,_ | .vec ..,_ | .sb _,_ | .bx ..,_ | .kO ..,_ | .mp ..,_ | .qd ..,_=>rfl
def VS(E:Env):aH->Value->Prop
 | .undef,_=>True
 | .cons a b,v=>∃vs,v= .tuple vs.toArray/\VC E (.cons a b) vs
 | .nil,v=>v= .tuple #[]
 |a,v=>∃cs,V E a cs/\jI a.agg cs v
theorem VS.mono{E E':Env}(h:dZ E E'):∀ {a:aH} {v:Value},VS E a v->VS E' a v:=by
 intro a v hv
 cases a <;> first
  |trivial
  |exact hv
  | (obtain⟨cs,h1,h2⟩:=hv;exact⟨cs,V.mono h h1,h2⟩)
  | (obtain⟨vs,e,hc⟩:=hv;exact⟨vs,e,VC.mono h hc⟩)
theorem VS.undef{E:Env}{v:Value}:VS E .undef v:=trivial
theorem VS.of{E:Env}{a:aH}{cs:List Value}{v:Value}(h:V E a cs)(ho:jI a.agg cs v):VS E a v:=by
 cases a <;> first
  | (simp only[V]at h;done)
  |exact⟨cs,h,ho⟩
theorem VS.iA{E:Env}{a:aH}{v:Value}(h:VS E a v)(hc:a.iA=true):∃cs,V E a cs/\jI a.agg cs v:=by
 cases a <;> first
  | (simp[aH.iA]at hc;done)
  |exact h
theorem VS.single{E:Env}{a:aH}{v:Value}(h:VS E a v)(hc:a.iA=true)(ha:a.agg=false):V E a [v]:=by
 obtain⟨cs,hv,ho⟩:=h.iA hc
 rw[ha]at ho
 have:cs=[v]:=ho
 rw[<-this];exact hv
theorem jI.cells{agg:Bool}{cs:List Value}{v:Value}(h:jI agg cs v)(h1:∀c∈cs,c.oneCell'=true):v.cells=cs.toArray:=by
 cases agg with
 |true=>have:v= .agg cs.toArray:=h;rw[this];rfl
 |false=>
  have e:cs=[v]:=h
  have:=h1 v (by simp[e])
  rw[e]
  cases v <;> first | rfl | (simp[Value.oneCell']at this;done)
end Go.Ab
namespace Go.Ab
section
variable {α β:Type}
theorem aB{a b:α}:(Out.ok a).eval=some b↔a=b:=by simp[Out.eval]
theorem al{b:α}:(Out.fail:Out α).eval=some b↔False:=by simp[Out.eval]
theorem cW{c:Bool}{r:Out α}{b:α}:(Out.pq c r).eval=some b↔c=true/\r.eval=some b:=by cases c <;> simp[Out.eval]
theorem aL{c:Bool}{r:Out α}{b:α}:(Out.guard c r).eval=some b↔c=true/\r.eval=some b:=by cases c <;> simp[Out.guard,Out.eval]
theorem B5{x:Option β}{f:β->Out α}{b:α}:(Out.get x f).eval=some b↔∃y,x=some y/\(f y).eval=some b:=by
 cases x <;> simp[Out.eval]
theorem lF{x:Option α}{b:α}:(Out.opt x).eval=some b↔x=some b:=by cases x <;> simp[Out.opt,Out.eval]
theorem Fs(o:Out α)(f:α->Out β):(o.bind f).eval=o.eval.bind λa=>(f a).eval:=by
 induction o with
 |ok a=>rfl
 |fail=>rfl
 |pq c r ih=>cases c <;> simp[Out.bind,Out.eval,ih]
 |get x g ih=>cases x <;> simp[Out.bind,Out.eval,ih]
 |br c x y ih1 ih2=>cases c <;> simp[Out.bind,Out.eval,ih1,ih2]
theorem av{o:Out α}{f:α->Out β}{b:β}:(o.bind f).eval=some b↔∃a,o.eval=some a/\(f a).eval=some b:=by
 rw[Fs];simp[Option.bind_eq_some_iff]
theorem run_eq{R:Type}(o:Out α)(k:α->Option R):o.run k=o.eval.bind k:=by
 induction o with
 |ok a=>rfl
 |fail=>rfl
 |pq c r ih=>cases c <;> simp[Out.run,Out.eval,aJ,ih]
 |get x g ih=>cases x <;> simp[Out.run,Out.eval,aj,ih]
 |br c x y ih1 ih2=>cases c <;> simp[Out.run,Out.eval,aJ,ih1,ih2]
theorem mB{R:Type}{o:Out α}{k:α->Option R}{r:R}:o.run k=some r↔∃a,o.eval=some a/\k a=some r:=by
 rw[run_eq];simp[Option.bind_eq_some_iff]
end
theorem lq{t t':Ty}{x:t.den}{y:t'.den}(h:qF t t' x=some y):∃e:t=t',e▸x=y:=by
 unfold qF at h
 split at h
 ·rename_i e;exact⟨e,by simpa using h⟩
 ·cases h
theorem cg.map{α β:Type}{R:List Value->α->Prop}{R':List Value->β->Prop}{f:α->β}(h:∀c x,R c x->R' c (f x)):∀ {cs:List Value} {l:List α},cg R cs l->cg R' cs (l.map f)
 |_,[],hc=>hc
 |_,x::xs,⟨c,cs',e,hx,hr⟩=>⟨c,cs',e,h c x hx,cg.map h hr⟩
theorem eY.Vm{E:Env}:∀(a b:Ty) (f:a.den->b.den),DI a b=some f->∀(cs:List Value) (x:a.den),eY E a cs x->eY E b cs (f x):=by
 intro a b
 induction a,b using DI.induct with
 |case1 t=>
  intro f hf cs x hx
  unfold DI at hf
  rw[dif_pos rfl]at hf
  obtain rfl:=cM hf
  simp only[eY]at hx
  obtain⟨h1,h2⟩:=hx
  show eY E (.slice t) cs ((x:Option (List t.den)).getD [])
  simp only[eY]
  cases hx:(x:Option (List t.den)) with
  |none=>exact⟨none,0,[],h1 hx,aC _,λh=>absurd h (nk 0),λi v hh=>by simp at hh,rfl⟩
  |some l=>exact h2 l hx
 |case2 t t' lh=>
  intro f hf
  unfold DI at hf
  rw[dif_neg lh]at hf
  cases hf
 |case3 t=>
  intro f hf cs x hx
  unfold DI at hf
  rw[dif_pos rfl]at hf
  obtain rfl:=cM hf
  simp only[eY]at hx ⊢
  refine⟨λh=>(by cases h),λl hl=> ?_⟩
  obtain rfl:x=l:=cM hl
  exact hx
 |case4 t t' lh=>
  intro f hf
  unfold DI at hf
  rw[dif_neg lh]at hf
  cases hf
 |case5 a b c d f g h1 h2 ih1 ih2=>
  intro k hk cs x hx
  unfold DI at hk
  rw[h2,h1]at hk
  obtain rfl:=cM hk
  simp only[eY]at hx ⊢
  obtain⟨ca,cb,e,ha,hb⟩:=hx
  exact⟨ca,cb,e,ih1 f h2 ca x.1 ha,ih2 g h1 cb x.2 hb⟩
 |case6 a b c d hn ih1 ih2=>
  intro p hp
  unfold DI at hp
  split at hp
  ·rename_i f k h1 h2
   exact(hn _ _ h1 h2).elim
  ·cases hp
 |case7 a b f h1 ih=>
  intro k hk cs x hx
  unfold DI at hk
  rw[h1]at hk
  obtain rfl:=cM hk
  simp only[eY]at hx ⊢
  obtain⟨ad,cap,vs,e,hl,hs,hr,hc⟩:=hx
  rw[b8]
  exact⟨ad,cap,vs,e,hl,hs,hr,hc.map λc x hx=>ih f h1 c x hx⟩
 |case8 a b h1 ih=>
  intro p hp
  unfold DI at hp
  rw[h1]at hp
  cases hp
 |case9 a h1 h2 h3 h4=>
  intro f hf cs x hx
  rw[DI.eq_5 _ _ h1 h2 h3 h4,dif_pos rfl]at hf
  obtain rfl:=cM hf
  exact hx
 |case10 a b h1 h2 h3 h4 lh=>
  intro f hf
  rw[DI.eq_5 _ _ h1 h2 h3 h4,dif_neg lh]at hf
  cases hf
theorem O7{t t':Ty}{f:t.den->t'.den}(hp:DI t t'=some f):t.agg=t'.agg:=by
 unfold DI at hp
 split at hp
 ·rfl
 ·rfl
 ·rfl
 ·rfl
 ·split at hp
  ·rename_i e;rw[e]
  ·cases hp
theorem Er{t t':Ty}{x:t.den}{y:t'.den}(h:vT t t' x=some y):t.agg=t'.agg:=by
 unfold vT at h
 split at h
 ·rename_i z hz
  obtain⟨e,_⟩:=lq hz
  rw[e]
 ·split at h
  ·rename_i f hf
   exact O7 hf
  ·cases h
theorem uN{E:Env}{t t':Ty}{x:t.den}{y:t'.den}(h:vT t t' x=some y){cs:List Value}(hx:eY E t cs x):eY E t' cs y:=by
 unfold vT at h
 split at h
 ·rename_i z hz
  obtain⟨e,hz⟩:=lq hz
  subst e
  obtain rfl:=cM h
  simp only at hz
  rw[<-hz]
  exact hx
 ·split at h
  ·rename_i f hf
   obtain rfl:=cM h
   exact eY.Vm _ _ f hf cs x hx
  ·cases h
theorem Li{E:Env}{t t':Ty}{x:List t.den}{y:List t'.den}(h:vT (.slice t) (.slice t') x=some y):y.length=x.length/\∀vs,cg (eY E t) vs x->cg (eY E t') vs y:=by
 unfold vT at h
 split at h
 ·rename_i z hz
  obtain⟨e,hz⟩:=lq hz
  have e':t=t':=by simpa using e
  subst e'
  obtain rfl:=cM h
  simp only at hz
  subst hz
  exact⟨rfl,λ_ h=>h⟩
 ·split at h
  ·rename_i p hp
   obtain rfl:=cM h
   unfold DI at hp
   cases hd:DI t t' with
   |none=>rw[hd]at hp;cases hp
   |some q=>
    rw[hd]at hp
    obtain rfl:=cM hp
    exact⟨b8 _,λvs hc=>hc.map λc x hx=>eY.Vm _ _ q hd c x hx⟩
  ·cases h
def VO(E:Env):aH->List Value->Prop
 | .vec _ t l,cs=>cg (eY E t) cs l
 |a,cs=>V E a cs
theorem VO.of{E:Env}{a:aH}{cs:List Value}(h:V E a cs):VO E a cs:=by
 cases a <;> first | exact h | (simp only[V]at h)
def aH.kq:aH->Bool | .vec .. =>true | .mp .. =>true | .qd .. =>true | _=>false
theorem VO.to{E:Env}{a:aH}{cs:List Value}(h:VO E a cs)(hn:a.kq=false):V E a cs:=by
 cases a <;> first | exact h | (simp[aH.kq]at hn)
theorem VO.mono{E E':Env}(h:dZ E E'){a:aH}{cs:List Value}(hv:VO E a cs):VO E' a cs:=by
 cases a <;> first | exact V.mono h hv | exact cg.mono (λ_ _ hx=>hx.mono h.mem) hv
theorem CV{t:Ty}{l:List t.den}{i:Nat}(h:i < l.length):nth t l i=l[i]:=by
 unfold nth;simp[h]
theorem CY{α:Type}(cs:List α)(n m k j:Nat)(h:k+j<=m):(((cs.drop n).take m).drop k).take j=(cs.drop (n+k)).take j:=by
 rw[pY,mm,iX]
 congr 1
 omega
theorem y4{E:Env}{t:Ty}{cs:List Value}{l:List t.den}(h:cg (eY E t) cs l){i:Nat}(hi:i < l.length):
  eY E t ((cs.drop (i*t.size)).take t.size) l[i]/\i*t.size+t.size<=cs.length:=by
 have hz:∀c x,eY E t c x->c.length=t.size:=λc x hx=>hx.size
 refine⟨h.get hz i hi,?_⟩
 rw[h.length hz,<-Nat.succ_mul]
 exact eR _ hi
theorem pM{E:Env}:∀(p:List xy) (c:aH) (cs:List Value) (n:Nat) (v:aH),VO E c cs->(loc c p).eval=some (n,v)->
  (n=0/\v=c)\/(V E v ((cs.drop n).take v.size)/\n+v.size<=cs.length)
 |[],c,cs,n,v,hc,h=>by
  left
  simp only[loc,aB,eN]at h
  exact⟨h.1.symm,h.2.symm⟩
 |st::p,c,cs,n,v,hc,h=>by
  by_cases vF:st= .arr
  ·subst vF
   have h':(loc c p).eval=some (n,v):=by cases c <;> simpa only[loc]using h
   exact pM p c cs n v hc h'
  right
  have whole:∀(c':aH) (cs':List Value) (n':Nat) (v':aH),V E c' cs'->(loc c' p).eval=some (n',v')->V E v' ((cs'.drop n').take v'.size)/\n'+v'.size<=cs'.length:=by
   intro c' cs' n' v' hc' hl
   rcases pM p c' cs' n' v' (VO.of hc') hl with⟨rfl,rfl⟩ | hh
   ·have:=hc'.size
    rw[aW,cn (by omega)]
    exact⟨hc',by omega⟩
   ·exact hh
  have second:∀(a b:aH) (ca cb:List Value),cs=ca++cb->ca.length=a.size->V E b cb->((loc b p).bind λ(n,v)=>Out.ok (a.size+n,v)).eval=some (n,v)->
    V E v ((cs.drop n).take v.size)/\n+v.size<=cs.length:=by
   intro a b ca cb e hl hb hh
   obtain⟨⟨n',v'⟩,h1,h2⟩:=av.1 hh
   simp only[aB,eN]at h2
   obtain⟨rfl,rfl⟩:=h2
   obtain⟨h3,h4⟩:=whole b cb n' v' hb h1
   subst e
   rw[<-hl,lz,gM (by omega),bu,mn]
   exact⟨h3,by simp only[ae];omega⟩
  have elem:∀(t:Ty) (l:List t.den) (i:Nat),cg (eY E t) cs l->(Out.pq (decide (i < l.length)) ((loc (.d t (nth t l i)) p).bind λ(n,v)=>Out.ok (i*t.size+n,v))).eval=some (n,v)->
    V E v ((cs.drop n).take v.size)/\n+v.size<=cs.length:=by
   intro t l i fI hh
   obtain⟨hi,hh⟩:=cW.1 hh
   have hi:i < l.length:=by simpa using hi
   obtain⟨⟨n',v'⟩,h1,h2⟩:=av.1 hh
   simp only[aB,eN]at h2
   obtain⟨rfl,rfl⟩:=h2
   obtain⟨hp,hle⟩:=y4 fI hi
   rw[CV hi]at h1
   have hv:V E (.d t l[i]) ((cs.drop (i*t.size)).take t.size):=by simpa only[V]using hp
   obtain⟨h3,h4⟩:=whole _ _ n' v' hv h1
   have hlen:((cs.drop (i*t.size)).take t.size).length=t.size:=hp.size
   rw[CY _ _ _ _ _ (by omega)]at h3
   exact⟨h3,by omega⟩
  cases c with
  |pr a b=>
   simp only[VO,V]at hc
   obtain⟨ca,cb,e,ha,hb⟩:=hc
   cases st with
   |arr=>exact absurd rfl vF
   |fst=>
    simp only[loc]at h
    obtain⟨h3,h4⟩:=whole a ca n v ha h
    subst e
    refine⟨?_,by simp only[ae];omega⟩
    rw[lz,oh,iy,lM (by omega:v.size<=ca.length - n),jA,dg]
    exact h3
   |snd=>simp only[loc]at h;exact second a b ca cb e ha.size hb h
   |idx i=>simp only[loc,al]at h
  |d t x=>
   simp only[VO,V]at hc
   cases t with
   |pair ta tb=>
    simp only[eY]at hc
    obtain⟨ca,cb,e,ha,hb⟩:=hc
    cases st with
    |arr=>exact absurd rfl vF
    |fst=>
     simp only[loc]at h
     obtain⟨h3,h4⟩:=whole (.d ta x.1) ca n v (by simpa only[V]using ha) h
     subst e
     refine⟨?_,by simp only[ae];omega⟩
     rw[lz,oh,iy,lM (by omega:v.size<=ca.length - n),jA,dg]
     exact h3
    |snd=>simp only[loc]at h;exact second (.d ta x.1) (.d tb x.2) ca cb e ha.size (by simpa only[V]using hb) h
    |idx i=>simp only[loc,al]at h
   |arr m t=>
    simp only[eY]at hc
    cases st with
    |arr=>exact absurd rfl vF
    |idx i=>simp only[loc]at h;exact elem t x i hc.2 h
    |fst=>simp only[loc,al]at h
    |snd=>simp only[loc,al]at h
   |_=>cases st <;> first | exact absurd rfl vF | (simp only[loc,al]at h)
  |vec e t l=>
   simp only[VO]at hc
   cases st with
   |arr=>exact absurd rfl vF
   |idx i=>simp only[loc]at h;exact elem t l i hc h
   |fst=>simp only[loc,al]at h
   |snd=>simp only[loc,al]at h
  |_=>cases st <;> first | exact absurd rfl vF | (simp only[loc,al]at h)
theorem IA{E:Env}{a b:aH}{ca cb:List Value}(ha:V E a ca)(hb:V E b cb):V E (yL a b) (ca++cb):=by
 have gen:V E (.pr a b) (ca++cb):=by simp only[V];exact⟨ca,cb,rfl,ha,hb⟩
 unfold yL
 split
 ·simp only[V]at ha hb ⊢
  simp only[eY]
  exact⟨ca,cb,rfl,ha,hb⟩
 ·exact gen
theorem AM(a b:aH):(yL a b).kq=false:=by unfold yL;split <;> rfl
def fo(cs:List Value)(n:Nat)(vs:List Value):List Value:=cs.take n++vs++cs.drop (n+vs.length)
theorem Jz{cs vs:List Value}(h:cs.length=vs.length):fo cs 0 vs=vs:=by
 simp[fo,gM (by omega:cs.length<=vs.length)]
theorem tw{ca cb vs:List Value}{n:Nat}(h:n+vs.length<=ca.length):fo (ca++cb) n vs=fo ca n vs++cb:=by
 unfold fo
 rw[oh,lz,lM (by omega:n<=ca.length),jA,dg,lM h,aW]
 simp only[bR]
theorem zg{ca cb vs:List Value}{n:Nat}:fo (ca++cb) (ca.length+n) vs=ca++fo cb n vs:=by
 unfold fo
 rw[oh,cn (by omega),mn,lz,gM (by omega),bu]
 simp only[bR]
 congr 4
 omega
theorem JA{cs vs:List Value}{i z n:Nat}(hz:i+z<=cs.length)(h:n+vs.length<=z):
  fo cs (i+n) vs=cs.take i++fo ((cs.drop i).take z) n vs++cs.drop (i+z):=by
 have e:cs=cs.take i++((cs.drop i).take z++cs.drop (i+z)):=by
  rw[<-iX,fQ,fQ]
 have hl:(cs.take i).length=i:=by simp;omega
 have hm:((cs.drop i).take z).length=z:=by simp;omega
 conv=>lhs;rw[e,show i+n=(cs.take i).length+n by rw[hl]]
 rw[zg,tw (by omega)]
 simp only[bR]
theorem lv{cs vs:List Value}{n:Nat}(h:n+vs.length<=cs.length):(fo cs n vs).length=cs.length:=by
 simp[fo];omega
def mq:aH->aH->Prop
 | .vec e t l,.vec e' t' l'=>e'=e/\t'=t/\l'.length=l.length
 | .vec ..,_=>False
 |_,.vec .. =>False
 | .mp ..,_ | .qd ..,_=>False
 |_,.mp .. | _,.qd .. =>False
 |_,_=>True
theorem mq.qk{a b:aH}(h:mq a b)(ha:a.kq=false):b.kq=false:=by
 cases b <;> first
  |rfl
  | (cases a <;> first | (simp[aH.kq]at ha;done) | exact h.elim)
theorem mq.of{a b:aH}(ha:a.kq=false)(hb:b.kq=false):mq a b:=by
 cases a <;> first
  | (simp[aH.kq]at ha;done)
  | (cases b <;> first | trivial | (simp[aH.kq]at hb;done))
theorem V.qk{E:Env}{a:aH}{cs:List Value}(h:V E a cs):a.kq=false:=by
 cases a <;> first | rfl | (simp only[V]at h)
theorem oA{E:Env}:∀(p:List xy) (c:aH) (cs:List Value) (n:Nat) (o v c':aH) (vs:List Value),VO E c cs->(loc c p).eval=some (n,o)->V E v vs->
  (tY c p v).eval=some c'->n+vs.length<=cs.length/\VO E c' (fo cs n vs)/\
   mq c c'
 |[],c,cs,n,o,v,c',vs,hc,hl,hv,h=>by
  simp only[loc,aB,eN]at hl
  obtain⟨rfl,rfl⟩:=hl
  have main:∀(Ub:c.kq=false),(Out.guard (v.iA && (c.size==v.size)) (.ok v)).eval=some c'->0+vs.length<=cs.length/\VO E c' (fo cs 0 vs)/\
   mq c c':=by
   intro Ub hg
   obtain⟨h1,h2⟩:=aL.1 hg
   obtain rfl:=aB.1 h2
   simp only[ak,beq_iff_eq]at h1
   have e1:=(hc.to Ub).size
   have e2:=hv.size
   refine⟨by omega,?_,?_⟩
   ·rw[Jz (by omega)];exact VO.of hv
   ·exact mq.of Ub hv.qk
  cases c with
  |vec e t l=>simp only[tY,al]at h
  |mp k v l=>simp only[tY,al]at h
  |qd q ver k v rest cur=>simp only[tY,al]at h
  |_=>exact main rfl (by simpa only[tY]using h)
 |st::p,c,cs,n,o,v,c',vs,hc,hl,hv,h=>by
  by_cases vF:st= .arr
  ·subst vF
   have hl':(loc c p).eval=some (n,o):=by cases c <;> simpa only[loc]using hl
   have h':(tY c p v).eval=some c':=by cases c <;> simpa only[tY]using h
   exact oA p c cs n o v c' vs hc hl' hv h'
  have left:∀(a b:aH) (ca cb:List Value),cs=ca++cb->V E a ca->V E b cb->(loc a p).eval=some (n,o)->((tY a p v).bind λa'=>Out.ok (yL a' b)).eval=some c'->
    n+vs.length<=cs.length/\VO E c' (fo cs n vs)/\c'.kq=false:=by
   intro a b ca cb e ha hb hl hh
   obtain⟨a',h1,h2⟩:=av.1 hh
   obtain rfl:=aB.1 h2
   obtain⟨h3,h4,h5⟩:=oA p a ca n o v a' vs (VO.of ha) hl hv h1
   subst e
   refine⟨by simp only[ae];omega,?_,AM _ _⟩
   rw[tw h3]
   have Vu:a'.kq=false:=h5.qk ha.qk
   exact VO.of (IA (h4.to Vu) hb)
  have right:∀(a b:aH) (ca cb:List Value),cs=ca++cb->ca.length=a.size->V E a ca->V E b cb->((loc b p).bind λ(n,v)=>Out.ok (a.size+n,v)).eval=some (n,o)->
    ((tY b p v).bind λb'=>Out.ok (yL a b')).eval=some c'->n+vs.length<=cs.length/\VO E c' (fo cs n vs)/\c'.kq=false:=by
   intro a b ca cb e Ph ha hb hl hh
   obtain⟨⟨n',v'⟩,h1,h2⟩:=av.1 hl
   simp only[aB,eN]at h2
   obtain⟨rfl,rfl⟩:=h2
   obtain⟨b',h3,h4⟩:=av.1 hh
   obtain rfl:=aB.1 h4
   obtain⟨h5,h6,h7⟩:=oA p b cb n' v' v b' vs (VO.of hb) h1 hv h3
   subst e
   refine⟨by simp only[ae];omega,?_,AM _ _⟩
   rw[<-Ph,zg]
   have Vu:b'.kq=false:=h7.qk hb.qk
   exact VO.of (IA ha (h6.to Vu))
  have elem:∀(t:Ty) (l:List t.den) (i:Nat) (mk:List t.den->aH),cg (eY E t) cs l->(Out.pq (decide (i < l.length)) ((loc (.d t (nth t l i)) p).bind λ(n,v)=>Out.ok (i*t.size+n,v))).eval=some (n,o)->
    (Out.pq (decide (i < l.length)) ((tY (.d t (nth t l i)) p v).bind fun
     | .d t' y=>(Out.opt (qF t' t y)).bind λy=> .ok (mk (l.set i y))
     |_=> .fail)).eval=some c'->
    n+vs.length<=cs.length/\∃l',c'=mk l'/\l'.length=l.length/\cg (eY E t) (fo cs n vs) l':=by
   intro t l i mk fI hl hh
   obtain⟨hi,hl⟩:=cW.1 hl
   have hi:i < l.length:=by simpa using hi
   obtain⟨⟨n',v'⟩,h1,h2⟩:=av.1 hl
   simp only[aB,eN]at h2
   obtain⟨rfl,rfl⟩:=h2
   obtain⟨_,hh⟩:=cW.1 hh
   obtain⟨w,h3,h4⟩:=av.1 hh
   obtain⟨hp,hle⟩:=y4 fI hi
   rw[CV hi]at h1 h3
   have U5:V E (.d t l[i]) ((cs.drop (i*t.size)).take t.size):=by simpa only[V]using hp
   have hlen:((cs.drop (i*t.size)).take t.size).length=t.size:=hp.size
   obtain⟨h5,h6,h7⟩:=oA p _ _ n' v' v w vs (VO.of U5) h1 hv h3
   cases w with
   |d t' y=>
    simp only at h4
    obtain⟨y',h8,h9⟩:=av.1 h4
    obtain⟨rfl,h8⟩:=lq (lF.1 h8)
    simp only at h8
    subst h8
    obtain rfl:=aB.1 h9
    refine⟨by omega,_,rfl,by simp,?_⟩
    have hy:eY E t' (fo ((cs.drop (i*t'.size)).take t'.size) n' vs) y:=by simpa only[VO,V]using h6
    have:=cg.set (λc x hx=>eY.size hx) fI i hi hy
    rw[JA (by omega:i*t'.size+t'.size<=cs.length) (by omega)]
    rwa[hy.size]at this
   |_=>simp only[al]at h4
  cases c with
  |pr a b=>
   simp only[VO,V]at hc
   obtain⟨ca,cb,e,ha,hb⟩:=hc
   cases st with
   |arr=>exact absurd rfl vF
   |fst=>
    simp only[loc]at hl;simp only[tY]at h
    obtain⟨r1,r2,r3⟩:=left a b ca cb e ha hb hl h
    exact⟨r1,r2,mq.of rfl r3⟩
   |snd=>
    simp only[loc]at hl;simp only[tY]at h
    obtain⟨r1,r2,r3⟩:=right a b ca cb e ha.size ha hb hl h
    exact⟨r1,r2,mq.of rfl r3⟩
   |idx i=>simp only[loc,al]at hl
  |d t x=>
   simp only[VO,V]at hc
   cases t with
   |pair ta tb=>
    simp only[eY]at hc
    obtain⟨ca,cb,e,ha,hb⟩:=hc
    have ha':V E (.d ta x.1) ca:=by simpa only[V]using ha
    have hb':V E (.d tb x.2) cb:=by simpa only[V]using hb
    cases st with
    |arr=>exact absurd rfl vF
    |fst=>
     simp only[loc]at hl;simp only[tY]at h
     obtain⟨r1,r2,r3⟩:=left _ _ ca cb e ha' hb' hl h
     exact⟨r1,r2,mq.of rfl r3⟩
    |snd=>
     simp only[loc]at hl;simp only[tY]at h
     obtain⟨r1,r2,r3⟩:=right (.d ta x.1) (.d tb x.2) ca cb e ha.size ha' hb' hl h
     exact⟨r1,r2,mq.of rfl r3⟩
    |idx i=>simp only[loc,al]at hl
   |arr m t=>
    simp only[eY]at hc
    cases st with
    |arr=>exact absurd rfl vF
    |idx i=>
     simp only[loc]at hl;simp only[tY]at h
     obtain⟨r1,l',e,r2,r3⟩:=elem t x i (λl=> .d (.arr m t) l) hc.2 hl h
     subst e
     refine⟨r1,?_,trivial⟩
     simp only[VO,V,eY]
     exact⟨by rw[r2];exact hc.1,r3⟩
    |fst=>simp only[loc,al]at hl
    |snd=>simp only[loc,al]at hl
   |_=>cases st <;> first | exact absurd rfl vF | (simp only[loc,al]at hl)
  |vec e t l=>
   simp only[VO]at hc
   cases st with
   |arr=>exact absurd rfl vF
   |idx i=>
    simp only[loc]at hl;simp only[tY]at h
    obtain⟨r1,l',e',r2,r3⟩:=elem t l i (λl=> .vec e t l) hc hl h
    subst e'
    exact⟨r1,by simpa only[VO]using r3,rfl,rfl,r2⟩
   |fst=>simp only[loc,al]at hl
   |snd=>simp only[loc,al]at hl
  |_=>cases st <;> first | exact absurd rfl vF | (simp only[loc,al]at hl)
end Go.Ab
namespace Go.Ab
def Vl(E:Env)(id:Id)(fr:Bool)(e:TypeId)(t:Ty)(l:List t.den):Prop:=
 0 < t.size/\match E.β id with
  |none=>l=[]
  |some pl=>∃cur k,E.w.heap[pl.b]? =some (.cells cur e (0,0))/\cur.size=pl.cap*t.size/\l.length<=pl.cap/\pl.cap<=maxLen/\E.g pl.b= .own (.id id) k/\
    k<=l.length*t.size/\(fr=false->k=0)/\cg (eY E t) (cur.toList.take (l.length*t.size)) l
def aH.vQ:aH->Pl->Nat->TypeId->Prop
 | .bx e' 0 _,_,_,e=>e=e'
 | .bx e' (z+1) c,pl,n,e=>e=e'/\n=pl.cap*(z+1)/\pl.cap<=maxLen/\c.size<=n
 |_,_,_,_=>True
def aH.rJ:aH->Nat->Nat
 | .bx _ (_+1) c,_=>c.size
 |_,n=>n
def aH.DP:aH->Bool | .bx .. =>true | _=>false
theorem V.sL{E:Env}{a:aH}{cs:List Value}(h:V E a cs):a.DP=false:=by
 cases a <;> first | rfl | (simp only[V]at h)
theorem Ao{c:aH}(h:c.DP=false):c.strip=c:=by
 cases c <;> first | rfl | (simp[aH.DP]at h)
theorem zy{c:aH}(h:c.DP=false)(pl:Pl)(n:Nat)(e:TypeId):c.vQ pl n e:=by
 cases c <;> first | trivial | (simp[aH.DP]at h)
theorem BV{c:aH}(h:c.DP=false)(n:Nat):c.rJ n=n:=by
 cases c <;> first | rfl | (simp[aH.DP]at h)
theorem yf(c:aH){c':aH}(h:c'.DP=false):(c.wrap c').strip=c':=by
 cases c <;> first | rfl | exact Ao h
theorem xA{c c':aH}{pl:Pl}{n:Nat}{e:TypeId}(hc:c.vQ pl n e)(h:c'.DP=false)(hs:c'.size=c.strip.size):(c.wrap c').vQ pl n e:=by
 cases c with
 |bx e' z c=>cases z with
  |zero=>exact hc
  |succ z=>exact⟨hc.1,hc.2.1,hc.2.2.1,by rw[hs];exact hc.2.2.2⟩
 |_=>exact zy h pl n e
theorem zx{c c':aH}{n:Nat}(h:c'.DP=false)(hs:c'.size=c.strip.size):(c.wrap c').rJ n=c.rJ n:=by
 cases c with
 |bx e' z c=>cases z with
  |zero=>rfl
  |succ z=>exact hs
 |_=>exact BV h n
theorem Bq{c:aH}{pl:Pl}{n:Nat}{e:TypeId}(h:c.vQ pl n e):c.rJ n<=n:=by
 cases c with
 |bx e' z c=>cases z with
  |zero=>exact aC _
  |succ z=>exact h.2.2.2
 |_=>exact aC _
def IG(id:Id)(fr:Bool):od:=match fr with | true=> .free | false=> .own (.id id) 0
def zq(E:Env)(id:Id)(fr:Bool)(c:aH):Prop:=
 ∃pl cur e,E.β id=some pl/\E.w.heap[pl.b]? =some (.cells cur e (0,0))/\E.g pl.b=IG id fr/\c.vQ pl cur.size e/\V E c.strip (cur.toList.take (c.rJ cur.size))
def Alike{α β:Type}(R:α->β->Prop):List α->List β->Prop
 |[],[]=>True
 |x::xs,y::ys=>R x y/\Alike R xs ys
 |_,_=>False
theorem Alike.mono{α β:Type}{R R':α->β->Prop}(h:∀x y,R x y->R' x y):∀ {xs:List α} {ys:List β},Alike R xs ys->Alike R' xs ys
 |[],[],_=>trivial
 |_::_,_::_,⟨h1,h2⟩=>⟨h _ _ h1,Alike.mono h h2⟩
 |[],_::_,h=>h.elim
 |_::_,[],h=>h.elim
def uc(E:Env)(t:Ty)(v:Value)(x:t.den):Prop:=∃cs,eY E t cs x/\jI t.agg cs v
def uG(E:Env)(kt vt:Ty)(e:MapEntry)(x:kt.den×vt.den):Prop:=uc E kt e.key x.1/\uc E vt e.val x.2
theorem uG.mono{E E':Env}(h:qZ E E'){kt vt:Ty}{e:MapEntry}{x:kt.den×vt.den}(he:uG E kt vt e x):uG E' kt vt e x:=
 let⟨⟨c1,a1,b1⟩,c2,a2,b2⟩:=he
 ⟨⟨c1,a1.mono h,b1⟩,c2,a2.mono h,b2⟩
def Fb(E:Env)(kt vt:Ty)(es:List MapEntry)(l:List (kt.den×vt.den)):Prop:=∃l',Alike (uG E kt vt) es l'/\l'.Perm l
theorem Fb.mono{E E':Env}(h:qZ E E'){kt vt:Ty}{es:List MapEntry}{l:List (kt.den×vt.den)}(hm:Fb E kt vt es l):Fb E' kt vt es l:=
 let⟨l',h1,h2⟩:=hm
 ⟨l',h1.mono λ_ _ he=>he.mono h,h2⟩
def nJ(es:List MapEntry)(clock:Nat):Prop:=(es.map (·.born)).Nodup/\∀e∈es,e.born < clock
theorem nJ.nil(n:Nat):nJ [] n:=⟨lE,λ_ h=>(by cases h)⟩
theorem nJ.push{es:List MapEntry}{clock:Nat}(h:nJ es clock){e:MapEntry}(he:e.born=clock):nJ (es++ [e]) (clock+1):=by
 refine⟨?_,λx hx=> ?_⟩
 ·rw[lT,List.nodup_append]
  refine⟨h.1,by simp,λa ha b hb=> ?_⟩
  obtain⟨x,hx,rfl⟩:=eb.1 ha
  have:=h.2 x hx
  simp only[cG,jg,aR]at hb
  omega
 ·rcases cf.1 hx with hx | hx
  ·have:=h.2 x hx;omega
  ·rw[aR]at hx;subst hx;omega
theorem nJ.erase{es:List MapEntry}{clock:Nat}(h:nJ es clock)(j:Nat):nJ (es.eraseIdx j) clock:=
 ⟨h.1.sublist ((List.eraseIdx_sublist es j).map _),λx hx=>h.2 x ((List.eraseIdx_sublist es j).subset hx)⟩
theorem nJ.set{es:List MapEntry}{clock:Nat}(h:nJ es clock){j:Nat}{e x:MapEntry}(hj:es[j]? =some e)(hx:x.born=e.born):nJ (es.set j x) clock:=by
 have mw:=(fE.1 hj).1
 have Xf:=(fE.1 hj).2
 have e1:(es.set j x).map (·.born)=es.map (·.born):=by
  rw[List.map_set,hx,<-Xf]
  have:es[j].born=(es.map (·.born))[j]'(by simpa using mw):=by simp
  rw[this,gr]
 refine⟨by rw[e1];exact h.1,λy hy=> ?_⟩
 rcases List.mem_or_eq_of_mem_set hy with hy | hy
 ·exact h.2 y hy
 ·rw[hy,hx,<-Xf]
  exact h.2 _ (List.getElem_mem mw)
def Vj(E:Env)(id:Id)(kt vt:Ty)(l:List (kt.den×vt.den)):Prop:=
 ∃pl es clock,E.β id=some pl/\E.w.heap[pl.b]? =some (.map es clock)/\E.g pl.b= .own (.id id) 0/\(Fb E kt vt es.toList l/\(l.map (·.1)).Nodup)/\nJ es.toList clock
def SJ(E:Env)(i q:Id)(ver:Nat)(kt vt:Ty)(rest:List (kt.den×vt.den))(cur:Option (kt.den×vt.den)):Prop:=
 ∃pl mb since seen c0,E.β i=some pl/\E.w.heap[pl.b]? =some (.mapIter (some mb) since seen c0)/\E.g pl.b= .own (.id i) 0/\∀vr,ver=vr+1->E.w9 q vr/\
  (E.cur q vr->(∃k v l,E.s q=some (.obj vr true (.mp k v l)))/\∃plq es clock,E.β q=some plq/\plq.b=mb/\E.w.heap[plq.b]? =some (.map es clock)/\E.g plq.b= .own (.id q) 0/\
   (∀x∈es.toList,x.born < since)/\(since<=c0/\since<=clock)/\(es.toList.map (·.born)).Nodup/\Fb E kt vt (es.toList.filter λe=> !seen.contains e.born) rest/\
   ∀x,cur=some x->∃(e:MapEntry) (seen':Array Nat),e∈es.toList/\seen=seen'.push e.born/\c0=clock/\uG E kt vt e x)
def rI(E:Env)(id:Id)(fr:Bool):aH->Prop
 | .vec e t l=>Vl E id fr e t l
 | .mp kt vt l=>Vj E id kt vt l
 | .qd q ver kt vt rest cur=>SJ E id q ver kt vt rest cur
 |c=>zq E id fr c
theorem rI.box{E:Env}{id:Id}{fr:Bool}{c:aH}(h:rI E id fr c)(hn:c.kq=false):zq E id fr c:=by
 cases c <;> first | exact h | (simp[aH.kq]at hn)
theorem zq.obj{E:Env}{id:Id}{fr:Bool}{c:aH}(h:zq E id fr c):rI E id fr c:=by
 cases c <;> first | exact h | (obtain⟨_,_,_,_,_,_,_,hv⟩:=h;simp only[aH.strip,V]at hv)
def lO(E:Env):Prop:=∀id ver fr c,E.s id=some (.obj ver fr c)->rI E id fr c
structure Trans(w w':World)(g g':Nat->od):Prop where
 os:w'.os=w.os
 tape:w'.tape=w.tape
 output:w'.output=w.output/\w.drawn<=w'.drawn
 size:w.heap.size<=w'.heap.size
 K6:∀b,b < w.heap.size->match g b with
  | .free=>g' b= .free/\w'.heap[b]? =w.heap[b]?
  | .own .iR k=>g' b= .own .iR k/\w'.heap[b]? =w.heap[b]?
  | .own (.id _) k=>(g' b= .free\/∃i k',g' b= .own (.id i) k'/\k<=k')/\∀off v,off < k->w.cell? ⟨b,off,none⟩=some v->w'.cell? ⟨b,off,none⟩=some v
theorem Trans.refl(w:World)(g:Nat->od):Trans w w g g:=
 ⟨rfl,rfl,⟨rfl,aC _⟩,aC _,λb _=>by
  cases g b with
  |free=>exact⟨rfl,rfl⟩
  |own o k=>cases o with
   |iR=>exact⟨rfl,rfl⟩
   |id i=>exact⟨.inr ⟨i,k,rfl,aC _⟩,λ_ _ _ h=>h⟩⟩
theorem Trans.trans{w w' w'':World}{g g' g'':Nat->od}(h:Trans w w' g g')(h':Trans w' w'' g' g''):Trans w w'' g g'':=by
 refine⟨h'.os.trans h.os,h'.tape.trans h.tape,⟨h'.output.1.trans h.output.1,oo h.output.2 h'.output.2⟩,oo h.size h'.size,λb hb=> ?_⟩
 have h1:=h.K6 b hb
 have h2:=h'.K6 b (Nat.lt_of_lt_of_le hb h.size)
 cases hg:g b with
 |free=>
  rw[hg]at h1;simp only at h1 ⊢
  rw[h1.1]at h2;simp only at h2
  exact⟨h2.1,h2.2.trans h1.2⟩
 |own o k=>
  cases o with
  |iR=>
   rw[hg]at h1;simp only at h1 ⊢
   rw[h1.1]at h2;simp only at h2
   exact⟨h2.1,h2.2.trans h1.2⟩
  |id i=>
   rw[hg]at h1;simp only at h1 ⊢
   obtain⟨TA,W2⟩:=h1
   rcases TA with TA | ⟨i',k',TA,hk⟩
   ·rw[TA]at h2;simp only at h2
    exact⟨.inl h2.1,λoff v ho hv=>by
     have:=W2 off v ho hv
     simpa only[World.cell?,h2.2]using this⟩
   ·rw[TA]at h2;simp only at h2
    refine⟨?_,λoff v ho hv=>h2.2 off v (by omega) (W2 off v ho hv)⟩
    rcases h2.1 with Vq | ⟨i'',k'',Vq,hk'⟩
    ·exact .inl Vq
    ·exact .inr ⟨i'',k'',Vq,by omega⟩
theorem Trans.mem{E E':Env}(h:Trans E.w E'.w E.g E'.g):qZ E E':=by
 refine⟨?_,λb ob hf ho=>by
  have h1:=h.K6 b (fu.1 ho).1
  rw[hf]at h1
  exact⟨h1.1,h1.2.trans ho⟩⟩
 intro b off v ⟨hc,ho⟩
 have hb:b < E.w.heap.size:=World.block_lt_of_cell? _ _ hc
 have h1:=h.K6 b hb
 unfold Env.has rq at*
 cases hg:E.g b with
 |free=>
  rw[hg]at h1;simp only at h1
  refine⟨?_,by rw[h1.1];trivial⟩
  simpa only[World.cell?,h1.2]using hc
 |own o k=>
  rw[hg]at ho;simp only at ho
  cases o with
  |iR=>
   rw[hg]at h1;simp only at h1
   refine⟨?_,by rw[h1.1];exact ho⟩
   simpa only[World.cell?,h1.2]using hc
  |id i=>
   rw[hg]at h1;simp only at h1
   refine⟨h1.2 off v ho hc,?_⟩
   rcases h1.1 with h2 | ⟨i',k',h2,hk⟩
   ·rw[h2];trivial
   ·rw[h2];show off < k';omega
theorem rI.QE{E E':Env}(h:dZ E E'){id:Id}{fr:Bool}{c:aH}(ho:rI E id fr c)(hβ:E'.β id=E.β id)
    (hb:∀pl,E.β id=some pl->E'.w.heap[pl.b]? =E.w.heap[pl.b]? /\E'.g pl.b=E.g pl.b)
    (hq:∀q ver k v l,(∃kt vt rest cu,c= .qd q (ver+1) kt vt rest cu)->E.s q=some (.obj ver true (.mp k v l))->E'.cur q ver->(∃k v l,E'.s q=some (.obj ver true (.mp k v l)))/\∀pl,E.β q=some pl->E'.w.heap[pl.b]? =E.w.heap[pl.b]? /\E'.g pl.b=E.g pl.b):rI E' id fr c:=by
  by_cases hn:c.kq=false
  · obtain⟨pl,cur,e,h1,h2,h3,h5,h4⟩:=ho.box hn
    obtain⟨b1,b2⟩:=hb pl h1
    exact zq.obj ⟨pl,cur,e,by rw[hβ,h1],by rw[b1,h2],by rw[b2,h3],h5,h4.mono h⟩
  · cases c <;> first
      | (exact absurd rfl hn)
      | (obtain⟨pl,es,clock,h1,h2,h3,h4⟩:=ho
         obtain⟨b1,b2⟩:=hb pl h1
         exact⟨pl,es,clock,by rw[hβ,h1],by rw[b1,h2],by rw[b2,h3],⟨h4.1.1.mono h.mem,h4.1.2⟩,h4.2⟩)
      | (obtain⟨pl,mb,since,seen,c0,h1,h2,h3,hv⟩:=ho
         obtain⟨b1,b2⟩:=hb pl h1
         refine⟨pl,mb,since,seen,c0,by rw[hβ,h1],by rw[b1,h2],by rw[b2,h3],λvr Mt=> ?_⟩
         obtain⟨h4,h5⟩:=hv vr Mt
         refine⟨h.w9 _ _ h4,λhc=> ?_⟩
         obtain⟨c1,e1⟩:=h.cur _ _ h4 hc
         obtain⟨⟨k,v,l,hk⟩,plq,es,clock,g1,g2,g3,g4,g5,g6,g7,g8,g9⟩:=h5 c1
         obtain⟨q1,q2⟩:=hq _ _ _ _ _ ⟨_,_,_,_,by rw[Mt]⟩ hk hc
         obtain⟨q3,q4⟩:=q2 plq g1
         exact⟨q1,plq,es,clock,by rw[e1,g1],g2,by rw[q3,g3],by rw[q4,g4],g5,g6,g7,g8.mono h.mem,λx hx=>
           let⟨e,se,a1,a2,a3,a4⟩:=g9 x hx
           ⟨e,se,a1,a2,a3,a4.mono h.mem⟩⟩)
      |skip
    rename_i e t l
    obtain⟨hz,ho⟩:=ho
    refine⟨hz,?_⟩
    rw[hβ]
    cases hp:E.β id with
    |none=>rw[hp]at ho;exact ho
    |some pl=>
      rw[hp]at ho
      simp only at ho ⊢
      obtain⟨b1,b2⟩:=hb pl hp
      obtain⟨cur,k,h1,h2,h3,h4,h5,h6,h7,h8⟩:=ho
      exact⟨cur,k,by rw[b1,h1],h2,h3,h4,by rw[b2,h5],h6,h7,h8.mono λc x hx=>hx.mono h.mem⟩
theorem rI.mono{E E':Env}(h:dZ E E'){id:Id}{fr:Bool}{c:aH}(ho:rI E id fr c)(hβ:E'.β id=E.β id)
  (hb:∀pl,E.β id=some pl->E'.w.heap[pl.b]? =E.w.heap[pl.b]? /\E'.g pl.b=E.g pl.b)
  (hq:∀q ver k v l,E.s q=some (.obj ver true (.mp k v l))->E'.cur q ver->(∃k v l,E'.s q=some (.obj ver true (.mp k v l)))/\∀pl,E.β q=some pl->E'.w.heap[pl.b]? =E.w.heap[pl.b]? /\E'.g pl.b=E.g pl.b):rI E' id fr c:=
 ho.QE h hβ hb λq ver k v l _=>hq q ver k v l
def AS.env(s:AS)(w:World)(g:Nat->od)(β:Id->Option Pl):Env:= {w,g,β,s:=s.dx}
structure Ctx where
 E:Env
structure Inv(C:Ctx)(g:Nat->od)(β:Id->Option Pl)(s:AS)(a:Act)(w:World):Prop where
 defers:a.defers=[]
 size:a.tmps.size=s.dU.length
 dU:∀i,VS (s.env w g β) (s.slot i) (a.tmps.getD i undef)
 da:lO (s.env w g β)
 trans:Trans C.E.w w C.E.g g
 le:dZ C.E (s.env w g β)
def kL(C:Ctx)(s:AS)(a:Act)(w:World):Prop:=∃g β,Inv C g β s a w
theorem Dd(s:AS)(d:Nat)(v:aH)(i:Nat):(s.put (some d) v).slot i=if i=d/\d < s.dU.length then v else s.slot i:=by
 simp only[AS.put,AS.slot,aX,List.getElem?_set]
 by_cases h:d=i
 ·subst h
  by_cases hl:d < s.dU.length
  ·simp[hl]
  ·simp[hl]
 ·simp[h,Ne.symm h]
@[simp] theorem wN(s:AS)(d:Option Tmp)(v:aH):(s.put d v).dx=s.dx:=by
 cases d <;> rfl
@[simp] theorem J4(s:AS)(d:Option Tmp)(v:aH)(w:World)(g:Nat->od)(β:Id->Option Pl):(s.put d v).env w g β=s.env w g β:=by
 simp[AS.env]
theorem Oy(a:Act)(d:Nat)(v:Value)(i:Nat):(a.put (some d) v).tmps.getD i undef=if i=d/\d < a.tmps.size then v else a.tmps.getD i undef:=by
 simp only[Act.put,fF,iL]
 by_cases h:d=i
 ·subst h
  by_cases hl:d < a.tmps.size
  ·simp[hl]
  ·simp[hl]
 ·simp[h,Ne.symm h]
theorem Inv.put{C:Ctx}{g:Nat->od}{β:Id->Option Pl}{s:AS}{a:Act}{w:World}(h:Inv C g β s a w)(d:Option Tmp){v:aH}{x:Value}(hv:VS (s.env w g β) v x):
  Inv C g β (s.put d v) (a.put d x) w:=by
 cases d with
 |none=>exact h
 |some d=>
  refine⟨by simpa[Act.put]using h.defers,by simpa[Act.put,AS.put]using h.size,λi=> ?_,by simpa using h.da,h.trans,by simpa using h.le⟩
  rw[J4,Dd,Oy,h.size]
  split
  ·exact hv
  ·exact h.dU i
theorem Inv.step{C:Ctx}{g g':Nat->od}{β β':Id->Option Pl}{s s':AS}{a:Act}{w w':World}(h:Inv C g β s a w)(hs:s'.dU=s.dU)
  (ht:Trans w w' g g') (he:dZ (s.env w g β) (s'.env w' g' β')) (ho:lO (s'.env w' g' β')):Inv C g' β' s' a w':=
 ⟨h.defers,by rw[hs];exact h.size,λi=>by
  have:s'.slot i=s.slot i:=by simp[AS.slot,hs]
  rw[this]
  exact(h.dU i).mono he,ho,h.trans.trans ht,h.le.trans he⟩
theorem MC{E:Env}(v:Value):VS E (ofConst v) v:=by
 cases v with
 |bool b=>exact⟨_,by simp[ofConst,V,eY],rfl⟩
 |int k n=>exact⟨_,by simp[ofConst,V,eY],rfl⟩
 |string s=>exact⟨_,by simp[ofConst,V,eY],rfl⟩
 |slice a l c=>cases a with
  |none=>
   cases l with
   |zero=>cases c with
    |zero=>exact⟨_,by simp[ofConst,V],rfl⟩
    |succ _=>trivial
   |succ _=>trivial
  |some _=>trivial
 |pointer a=>cases a with
  |none=>exact⟨_,by simp[ofConst,V],rfl⟩
  |some _=>trivial
 |map r=>cases r with
  |none=>exact⟨_,by simp[ofConst,V],rfl⟩
  |some _=>trivial
 |nilFunc=>exact⟨_,by simp[ofConst,V],rfl⟩
 |_=>trivial
theorem Inv.ev{C:Ctx}{g:Nat->od}{β:Id->Option Pl}{s:AS}{a:Act}{w:World}(h:Inv C g β s a w)(x:Operand):VS (s.env w g β) (s.ev x) (a.eval x):=by
 cases x with
 |tmp t=>exact h.dU t
 |const v=>exact MC v
 |func f=>exact⟨_,by simp only[AS.ev,V];exact⟨[],rfl,by simp[VC]⟩,rfl⟩
 |global _=>trivial
theorem gI(s:AS)(id:Id)(e:gU)(h:s.dx id≠none):(s.bM id e).dx id=some e:=by
 cases id with
 |ew k=>
  simp only[AS.dx,AS.bM]at*
  have hk:k < s.ez.length:=by
   rcases p9 k s.ez.length with h' | h'
   ·exact h'
   ·exact absurd (ij h') h
  simp[hk]
 |new i j=>
  simp only[AS.dx,AS.bM]at*
  have hj:j < (s.news.getD i []).length:=by
   rcases p9 j (s.news.getD i []).length with h' | h'
   ·exact h'
   ·exact absurd (ij h') h
  have hi:i < s.news.length:=by
   rcases p9 i s.news.length with h' | h'
   ·exact h'
   ·simp[ij h']at hj
  have:((s.news.set i ((s.news.getD i []).set j e)).getD i [])=(s.news.getD i []).set j e:=by
   simp[aX,hi]
  rw[this]
  simp only[List.getElem?_set,hj,if_true]
theorem dV(s:AS)(id id':Id)(e:gU)(h:id'≠id):(s.bM id e).dx id'=s.dx id':=by
 cases id with
 |ew k=>
  cases id' with
  |ew k'=>
   simp only[AS.dx,AS.bM]
   rw[iD (λe=>h (by rw[e]))]
  |new i j=>rfl
 |new i j=>
  cases id' with
  |ew k'=>rfl
  |new i' j'=>
   simp only[AS.dx,AS.bM]
   by_cases hi:i'=i
   ·subst hi
    have hj:j≠j':=λe=>h (by rw[e])
    by_cases hl:i' < s.news.length
    ·have:((s.news.set i' ((s.news.getD i' []).set j e)).getD i' [])=(s.news.getD i' []).set j e:=by
      simp[aX,hl]
     rw[this,iD hj]
    ·rw[List.set_eq_of_length_le (by omega)]
   ·have:(s.news.set i ((s.news.getD i []).set j e)).getD i' []=s.news.getD i' []:=by
     simp only[aX]
     rw[iD (Ne.symm hi)]
    rw[this]
@[simp] theorem fi(s:AS)(id:Id)(e:gU):(s.bM id e).dU=s.dU:=by cases id <;> rfl
@[simp] theorem Sv(s:AS)(i:Nat)(es:List gU):(s.born i es).dU=s.dU:=rfl
theorem gC{s:AS}{id:Id}{v:Nat}{fr:Bool}{c:aH}(h:s.obj id=some (v,fr,c)):s.dx id=some (.obj v fr c):=by
 unfold AS.obj at h
 split at h
 ·rename_i h';simp at h;obtain⟨rfl,rfl,rfl⟩:=h;exact h'
 ·cases h
theorem dZ.bM{s:AS}{w w':World}{g g':Nat->od}{β β':Id->Option Pl}{id:Id}{v v':Nat}{fr fr':Bool}{c c':aH}(hs:s.dx id=some (.obj v fr c))(hv:v<=v')
  (ht:Trans w w' g g') (hβ:∀i,i≠id->β' i=β i) (hβ':v'=v->β' id=β id):dZ (s.env w g β) ((s.bM id (.obj v' fr' c')).env w' g' β'):=by
 have nR:=gI s id (.obj v' fr' c') (by rw[hs];simp)
 refine⟨Trans.mem ht,λi ver hb=> ?_,λi ver hb hc=> ?_⟩
 ·by_cases hi:i=id
  ·subst hi
   obtain⟨_,h2⟩:=hb
   refine⟨by show(s.bM i (.obj v' fr' c')).dx i≠none;rw[nR];simp,λv'' fr'' c'' he=> ?_⟩
   have he':(s.bM i (.obj v' fr' c')).dx i=some (.obj v'' fr'' c''):=he
   rw[nR]at he'
   simp only[aE,gU.obj.injEq]at he'
   have:=h2 v fr c hs
   omega
  ·have:=dV s id i (.obj v' fr' c') hi
   obtain⟨h1,h2⟩:=hb
   exact⟨by show(s.bM id (.obj v' fr' c')).dx i≠none;rw[this];exact h1,λv'' fr'' c'' he=>h2 v'' fr'' c'' (this.symm.trans he)⟩
 ·obtain⟨fr'',c'',hc⟩:=hc
  by_cases hi:i=id
  ·subst hi
   have hc':(s.bM i (.obj v' fr' c')).dx i=some (.obj ver fr'' c''):=hc
   rw[nR]at hc'
   simp only[aE,gU.obj.injEq]at hc'
   have h2:=hb.2 v fr c hs
   have e:v'=v:=by omega
   refine⟨⟨fr,c,?_⟩,hβ' e⟩
   rw[<-hc'.1,e];exact hs
  ·have hc':(s.bM id (.obj v' fr' c')).dx i=some (.obj ver fr'' c''):=hc
   rw[dV s id i _ hi]at hc'
   exact⟨⟨fr'',c'',hc'⟩,hβ i hi⟩
theorem lO.bM{s:AS}{w w':World}{g g':Nat->od}{β β':Id->Option Pl}{id:Id}{v':Nat}{fr':Bool}{c':aH}(h:lO (s.env w g β))(lh:s.dx id≠none)
  (he:dZ (s.env w g β) ((s.bM id (.obj v' fr' c')).env w' g' β')) (hβ:∀i,i≠id->β' i=β i)
  (hb:∀i ver fr c pl,i≠id->s.dx i=some (.obj ver fr c)->β i=some pl->w'.heap[pl.b]? =w.heap[pl.b]? /\g' pl.b=g pl.b)
  (ho:rI ((s.bM id (.obj v' fr' c')).env w' g' β') id fr' c')
  (Mp:∀ver k v l,s.dx id=some (.obj ver true (.mp k v l))->v'=ver/\fr'=true/\(∃k v l,c'= .mp k v l)/\∀pl,β id=some pl->w'.heap[pl.b]? =w.heap[pl.b]? /\g' pl.b=g pl.b):lO ((s.bM id (.obj v' fr' c')).env w' g' β'):=by
 intro i ver fr c hi
 by_cases eZ:i=id
 ·subst eZ
  have hi':(s.bM i (.obj v' fr' c')).dx i=some (.obj ver fr c):=hi
  rw[gI s i _ lh]at hi'
  simp only[aE,gU.obj.injEq]at hi'
  obtain⟨rfl,rfl,rfl⟩:=hi'
  exact ho
 ·have hi':(s.bM id (.obj v' fr' c')).dx i=some (.obj ver fr c):=hi
  rw[dV s id i _ eZ]at hi'
  refine(h i ver fr c hi').mono he (hβ i eZ) (λpl hp=>hb i ver fr c pl eZ hi' hp) λq vq k v l hq hc=> ?_
  have hq:s.dx q=some (.obj vq true (.mp k v l)):=hq
  by_cases V9:q=id
  ·subst V9
   obtain⟨rfl,rfl,⟨k',v',l',rfl⟩,SS⟩:=Mp _ _ _ _ hq
   exact⟨⟨k',v',l',gI s q _ lh⟩,SS⟩
  ·exact⟨⟨k,v,l,by show(s.bM id _).dx q=_;rw[dV s id q _ V9];exact hq⟩,λpl hp=>hb q vq true _ pl V9 hq hp⟩
theorem FO{s:AS}{w:World}{g:Nat->od}{β:Id->Option Pl}{id:Id}{v:Nat}{fr:Bool}{c:aH}(hs:s.dx id=some (.obj v fr c)):
  ∀ver k v1 l,s.dx id=some (.obj ver true (.mp k v1 l))->v=ver/\true=true/\(∃k v l,c= .mp k v l)/\∀pl,β id=some pl->w.heap[pl.b]? =w.heap[pl.b]? /\g pl.b=g pl.b:=λver k v1 l hl=>by
 rw[hs]at hl
 cases hl
 exact⟨rfl,rfl,⟨_,_,_,rfl⟩,λ_ _=>⟨rfl,rfl⟩⟩
theorem ou{s:AS}{id:Id}{v:Nat}{fr:Bool}{c:aH}(hs:s.dx id=some (.obj v fr c))(hc:∀k v1 l,c≠ .mp k v1 l){Q:Nat->Prop}:
  ∀ver k v1 l,s.dx id=some (.obj ver true (.mp k v1 l))->Q ver:=λver k v1 l hl=>by
 rw[hs]at hl
 cases hl
 exact absurd rfl (hc _ _ _)
theorem By{s:AS}{id:Id}{v:Nat}{c:aH}(hs:s.dx id=some (.obj v false c)){Q:Nat->Prop}:
  ∀ver k v1 l,s.dx id=some (.obj ver true (.mp k v1 l))->Q ver:=λver k v1 l hl=>by
 rw[hs]at hl
 cases hl
theorem wH{s:AS}{id:Id}{v:Nat}{fr:Bool}{c:aH}(hs:s.dx id=some (.obj v fr c))(h:s.qu id=true):fr=false:=by
 have e:s.obj id=some (v,fr,c):=by simp[AS.obj,hs]
 unfold AS.qu at h
 rw[e]at h
 simpa using h
theorem rI.label{E:Env}{id:Id}{fr:Bool}{c:aH}(h:rI E id fr c){pl:Pl}(hp:E.β id=some pl):
    pl.b < E.w.heap.size/\((∃k,E.g pl.b= .own (.id id) k)\/(fr=true/\E.g pl.b= .free)):=by
  by_cases hn:c.kq=false
  · obtain⟨pl',cur,e,h1,h2,h3,h4⟩:=h.box hn
    rw[hp]at h1
    obtain rfl:pl=pl':=by simpa using h1
    refine⟨(fu.1 h2).1,?_⟩
    cases fr with
    |true=>exact .inr ⟨rfl,h3⟩
    |false=>exact .inl ⟨0,h3⟩
  · cases c <;> first
      | (exact absurd rfl hn)
      | (obtain⟨pl',es,clock,h1,h2,h3,_⟩:=h
         rw[hp]at h1
         obtain rfl:pl=pl':=by simpa using h1
         exact⟨(fu.1 h2).1,.inl ⟨0,h3⟩⟩)
      | (obtain⟨pl',mb,since,seen,c0,h1,h2,h3,_⟩:=h
         rw[hp]at h1
         obtain rfl:pl=pl':=by simpa using h1
         exact⟨(fu.1 h2).1,.inl ⟨0,h3⟩⟩)
      |skip
    obtain⟨_,h⟩:=h
    rw[hp]at h
    obtain⟨cur,k,h1,_,_,_,h5,_⟩:=h
    exact⟨(fu.1 h1).1,.inl ⟨k,h5⟩⟩
def oQ{α:Type}(f:Nat->α)(b:Nat)(x:α):Nat->α:=λb'=>if b'=b then x else f b'
@[simp] theorem ji{α:Type}(f:Nat->α)(b:Nat)(x:α):oQ f b x b=x:=by simp[oQ]
theorem jc{α:Type}(f:Nat->α)(b:Nat)(x:α){b':Nat}(h:b'≠b):oQ f b x b'=f b':=by simp[oQ,h]
def Cr:aH->Nat->Prop
 | .vec _ t l,j=>j < l.length*t.size
 |_,_=>True
theorem Cr.of{c:aH}(h:c.kq=false)(j:Nat):Cr c j:=by
 cases c <;> first | trivial | (simp[aH.kq]at h)
theorem MQ{w:World}{b:Nat}{es:Array MapEntry}{clock:Nat}(h:w.heap[b]? =some (.map es clock))(j:Nat):w.cell? ⟨b,j,none⟩=none:=by
 simp[World.cell?,h]
theorem Fx{C:Ctx}{g:Nat->od}{β:Id->Option Pl}{s:AS}{a:Act}{w:World}(h:Inv C g β s a w)(id:Id):
    ∃g',Inv C g' β (s.freeze id) a w/\dZ (s.env w g β) ((s.freeze id).env w g' β)/\Trans w w g g'/\
      (∀v fr c,s.dx id=some (.obj v fr c)->∀pl,β id=some pl->∀j x,w.cell? ⟨pl.b,j,none⟩=some x->
        Cr c j->rq g' pl.b j):=by
  unfold AS.freeze
  cases hs:s.dx id with
  |none=>exact⟨g,h,dZ.refl _,Trans.refl _ _,λ_ _ _ hh=>by cases hh⟩
  |some e=>
    cases e with
    |dead=>exact⟨g,h,dZ.refl _,Trans.refl _ _,λ_ _ _ hh=>by cases hh⟩
    |obj v fr c=>
      simp only
      have nc:rI (s.env w g β) id fr c:=h.da id v fr c hs
      cases hp:β id with
      |none=>
        have ht:=Trans.refl w g
        have he:dZ (s.env w g β) ((s.bM id (.obj v true c)).env w g β):=dZ.bM hs (aC _) ht (λ_ _=>rfl) (λ_=>rfl)
        refine⟨g,h.step (fi _ _ _) ht he ?_,he,ht,λ_ _ _ _ pl wR=>by cases wR⟩
        refine lO.bM h.da (by rw[hs];simp) he (λ_ _=>rfl) (λ_ _ _ _ _ _ _ _=>⟨rfl,rfl⟩) ?_ (FO hs)
        by_cases hn:c.kq=false
        · obtain⟨pl,_,_,h1,_⟩:=nc.box hn
          have h1':β id=some pl:=h1
          rw[hp]at h1';cases h1'
        · cases c <;> first
            | (exact absurd rfl hn)
            | (obtain⟨pl,_,_,h1,_⟩:=nc
               have h1':β id=some pl:=h1
               rw[hp]at h1';cases h1')
            | (obtain⟨pl,_,_,_,_,h1,_⟩:=nc
               have h1':β id=some pl:=h1
               rw[hp]at h1';cases h1')
            |skip
          obtain⟨hz,ho⟩:=nc
          have ho':(match β id with
            |none=>_
            |some pl=>_):=ho
          refine⟨hz,?_⟩
          show(match β id with
            |none=>_
            |some pl=>_)
          rw[hp]at ho' ⊢
          exact ho'
      |some pl=>
        have T6:=nc.label (pl:=pl) hp
        by_cases hn:c.kq=false
        · obtain⟨pl',cur,e,h1,h2,h3,h5,h4⟩:=nc.box hn
          have h1':β id=some pl':=h1
          rw[hp]at h1'
          obtain rfl:pl=pl':=by simpa using h1'
          have h3':g pl.b=IG id fr:=h3
          have ht:Trans w w g (oQ g pl.b .free):=by
            refine⟨rfl,rfl,⟨rfl,aC _⟩,aC _,λb hb=> ?_⟩
            by_cases FB:b=pl.b
            · subst FB
              rw[h3',ji]
              cases fr with
              |true=>exact⟨rfl,rfl⟩
              |false=>exact⟨.inl rfl,λ_ _ _ hh=>hh⟩
            · rw[jc _ _ _ FB]
              exact(Trans.refl w g).K6 b hb
          have he:dZ (s.env w g β) ((s.bM id (.obj v true c)).env w (oQ g pl.b .free) β):=dZ.bM hs (aC _) ht (λ_ _=>rfl) (λ_=>rfl)
          refine⟨oQ g pl.b .free,h.step (fi _ _ _) ht he ?_,he,ht,?_⟩
          · refine lO.bM h.da (by rw[hs];simp) he (λ_ _=>rfl) (λi ver fr' c' pl' hi eP wR=>⟨rfl,?_⟩) ?_ (ou hs λk v1 l e=>by rw[e]at hn;simp[aH.kq]at hn)
            · by_cases FB:pl'.b=pl.b
              · rw[FB,ji]
                have hl:=(h.da i ver fr' c' eP).label (pl:=pl') wR
                have Pq:(∃k,g pl'.b= .own (.id i) k)\/(fr'=true/\g pl'.b= .free):=hl.2
                rw[FB,h3']at Pq
                cases fr with
                |true=>exact h3'.symm▸rfl
                |false=>
                  exfalso
                  rcases Pq with⟨k,hk⟩ | ⟨_,hk⟩
                  · simp only[IG,od.own.injEq,UM.id.injEq]at hk
                    exact hi hk.1.symm
                  · cases hk
              · rw[jc _ _ _ FB]
            · exact zq.obj ⟨pl,cur,e,hp,h2,ji _ _ _,h5,V.mono he h4⟩
          · intro v1 fr1 c1 hh pl1 I3 j x hx hj
            obtain rfl:pl=pl1:=by simpa using I3
            unfold rq;rw[ji];trivial
        · cases c <;> first | (exact absurd rfl hn) | skip
          rotate_left
          rotate_left
          · rename_i q vq kt vt rest cu
            have ht:=Trans.refl w g
            have he:dZ (s.env w g β) ((s.bM id (.obj v true (.qd q vq kt vt rest cu))).env w g β):=dZ.bM hs (aC _) ht (λ_ _=>rfl) (λ_=>rfl)
            have hob':=nc
            obtain⟨pl',mb,since,seen,c0,h1,h2,_⟩:=nc
            have h1':β id=some pl':=h1
            rw[hp]at h1'
            obtain rfl:pl=pl':=by simpa using h1'
            refine⟨g,h.step (fi _ _ _) ht he ?_,he,ht,λ_ _ _ _ pl1 I3 j x hx _=> ?_⟩
            · refine lO.bM h.da (by rw[hs];simp) he (λ_ _=>rfl) (λ_ _ _ _ _ _ _ _=>⟨rfl,rfl⟩) ?_ (FO hs)
              exact rI.mono he (fr:=true) hob' rfl (λ_ _=>⟨rfl,rfl⟩) λq2 v2 k2 v3 l2 Bj _=>⟨⟨k2,v3,l2,by
                have Bj:s.dx q2=some (.obj v2 true (.mp k2 v3 l2)):=Bj
                have lh:q2≠id:=λe=>by rw[e,hs]at Bj;cases Bj
                show(s.bM id _).dx q2=_
                rw[dV s id q2 _ lh];exact Bj⟩,λ_ _=>⟨rfl,rfl⟩⟩
            · obtain rfl:pl=pl1:=by simpa using I3
              have h2:w.heap[pl.b]? =some (.mapIter (some mb) since seen c0):=h2
              simp[World.cell?,h2]at hx
          rotate_left
          · obtain⟨pl',es,clock,h1,h2,h3,h4⟩:=nc
            have h1':β id=some pl':=h1
            rw[hp]at h1'
            obtain rfl:pl=pl':=by simpa using h1'
            have ht:=Trans.refl w g
            rename_i kt vt l
            have he:dZ (s.env w g β) ((s.bM id (.obj v true (.mp kt vt l))).env w g β):=dZ.bM hs (aC _) ht (λ_ _=>rfl) (λ_=>rfl)
            refine⟨g,h.step (fi _ _ _) ht he ?_,he,ht,λ_ _ _ _ pl1 I3 j x hx _=> ?_⟩
            · exact lO.bM h.da (by rw[hs];simp) he (λ_ _=>rfl) (λ_ _ _ _ _ _ _ _=>⟨rfl,rfl⟩) ⟨pl,es,clock,hp,h2,h3,⟨h4.1.1.mono he.mem,h4.1.2⟩,h4.2⟩ (FO hs)
            · obtain rfl:pl=pl1:=by simpa using I3
              have h2:w.heap[pl.b]? =some (.map es clock):=h2
              rw[MQ h2]at hx
              cases hx
          rename_i e t l
          obtain⟨hz,ho⟩:=nc
          have ho':(match β id with
            |none=>l=[]
            |some pl=>∃cur k,w.heap[pl.b]? =some (.cells cur e (0,0))/\cur.size=pl.cap*t.size/\l.length<=pl.cap/\pl.cap<=maxLen/\g pl.b= .own (.id id) k/\
                k<=l.length*t.size/\(fr=false->k=0)/\cg (eY (s.env w g β) t) (cur.toList.take (l.length*t.size)) l):=ho
          rw[hp]at ho'
          obtain⟨cur,k,h1,h2,h3,h4,h5,h6,h7,h8⟩:=ho'
          have ht:Trans w w g (oQ g pl.b (.own (.id id) (l.length*t.size))):=by
            refine⟨rfl,rfl,⟨rfl,aC _⟩,aC _,λb hb=> ?_⟩
            by_cases FB:b=pl.b
            · subst FB
              rw[h5,ji]
              exact⟨.inr ⟨id,_,rfl,h6⟩,λ_ _ _ hh=>hh⟩
            · rw[jc _ _ _ FB]
              exact(Trans.refl w g).K6 b hb
          have he:dZ (s.env w g β) ((s.bM id (.obj v true (.vec e t l))).env w (oQ g pl.b (.own (.id id) (l.length*t.size))) β):=dZ.bM hs (aC _) ht (λ_ _=>rfl) (λ_=>rfl)
          refine⟨_,h.step (fi _ _ _) ht he ?_,he,ht,?_⟩
          · refine lO.bM h.da (by rw[hs];simp) he (λ_ _=>rfl) (λi ver fr' c' pl' hi eP wR=>⟨rfl,?_⟩) ?_ (ou hs λk v1 l e=>by cases e)
            · by_cases FB:pl'.b=pl.b
              · exfalso
                have hl:=(h.da i ver fr' c' eP).label (pl:=pl') wR
                have Pq:(∃k,g pl'.b= .own (.id i) k)\/(fr'=true/\g pl'.b= .free):=hl.2
                rw[FB,h5]at Pq
                rcases Pq with⟨k,hk⟩ | ⟨_,hk⟩
                · simp only[od.own.injEq,UM.id.injEq]at hk
                  exact hi hk.1.symm
                · cases hk
              · rw[jc _ _ _ FB]
            · refine⟨hz,?_⟩
              show(match β id with
                |none=>l=[]
                |some pl=>_)
              rw[hp]
              exact⟨cur,_,h1,h2,h3,h4,ji _ _ _,aC _,(by intro hh;cases hh),h8.mono λc x hx=>hx.mono he.mem⟩
          · intro v1 fr1 c1 hh pl1 I3 j x hx hj
            obtain rfl:pl=pl1:=by simpa using I3
            simp only[aE,gU.obj.injEq]at hh
            obtain⟨_,_,rfl⟩:=hh
            unfold rq;rw[ji];exact hj
end Go.Ab
namespace Go.Ab
def Tb(E E':Env)(ids:List Id):Prop:=
 ∀id∈ids,∀v fr c,E.s id=some (.obj v fr c)->∀pl,E.β id=some pl->∀j x,E.w.cell? ⟨pl.b,j,none⟩=some x->
  Cr c j->E'.has pl.b j x
theorem B3{s:AS}{id i:Id}{v:Nat}{fr:Bool}{c:aH}(h:s.dx i=some (.obj v fr c)):∃fr',(s.freeze id).dx i=some (.obj v fr' c):=by
 unfold AS.freeze
 by_cases hi:i=id
 ·subst hi
  rw[h]
  exact⟨true,gI s i _ (by rw[h];simp)⟩
 ·split
  ·exact⟨fr,by rw[dV s id i _ hi];exact h⟩
  ·exact⟨fr,h⟩
theorem kc{C:Ctx}{β:Id->Option Pl}{a:Act}{w:World}:∀(ids:List Id) {g:Nat->od} {s:AS},Inv C g β s a w->
  ∃g',Inv C g' β (s.cm ids) a w/\dZ (s.env w g β) ((s.cm ids).env w g' β)/\Trans w w g g'/\Tb (s.env w g β) ((s.cm ids).env w g' β) ids
 |[],g,s,h=>⟨g,h,dZ.refl _,Trans.refl _ _,λ_ hi=>by cases hi⟩
 |id::ids,g,s,h=>by
  obtain⟨g1,h1,e1,t1,f1⟩:=Fx h id
  obtain⟨g2,h2,e2,t2,f2⟩:=kc ids h1
  refine⟨g2,h2,e1.trans e2,t1.trans t2,λi hi v fr c hs pl hp j x hx hj=> ?_⟩
  rcases cH.1 hi with rfl | hi
  ·exact e2.mem.has _ _ _ ⟨hx,f1 v fr c hs pl hp j x hx hj⟩
  ·obtain⟨fr',hs'⟩:=B3 (id:=id) hs
   exact f2 i hi v fr' c hs' pl hp j x hx hj
theorem F6(s:AS)(id:Id):(s.freeze id).dU=s.dU:=by unfold AS.freeze;split <;> simp
theorem nh:∀(ids:List Id) (s:AS),(s.cm ids).dU=s.dU
 |[],_=>rfl
 |id::ids,s=>by rw[AS.cm,nh ids,F6]
theorem HF(s:AS)(id:Id)(q:Nat):(s.freeze id).gd q=s.gd q:=by
 unfold AS.freeze
 split
 ·rename_i v b c h
  cases id with
  |ew k=>rfl
  |new i j=>
   simp only[AS.bM,AS.gd]
   by_cases hq:i=q
   ·subst hq
    simp only[AS.dx]at h
    by_cases hl:i < s.news.length
    ·rw[List.getElem?_set_self hl,dB hl]
     rw[aX,dB hl]at h ⊢
     simp only[gj]at h ⊢
     cases hh:s.news[i]with
     |nil=>rw[hh]at h;simp at h
     |cons x xs=>cases j <;> simp[List.set]
    ·rw[List.set_eq_of_length_le (by omega)]
   ·rw[iD hq]
 ·rfl
theorem qQ:∀(ids:List Id) (s:AS) (q:Nat),(s.cm ids).gd q=s.gd q
 |[],_,_=>rfl
 |id::ids,s,q=>by rw[AS.cm,qQ ids,HF]
theorem CD{e:TypeId}{t:Ty}:∀ {p:List xy} {n:Nat} {v:aH},(loc (.vec e t []) p).eval=some (n,v)->n=0/\v= .vec e t []
 |[],n,v,h=>by
  simp only[loc,aB,eN]at h
  exact⟨h.1.symm,h.2.symm⟩
 | .arr::p,n,v,h=>by
  simp only[loc]at h
  exact CD h
 | .idx i::p,n,v,h=>by simp[loc,cW]at h
 | .fst::p,n,v,h=>by simp only[loc,al]at h
 | .snd::p,n,v,h=>by simp only[loc,al]at h
theorem FP{k t:Ty}{l:List (k.den×t.den)}:∀ {p:List xy} {n:Nat} {v:aH},(loc (.mp k t l) p).eval=some (n,v)->n=0/\v= .mp k t l
 |[],n,v,h=>by
  simp only[loc,aB,eN]at h
  exact⟨h.1.symm,h.2.symm⟩
 | .arr::p,n,v,h=>by
  simp only[loc]at h
  exact FP h
 | .idx i::p,n,v,h=>by simp only[loc,al]at h
 | .fst::p,n,v,h=>by simp only[loc,al]at h
 | .snd::p,n,v,h=>by simp only[loc,al]at h
theorem BA{q:Id}{ver:Nat}{k t:Ty}{l:List (k.den×t.den)}{cu:Option (k.den×t.den)}:∀ {p:List xy} {n:Nat} {v:aH},(loc (.qd q ver k t l cu) p).eval=some (n,v)->n=0/\v= .qd q ver k t l cu
 |[],n,v,h=>by
  simp only[loc,aB,eN]at h
  exact⟨h.1.symm,h.2.symm⟩
 | .arr::p,n,v,h=>by
  simp only[loc]at h
  exact BA h
 | .idx i::p,n,v,h=>by simp only[loc,al]at h
 | .fst::p,n,v,h=>by simp only[loc,al]at h
 | .snd::p,n,v,h=>by simp only[loc,al]at h
theorem Ai{E:Env}{s:AS}(hs:E.s=s.dx)(ho:lO E){id:Id}{ver:Nat}{p:List xy}{n:Nat}{t:Ty}{l:List t.den}(h:(s.row id ver p).eval=some (n,⟨t,l⟩)):
    ∃fr c,E.s id=some (.obj ver fr c)/\((E.β id=none/\l=[]/\n=0)\/∃pl cur e,E.β id=some pl/\E.w.heap[pl.b]? =some (.cells cur e (0,0))/\n+l.length*t.size<=cur.size/\
      cg (eY E t) ((cur.toList.drop n).take (l.length*t.size)) l/\
      ∀j,j < n+l.length*t.size->Cr c j):=by
  unfold AS.row at h
  cases nc:s.obj id with
  |none=>rw[nc]at h;simp only[al]at h
  |some r=>
    obtain⟨v,fr,c⟩:=r
    rw[nc]at h
    obtain⟨h1,h2⟩:=aL.1 h
    obtain⟨⟨n',v'⟩,h3,h4⟩:=av.1 h2
    have hv:v=ver:=by simpa using h1
    subst hv
    have eP:E.s id=some (.obj v fr c):=by rw[hs];exact gC nc
    refine⟨fr,c,eP,?_⟩
    have hO:=ho id v fr c eP
    have I0:∀(pl:Pl) (cur:Array Value) (e:TypeId) (m:Nat) (t':Ty) (l':List t'.den) (n':Nat),E.β id=some pl->E.w.heap[pl.b]? =some (.cells cur e (0,0))->c.kq=false->
        V E (.d (.arr m t') l') ((cur.toList.drop n').take (aH.d (.arr m t') l').size)->n'+(aH.d (.arr m t') l').size<=cur.toList.length->(Out.ok (n',(⟨t',l'⟩:(t:Ty)×List t.den))).eval=some (n,⟨t,l⟩)->
        ∃pl cur e,E.β id=some pl/\E.w.heap[pl.b]? =some (.cells cur e (0,0))/\n+l.length*t.size<=cur.size/\cg (eY E t) ((cur.toList.drop n).take (l.length*t.size)) l/\
          ∀j,j < n+l.length*t.size->Cr c j:=by
      intro pl cur e m t' l' n' hp hh hn hv hl he
      simp only[aB,eN]at he
      obtain⟨rfl,he⟩:=he
      obtain⟨rfl,he⟩:=he
      simp only[V,eY]at hv
      obtain⟨Uj,Dx⟩:=hv
      have rM:∀(t:Ty) (l:List t.den),l.length=m->(aH.d (.arr m t) l).size=l.length*t.size:=λt l hh=>by simp[aH.size,Ty.size,hh]
      rw[rM _ _ Uj]at Dx hl
      exact⟨pl,cur,e,hp,hh,by simpa using hl,Dx,λj _=>Cr.of hn j⟩
    by_cases hn:c.kq=false
    · right
      obtain⟨pl,cur,e,hp,hh,hg,hk,hV⟩:=hO.box hn
      have hN:=Bq hk
      generalize c.rJ cur.size=N at hN hV
      have hNl:(cur.toList.take N).length=N:=by rw[fO,eg];omega
      obtain⟨u,hu⟩:∃u,c.strip=u:=⟨_,rfl⟩
      rw[hu]at hV h3
      have Lu:∀m k:Nat,m+k<=(cur.toList.take N).length->((cur.toList.take N).drop m).take k=(cur.toList.drop m).take k/\m+k<=cur.toList.length:=λm k ON=>by
        rw[hNl]at ON
        refine⟨?_,by rw[eg];omega⟩
        rw[pY,mm,jH (by omega)]
      rcases pM p u (cur.toList.take N) n' v' (VO.of hV) h3 with⟨rfl,rfl⟩ | ⟨hV',hle⟩
      · cases v' with
        |d t' x=>cases t' with
          |arr m t'=>
            have hs:=hV.size
            have hc:=Lu 0 (aH.d (.arr m t') x).size (by omega)
            refine I0 pl cur e m t' x 0 hp hh hn ?_ hc.2 (by simpa only using h4)
            rw[<-hc.1,aW,cn (by omega)]
            exact hV
          |_=>simp only[al]at h4
        |vec=>simp only[V]at hV
        |_=>simp only[al]at h4
      · cases v' with
        |d t' x=>cases t' with
          |arr m t'=>
            have hc:=Lu _ _ hle
            exact I0 pl cur e m t' x n' hp hh hn (by rw[<-hc.1];exact hV') hc.2 (by simpa only using h4)
          |_=>simp only[al]at h4
        |vec=>simp only[V]at hV'
        |_=>simp only[al]at h4
    · cases c <;> first
        | (exact absurd rfl hn)
        | (obtain⟨rfl,rfl⟩:=FP h3
           simp only[al]at h4)
        | (obtain⟨rfl,rfl⟩:=BA h3
           simp only[al]at h4)
        |skip
      rename_i e t0 l0
      obtain⟨hz,hO⟩:=hO
      cases hp:E.β id with
      |none=>
        rw[hp]at hO
        have T5:l0=[]:=hO
        subst T5
        obtain⟨rfl,rfl⟩:=CD h3
        simp only[aB,eN]at h4
        obtain⟨rfl,he⟩:=h4
        obtain⟨rfl,he⟩:=he
        exact .inl ⟨rfl,rfl,rfl⟩
      |some pl=>
        rw[hp]at hO
        obtain⟨cur,k,q1,q2,q3,q4,q5,q6,q7,q8⟩:=hO
        right
        have hlen:(cur.toList.take (l0.length*t0.size)).length=l0.length*t0.size:=cg.length (λc x hx=>eY.size hx) q8
        have Xr:l0.length*t0.size<=cur.size:=by rw[q2];exact eR _ q3
        rcases pM (E:=E) p (.vec e t0 l0) (cur.toList.take (l0.length*t0.size)) n' v' q8 h3 with⟨rfl,rfl⟩ | ⟨hV',hle⟩
        · simp only[aB,eN]at h4
          obtain⟨rfl,he⟩:=h4
          obtain⟨rfl,he⟩:=he
          exact⟨pl,cur,e,rfl,q1,by omega,by simpa using q8,λj hj=>by show j < l.length*t.size;omega⟩
        · have hle':=hle
          rw[hlen]at hle'
          rw[pY,mm,jH (by omega)]at hV'
          cases v' with
          |d t' x=>cases t' with
            |arr m t'=>
              simp only[aB,eN]at h4
              obtain⟨rfl,he⟩:=h4
              obtain⟨rfl,he⟩:=he
              simp only[V,eY]at hV'
              obtain⟨Uj,Dx⟩:=hV'
              have rM:∀(t:Ty) (l:List t.den),l.length=m->(aH.d (.arr m t) l).size=l.length*t.size:=λt l hh=>by simp[aH.size,Ty.size,hh]
              rw[rM _ _ Uj]at Dx hle'
              refine⟨pl,cur,e,rfl,q1,by omega,Dx,λj hj=> ?_⟩
              show j < l0.length*t0.size
              omega
            |_=>simp only[al]at h4
          |vec=>simp only[V]at hV'
          |_=>simp only[al]at h4
theorem xB{E:Env}{t:Ty}{cs:List Value}{l:List t.den}(h:cg (eY E t) cs l)(i len:Nat):cg (eY E t) ((cs.drop (i*t.size)).take (len*t.size)) (cut l i len):=
 cg.take (λ_ _ hx=>hx.size) len (cg.drop (λ_ _ hx=>hx.size) i h)
theorem uO{α:Type}{l:List α}{i len:Nat}(h:i+len<=l.length):(cut l i len).length=len:=by
 simp[cut];omega
theorem Ia{E E':Env}{s:AS}(hs:E.s=s.dx)(ho:lO E)(he:dZ E E'){id:Id}{ver c i len n:Nat}{p:List xy}{t':Ty}{l:List t'.den}{cs:List Value}
  (h1:(s.row id ver p).eval=some (n,⟨t',l⟩)) (h3:decide (n+i*t'.size=c/\i+len<=l.length)=true) (hv:V E (.dh id ver p c i len) cs) (hf:Tb E E' (aH.dh id ver p c i len).shared):eY E' (.slice t') cs (cut l i len):=by
 simp only[decide_eq_true_eq]at h3
 obtain⟨hc,hlen⟩:=h3
 obtain⟨fr,c0,eP,my⟩:=Ai hs ho h1
 simp only[V]at hv
 obtain⟨a,cap,Lt,hle,oZ,hb,jt⟩:=hv
 have jt:=jt ⟨fr,c0,eP⟩
 have OP:(cut l i len).length=len:=uO hlen
 simp only[eY]
 refine⟨a,cap,?_⟩
 rcases my with⟨hp,hl,_⟩ | ⟨pl,cur,e,hp,hh,rM,fI,hbound⟩
 ·rw[hp]at jt
  simp only at jt
  obtain⟨rfl,rfl,rfl⟩:=jt
  refine⟨[],?_,by omega,by omega,λ_ _ hh=>by simp at hh,?_⟩
  ·rw[OP];exact Lt
  ·have:cut l i 0=[]:=by simp[cut]
   rw[this];rfl
 ·rw[hp]at jt
  simp only at jt
  refine⟨((((cur.toList.drop n).take (l.length*t'.size)).drop (i*t'.size)).take (len*t'.size)),by rw[OP];exact Lt,by omega,by rw[OP];exact oZ,?_,(xB fI i len).mono λ_ _ hx=>hx.mono he.mem⟩
  have hmul:(i+len)*t'.size<=l.length*t'.size:=eR _ hlen
  rw[gN]at hmul
  rw[CY _ _ _ _ _ hmul]
  intro j v hj
  rw[fv]at hj
  split at hj
  ·rename_i RN
   rw[kB,hc]at hj
   have VT:0 < len:=by
    rcases mO len with h0 | h0
    ·subst h0;simp at RN
    ·exact h0
   refine⟨pl.b,c,jt.1 (.inl VT),?_⟩
   refine hf id (by simp[aH.shared]) ver fr c0 eP pl hp (c+j) v ?_ (hbound _ (by omega))
   rw[cell_of_row E.w pl.b (c+j) cur e (0,0) hh]
   simpa using hj
  ·cases hj
theorem rG{E E':Env}{s:AS}(hs:E.s=s.dx)(ho:lO E)(he:dZ E E'):∀(v:aH) (t:Ty) (x:t.den) (cs:List Value),V E v cs->(s.kQ t v).eval=some x->Tb E E' v.shared->eY E' t cs x
 | .d t' x',t,x,cs,hv,h,_=>by
  have h':(Out.opt (vT t' t x')).eval=some x:=by cases t <;> simpa only[AS.kQ]using h
  simp only[V]at hv
  exact uN (lF.1 h') (hv.mono he.mem)
 | .eV,.slice t,x,cs,hv,h,_=>by
  simp only[AS.kQ,aB]at h
  subst h
  simp only[V]at hv
  simp only[eY]
  exact⟨none,0,[],by simpa using hv,by simp,by simp,λi v hh=>by simp at hh,rfl⟩
 | .eV,.kg t,x,cs,hv,h,_=>by
  simp only[AS.kQ,aB]at h
  subst h
  simp only[V]at hv
  simp only[eY]
  exact⟨λ_=>hv,λl hl=>(by cases hl)⟩
 | .dh id ver p c i len,.kg t,x,cs,hv,h,hf=>by
  simp only[AS.kQ]at h
  obtain⟨⟨n,t',l⟩,h1,h2⟩:=av.1 h
  obtain⟨h3,h4⟩:=cW.1 h2
  exact uN (lF.1 h4) (Ia hs ho he h1 h3 hv hf)
 | .dh id ver p c i len,.slice t,x,cs,hv,h,hf=>by
  simp only[AS.kQ]at h
  obtain⟨⟨n,t',l⟩,h1,h2⟩:=av.1 h
  obtain⟨h3,h4⟩:=cW.1 h2
  exact uN (lF.1 h4) (Ia hs ho he h1 h3 hv hf)
 | .pr a b,.pair ta tb,x,cs,hv,h,hf=>by
  simp only[AS.kQ]at h
  obtain⟨x1,h1,h2⟩:=av.1 h
  obtain⟨x2,h3,h4⟩:=av.1 h2
  obtain rfl:=aB.1 h4
  simp only[V]at hv
  obtain⟨ca,cb,e,ha,hb⟩:=hv
  simp only[eY]
  exact⟨ca,cb,e,rG hs ho he a ta x1 ca ha h1 (λi hi=>hf i (by simp[aH.shared,hi])),rG hs ho he b tb x2 cb hb h3 (λi hi=>hf i (by simp[aH.shared,hi]))⟩
 | .eV,.int _,_,_,_,h,_ | .eV,.bool,_,_,_,h,_ | .eV,.str,_,_,_,h,_ | .eV,.unit,_,_,_,h,_ | .eV,.pair _ _,_,_,_,h,_ | .eV,.arr _ _,_,_,_,h,_=>by simp only[AS.kQ,al]at h
 | .dh ..,.int _,_,_,_,h,_ | .dh ..,.bool,_,_,_,h,_ | .dh ..,.str,_,_,_,h,_ | .dh ..,.unit,_,_,_,h,_ | .dh ..,.pair _ _,_,_,_,h,_ | .dh ..,.arr _ _,_,_,_,h,_=>by simp only[AS.kQ,al]at h
 | .pr _ _,.int _,_,_,_,h,_ | .pr _ _,.bool,_,_,_,h,_ | .pr _ _,.str,_,_,_,h,_ | .pr _ _,.unit,_,_,_,h,_ | .pr _ _,.slice _,_,_,_,h,_ | .pr _ _,.arr _ _,_,_,_,h,_ | .pr _ _,.kg _,_,_,_,h,_=>by simp only[AS.kQ,al]at h
 | .undef,t,_,_,_,h,_=>by cases t <;> simp only[AS.kQ,al]at h
 | .gone,t,_,_,_,h,_=>by cases t <;> simp only[AS.kQ,al]at h
 | .o6,t,_,_,_,h,_=>by cases t <;> simp only[AS.kQ,al]at h
 | .rP,t,_,_,_,h,_=>by cases t <;> simp only[AS.kQ,al]at h
 | .uw,t,_,_,_,h,_=>by cases t <;> simp only[AS.kQ,al]at h
 | .sb _,t,_,_,_,h,_=>by cases t <;> simp only[AS.kQ,al]at h
 | .ptr ..,t,_,_,_,h,_=>by cases t <;> simp only[AS.kQ,al]at h
 | .gE ..,t,_,_,_,h,_=>by cases t <;> simp only[AS.kQ,al]at h
 | .fn ..,t,_,_,_,h,_=>by cases t <;> simp only[AS.kQ,al]at h
 | .cons ..,t,_,_,_,h,_=>by cases t <;> simp only[AS.kQ,al]at h
 | .nil,t,_,_,_,h,_=>by cases t <;> simp only[AS.kQ,al]at h
 | .vec ..,t,_,_,_,h,_=>by cases t <;> simp only[AS.kQ,al]at h
 | .bx ..,t,_,_,_,h,_ | .kO ..,t,_,_,_,h,_ | .mp ..,t,_,_,_,h,_ | .qd ..,t,_,_,_,h,_=>by cases t <;> simp only[AS.kQ,al]at h
theorem tx{s:AS}{t:Ty}{v:aH}{x:t.den}(h:(s.kQ t v).eval=some x):v.iA=true:=by
 cases v <;> first
  |rfl
  | (cases t <;> simp only[AS.kQ,al]at h)
theorem Dm{s:AS}{t:Ty}{v:aH}{x:t.den}(h:(s.kQ t v).eval=some x):v.agg=t.agg:=by
 cases v with
 |d t' x'=>
  have h':(Out.opt (vT t' t x')).eval=some x:=by cases t <;> simpa only[AS.kQ]using h
  exact Er (lF.1 h')
 |_=>cases t <;> first | rfl | (simp only[AS.kQ,al]at h)
theorem sV{C:Ctx}{g:Nat->od}{β:Id->Option Pl}{s:AS}{a:Act}{w:World}(h:Inv C g β s a w){v:aH}{y:Value}(hv:VS (s.env w g β) v y){t:Ty}{x:t.den}(ht:(s.kQ t v).eval=some x):
  ∃g',Inv C g' β (s.cm v.shared) a w/\dZ (s.env w g β) ((s.cm v.shared).env w g' β)/\Trans w w g g'/\
   ∃cs,eY ((s.cm v.shared).env w g' β) t cs x/\jI t.agg cs y:=by
 obtain⟨g',h1,h2,h3,h4⟩:=kc v.shared h
 obtain⟨cs,hV,hO⟩:=hv.iA (tx ht)
 exact⟨g',h1,h2,h3,cs,rG rfl h.da h2 v t x cs hV ht h4,by rw[<-Dm ht];exact hO⟩
theorem B2{α:Type}{R:List Value->α->Prop}{f:α->List Value->Option (List Value)}(hf:∀x cs r,f x cs=some r->∃c,cs=c++r/\R c x):
  ∀(l:List α) (cs r:List Value),MX f l cs=some r->∃c,cs=c++r/\cg R c l
 |[],cs,r,h=>by
  simp only[MX,aE]at h
  exact⟨[],by simp[h],rfl⟩
 |x::xs,cs,r,h=>by
  simp only[MX]at h
  cases hx:f x cs with
  |none=>rw[hx]at h;cases h
  |some r1=>
   rw[hx]at h
   obtain⟨c1,e1,h1⟩:=hf x cs r1 hx
   obtain⟨c2,e2,h2⟩:=B2 hf xs r1 r h
   exact⟨c1++c2,by rw[e1,e2,bR],c1,c2,rfl,h1,h2⟩
theorem uQ(E:Env):∀(t:Ty) (x:t.den) (cs r:List Value),tI t x cs=some r->∃c,cs=c++r/\eY E t c x
 | .int k,x,cs,r,h=>by
  cases cs with
  |nil=>simp[tI]at h
  |cons v r'=>
   cases v <;> simp only[tI]at h <;> try (cases h;done)
   rename_i k' n
   split at h
   ·rename_i h1 h2
    simp at h1 h2 h
    subst h1 h2 h
    exact⟨[.int k n],rfl,by simp[eY]⟩
   ·cases h
 | .bool,x,cs,r,h=>by
  cases cs with
  |nil=>simp[tI]at h
  |cons v r'=>
   cases v <;> simp only[tI]at h <;> try (cases h;done)
   rename_i b
   split at h
   ·rename_i h1
    simp at h1 h
    subst h1 h
    exact⟨[.bool b],rfl,by simp[eY]⟩
   ·cases h
 | .str,x,cs,r,h=>by
  cases cs with
  |nil=>simp[tI]at h
  |cons v r'=>
   cases v <;> simp only[tI]at h <;> try (cases h;done)
   rename_i b
   split at h
   ·rename_i h1
    simp at h1 h
    subst h1 h
    exact⟨[.string b],rfl,by simp[eY]⟩
   ·cases h
 | .slice t,x,cs,r,h=>by
  cases x with
  |cons _ _=>simp[tI]at h
  |nil=>
   cases cs with
   |nil=>simp[tI]at h
   |cons v r'=>
    unfold tI at h
    split at h <;> try (cases h;done)
    all_goals simp_all
    exact⟨[.slice none 0 0],rfl,by simp only[eY];exact⟨none,0,[],rfl,by simp,by simp,λi v hh=>by simp at hh,rfl⟩⟩
 | .kg t,x,cs,r,h=>by
  cases x with
  |some _=>simp[tI]at h
  |none=>
   cases cs with
   |nil=>simp[tI]at h
   |cons v r'=>
    unfold tI at h
    split at h <;> try (cases h;done)
    all_goals simp_all
    exact⟨[.slice none 0 0],rfl,by simp[eY]⟩
 | .unit,x,cs,r,h=>by
  simp only[tI,aE]at h
  exact⟨[],by simp[h],by simp[eY]⟩
 | .pair a b,x,cs,r,h=>by
  simp only[tI]at h
  cases hx:tI a x.1 cs with
  |none=>rw[hx]at h;cases h
  |some r1=>
   rw[hx]at h
   obtain⟨c1,e1,h1⟩:=uQ E a x.1 cs r1 hx
   obtain⟨c2,e2,h2⟩:=uQ E b x.2 r1 r h
   exact⟨c1++c2,by rw[e1,e2,bR],by simp only[eY];exact⟨c1,c2,rfl,h1,h2⟩⟩
 | .arr n t,x,cs,r,h=>by
  simp only[tI]at h
  split at h
  ·rename_i h1
   obtain⟨c,e,hc⟩:=B2 (λx cs r hh=>uQ E t x cs r hh) _ _ _ h
   exact⟨c,e,by simp only[eY];exact⟨by simpa using h1,hc⟩⟩
  ·cases h
theorem IS(E:Env):∀(a:aH) (cs r:List Value),Bh a cs=some r->∃c,cs=c++r/\V E a c:=by
 intro a
 induction a with
 |d t x=>
  intro cs r h
  simp only[Bh]at h
  obtain⟨c,e,hc⟩:=uQ E t x cs r h
  exact⟨c,e,by simpa only[V]using hc⟩
 |pr a b iha ihb=>
  intro cs r h
  simp only[Bh]at h
  cases hx:Bh a cs with
  |none=>rw[hx]at h;cases h
  |some r1=>
   rw[hx]at h
   obtain⟨c1,e1,h1⟩:=iha cs r1 hx
   obtain⟨c2,e2,h2⟩:=ihb r1 r h
   exact⟨c1++c2,by rw[e1,e2,bR],by simp only[V];exact⟨c1,c2,rfl,h1,h2⟩⟩
 |eV=>intro cs r h;unfold Bh at h;split at h <;> simp_all <;> exact⟨[.slice none 0 0],rfl,by simp[V]⟩
 |o6=>intro cs r h;unfold Bh at h;split at h <;> simp_all <;> exact⟨[.pointer none],rfl,by simp[V]⟩
 |rP=>intro cs r h;unfold Bh at h;split at h <;> simp_all <;> exact⟨[.nilFunc],rfl,by simp[V]⟩
 |uw=>intro cs r h;unfold Bh at h;split at h <;> simp_all <;> exact⟨[.map none],rfl,by simp[V]⟩
 |_=>intro cs r h;simp[Bh]at h
theorem qR{P:Program}{T:TypeId}{z:aH}(h:Gj P T z=true)(E:Env):
  ∃i zv,P.info? T=some i/\i.zero=some zv/\V E z zv.cells.toList/\jI z.agg zv.cells.toList zv:=by
 unfold Gj at h
 split at h <;> try (cases h;done)
 rename_i i hi
 split at h <;> try (cases h;done)
 rename_i zv hz
 simp only[ak,beq_iff_eq]at h
 obtain⟨h1,h2⟩:=h
 split at h1 <;> try (cases h1;done)
 rename_i he
 obtain⟨c,e,hV⟩:=IS E z _ _ he
 rw[dg]at e
 rw[<-e]at hV
 refine⟨i,zv,hi,hz,hV,?_⟩
 cases G3:z.agg with
 |true=>
  rw[G3]at h2
  cases zv <;> simp[pC]at h2
  simp[jI,Value.cells]
 |false=>
  rw[G3]at h2
  cases zv <;> first | (simp[pC]at h2;done) | simp[jI,Value.cells]
end Go.Ab
namespace Go.Ab
def iY(P:Program)(o:Oper)(a:Act)(w:World)(K:Act->World->Prop):Prop:=
 (∃x w',(execOp a.eval o).run P w= .ok (.value x) w'/\K (a.put o.dst x) w')\/
 (∃w',(execOp a.eval o).run P w= .ok .skip w'/\K (a.put o.dst undef) w')\/
 (∃f args w',(execOp a.eval o).run P w= .ok (.enter f args) w'/\Calls P f args w' λe w''=>∃x,e= .returned x/\K (a.put o.dst x) w'')
theorem iY.wp{P:Program}{o:Oper}{a:Act}{w:World}{K:Act->World->Prop}{Q:Exit->Act->World->Prop}(h:iY P o a w K):o.wp P a w K Q:=by
 unfold Oper.wp
 rcases h with⟨x,w',hr,hk⟩ | ⟨w',hr,hk⟩ | ⟨f,args,w',hr,hk⟩
 ·rw[hr,Oper.upon_value];exact hk
 ·rw[hr,Oper.upon_skip];exact hk
 ·rw[hr,Oper.upon_enter]
  refine hk.mono λe w'' ⟨x,he,hx⟩=> ?_
  subst he
  exact hx
theorem iY.mono{P:Program}{o:Oper}{a:Act}{w:World}{K K':Act->World->Prop}(h:iY P o a w K)(hk:∀a w,K a w->K' a w):iY P o a w K':=by
 rcases h with⟨x,w',hr,h⟩ | ⟨w',hr,h⟩ | ⟨f,args,w',hr,h⟩
 ·exact .inl ⟨x,w',hr,hk _ _ h⟩
 ·exact .inr (.inl ⟨w',hr,hk _ _ h⟩)
 ·exact .inr (.inr ⟨f,args,w',hr,h.mono λe w'' ⟨x,he,hx⟩=>⟨x,he,hk _ _ hx⟩⟩)
section
variable {P:Program} {C:Ctx} {g:Nat->od} {β:Id->Option Pl} {s:AS} {a:Act} {w:World} {o:Oper}
theorem Inv.value(h:Inv C g β s a w){v:aH}{x:Value}(hv:VS (s.env w g β) v x)(hr:(execOp a.eval o).run P w= .ok (.value x) w):iY P o a w (kL C (s.put o.dst v)):=
 .inl ⟨x,w,hr,g,β,h.put o.dst hv⟩
theorem fS{f:Sem Value}{x:Value}{w':World}(he:execOp a.eval o=(do pure (.value (<-f))))(hf:f.run P w= .ok x w'):(execOp a.eval o).run P w= .ok (.value x) w':=by
 rw[he,Sem.run_bind,hf];rfl
theorem Eu{f:Sem Unit}{w':World}(he:execOp a.eval o=(do f;pure .skip))(hf:f.run P w= .ok () w'):(execOp a.eval o).run P w= .ok .skip w':=by
 rw[he,Sem.run_bind,hf];rfl
theorem tP{E:Env}{k:IntKind}{n:Int}{y:Value}(h:VS E (.d (.int k) n) y):y= .int k n:=by
 obtain⟨cs,hv,ho⟩:=h
 simp only[V,eY]at hv
 have ho':cs=[y]:=ho
 rw[hv]at ho'
 simpa using ho'.symm
theorem Bp{E:Env}{b:Bool}{y:Value}(h:VS E (.d .bool b) y):y= .bool b:=by
 obtain⟨cs,hv,ho⟩:=h
 simp only[V,eY]at hv
 have ho':cs=[y]:=ho
 rw[hv]at ho'
 simpa using ho'.symm
theorem wC{E:Env}{b:ByteArray}{y:Value}(h:VS E (.d .str b) y):y= .string b:=by
 obtain⟨cs,hv,ho⟩:=h
 simp only[V,eY]at hv
 have ho':cs=[y]:=ho
 rw[hv]at ho'
 simpa using ho'.symm
theorem mQ{E:Env}(k:IntKind)(n:Int):VS E (.d (.int k) n) (.int k n):=⟨[.int k n],by simp[V,eY],rfl⟩
theorem r9{E:Env}(b:Bool):VS E (.d .bool b) (.bool b):=⟨[.bool b],by simp[V,eY],rfl⟩
theorem Fc{E:Env}(b:ByteArray):VS E (.d .str b) (.string b):=⟨[.string b],by simp[V,eY],rfl⟩
theorem Kj{T:TypeId}{d:TypeDesc}(h:P.underlying T=some d):∃i,P.info? T=some i:=by
 unfold Program.underlying at h
 split at h
 ·rename_i h';exact⟨_,h'⟩
 ·rename_i i _ h';exact⟨_,h'⟩
 ·cases h
theorem run_sizeOf{T:TypeId}{i:TypeInfo}(h:P.info? T=some i)(w:World):(sizeOf T).run P w= .ok i.size w:=by
 simp[sizeOf,typeInfo,h]
theorem mS{T:TypeId}{i:TypeInfo}(h:P.info? T=some i):P.cellsOf T=i.size:=by simp[Program.cellsOf,h]
theorem py{T:TypeId}{v:aH}(h:fits P T v=true):v.iA=true/\∃i,P.info? T=some i/\i.size=v.size/\∀w,(isAgg T).run P w= .ok v.agg w:=by
 unfold fits at h
 simp only[ak,beq_iff_eq]at h
 obtain⟨⟨h1,h2⟩,h3⟩:=h
 cases hu:P.underlying T with
 |none=>rw[hu]at h3;cases h3
 |some d=>
  obtain⟨i,hi⟩:=Kj hu
  refine⟨h1,i,hi,by rw[mS hi]at h2;exact h2,λw=> ?_⟩
  rw[hu]at h3
  unfold isAgg
  rw[Sem.run_bind,run_underlying hu w]
  cases d <;> simp at h3 <;> simp[h3]
theorem wy{T:TypeId}{v:aH}(hf:fits P T v=true){b off:Nat}{cs:List Value}(hl:cs.length=v.size)(hc:∀j x,cs[j]? =some x->w.cell? ⟨b,off+j,none⟩=some x):
  ∃y,(loadVar T ⟨b,off,none⟩).run P w= .ok y w/\jI v.agg cs y:=by
 obtain⟨_,i,hi,hs,G3⟩:=py hf
 unfold loadVar
 rw[Sem.run_bind,G3 w]
 simp only[Result.andThen_ok]
 have yA:∀j x,cs[j]? =some x->w.cell? ((⟨b,off,none⟩:Addr).add j)=some x:=λj x hj=>by
  rw[Addr.add_lit];exact hc j x hj
 cases ha:v.agg with
 |true=>
  refine⟨.agg cs.toArray,?_,rfl⟩
  simp only[if_true,Sem.run_bind,run_sizeOf hi,Result.andThen_ok,hs,<-hl,run_loadCells_list w _ cs yA]
  rfl
 |false=>
  have h1:v.size=1:=aH.H7 ha
  obtain⟨y,rfl⟩:∃y,cs=[y]:=by
   match cs,hl with
   |[y],_=>exact⟨y,rfl⟩
   |[],hh=>simp[h1]at hh
   |_::_::_,hh=>simp[h1]at hh
  refine⟨y,?_,rfl⟩
  have:=hc 0 y rfl
  rw[dE]at this
  simp[this]
theorem vz{T:TypeId}{v:aH}{E:Env}(hf:fits P T v=true){cs:List Value}{y:Value}(hV:V E v cs)(ho:jI v.agg cs y){b off:Nat}{cur:Array Value}{e:TypeId}
  (hh:w.heap[b]? =some (.cells cur e (0,0))) (hle:off+cs.length<=cur.size):
  (storeVar T ⟨b,off,none⟩ y).run P w= .ok () (w.setRow b (fo cur.toList off cs).toArray):=by
 obtain⟨_,i,hi,hs,_⟩:=py hf
 have Lt:y.cells=cs.toArray:=ho.cells hV.one
 have hl:=hV.size
 have vF:=run_storeCells_at P b off e cs 0 cur w hh (by simpa using hle) hV.one
 simp only[dE]at vF
 unfold storeVar
 simp only[Lt,Sem.run_bind,run_sizeOf hi,Result.andThen_ok,jZ,hl,hs,ne_eq,not_true_eq_false,if_false]
 simpa[fo]using vF
theorem q9(w:World)(ob:Obj){b:Nat}(h:b < w.heap.size):(w.alloc ob).heap[b]? =w.heap[b]? :=by
 show(w.heap.push ob)[b]? =w.heap[b]?
 rw[Array.getElem?_push,if_neg (Nat.ne_of_lt h)]
theorem sC(w:World)(ob:Obj):(w.alloc ob).heap[w.heap.size]? =some ob:=by
 show(w.heap.push ob)[w.heap.size]? =some ob
 simp
theorem Trans.alloc(w:World)(g:Nat->od)(ob:Obj)(l:od):Trans w (w.alloc ob) g (oQ g w.heap.size l):=by
 refine⟨rfl,rfl,⟨rfl,aC _⟩,by simp,λb hb=> ?_⟩
 rw[jc _ _ _ (by omega),q9 w ob hb]
 cases g b with
 |free=>exact⟨rfl,rfl⟩
 |own o k=>cases o with
  |iR=>exact⟨rfl,rfl⟩
  |id i=>exact⟨.inr ⟨i,k,rfl,aC _⟩,λoff v _ hv=>by rw[World.cell?_alloc_lt w ob _ hb];exact hv⟩
theorem Trans.drew(w:World)(g:Nat->od):Trans w w.drew g g:=Trans.refl w g |> λh=>⟨h.os,h.tape,⟨h.output.1,Nat.le_succ _⟩,h.size,h.K6⟩
theorem lO.same{w':World}{g':Nat->od}(h:lO (s.env w g β))(he:dZ (s.env w g β) (s.env w' g' β))
  (hb:∀i ver fr c pl,s.dx i=some (.obj ver fr c)->β i=some pl->w'.heap[pl.b]? =w.heap[pl.b]? /\g' pl.b=g pl.b):lO (s.env w' g' β):=
 λi ver fr c hi=>(h i ver fr c hi).mono he rfl (λpl hp=>hb i ver fr c pl hi hp) λq vq k v l hq _=>⟨⟨k,v,l,hq⟩,λpl hp=>hb q vq true _ pl hq hp⟩
theorem dZ.same{w':World}{g':Nat->od}(ht:Trans w w' g g'):dZ (s.env w g β) (s.env w' g' β):=
 ⟨Trans.mem ht,λ_ _ h=>h,λ_ _ _ h=>⟨h,rfl⟩⟩
theorem Inv.wK(h:Inv C g β s a w)(ob:Obj):Inv C (oQ g w.heap.size .free) β s a (w.alloc ob):=by
 have ht:=Trans.alloc w g ob .free
 have he:dZ (s.env w g β) (s.env (w.alloc ob) (oQ g w.heap.size .free) β):=dZ.same ht
 refine h.step rfl ht he (lO.same h.da he λi ver fr c pl hi hp=> ?_)
 have hl:=((h.da i ver fr c hi).label (pl:=pl) hp).1
 have hl':pl.b < w.heap.size:=hl
 exact⟨q9 w ob hl',jc _ _ _ (by omega)⟩
theorem Inv.drew(h:Inv C g β s a w):Inv C g β s a w.drew:=by
 have ht:=Trans.drew w g
 have he:dZ (s.env w g β) (s.env w.drew g β):=dZ.same ht
 exact h.step rfl ht he (lO.same h.da he λ_ _ _ _ _ _ _=>⟨rfl,rfl⟩)
theorem lH{q:Nat}(h:s.gd q=true):(∀j,s.dx (.new q j)=none)/\q < s.news.length:=by
 unfold AS.gd at h
 split at h
 ·rename_i hn
  refine⟨λj=> ?_,(fE.1 hn).1⟩
  simp[AS.dx,aX,hn]
 ·cases h
theorem sm{q:Nat}(hq:q < s.news.length)(es:List gU)(j:Nat):(s.born q es).dx (.new q j)=es[j]? :=by
 simp[AS.dx,AS.born,aX,hq]
theorem kM{q:Nat}(es:List gU){id:Id}(h:∀j,id≠ .new q j):(s.born q es).dx id=s.dx id:=by
 cases id with
 |ew k=>rfl
 |new i j=>
  have:i≠q:=λe=>h j (by rw[e])
  simp only[AS.dx,AS.born,aX]
  rw[iD (Ne.symm this)]
def xh(β:Id->Option Pl)(id:Id)(p:Option Pl):Id->Option Pl:=λi=>if i=id then p else β i
@[simp] theorem mE(β:Id->Option Pl)(id:Id)(p:Option Pl):xh β id p id=p:=by simp[xh]
theorem sW(β:Id->Option Pl)(id:Id)(p:Option Pl){i:Id}(h:i≠id):xh β id p i=β i:=by simp[xh,h]
theorem Inv.BU(h:Inv C g β s a w){q:Nat}(hq:s.gd q=true){w':World}{g':Nat->od}{c:aH}{p:Option Pl}(ht:Trans w w' g g')
  (hb:∀b,b < w.heap.size->w'.heap[b]? =w.heap[b]? /\g' b=g b)
  (ho:dZ (s.env w g β) ((s.born q [.obj 0 false c]).env w' g' (xh β (.new q 0) p))->rI ((s.born q [.obj 0 false c]).env w' g' (xh β (.new q 0) p)) (.new q 0) false c):
  Inv C g' (xh β (.new q 0) p) (s.born q [.obj 0 false c]) a w'/\dZ (s.env w g β) ((s.born q [.obj 0 false c]).env w' g' (xh β (.new q 0) p)):=by
 obtain⟨hv,hl⟩:=lH hq
 have lh:∀id,s.dx id≠none->∀j,id≠ .new q j:=λid eZ j e=>eZ (by rw[e];exact hv j)
 have he:dZ (s.env w g β) ((s.born q [.obj 0 false c]).env w' g' (xh β (.new q 0) p)):=by
  refine⟨Trans.mem ht,λid ver OL=> ?_,λid ver OL hc=> ?_⟩
  ·have eZ:=lh id OL.1
   have e:=kM (s:=s) [.obj 0 false c] eZ
   exact⟨by show(s.born q _).dx id≠none;rw[e];exact OL.1,λv fr c' hh=>OL.2 v fr c' (e.symm.trans hh)⟩
  ·have eZ:=lh id OL.1
   have e:=kM (s:=s) [.obj 0 false c] eZ
   obtain⟨fr,c',hc⟩:=hc
   exact⟨⟨fr,c',e.symm.trans hc⟩,sW _ _ _ (eZ 0)⟩
 refine⟨h.step rfl ht he λid ver fr c' eZ=> ?_,he⟩
 have hid':(s.born q [.obj 0 false c]).dx id=some (.obj ver fr c'):=eZ
 by_cases hi:∃j,id= .new q j
 ·obtain⟨j,rfl⟩:=hi
  rw[sm hl]at hid'
  cases j with
  |zero=>
   simp only[iT,aE,gU.obj.injEq]at hid'
   obtain⟨rfl,rfl,rfl⟩:=hid'
   exact ho he
  |succ j=>simp at hid'
 ·have hi':∀j,id≠ .new q j:=λj e=>hi ⟨j,e⟩
  rw[kM _ hi']at hid'
  refine(h.da id ver fr c' hid').mono he (sW _ _ _ (hi' 0)) (λpl hp=> ?_) λq2 vq k v l Bj _=> ?_
  ·exact hb pl.b ((h.da id ver fr c' hid').label (pl:=pl) hp).1
  ·have V8:s.dx q2=some (.obj vq true (.mp k v l)):=Bj
   refine⟨⟨k,v,l,by show(s.born q _).dx q2=_;rw[kM _ (lh q2 (by rw[V8];simp))];exact V8⟩,λpl hp=>hb pl.b ((h.da q2 vq true _ V8).label (pl:=pl) hp).1⟩
theorem qb{q:Nat}(hq:s.gd q=true)(c:aH)(w':World)(g':Nat->od)(β':Id->Option Pl):((s.born q [.obj 0 false c]).env w' g' β').w9 (.new q 0) 0:=by
 have e:=sm (s:=s) (lH hq).2 [.obj 0 false c] 0
 refine⟨by show(s.born q [.obj 0 false c]).dx (.new q 0)≠none;rw[e];simp,λv fr c' _=>bm _⟩
theorem Inv.Kt(h:Inv C g β s a w){q:Nat}(hq:s.gd q=true){v:aH}{cs:List Value}{e:TypeId}(hk:∀pl n,v.vQ pl n e)(hN:∀n,v.rJ n=n)(hv:V (s.env w g β) v.strip cs):
  ∃g' β',Inv C g' β' (s.born q [.obj 0 false v]) a (w.alloc (.cells cs.toArray e))/\
   VS ((s.born q [.obj 0 false v]).env (w.alloc (.cells cs.toArray e)) g' β') (.ptr (.new q 0) 0 [] 0) (.pointer (some ⟨w.heap.size,0,none⟩)):=by
 have ht:=Trans.alloc w g (.cells cs.toArray e) (.own (.id (.new q 0)) 0)
 obtain⟨h1,h2⟩:=h.BU hq (c:=v) (p:=some ⟨w.heap.size,0⟩) ht (λb hb=>⟨q9 w _ hb,jc _ _ _ (by omega)⟩) (λhe=>
  zq.obj ⟨⟨w.heap.size,0⟩,cs.toArray,e,mE _ _ _,sC w _,ji _ _ _,hk _ _,by rw[hN,show cs.toArray.toList.take cs.toArray.size=cs by simp];exact hv.mono he⟩)
 refine⟨_,_,h1,?_⟩
 refine⟨[.pointer (some ⟨w.heap.size,0,none⟩)],?_,rfl⟩
 simp only[V]
 exact⟨_,rfl,qb hq _ _ _ _,λ_=>⟨_,mE _ _ _,rfl⟩⟩
theorem Inv.Sc(h:Inv C g β s a w){q:Nat}(hq:s.gd q=true){v:aH}{cs:List Value}(hv:V (s.env w g β) v cs)(e:TypeId):
  ∃g' β',Inv C g' β' (s.born q [.obj 0 false v]) a (w.alloc (.cells cs.toArray e))/\
   VS ((s.born q [.obj 0 false v]).env (w.alloc (.cells cs.toArray e)) g' β') (.ptr (.new q 0) 0 [] 0) (.pointer (some ⟨w.heap.size,0,none⟩)):=
 h.Kt hq (λpl n=>zy hv.sL pl n e) (λn=>BV hv.sL n) (by rw[Ao hv.sL];exact hv)
theorem MM(P:Program)(T:TypeId){z:aH}{E:Env}{cs:List Value}(hv:V E z cs):(∀pl n,(boxed P T z).vQ pl n T)/\(∀n,(boxed P T z).rJ n=n)/\V E (boxed P T z).strip cs:=by
 unfold boxed
 split
 ·exact⟨λ_ _=>rfl,λ_=>rfl,hv⟩
 ·exact⟨λpl n=>zy hv.sL pl n T,λn=>BV hv.sL n,by rw[Ao hv.sL];exact hv⟩
theorem Inv.PQ(h:Inv C g β s a w){t:Ty}{x:t.den}{cs:List Value}(hv:eY (s.env w g β) t cs x)(e:TypeId):
  ∃g',Inv C g' β s a (w.alloc (.cells cs.toArray e))/\dZ (s.env w g β) (s.env (w.alloc (.cells cs.toArray e)) g' β)/\
   VS (s.env (w.alloc (.cells cs.toArray e)) g' β) (.gE t x) (.pointer (some ⟨w.heap.size,0,none⟩)):=by
 have ht:=Trans.alloc w g (.cells cs.toArray e) .free
 have he:dZ (s.env w g β) (s.env (w.alloc (.cells cs.toArray e)) (oQ g w.heap.size .free) β):=dZ.same ht
 refine⟨_,h.wK _,he,[.pointer (some ⟨w.heap.size,0,none⟩)],?_,rfl⟩
 simp only[V]
 refine⟨w.heap.size,0,cs,rfl,λi v hi=>⟨_,_,rfl,?_,?_⟩,hv.mono he.mem⟩
 ·show(w.alloc (.cells cs.toArray e)).cell? ⟨w.heap.size,0+i,none⟩=some v
  rw[World.cell?_alloc_new,bl];simpa using hi
 ·show rq (oQ g w.heap.size .free) w.heap.size (0+i)
  unfold rq;rw[ji];trivial
theorem C7(T:TypeId)(y:Value)(w:World):(newVar T y).run P w= .ok ⟨w.heap.size,0,none⟩ (w.alloc (.cells y.cells T)):=by
 simp[newVar,newRow]
theorem IB(h:Inv C g β s a w){T:TypeId}(ho:o.op= .alloc T){z:aH}{q:Nat}(hq:s.gd q=true)(hz:Gj P T z=true):
  iY P o a w (kL C ((s.born q [.obj 0 false (boxed P T z)]).put o.dst (.ptr (.new q 0) 0 [] 0))):=by
 obtain⟨i,zv,hi,Iw,hV,hO⟩:=qR hz (s.env w g β)
 obtain⟨hk,hN,hV⟩:=MM P T hV
 obtain⟨g',β',h1,h2⟩:=h.Kt hq hk hN hV
 refine .inl ⟨.pointer (some ⟨w.heap.size,0,none⟩),w.alloc (.cells zv.cells T),?_,g',β',?_⟩
 ·refine fS (f:=Instr.alloc T true (.tuple #[])) (by simp only[execOp,ho]) ?_
  simp[Instr.alloc,zeroValue,typeInfo,hi,Iw,C7]
 ·have:=h1.put o.dst h2
  simpa using this
theorem ML(h:Inv C g β s a w){T:TypeId}{x:Operand}{obj:Bool}(ho:o.op= .box T x){s':AS}(he:(GG P s obj o.dst T (s.ev x)).eval=some s'):iY P o a w (kL C s'):=by
 unfold GG at he
 cases hd:o.dst with
 |none=>rw[hd]at he;simp only[al]at he
 |some q=>
  rw[hd]at he
  have Qi:=h.ev x
  have oY:∀cs:List Value,(a.eval x).cells=cs.toArray->(execOp a.eval o).run P w= .ok (.value (.pointer (some ⟨w.heap.size,0,none⟩))) (w.alloc (.cells cs.toArray T)):=by
   intro cs Lt
   refine fS (f:=Instr.box T (a.eval x)) (by simp only[execOp,ho]) ?_
   simp[Instr.box,C7,Lt]
  cases obj with
  |true=>
   obtain⟨hg,jV⟩:=aL.1 he
   obtain rfl:=aB.1 jV
   simp only[ak]at hg
   obtain⟨hq,hf⟩:=hg
   obtain⟨hc,_⟩:=py hf
   obtain⟨cs,hV,hO⟩:=Qi.iA hc
   obtain⟨g',β',h1,h2⟩:=h.Sc hq hV T
   refine .inl ⟨_,_,oY cs (hO.cells hV.one),g',β',?_⟩
   rw[hd]
   exact h1.put (some q) h2
  |false=>
   simp only at he
   cases ht:Il P depth T with
   |none=>rw[ht]at he;simp only[al]at he
   |some t=>
    rw[ht]at he
    obtain⟨_,he⟩:=aL.1 he
    obtain⟨y,h1,h2⟩:=av.1 he
    obtain rfl:=aB.1 h2
    obtain⟨g1,i1,e1,t1,cs,hR,hO⟩:=sV h Qi h1
    obtain⟨g2,i2,e2,hv⟩:=i1.PQ hR T
    refine .inl ⟨_,_,oY cs (hO.cells hR.one),g2,β,?_⟩
    rw[hd]
    exact i2.put (some q) hv
theorem y5{E:Env}{t:Ty}{x:t.den}{y:Value}(h:VS E (.gE t x) y):∃b off vs,y= .pointer (some ⟨b,off,none⟩)/\vJ E (some ⟨b,off,none⟩) vs/\eY E t vs x:=by
 obtain⟨cs,hv,ho⟩:=h
 simp only[V]at hv
 obtain⟨b,off,vs,e,hr,hx⟩:=hv
 have ho':cs=[y]:=ho
 rw[e]at ho'
 exact⟨b,off,vs,by simpa using ho'.symm,hr,hx⟩
theorem qM{E:Env}{id:Id}{ver n:Nat}{p:List xy}{y:Value}(h:VS E (.ptr id ver p n) y):
  ∃a,y= .pointer (some a)/\E.w9 id ver/\(E.cur id ver->∃pl,E.β id=some pl/\a=⟨pl.b,n,none⟩):=by
 obtain⟨cs,hv,ho⟩:=h
 simp only[V]at hv
 obtain⟨a,e,hb,hc⟩:=hv
 have ho':cs=[y]:=ho
 rw[e]at ho'
 exact⟨a,by simpa using ho'.symm,hb,hc⟩
theorem pf{E:Env}{id:Id}{ver c i len:Nat}{p:List xy}{y:Value}(h:VS E (.dh id ver p c i len) y):
  ∃a cap,y= .slice a len cap/\len<=cap/\(0 < len->a.isSome=true)/\E.w9 id ver/\
   (E.cur id ver->match E.β id with
    |some pl=>(0 < len\/i=0->a=some ⟨pl.b,c,none⟩)/\(p=[]->i=0->cap=pl.cap)
    |none=>a=none/\len=0/\cap=0):=by
 obtain⟨cs,hv,ho⟩:=h
 simp only[V]at hv
 obtain⟨a,cap,e,rest⟩:=hv
 have ho':cs=[y]:=ho
 rw[e]at ho'
 exact⟨a,cap,by simpa using ho'.symm,rest⟩
theorem qq{E:Env}{t:Ty}{l:List t.den}{y:Value}(h:VS E (.d (.slice t) l) y):
  ∃a cap vs,y= .slice a l.length cap/\l.length<=cap/\(0 < l.length->a.isSome=true)/\vJ E a vs/\cg (eY E t) vs l:=by
 obtain⟨cs,hv,ho⟩:=h
 simp only[V,eY]at hv
 obtain⟨a,cap,vs,e,rest⟩:=hv
 have ho':cs=[y]:=ho
 rw[e]at ho'
 exact⟨a,cap,vs,by simpa using ho'.symm,rest⟩
theorem l5{E:Env}{y:Value}(h:VS E .eV y):y= .slice none 0 0:=by
 obtain⟨cs,hv,ho⟩:=h
 simp only[V]at hv
 have ho':cs=[y]:=ho
 rw[hv]at ho'
 simpa using ho'.symm
theorem LR{E:Env}{id:Id}{fr:Bool}{c:aH}(h:rI E id fr c){p:List xy}{n:Nat}{v:aH}(hl:(loc c.strip p).eval=some (n,v))(hf:v.iA=true):
  ∃pl cur e,E.β id=some pl/\E.w.heap[pl.b]? =some (.cells cur e (0,0))/\V E v ((cur.toList.drop n).take v.size)/\n+v.size<=cur.size:=by
 by_cases hn:c.kq=false
 ·obtain⟨pl,cur,e,hp,hh,hg,hk,hV⟩:=h.box hn
  have hN:=Bq hk
  generalize c.rJ cur.size=N at hN hV
  have hNl:(cur.toList.take N).length=N:=by rw[fO,eg];omega
  obtain⟨u,hu⟩:∃u,c.strip=u:=⟨_,rfl⟩
  rw[hu]at hV hl
  rcases pM p u (cur.toList.take N) n v (VO.of hV) hl with⟨rfl,rfl⟩ | ⟨h1,h2⟩
  ·have hs:=hV.size
   rw[hNl]at hs
   refine⟨pl,cur,e,hp,hh,?_,by omega⟩
   rw[aW,<-hs]
   exact hV
  ·rw[hNl]at h2
   rw[pY,mm,jH (by omega)]at h1
   exact⟨pl,cur,e,hp,hh,h1,by omega⟩
 ·cases c <;> first | (exact absurd rfl hn) | skip
  rotate_left
  ·have hl:(loc (.mp _ _ _) p).eval=_:=hl
   obtain⟨_,rfl⟩:=FP hl
   simp[aH.iA]at hf
  ·have hl:(loc (.qd _ _ _ _ _ _) p).eval=_:=hl
   obtain⟨_,rfl⟩:=BA hl
   simp[aH.iA]at hf
  rename_i e t l
  obtain⟨hz,h⟩:=h
  cases hp:E.β id with
  |none=>
   rw[hp]at h
   have:l=[]:=h
   subst this
   obtain⟨_,rfl⟩:=CD hl
   simp[aH.iA]at hf
  |some pl=>
   rw[hp]at h
   obtain⟨cur,k,q1,q2,q3,q4,q5,q6,q7,q8⟩:=h
   have hlen:=cg.length (λc x hx=>eY.size hx) q8
   have rM:l.length*t.size<=cur.size:=by rw[q2];exact eR _ q3
   rcases pM (E:=E) p (.vec e t l) _ n v q8 hl with⟨rfl,rfl⟩ | ⟨h1,h2⟩
   ·simp[aH.iA]at hf
   ·rw[hlen]at h2
    rw[pY,mm,jH (by omega)]at h1
    exact⟨pl,cur,e,rfl,q1,h1,by omega⟩
theorem LQ{E:Env}{v v':aH}(h:(Sd v).eval=some v'):(∀cs,V E v cs->V E v' cs)/\v'.agg=v.agg:=by
 unfold Sd at h
 split at h
 ·rename_i t l
  obtain⟨h1,h2⟩:=cW.1 h
  obtain rfl:=aB.1 h2
  refine⟨λcs hv=> ?_,rfl⟩
  simp only[V,eY]at hv ⊢
  exact hv.1 (Option.isNone_iff_eq_none.1 h1)
 ·obtain rfl:=aB.1 h
  exact⟨λ_ h=>h,rfl⟩
theorem CC(h:Inv C g β s a w){T:TypeId}{x:aH}{y:Value}(hx:VS (s.env w g β) x y){v:aH}(he:(yJ P s T x).eval=some v):
  ∃ad z,y= .pointer (some ad)/\(loadVar T ad).run P w= .ok z w/\VS (s.env w g β) v z:=by
 unfold yJ at he
 split at he
 ·rename_i id ver p n
  cases nc:s.obj id with
  |none=>rw[nc]at he;simp only[al]at he
  |some r=>
   obtain⟨v0,fr,c⟩:=r
   rw[nc]at he
   obtain⟨h1,h2⟩:=aL.1 he
   obtain⟨⟨n',v'⟩,h3,h4⟩:=av.1 h2
   obtain⟨h5,h6⟩:=aL.1 h4
   obtain⟨h7,h8⟩:=cW.1 h6
   obtain⟨n1,n2⟩:=LQ (E:=s.env w g β) h8
   simp only[decide_eq_true_eq]at h7
   have Qq:v0=ver:=by simpa using h1
   subst Qq h7
   have eP:=gC nc
   obtain⟨ad,rfl,hb,hc⟩:=qM hx
   obtain⟨pl,hp,rfl⟩:=hc ⟨fr,c,eP⟩
   obtain⟨I1,_⟩:=py h5
   obtain⟨pl',cur,e,hp',hh,hV,hle⟩:=LR (h.da id v0 fr c eP) h3 I1
   rw[hp]at hp'
   obtain rfl:pl=pl':=by simpa using hp'
   obtain⟨z,Bv,Bk⟩:=wy (P:=P) (w:=w) h5 (b:=pl.b) (off:=n') hV.size (λj x hj=>by
    rw[cell_of_row w pl.b (n'+j) cur e (0,0) hh]
    rw[fv]at hj
    split at hj
    ·rw[kB]at hj;simpa using hj
    ·cases hj)
   exact⟨_,z,rfl,Bv,VS.of (n1 _ hV) (by rw[n2];exact Bk)⟩
 ·rename_i t x'
  obtain⟨h1,h2⟩:=aL.1 he
  obtain rfl:=aB.1 h2
  obtain⟨b,off,vs,rfl,hr,hR⟩:=y5 hx
  obtain⟨z,Bv,Bk⟩:=wy (P:=P) (w:=w) h1 (b:=b) (off:=off) hR.size (λj x hj=>by
   obtain⟨b',off',e,hh⟩:=hr j x hj
   simp only[aE,Addr.mk.injEq,and_true]at e
   obtain⟨rfl,rfl⟩:=e
   exact hh.1)
  exact⟨_,z,rfl,Bv,VS.of (by simpa only[V]using hR) Bk⟩
 ·simp only[al]at he
theorem LH(h:Inv C g β s a w){T:TypeId}{x:Operand}(ho:o.op= .load T x){v:aH}(he:(yJ P s T (s.ev x)).eval=some v):iY P o a w (kL C (s.put o.dst v)):=by
 obtain⟨ad,z,hy,hr,hv⟩:=CC h (h.ev x) he
 refine h.value hv (fS (f:=Instr.loadAt T (a.eval x)) (by simp only[execOp,ho]) ?_)
 simp[Instr.loadAt,Instr.sureAddr,hy,hr]
theorem Trans.setRow(w:World){b:Nat}{i:Id}(hg:g b= .own (.id i) 0)(cur:Array Value):Trans w (w.setRow b cur) g g:=by
 refine⟨by simp,by simp,by simp,by simp,λb' hb=> ?_⟩
 by_cases he:b'=b
 ·subst he
  rw[hg]
  exact⟨.inr ⟨i,0,rfl,aC _⟩,λ_ _ hh=>by omega⟩
 ·rw[setRow_other w b b' cur he]
  cases Ck:g b' with
  |free=>exact⟨rfl,rfl⟩
  |own o' k=>cases o' with
   |iR=>exact⟨rfl,rfl⟩
   |id i'=>exact⟨.inr ⟨i',k,rfl,aC _⟩,λoff v _ hv=>by rw[cell_setRow_other w b cur _ he];exact hv⟩
theorem Inv.apart(h:Inv C g β s a w){id:Id}{k:Nat}{b:Nat}(hg:g b= .own (.id id) k){i:Id}{ver:Nat}{fr:Bool}{c:aH}{pl:Pl}(hi:i≠id)(hs:s.dx i=some (.obj ver fr c))(hp:β i=some pl):pl.b≠b:=by
 intro hb
 have hl:(∃k,g pl.b= .own (.id i) k)\/(fr=true/\g pl.b= .free):=((h.da i ver fr c hs).label (pl:=pl) hp).2
 rw[hb,hg]at hl
 rcases hl with⟨k',hk⟩ | ⟨_,hk⟩
 ·simp only[od.own.injEq,UM.id.injEq]at hk
  exact hi hk.1.symm
 ·cases hk
theorem Ic(h:Inv C g β s a w){T:TypeId}{x v:aH}{y z:Value}(hx:VS (s.env w g β) x y)(hz:VS (s.env w g β) v z){s':AS}(he:(wB P s T x v).eval=some s'):
  ∃ad w',y= .pointer (some ad)/\(storeVar T ad z).run P w= .ok () w'/\∃g' β',Inv C g' β' s' a w':=by
 unfold wB at he
 split at he
 ·rename_i id ver p n
  cases nc:s.obj id with
  |none=>rw[nc]at he;simp only[al]at he
  |some r=>
   obtain⟨v0,fr,c⟩:=r
   rw[nc]at he
   obtain⟨h1,h2⟩:=aL.1 he
   obtain⟨⟨n',o'⟩,h3,h4⟩:=av.1 h2
   obtain⟨h5,h6⟩:=aL.1 h4
   obtain⟨h7,h8⟩:=cW.1 h6
   obtain⟨c',h9,Rx⟩:=av.1 h8
   obtain rfl:=aB.1 Rx
   simp only[decide_eq_true_eq]at h7
   simp only[ak,beq_iff_eq,dI]at h1
   obtain⟨⟨Qq,RH⟩,Cj⟩:=h1
   subst Qq h7 RH
   have eP:=gC nc
   obtain⟨ad,rfl,hb,hc⟩:=qM hx
   obtain⟨pl,hp,rfl⟩:=hc ⟨false,c,eP⟩
   have hp:β id=some pl:=hp
   obtain⟨I1,_⟩:=py Cj
   obtain⟨cs,hV,hO⟩:=hz.iA I1
   have hOb:=h.da id v0 false c eP
   obtain⟨hcel',_⟩:=py h5
   have Wm:c.kq=false\/c.kq=true:=by cases c.kq <;> simp
   rcases Wm with hn | hn
   ·obtain⟨pl',cur,e,hp',hh,hg,hk,hVc⟩:=hOb.box hn
    have hp':β id=some pl':=hp'
    rw[hp]at hp'
    obtain rfl:pl=pl':=by simpa using hp'
    have hg:g pl.b= .own (.id id) 0:=hg
    have hh:w.heap[pl.b]? =some (.cells cur e (0,0)):=hh
    have hN:=Bq hk
    have hNl:(cur.toList.take (c.rJ cur.size)).length=c.rJ cur.size:=by rw[fO,eg];omega
    obtain⟨u1,u2,u3⟩:=oA p c.strip (cur.toList.take (c.rJ cur.size)) n' o' v c' cs (VO.of hVc) h3 hV h9
    have u4:=u2.to (u3.qk hVc.qk)
    have rM:c'.size=c.strip.size:=by
     have e1:=u4.size
     have e2:=hVc.size
     rw[lv u1]at e1
     omega
    rw[hNl]at u1
    have ED:(fo cur.toList n' cs).length=cur.toList.length:=lv (by have e1:cur.toList.length=cur.size:=eg;omega)
    have Wf:(fo cur.toList n' cs).take (c.rJ cur.size)=fo (cur.toList.take (c.rJ cur.size)) n' cs:=by
     conv=>lhs;rw[<-fQ (c.rJ cur.size) cur.toList]
     rw[tw (by rw[hNl];exact u1),kJ (by rw[lv (by rw[hNl];exact u1),hNl];exact aC _)]
     exact cn (by rw[lv (by rw[hNl];exact u1),hNl];exact aC _)
    have oY:=vz (P:=P) (w:=w) Cj hV hO (b:=pl.b) (off:=n') hh (by have e1:cur.toList.length=cur.size:=eg;have e2:cs.toArray.size=cs.length:=jZ;omega)
    have ht:=Trans.setRow w hg (fo cur.toList n' cs).toArray
    have hle:dZ (s.env w g β) ((s.bM id (.obj v0 false (c.wrap c'))).env (w.setRow pl.b (fo cur.toList n' cs).toArray) g β):=dZ.bM eP (aC _) ht (λ_ _=>rfl) (λ_=>rfl)
    refine⟨_,_,rfl,oY,g,β,h.step (fi _ _ _) ht hle (lO.bM h.da (by rw[eP];simp) hle (λ_ _=>rfl) (λi ver fr c pl2 hi DN It=>⟨setRow_other w pl.b pl2.b _ (h.apart hg hi DN It),rfl⟩) ?_ (ou eP λk v1 l e=>by rw[e]at hn;simp[aH.kq]at hn))⟩
    exact zq.obj ⟨pl,_,e,hp,setRow_heap w pl.b cur _ e (0,0) hh,hg,by rw[jZ,ED,eg];exact xA hk u4.sL rM,by
     rw[yf c u4.sL,jZ,ED,eg,zx u4.sL rM,show(fo cur.toList n' cs).toArray.toList=fo cur.toList n' cs from rfl,Wf]
     exact V.mono hle u4⟩
   ·cases c <;> first | (simp[aH.kq]at hn;done) | skip
    rotate_left
    ·have h3:(loc (.mp _ _ _) p).eval=_:=h3
     obtain⟨_,rfl⟩:=FP h3
     simp[aH.iA]at hcel'
    ·have h3:(loc (.qd _ _ _ _ _ _) p).eval=_:=h3
     obtain⟨_,rfl⟩:=BA h3
     simp[aH.iA]at hcel'
    rename_i e t l
    obtain⟨Ix,hOb⟩:=hOb
    have hOb:(match β id with
     |none=>l=[]
     |some pl=>∃cur k,w.heap[pl.b]? =some (.cells cur e (0,0))/\cur.size=pl.cap*t.size/\l.length<=pl.cap/\pl.cap<=maxLen/\g pl.b= .own (.id id) k/\
       k<=l.length*t.size/\(false=false->k=0)/\cg (eY (s.env w g β) t) (cur.toList.take (l.length*t.size)) l):=hOb
    rw[hp]at hOb
    obtain⟨cur,k,q1,q2,q3,q4,q5,q6,q7,q8⟩:=hOb
    have hk:=q7 rfl
    subst hk
    have hlen:=cg.length (λc x hx=>eY.size hx) q8
    have rM:l.length*t.size<=cur.size:=by rw[q2];exact eR _ q3
    obtain⟨u1,u2,u3⟩:=oA (E:=s.env w g β) p (.vec e t l) _ n' o' v c' cs q8 h3 hV h9
    rw[hlen]at u1
    have oY:=vz (P:=P) (w:=w) Cj hV hO (b:=pl.b) (off:=n') q1 (by omega)
    cases c' <;> first | (exact u3.elim) | skip
    rename_i e' t' l'
    obtain⟨rfl,rfl,hl'⟩:=u3
    have ht:=Trans.setRow w q5 (fo cur.toList n' cs).toArray
    have hle:dZ (s.env w g β) ((s.bM id (.obj v0 false (.vec e' t' l'))).env (w.setRow pl.b (fo cur.toList n' cs).toArray) g β):=dZ.bM eP (aC _) ht (λ_ _=>rfl) (λ_=>rfl)
    refine⟨_,_,rfl,oY,g,β,h.step (fi _ _ _) ht hle (lO.bM h.da (by rw[eP];simp) hle (λ_ _=>rfl) (λi ver fr c pl2 hi DN It=>⟨setRow_other w pl.b pl2.b _ (h.apart q5 hi DN It),rfl⟩) ?_ (ou eP λk v1 l e=>by cases e))⟩
    refine⟨Ix,?_⟩
    show(match β id with
     |none=>l'=[]
     |some pl=>_)
    rw[hp]
    have ED:(fo cur.toList n' cs).length=cur.toList.length:=lv (by simp;omega)
    refine⟨_,0,setRow_heap w pl.b cur _ e' (0,0) q1,by rw[jZ,ED];simpa using q2,by omega,q4,q5,by omega,λ_=>rfl,?_⟩
    have e2:(fo cur.toList n' cs).take (l'.length*t'.size)=fo (cur.toList.take (l.length*t'.size)) n' cs:=by
     rw[hl']
     conv=>lhs;rw[<-fQ (l.length*t'.size) cur.toList]
     rw[tw (by rw[hlen];exact u1),kJ (by rw[lv (by rw[hlen];exact u1),hlen];exact aC _)]
     exact cn (by rw[lv (by rw[hlen];exact u1),hlen];exact aC _)
    rw[show(fo cur.toList n' cs).toArray.toList=fo cur.toList n' cs from rfl,e2]
    exact cg.mono (λ_ _ hx=>hx.mono hle.mem) u2
 ·simp only[al]at he
theorem JC(h:Inv C g β s a w){T:TypeId}{x v:Operand}(ho:o.op= .store T x v){s':AS}(he:(wB P s T (s.ev x) (s.ev v)).eval=some s'):iY P o a w (kL C (s'.put o.dst .undef)):=by
 obtain⟨ad,w',hy,hr,g',β',hi⟩:=Ic h (h.ev x) (h.ev v) he
 refine .inr (.inl ⟨w',Eu (f:=Instr.storeAt T (a.eval x) (a.eval v)) (by simp only[execOp,ho]) ?_,g',β',hi.put o.dst VS.undef⟩)
 simp[Instr.storeAt,Instr.sureAddr,hy,hr]
end
end Go.Ab
namespace Go.Ab
section
variable {P:Program} {C:Ctx} {g:Nat->od} {β:Id->Option Pl} {s:AS} {a:Act} {w:World} {o:Oper}
theorem EJ(h:Inv C g β s a w){x:Operand}(ho:o.op= .move x\/o.op= .assign x):iY P o a w (kL C (s.put o.dst (s.ev x))):=by
 refine h.value (h.ev x) ?_
 rcases ho with ho | ho <;> simp[execOp,ho]
theorem LW(h:Inv C g β s a w){c x y:Operand}(ho:o.op= .pick c x y){v:aH}(he:(Ky (s.ev c) (s.ev x) (s.ev y)).eval=some v):iY P o a w (kL C (s.put o.dst v)):=by
 have hc:=h.ev c
 have hx:=h.ev x
 have hy:=h.ev y
 unfold Ky at he
 split at he
 ·rename_i b hb
  rw[hb]at hc
  have US:=Bp hc
  have hr:(execOp a.eval o).run P w= .ok (.value (if b then a.eval x else a.eval y)) w:=by
   simp[execOp,ho,US,asBool]
  split at he
  ·rename_i bx by' XY XZ
   obtain rfl:=aB.1 he
   rw[XY]at hx
   rw[XZ]at hy
   refine h.value ?_ hr
   cases b
   ·simpa using hy
   ·simpa using hx
  ·cases b with
   |true=>
    simp only[Out.eval,aE]at he
    subst he
    exact h.value (by simpa using hx) hr
   |false=>
    simp only[Out.eval,aE]at he
    subst he
    exact h.value (by simpa using hy) hr
 ·simp only[al]at he
theorem D0(h:Inv C g β s a w){x:Operand}(ho:o.op= .nilCheck x){s':AS}(he:(match s.ev x with
  | .ptr id v p n=>Out.ok (s.put o.dst (.ptr id v p n))
  | .gE t y=> .ok (s.put o.dst (.gE t y))
  | .fn f c=> .ok (s.put o.dst (.fn f c))
  |_=> .fail).eval=some s'):iY P o a w (kL C s'):=by
 have hx:=h.ev x
 split at he
 ·rename_i id v p n hv
  obtain rfl:=aB.1 he
  rw[hv]at hx
  obtain⟨ad,hy,_⟩:=qM hx
  exact h.value hx (by simp[execOp,ho,hy])
 ·rename_i t y hv
  obtain rfl:=aB.1 he
  rw[hv]at hx
  obtain⟨b,off,vs,hy,_⟩:=y5 hx
  exact h.value hx (by simp[execOp,ho,hy])
 ·rename_i f c hv
  obtain rfl:=aB.1 he
  rw[hv]at hx
  obtain⟨cs,hV,hO⟩:=hx.iA rfl
  simp only[V]at hV
  obtain⟨vs,e,hc⟩:=hV
  have hO':cs=[a.eval x]:=hO
  rw[e]at hO'
  have hy:a.eval x= .func (.func f) #[] vs.toArray:=by simpa using hO'.symm
  refine h.value (v:= .fn f c) ⟨cs,by simp only[V];exact⟨vs,e,hc⟩,hO⟩ (by simp[execOp,ho,hy])
 ·simp only[al]at he
theorem G9{op:BinOp}{k k':IntKind}{x y:Int}{v:aH}(he:(Np op k x k' y).eval=some v)(T:TypeId)(E:Env):
  ∃z,(binOp op T (.int k x) (.int k' y)).run P w= .ok z w/\VS E v z:=by
 unfold Np at he
 have same:∀(hk:decide (k=k')=true),k=k':=λhk=>by simpa using hk
 cases op with
 |shl=>
  obtain⟨h1,h2⟩:=cW.1 he
  obtain rfl:=aB.1 h2
  have h1:¬y < 0:=by simpa using h1
  exact⟨_,by simp[binOp,Op.shift,h1],mQ _ _⟩
 |shr=>
  obtain⟨h1,h2⟩:=cW.1 he
  obtain rfl:=aB.1 h2
  have h1:¬y < 0:=by simpa using h1
  exact⟨_,by simp[binOp,Op.shift,h1],mQ _ _⟩
 |quo=>
  obtain⟨h1,h2⟩:=aL.1 he
  obtain rfl:=same h1
  obtain⟨h3,h4⟩:=cW.1 h2
  obtain rfl:=aB.1 h4
  have h3:y≠0:=by simpa using h3
  exact⟨_,by simp[binOp,Op.intDiv,h3],mQ _ _⟩
 |rem=>
  obtain⟨h1,h2⟩:=aL.1 he
  obtain rfl:=same h1
  obtain⟨h3,h4⟩:=cW.1 h2
  obtain rfl:=aB.1 h4
  have h3:y≠0:=by simpa using h3
  exact⟨_,by simp[binOp,Op.intDiv,h3],mQ _ _⟩
 |add | sub | mul=>
  obtain⟨h1,h2⟩:=aL.1 he
  obtain rfl:=same h1
  obtain rfl:=aB.1 h2
  exact⟨_,by simp[binOp,Op.intArith],mQ _ _⟩
 |and | or | xor | andNot=>
  obtain⟨h1,h2⟩:=aL.1 he
  obtain rfl:=same h1
  obtain rfl:=aB.1 h2
  refine⟨_,?_,mQ _ _⟩
  unfold binOp Op.intBits
  simp[dC]
 |eql | neq | lss | leq | gtr | geq=>
  obtain⟨h1,h2⟩:=aL.1 he
  obtain rfl:=same h1
  obtain rfl:=aB.1 h2
  refine⟨_,?_,r9 _⟩
  simp[binOp,Op.intCmp]
theorem Ie{op:BinOp}{x y:ByteArray}{v:aH}(he:(Ou op x y).eval=some v)(T:TypeId)(E:Env):
  ∃z,(binOp op T (.string x) (.string y)).run P w= .ok z w/\VS E v z:=by
 unfold Ou at he
 cases op <;> simp only[al]at he
 case add=>
  obtain⟨h1,h2⟩:=cW.1 he
  obtain rfl:=aB.1 h2
  have h1:¬((x.size+y.size:Nat):Int) > IntKind.i64.max:=by simpa using h1
  refine⟨.string (x++y),?_,Fc _⟩
  show(Op.stringOp .add x y).run P w=_
  unfold Op.stringOp
  simp only[h1,if_false]
  rfl
 all_goals
  obtain rfl:=aB.1 he
  exact⟨_,by simp[binOp,Op.stringOp],r9 _⟩
theorem nm{op:BinOp}{T:TypeId}{x y:Operand}{u v:Value}(h1:u≠ .nilIface)(h2:pC u=false):(eqGuard op T x y u v).run P w= .ok () w:=by
 unfold eqGuard
 cases op <;> simp
 all_goals (cases u <;> simp_all [pC])
theorem sr{T:TypeId}{b:Bool}(h:xR P T b=true):∃i,P.info? T=some i/\∀w,(isAgg T).run P w= .ok b w:=by
 unfold xR at h
 cases hu:P.underlying T with
 |none=>rw[hu]at h;cases h
 |some d=>
  obtain⟨i,hi⟩:=Kj hu
  refine⟨i,hi,λw=> ?_⟩
  rw[hu]at h
  unfold isAgg
  rw[Sem.run_bind,run_underlying hu w]
  cases d <;> simp at h <;> simp[h]
theorem rB{T:TypeId}{b:Bool}(h:xR P T b=true){cs:List Value}{off n:Nat}(hn:P.cellsOf T=n)(hb:b=false->n=1)(hl:off+n<=cs.length):
  ∃y,(part T cs.toArray off).run P w= .ok y w/\jI b ((cs.drop off).take n) y:=by
 obtain⟨i,hi,G3⟩:=sr h
 rw[mS hi]at hn
 unfold part
 rw[Sem.run_bind,G3 w]
 simp only[Result.andThen_ok]
 cases b with
 |true=>
  refine⟨.agg ((cs.drop off).take n).toArray,?_,rfl⟩
  simp only[if_true,Sem.run_bind,run_sizeOf hi,Result.andThen_ok,hn,Sem.run_pure]
  simp[List.extract_eq_take_drop]
 |false=>
  have h1:=hb rfl
  subst h1
  have mw:off < cs.length:=by omega
  refine⟨cs[off],?_,?_⟩
  ·simp[mw]
  ·show(cs.drop off).take 1=[cs[off]]
   rw[aA mw,List.take_succ_cons,jA]
theorem rC{t:Ty}(h:t.agg=false):t.size=1:=by
 cases t <;> first | rfl | (simp[Ty.agg]at h)
theorem Cy{α:Type}(f:α->α->Bool)(x y:α)(xs ys:List α):mW f (x::xs) (y::ys)=(f x y && mW f xs ys):=rfl
theorem qT(E:Env):∀(n:Nat) (T:TypeId) (t:Ty),pK P n T t=true->∀(d:Nat),n<=d->∀(cx cy:List Value) (x y:t.den) (u v:Value),eY E t cx x->eY E t cy y->jI t.agg cx u->jI t.agg cy v->
  (Op.equalIn d T u v).run P w= .ok (t.beq x y) w
 | 0,T,t,h,_,_,_,_,_,_,_,_,_,_,_,_=>by simp[pK]at h
 |n+1,T,t,h,0,hd,_,_,_,_,_,_,_,_,_,_=>by omega
 |n+1,T,t,h,d+1,hd,cx,cy,x,y,u,v,hx,hy,hu,hv=>by
  simp only[pK]at h
  split at h
  ·rename_i k k' hT
   simp only[eY]at hx hy
   have e1:cx=[u]:=hu
   have e2:cy=[v]:=hv
   rw[hx]at e1;rw[hy]at e2
   simp only[iu,and_true]at e1 e2
   subst e1 e2
   rw[run_equalIn_int w d T _ _ _ _ hT];rfl
  ·rename_i hT
   simp only[eY]at hx hy
   have e1:cx=[u]:=hu
   have e2:cy=[v]:=hv
   rw[hx]at e1;rw[hy]at e2
   simp only[iu,and_true]at e1 e2
   subst e1 e2
   rw[run_equalIn_bool' w d T _ _ hT];rfl
  ·rename_i hT
   simp only[eY]at hx hy
   have e1:cx=[u]:=hu
   have e2:cy=[v]:=hv
   rw[hx]at e1;rw[hy]at e2
   simp only[iu,and_true]at e1 e2
   subst e1 e2
   rw[run_equalIn_string w d T _ _ hT];rfl
  ·rename_i m e m' t' hT
   simp only[ak,beq_iff_eq]at h
   obtain⟨⟨⟨⟨rfl,PA⟩,rM⟩,ym⟩,fI⟩:=h
   simp only[eY]at hx hy
   obtain⟨VU,Vx⟩:=hx
   obtain⟨Yl,X5⟩:=hy
   have e1:u= .agg cx.toArray:=hu
   have e2:v= .agg cy.toArray:=hv
   subst e1 e2
   obtain⟨i,hi,G3⟩:=sr ym
   have hsz':=rM
   rw[mS hi]at hsz'
   simp only[Op.equalIn,Sem.run_bind,run_underlying hT,Result.andThen_ok,run_sizeOf hi,hsz']
   simp only[Std.Legacy.Range.forIn_eq_forIn_range']
   have hm:([:m]:Std.Legacy.Range).size=m:=by simp[Std.Legacy.Range.size]
   rw[hm]
   have Ix:∀c z,eY E t' c z->c.length=t'.size:=λc z hz=>hz.size
   have bx:t'.agg=false->t'.size=1:=rC
   have key:∀(k:Nat) (x y:List t'.den) (j:Nat),x.length=k->y.length=k->cg (eY E t') (cx.drop (j*t'.size)) x->cg (eY E t') (cy.drop (j*t'.size)) y->
     (forIn (List.range' j k) ((none,()):Option Bool×Unit) λi __s=>(do
      let __do_lift <-part e cx.toArray (i*t'.size)
      let __do_lift_1 <-part e cy.toArray (i*t'.size)
      let __do_lift <-Op.equalIn d e __do_lift __do_lift_1
      if(!__do_lift)=true then pure (ForInStep.done (some false,())) else pure (ForInStep.yield (none,())):Sem (ForInStep (Option Bool×Unit)))).run P w= .ok (if mW t'.beq x y then none else some false,()) w:=by
    intro k
    induction k with
    |zero=>
     intro x y j hx hy _ _
     rw[List.length_eq_zero_iff.1 hx,List.length_eq_zero_iff.1 hy]
     rfl
    |succ k ih=>
     intro x y j hx hy hcx' hcy'
     cases x with
     |nil=>simp at hx
     |cons x0 xs=>
      cases y with
      |nil=>simp at hy
      |cons y0 ys=>
       have gx:=cg.get Ix hcx' 0 (by simp)
       have gy:=cg.get Ix hcy' 0 (by simp)
       simp only[mP,aW,List.getElem_cons_zero]at gx gy
       have lenx:((cx.drop (j*t'.size)).take t'.size).length=t'.size:=gx.size
       have leny:((cy.drop (j*t'.size)).take t'.size).length=t'.size:=gy.size
       have Bv:t'.size≠0:=by simpa using PA
       have VK:j*t'.size+t'.size<=cx.length:=by simp only[fO,iy]at lenx;omega
       have Yh:j*t'.size+t'.size<=cy.length:=by simp only[fO,iy]at leny;omega
       obtain⟨ux,h1,o1⟩:=rB (w:=w) ym rM bx (cs:=cx) (off:=j*t'.size) VK
       obtain⟨uy,h2,o2⟩:=rB (w:=w) ym rM bx (cs:=cy) (off:=j*t'.size) Yh
       have h3:=qT E n e t' fI d (by omega) _ _ x0 y0 ux uy gx gy o1 o2
       have nx:cg (eY E t') (cx.drop ((j+1)*t'.size)) xs:=by
        have:=cg.drop Ix 1 hcx'
        rw[iX]at this
        simpa[gN]using this
       have ny:cg (eY E t') (cy.drop ((j+1)*t'.size)) ys:=by
        have:=cg.drop Ix 1 hcy'
        rw[iX]at this
        simpa[gN]using this
       have:=ih xs ys (j+1) (by simpa using hx) (by simpa using hy) nx ny
       rw[List.range'_succ,List.forIn_cons]
       simp only[Sem.run_bind,h1,h2,h3,Result.andThen_ok,Cy]
       rcases kE (t'.beq x0 y0) with hb | hb
       ·simp only[hb,bY,cF,if_false,Sem.run_pure,Result.andThen_ok,cv]
        exact this
       ·simp only[hb,gk,if_true,Sem.run_pure,Result.andThen_ok,fK,cF,if_false]
   have:=key m x y 0 VU Yl (by simpa using Vx) (by simpa using X5)
   rw[this]
   show _=Result.ok (mW t'.beq x y) w
   cases mW t'.beq x y <;> rfl
  ·rename_i t0 _ _ fs hT
   simp only[ak,dI]at h
   obtain⟨vF,Pk⟩:=h
   have hF:P.fieldsOf T=fs:=by simp[Program.fieldsOf,hT]
   have hT':P.underlying T=some (.struct (P.fieldsOf T)):=by rw[hF];exact hT
   have key:∀(fl:List Field) (t:Ty) (off:Nat),xF P (pK P n) fl t off=true->∀(x y:t.den),eY E t (cx.drop off) x->eY E t (cy.drop off) y->
     (Op.eqFields d cx.toArray cy.toArray fl).run P w= .ok (t.beq x y) w:=by
    intro fl
    induction fl with
    |nil=>
     intro t off hc x y _ _
     cases t <;> first | (simp[xF]at hc;done) | rfl
    |cons f fl ih=>
     intro t off hc x y hx hy
     cases t <;> first | (simp[xF]at hc;done) | skip
     rename_i ta tb
     simp only[xF,ak,dI,beq_iff_eq,beq_eq_false_iff_ne]at hc
     obtain⟨⟨⟨⟨⟨⟨V3,Pv⟩,hz⟩,rM⟩,ym⟩,fI⟩,Nl⟩:=hc
     simp only[eY]at hx hy
     obtain⟨xa,xb,ex,Un,Wq⟩:=hx
     obtain⟨ya,yb,ey,Xv,YK⟩:=hy
     have bx:ta.agg=false->ta.size=1:=rC
     have lx:xa.length=ta.size:=Un.size
     have ly:ya.length=ta.size:=Xv.size
     have split:∀(cs xa xb:List Value),cs.drop off=xa++xb->xa.length=ta.size->(cs.drop off).take ta.size=xa/\cs.drop (off+ta.size)=xb/\off+ta.size<=cs.length:=by
      intro cs xa xb e l
      refine⟨by rw[e];exact List.take_left' l,by rw[<-iX,e];exact List.drop_left' l,?_⟩
      have:=congrArg List.length e
      simp only[iy,ae]at this
      omega
     obtain⟨sx1,sx2,sx3⟩:=split cx xa xb ex lx
     obtain⟨sy1,sy2,sy3⟩:=split cy ya yb ey ly
     obtain⟨ux,h1,o1⟩:=rB (w:=w) ym rM bx (cs:=cx) (off:=off) sx3
     obtain⟨uy,h2,o2⟩:=rB (w:=w) ym rM bx (cs:=cy) (off:=off) sy3
     rw[sx1]at o1
     rw[sy1]at o2
     have h3:=qT E n f.type ta fI d (by omega) _ _ x.1 y.1 ux uy Un Xv o1 o2
     have h4:=ih tb (off+ta.size) Nl x.2 y.2 (by rw[sx2];exact Wq) (by rw[sy2];exact YK)
     simp only[Op.eqFields,ne_eq,V3,not_false_eq_true,if_true,Sem.run_bind,Pv,h1,h2,h3,Result.andThen_ok]
     show _=Result.ok (ta.beq x.1 y.1 && tb.beq x.2 y.2) w
     rcases kE (ta.beq x.1 y.1) with hb | hb
     ·simp only[hb,bY,cF,if_false,cv]
      exact h4
     ·simp[hb]
   have ym:t0.agg=true:=by
    cases hl:fs.toList <;> rw[hl]at Pk <;> cases t0 <;> first | rfl | (simp[xF]at Pk;done)
   rw[ym]at hu hv
   have e1:u= .agg cx.toArray:=hu
   have e2:v= .agg cy.toArray:=hv
   subst e1 e2
   rw[run_equalIn_struct w d T _ _ hT' vF,hF]
   exact key fs.toList t0 0 Pk x y (by simpa using hx) (by simpa using hy)
  ·cases h
end
end Go.Ab
namespace Go.Ab
section
variable {P:Program} {C:Ctx} {g:Nat->od} {β:Id->Option Pl} {s:AS} {a:Act} {w:World} {o:Oper}
theorem NT{E:Env}{v:aH}{y c:Value}(h:VS E v y)(hc:v.iA=true)(ha:v.agg=false)(hV:∀cs,V E v cs->cs=[c]):y=c:=by
 have:=h.single hc ha
 simpa using hV _ this
theorem BF{E:Env}{y:Value}(h:VS E .o6 y):y= .pointer none:=NT h rfl rfl λcs hv=>by simpa only[V]using hv
theorem BE{E:Env}{y:Value}(h:VS E .rP y):y= .nilFunc:=NT h rfl rfl λcs hv=>by simpa only[V]using hv
theorem M5{E:Env}{f:FuncId}{c:aH}{y:Value}(h:VS E (.fn f c) y):∃vs,y= .func (.func f) #[] vs.toArray/\VC E c vs:=by
 have h1:=h.single rfl rfl
 simp only[V]at h1
 obtain⟨vs,e,hc⟩:=h1
 exact⟨vs,by simpa using e,hc⟩
theorem jy{T:TypeId}{u v:Value}{b:Bool}(h:∀d,(Op.equalIn (d+1) T u v).run P w= .ok b w):(Op.equal T u v).run P w= .ok b w:=h 9999
theorem B4{T:TypeId}{x y:aH}{u v:Value}{E:Env}(hx:VS E x u)(hy:VS E y v){b:Bool}(he:(uj P T x y).eval=some b):
  (Op.equal T u v).run P w= .ok b w/\u≠ .nilIface/\(pC u=false\/(pC v=true/\P.eqGuardType P.depth T=false))/\
   (∀op,binOp op T u v=(match op with | .eql=>do pure (.bool (<-Op.equal T u v)) | .neq=>do pure (.bool (!(<-Op.equal T u v))) | _=>binOp op T u v)):=by
 unfold uj at he
 split at he
 ·rename_i t x' t' y'
  obtain⟨y'',h1,h2⟩:=av.1 he
  obtain⟨rfl,h1⟩:=lq (lF.1 h1)
  simp only at h1
  subst h1
  obtain⟨h3,h4⟩:=aL.1 h2
  obtain rfl:=aB.1 h4
  simp only[ak,j9,dI,decide_eq_true_eq]at h3
  obtain⟨h3,h5⟩:=h3
  obtain⟨cx,hVx,hOx⟩:=hx.iA rfl
  obtain⟨cy,hVy,hOy⟩:=hy.iA rfl
  simp only[V]at hVx hVy
  have hr:=qT (w:=w) E depth T t' h5 10000 (by decide) cx cy x' y' u v hVx hVy hOx hOy
  refine⟨hr,?_⟩
  rcases h3 with⟨ym,Yd⟩ | rfl
  ·have hOx':jI t'.agg cx u:=hOx
   have hOy':jI t'.agg cy v:=hOy
   rw[ym]at hOx' hOy'
   have e1:u= .agg cx.toArray:=hOx'
   have e2:v= .agg cy.toArray:=hOy'
   subst e1 e2
   exact⟨by simp,.inr ⟨rfl,Yd⟩,λop=>by cases op <;> rfl⟩
  ·simp only[eY]at hVx hVy
   have e1:cx=[u]:=hOx
   have e2:cy=[v]:=hOy
   rw[hVx]at e1;rw[hVy]at e2
   simp only[iu,and_true]at e1 e2
   subst e1 e2
   exact⟨by simp,.inl rfl,λop=>by cases op <;> rfl⟩
 ·obtain⟨h1,h2⟩:=aL.1 he
  obtain rfl:=aB.1 h2
  rw[l5 hx,l5 hy]
  unfold uj.isSl at h1
  split at h1 <;> try (cases h1;done)
  rename_i e hT
  exact⟨jy λd=>by simp[Op.equalIn,run_underlying hT],by simp,.inl rfl,λop=>by cases op <;> rfl⟩
 ·obtain⟨h1,h2⟩:=aL.1 he
  obtain⟨h3,h4⟩:=cW.1 h2
  obtain rfl:=aB.1 h4
  obtain⟨ad,cap,vs,rfl,_,hs,_⟩:=qq hx
  rw[l5 hy]
  have hs:=hs (by simpa using h3)
  obtain⟨ad',rfl⟩:=dj.1 hs
  unfold uj.isSl at h1
  split at h1 <;> try (cases h1;done)
  rename_i e hT
  exact⟨jy λd=>by simp[Op.equalIn,run_underlying hT],by simp,.inl rfl,λop=>by cases op <;> rfl⟩
 ·obtain⟨h1,h2⟩:=aL.1 he
  obtain⟨h3,h4⟩:=cW.1 h2
  obtain rfl:=aB.1 h4
  obtain⟨ad,cap,vs,rfl,_,hs,_⟩:=qq hy
  rw[l5 hx]
  have hs:=hs (by simpa using h3)
  obtain⟨ad',rfl⟩:=dj.1 hs
  unfold uj.isSl at h1
  split at h1 <;> try (cases h1;done)
  rename_i e hT
  exact⟨jy λd=>by simp[Op.equalIn,run_underlying hT],by simp,.inl rfl,λop=>by cases op <;> rfl⟩
 ·obtain⟨h1,h2⟩:=aL.1 he
  obtain⟨h3,h4⟩:=cW.1 h2
  obtain rfl:=aB.1 h4
  obtain⟨ad,cap,rfl,_,hs,_⟩:=pf hx
  rw[l5 hy]
  have hs:=hs (by simpa using h3)
  obtain⟨ad',rfl⟩:=dj.1 hs
  unfold uj.isSl at h1
  split at h1 <;> try (cases h1;done)
  rename_i e hT
  exact⟨jy λd=>by simp[Op.equalIn,run_underlying hT],by simp,.inl rfl,λop=>by cases op <;> rfl⟩
 ·obtain⟨h1,h2⟩:=aL.1 he
  obtain⟨h3,h4⟩:=cW.1 h2
  obtain rfl:=aB.1 h4
  obtain⟨ad,cap,rfl,_,hs,_⟩:=pf hy
  rw[l5 hx]
  have hs:=hs (by simpa using h3)
  obtain⟨ad',rfl⟩:=dj.1 hs
  unfold uj.isSl at h1
  split at h1 <;> try (cases h1;done)
  rename_i e hT
  exact⟨jy λd=>by simp[Op.equalIn,run_underlying hT],by simp,.inl rfl,λop=>by cases op <;> rfl⟩
 ·obtain⟨h1,h2⟩:=aL.1 he
  obtain rfl:=aB.1 h2
  rw[BF hx,BF hy]
  unfold uj.isPt at h1
  split at h1 <;> try (cases h1;done)
  rename_i e hT
  exact⟨jy λd=>by simp[Op.equalIn,run_underlying hT],by simp,.inl rfl,λop=>by cases op <;> rfl⟩
 ·obtain⟨h1,h2⟩:=aL.1 he
  obtain rfl:=aB.1 h2
  obtain⟨ad,rfl,_⟩:=qM hx
  rw[BF hy]
  unfold uj.isPt at h1
  split at h1 <;> try (cases h1;done)
  rename_i e hT
  exact⟨jy λd=>by simp[Op.equalIn,run_underlying hT],by simp,.inl rfl,λop=>by cases op <;> rfl⟩
 ·obtain⟨h1,h2⟩:=aL.1 he
  obtain rfl:=aB.1 h2
  obtain⟨ad,rfl,_⟩:=qM hy
  rw[BF hx]
  unfold uj.isPt at h1
  split at h1 <;> try (cases h1;done)
  rename_i e hT
  exact⟨jy λd=>by simp[Op.equalIn,run_underlying hT],by simp,.inl rfl,λop=>by cases op <;> rfl⟩
 ·obtain⟨h1,h2⟩:=aL.1 he
  obtain rfl:=aB.1 h2
  rw[BE hx,BE hy]
  unfold uj.isFn at h1
  split at h1 <;> try (cases h1;done)
  rename_i hT
  exact⟨jy λd=>by simp[Op.equalIn,run_underlying hT],by simp,.inl rfl,λop=>by cases op <;> rfl⟩
 ·obtain⟨h1,h2⟩:=aL.1 he
  obtain rfl:=aB.1 h2
  obtain⟨vs,rfl,_⟩:=M5 hx
  rw[BE hy]
  unfold uj.isFn at h1
  split at h1 <;> try (cases h1;done)
  rename_i hT
  exact⟨jy λd=>by simp[Op.equalIn,run_underlying hT],by simp,.inl rfl,λop=>by cases op <;> rfl⟩
 ·obtain⟨h1,h2⟩:=aL.1 he
  obtain rfl:=aB.1 h2
  obtain⟨vs,rfl,_⟩:=M5 hy
  rw[BE hx]
  unfold uj.isFn at h1
  split at h1 <;> try (cases h1;done)
  rename_i hT
  exact⟨jy λd=>by simp[Op.equalIn,run_underlying hT],by simp,.inl rfl,λop=>by cases op <;> rfl⟩
 ·simp only[al]at he
theorem GU{op:BinOp}{T:TypeId}{x y:Operand}{u v:Value}(hu:pC u=true)(hv:pC v=true)(hm:P.eqGuardType P.depth T=false):(eqGuard op T x y u v).run P w= .ok () w:=by
 cases u <;> first | (simp[pC]at hu;done) | skip
 cases v <;> first | (simp[pC]at hv;done) | skip
 exact run_eqGuard_agg w op T x y _ _ hm
theorem IF(h:Inv C g β s a w){op:BinOp}{T U:TypeId}{x y:Operand}(ho:o.op= .binOp op T x y U){v:aH}(he:(Q9 P T op (s.ev x) (s.ev y)).eval=some v):iY P o a w (kL C (s.put o.dst v)):=by
 have hx:=h.ev x
 have hy:=h.ev y
 have fin:∀z,(binOp op T (a.eval x) (a.eval y)).run P w= .ok z w->(eqGuard op T x y (a.eval x) (a.eval y)).run P w= .ok () w->VS (s.env w g β) v z->iY P o a w (kL C (s.put o.dst v)):=by
  intro z h1 h2 h3
  refine h.value h3 ?_
  simp[execOp,ho,h1,h2]
 unfold Q9 at he
 split at he
 ·rename_i k n k' m hn hm
  rw[hn]at hx;rw[hm]at hy
  have e1:=tP hx
  have e2:=tP hy
  obtain⟨z,h1,h2⟩:=G9 (P:=P) (w:=w) he T (s.env w g β)
  exact fin z (by rw[e1,e2];exact h1) (by rw[e1,e2];exact nm (by simp) rfl) h2
 ·rename_i n m hn hm
  rw[hn]at hx;rw[hm]at hy
  have e1:=wC hx
  have e2:=wC hy
  obtain⟨z,h1,h2⟩:=Ie (P:=P) (w:=w) he T (s.env w g β)
  exact fin z (by rw[e1,e2];exact h1) (by rw[e1,e2];exact nm (by simp) rfl) h2
 ·have grd:(pC (a.eval x)=false\/(pC (a.eval y)=true/\P.eqGuardType P.depth T=false))->a.eval x≠ .nilIface->(eqGuard op T x y (a.eval x) (a.eval y)).run P w= .ok () w:=by
   intro hh lh
   rcases hh with hh | ⟨hh,hm⟩
   ·exact nm lh hh
   ·rcases kE (pC (a.eval x)) with hx | hx
    ·exact GU hx hh hm
    ·exact nm lh hx
  split at he
  ·obtain⟨b,h1,h2⟩:=av.1 he
   obtain rfl:=aB.1 h2
   obtain⟨q1,q2,q3,q4⟩:=B4 (w:=w) hx hy h1
   refine fin (.bool b) ?_ (grd q3 q2) (r9 b)
   rw[q4 .eql]
   simp[q1]
  ·obtain⟨b,h1,h2⟩:=av.1 he
   obtain rfl:=aB.1 h2
   obtain⟨q1,q2,q3,q4⟩:=B4 (w:=w) hx hy h1
   refine fin (.bool (!b)) ?_ (grd q3 q2) (r9 (!b))
   rw[q4 .neq]
   simp[q1]
  ·simp only[al]at he
theorem Mh(h:Inv C g β s a w){op:UnOp}{T:TypeId}{x:Operand}(ho:o.op= .unOp op T x){v:aH}(he:(Vf op (s.ev x)).eval=some v):iY P o a w (kL C (s.put o.dst v)):=by
 have hx:=h.ev x
 unfold Vf at he
 split at he
 ·rename_i b hb
  rw[hb]at hx
  obtain rfl:=aB.1 he
  exact h.value (r9 _) (by simp[execOp,ho,Bp hx,Op.unary])
 ·rename_i k n hb
  rw[hb]at hx
  obtain rfl:=aB.1 he
  exact h.value (mQ _ _) (by simp[execOp,ho,tP hx,Op.unary,Op.intArith])
 ·rename_i k n hb
  rw[hb]at hx
  obtain rfl:=aB.1 he
  refine h.value (mQ _ _) ?_
  simp only[execOp,ho,tP hx,Op.unary,Op.intBits]
  simp[dC]
 ·simp only[al]at he
end
end Go.Ab
namespace Go.Ab
section
variable {P:Program} {C:Ctx} {g:Nat->od} {β:Id->Option Pl} {s:AS} {a:Act} {w:World} {o:Oper}
theorem ue{E:Env}{v:aH}{y:Value}(h:VS E v y){n:Int}(he:(asInt v).eval=some n):∃k,y= .int k n:=by
 unfold asInt at he
 split at he
 ·rename_i k m
  obtain rfl:=aB.1 he
  exact⟨k,tP h⟩
 ·simp only[al]at he
theorem Al{k:IntKind}{i:Int}{y:Nat}(code:BoundsCode)(h:0<=i/\i<=(y:Int)):(Instr.sliceBound (.int k i) y code).run P w= .ok i.toNat w:=
 run_sliceBound w k i y code h.1 h.2
theorem uM(h:Inv C g β s a w){n cap:Nat}(hn:n<=cap){lo hi:Option Operand}{r:Nat×Nat}(he:(bounds s n lo hi).eval=some r)(isS:Bool):
  (Instr.sliceBounds isS n cap (lo.map a.eval) (hi.map a.eval) none).run P w= .ok (r.1,r.2,cap) w/\r.1<=r.2/\r.2<=n:=by
 unfold bounds at he
 obtain⟨hh,h1,h2⟩:=av.1 he
 obtain⟨ll,h3,h4⟩:=av.1 h2
 obtain rfl:=aB.1 h4
 have Xc:hh<=n/\∀y,hi.map a.eval=some y->∃k i,y= .int k i/\0<=i/\i<=(n:Int)/\hh=i.toNat:=by
  cases hi with
  |none=>
   simp only at h1
   obtain rfl:=aB.1 h1
   exact⟨aC _,λy hy=>by cases hy⟩
  |some x=>
   simp only at h1
   obtain⟨i,q1,q2⟩:=av.1 h1
   obtain⟨q3,q4⟩:=cW.1 q2
   obtain rfl:=aB.1 q4
   simp only[decide_eq_true_eq]at q3
   obtain⟨k,hk⟩:=ue (h.ev x) q1
   refine⟨by omega,λy hy=> ?_⟩
   simp only[jd,aE]at hy
   exact⟨k,i,by rw[<-hy];exact hk,q3.1,q3.2,rfl⟩
 have Pm:hi.map a.eval=none->hh=n:=by
  intro hy
  cases hi with
  |none=>simp only at h1;exact(aB.1 h1).symm
  |some x=>cases hy
 have lo1:ll<=hh/\∀y,lo.map a.eval=some y->∃k i,y= .int k i/\0<=i/\i<=(hh:Int)/\ll=i.toNat:=by
  cases lo with
  |none=>
   simp only at h3
   obtain rfl:=aB.1 h3
   exact⟨bm _,λy hy=>by cases hy⟩
  |some x=>
   simp only at h3
   obtain⟨i,q1,q2⟩:=av.1 h3
   obtain⟨q3,q4⟩:=cW.1 q2
   obtain rfl:=aB.1 q4
   simp only[decide_eq_true_eq]at q3
   obtain⟨k,hk⟩:=ue (h.ev x) q1
   refine⟨by omega,λy hy=> ?_⟩
   simp only[jd,aE]at hy
   exact⟨k,i,by rw[<-hy];exact hk,q3.1,q3.2,rfl⟩
 have lo0:lo.map a.eval=none->ll=0:=by
  intro hy
  cases lo with
  |none=>simp only at h3;exact(aB.1 h3).symm
  |some x=>cases hy
 refine⟨?_,lo1.1,Xc.1⟩
 unfold Instr.sliceBounds
 cases Xb:hi.map a.eval with
 |none=>
  obtain rfl:=Pm Xb
  cases DL:lo.map a.eval with
  |none=>
   obtain rfl:=lo0 DL
   rfl
  |some y=>
   obtain⟨k,i,rfl,q1,q2,rfl⟩:=lo1.2 y DL
   simp only[Sem.run_bind,Sem.run_pure,Result.andThen_ok,Al _ ⟨q1,q2⟩]
 |some z=>
  obtain⟨k',i',rfl,p1,p2,rfl⟩:=Xc.2 z Xb
  have hb:∀code,(Instr.sliceBound (.int k' i') cap code).run P w= .ok i'.toNat w:=λcode=>Al code ⟨p1,by omega⟩
  cases DL:lo.map a.eval with
  |none=>
   obtain rfl:=lo0 DL
   simp only[Sem.run_bind,Sem.run_pure,Result.andThen_ok,hb]
  |some y=>
   obtain⟨k,i,rfl,q1,q2,rfl⟩:=lo1.2 y DL
   simp only[Sem.run_bind,Sem.run_pure,Result.andThen_ok,hb,Al _ ⟨q1,q2⟩]
theorem nO{T:TypeId}{z:Nat}(h1:lY P T=some z)(h2:rW P T=none):∃e,P.underlying T=some (.slice e)/\P.cellsOf e=z/\0 < z:=by
 unfold lY at h1
 unfold rW at h2
 split at h1
 ·rename_i n e hT;rw[hT]at h2;cases h2
 ·rename_i e hT
  cases hc:P.cellsOf e with
  |zero=>rw[hc]at h1;cases h1
  |succ k=>
   rw[hc]at h1
   simp only[aE]at h1
   exact⟨e,hT,by omega,by omega⟩
 ·cases h1
theorem sk{T:TypeId}{z n:Nat}(h1:lY P T=some z)(h2:rW P T=some n):∃e,P.underlying T=some (.array n e)/\P.cellsOf e=z/\0 < z:=by
 unfold lY at h1
 unfold rW at h2
 split at h1
 ·rename_i n e hT
  rw[hT]at h2
  simp only[aE]at h2
  subst h2
  cases hc:P.cellsOf e with
  |zero=>rw[hc]at h1;cases h1
  |succ k=>
   rw[hc]at h1
   simp only[aE]at h1
   exact⟨e,hT,by omega,by omega⟩
 ·rename_i e hT;rw[hT]at h2;cases h2
 ·cases h1
theorem pR{e:TypeId}{z:Nat}(h:P.cellsOf e=z)(hz:0 < z)(w:World):(sizeOf e).run P w= .ok z w:=by
 unfold Program.cellsOf at h
 cases hi:P.info? e with
 |none=>rw[hi]at h;simp at h;omega
 |some i=>rw[hi]at h;rw[run_sizeOf hi];simpa using h
theorem Jx(h:Inv C g β s a w){T:TypeId}{x:Operand}{lo hi:Option Operand}(ho:o.op= .slice T x lo hi none){v:aH}(he:(yd P s T (s.ev x) lo hi).eval=some v):iY P o a w (kL C (s.put o.dst v)):=by
 have hx:=h.ev x
 have fin:∀z,(Instr.sliceAt T (a.eval x) (lo.map a.eval) (hi.map a.eval) none).run P w= .ok z w->VS (s.env w g β) v z->iY P o a w (kL C (s.put o.dst v)):=by
  intro z h1 h2
  exact h.value h2 (fS (f:=Instr.sliceAt T (a.eval x) (lo.map a.eval) (hi.map a.eval) none) (by simp only[execOp,ho,Option.map_none]) h1)
 have sl:∀(e:TypeId) (z:Nat) (ad:Option Addr) (len cap:Nat) (b:Nat×Nat),P.underlying T=some (.slice e)->P.cellsOf e=z->0 < z->a.eval x= .slice ad len cap->len<=cap->(bounds s len lo hi).eval=some b->
   (Instr.sliceAt T (a.eval x) (lo.map a.eval) (hi.map a.eval) none).run P w= .ok (.slice (if cap=b.1 then ad else ad.map (·.add (b.1*z))) (b.2 - b.1) (cap - b.1)) w/\b.1<=b.2/\b.2<=len:=by
  intro e z ad len cap b hT hz rL hy Nf hb
  obtain⟨h1,h2,h3⟩:=uM (P:=P) h Nf hb true
  refine⟨?_,h2,h3⟩
  rw[hy]
  simp[Instr.sliceAt,Instr.slice,run_underlying hT,h1,pR hz rL]
 have ar:∀(e:TypeId) (z n:Nat) (ad:Addr) (b:Nat×Nat),P.underlying T=some (.array n e)->P.cellsOf e=z->0 < z->a.eval x= .pointer (some ad)->(bounds s n lo hi).eval=some b->
   (Instr.sliceAt T (a.eval x) (lo.map a.eval) (hi.map a.eval) none).run P w= .ok (.slice (some (if n=b.1 then ad else ad.add (b.1*z))) (b.2 - b.1) (n - b.1)) w/\b.1<=b.2/\b.2<=n:=by
  intro e z n ad b hT hz rL hy hb
  obtain⟨h1,h2,h3⟩:=uM (P:=P) h (aC n) hb false
  refine⟨?_,h2,h3⟩
  rw[hy]
  simp[Instr.sliceAt,Instr.sureAddr,run_underlying hT,h1,pR hz rL]
 have cutR:∀(t:Ty) (z:Nat) (ad ad':Option Addr) (len' cap':Nat) (vs:List Value) (l:List t.den) (b:Nat×Nat),z=t.size->vJ (s.env w g β) ad vs->cg (eY (s.env w g β) t) vs l->b.1<=b.2->b.2<=l.length->
   (∀bb off,ad=some ⟨bb,off,none⟩->b.1 < b.2->ad'=some ⟨bb,off+b.1*z,none⟩)->(b.1 < b.2->ad'.isSome=true)->len'=b.2 - b.1->len'<=cap'->VS (s.env w g β) (.d (.slice t) (cut l b.1 (b.2 - b.1))) (.slice ad' len' cap'):=by
  intro t z ad ad' len' cap' vs l b hz hr hc h1 h2 Vt oZ hlen hle
  subst hz hlen
  have Mo:(cut l b.1 (b.2 - b.1)).length=b.2 - b.1:=uO (by omega)
  refine⟨_,?_,rfl⟩
  simp only[V,eY]
  refine⟨ad',cap',(vs.drop (b.1*t.size)).take ((b.2 - b.1)*t.size),by rw[Mo],by omega,by rw[Mo];intro hp;exact oZ (by omega),?_,xB hc b.1 _⟩
  intro i v hi
  rw[fv]at hi
  split at hi
  ·rename_i Ye
   rw[kB]at hi
   obtain⟨bb,off,e,hh⟩:=hr _ v hi
   have mw:b.1 < b.2:=by
    rcases p9 b.1 b.2 with h' | h'
    ·exact h'
    ·rw[lM h',mP]at Ye;omega
   exact⟨bb,_,Vt bb off e mw,by rw[gY];exact hh⟩
  ·cases hi
 unfold yd at he
 split at he
 ·rename_i st vF
  rw[vF]at hx
  have e1:=wC hx
  obtain⟨h1,h2⟩:=aL.1 he
  obtain⟨b,h3,h4⟩:=av.1 h2
  obtain rfl:=aB.1 h4
  split at h1 <;> try (cases h1;done)
  rename_i hT
  obtain⟨q1,q2,q3⟩:=uM (P:=P) h (aC _) h3 false
  refine fin (.string (st.extract b.1 b.2)) ?_ (Fc _)
  rw[e1]
  simp[Instr.sliceAt,Instr.slice,run_underlying hT,q1]
 ·rename_i t l hl
  rw[hl]at hx
  obtain⟨ad,cap,vs,hy,Nf,oZ,my,fI⟩:=qq hx
  obtain⟨h1,h2⟩:=aL.1 he
  obtain⟨b,h3,h4⟩:=av.1 h2
  obtain rfl:=aB.1 h4
  split at h1 <;> try (cases h1;done)
  rename_i z Bv Bk
  obtain⟨e,hT,hz,rL⟩:=nO Bv Bk
  have Lz:z=t.size:=by simpa using h1
  obtain⟨q1,q2,q3⟩:=sl e z ad _ cap b hT hz rL hy Nf h3
  refine fin _ q1 (cutR t z ad _ _ _ vs l b Lz my fI q2 q3 ?_ ?_ rfl (by omega))
  ·intro bb off e1 mw
   rw[if_neg (by omega),e1]
   simp[Addr.add_lit]
  ·intro mw
   rw[if_neg (by omega)]
   have:=oZ (by omega)
   cases ad <;> simp_all
 ·rename_i hl
  rw[hl]at hx
  have hy:=l5 hx
  obtain⟨h1,h2⟩:=aL.1 he
  obtain⟨b,h3,h4⟩:=av.1 h2
  obtain rfl:=aB.1 h4
  split at h1 <;> try (cases h1;done)
  rename_i z Bv Bk
  obtain⟨e,hT,hz,rL⟩:=nO Bv Bk
  obtain⟨q1,q2,q3⟩:=sl e z none 0 0 b hT hz rL hy (aC _) h3
  have yn:b.1=0:=by omega
  have Dv:b.2=0:=by omega
  refine fin _ q1 ?_
  rw[yn,Dv]
  exact⟨_,by simp[V],rfl⟩
 ·rename_i id ver p c i len hl
  rw[hl]at hx
  obtain⟨ad,cap,hy,Nf,oZ,Ci,jt⟩:=pf hx
  obtain⟨r,RX,he⟩:=av.1 he
  obtain⟨h1,h2⟩:=aL.1 he
  obtain⟨b,h3,h4⟩:=av.1 h2
  obtain rfl:=aB.1 h4
  split at h1 <;> try (cases h1;done)
  rename_i z Bv Bk
  obtain⟨e,hT,hz,rL⟩:=nO Bv Bk
  have Lz:z=r.2.1.size:=by simpa using h1
  obtain⟨q1,q2,q3⟩:=sl e z ad _ cap b hT hz rL hy Nf h3
  refine fin _ q1 ⟨_,?_,rfl⟩
  simp only[V]
  refine⟨_,_,rfl,by omega,?_,Ci,λhc=> ?_⟩
  ·intro mw
   rw[if_neg (by omega)]
   have:=oZ (by omega)
   cases ad <;> simp_all
  ·have jt:=jt hc
   cases hp:β id with
   |none=>
    have hp':(s.env w g β).β id=none:=hp
    rw[hp']at jt ⊢
    simp only at jt ⊢
    obtain⟨rfl,rfl,rfl⟩:=jt
    refine⟨by simp,by omega,by omega⟩
   |some pl=>
    have hp':(s.env w g β).β id=some pl:=hp
    rw[hp']at jt ⊢
    simp only at jt ⊢
    refine⟨λhh=> ?_,λV7 Pm=> ?_⟩
    ·by_cases RC:cap=b.1
     ·rw[if_pos RC]
      have SR:b.1=0:=by omega
      rw[SR,mP,dE]
      exact jt.1 (.inr (by omega))
     ·rw[if_neg RC,jt.1 (by omega),<-Lz]
      simp[Addr.add_lit]
    ·have:=jt.2 V7 (by omega)
     omega
 ·rename_i id ver p n hl
  rw[hl]at hx
  obtain⟨ad,hy,Ci,jt⟩:=qM hx
  obtain⟨r,RX,he⟩:=av.1 he
  obtain⟨h1,h2⟩:=aL.1 he
  obtain⟨h5,h6⟩:=cW.1 h2
  obtain⟨b,h3,h4⟩:=av.1 h6
  obtain rfl:=aB.1 h4
  split at h1 <;> try (cases h1;done)
  rename_i z m Bv Bk
  obtain⟨e,hT,hz,rL⟩:=sk Bv Bk
  have Lz:z=r.2.1.size:=by simpa using h1
  rw[Bk,gj]at h3
  obtain⟨q1,q2,q3⟩:=ar e z m ad b hT hz rL hy h3
  obtain⟨fr,c0,eP,_⟩:=Ai rfl h.da RX
  obtain⟨pl,hp,Lr⟩:=jt ⟨fr,c0,eP⟩
  refine fin _ q1 ⟨_,?_,rfl⟩
  simp only[V]
  refine⟨_,_,rfl,by omega,λ_=>rfl,Ci,λ_=> ?_⟩
  rw[hp]
  simp only
  refine⟨λhh=> ?_,λV7=>by simp at V7⟩
  rw[Lr]
  by_cases RC:m=b.1
  ·have SR:b.1=0:=by omega
   rw[if_pos RC,SR,mP,dE]
  ·rw[if_neg RC,<-Lz,Addr.add_lit]
 ·rename_i n t l hl
  rw[hl]at hx
  obtain⟨bb,off,vs,hy,my,hR⟩:=y5 hx
  obtain⟨h1,h2⟩:=aL.1 he
  obtain⟨b,h3,h4⟩:=av.1 h2
  obtain rfl:=aB.1 h4
  split at h1 <;> try (cases h1;done)
  rename_i z m Bv Bk
  obtain⟨e,hT,hz,rL⟩:=sk Bv Bk
  simp only[ak,beq_iff_eq]at h1
  obtain⟨Lz,rfl⟩:=h1
  obtain⟨q1,q2,q3⟩:=ar e z m _ b hT hz rL hy h3
  simp only[eY]at hR
  obtain⟨hlen,fI⟩:=hR
  refine fin _ q1 (cutR t z (some ⟨bb,off,none⟩) _ _ _ vs l b Lz my fI q2 (by omega) ?_ (λ_=>rfl) rfl (by omega))
  intro bb' off' e1 mw
  simp only[aE,Addr.mk.injEq,and_true]at e1
  obtain⟨rfl,rfl⟩:=e1
  rw[if_neg (by omega),Addr.add_lit]
 ·simp only[al]at he
end
end Go.Ab
namespace Go.Ab
section
variable {P:Program} {C:Ctx} {g:Nat->od} {β:Id->Option Pl} {s:AS} {a:Act} {w:World} {o:Oper}
theorem Cs(h:Inv C g β s a w){T:TypeId}{x y:Operand}(ho:o.op= .indexAddr T x y){i:Int}(hi:(asInt (s.ev y)).eval=some i){v:aH}(he:(pB P s T (s.ev x) i).eval=some v):iY P o a w (kL C (s.put o.dst v)):=by
 have hx:=h.ev x
 obtain⟨k,hy⟩:=ue (h.ev y) hi
 have fin:∀z,(Instr.indexAt T (a.eval x) (a.eval y)).run P w= .ok z w->VS (s.env w g β) v z->iY P o a w (kL C (s.put o.dst v)):=by
  intro z h1 h2
  exact h.value h2 (fS (f:=Instr.indexAt T (a.eval x) (a.eval y)) (by simp only[execOp,ho]) h1)
 have sl:∀(e:TypeId) (z:Nat) (ad:Addr) (len cap:Nat),P.underlying T=some (.slice e)->P.cellsOf e=z->0 < z->a.eval x= .slice (some ad) len cap->0<=i/\i < (len:Int)->
   (Instr.indexAt T (a.eval x) (a.eval y)).run P w= .ok (.pointer (some (ad.add (i.toNat*z)))) w:=by
  intro e z ad len cap hT hz rL hv hb
  rw[hv,hy]
  simp[Instr.indexAt,asIntOf,run_underlying hT,hb,pR hz rL]
 have ar:∀(e:TypeId) (z n:Nat) (ad:Addr),P.underlying T=some (.array n e)->P.cellsOf e=z->0 < z->a.eval x= .pointer (some ad)->0<=i/\i < (n:Int)->
   (Instr.indexAt T (a.eval x) (a.eval y)).run P w= .ok (.pointer (some (ad.add (i.toNat*z)))) w:=by
  intro e z n ad hT hz rL hv hb
  rw[hv,hy]
  simp[Instr.indexAt,Instr.sureAddr,asIntOf,run_underlying hT,hb,pR hz rL]
 have elt:∀(t:Ty) (z:Nat) (bb off:Nat) (vs:List Value) (l:List t.den),z=t.size->vJ (s.env w g β) (some ⟨bb,off,none⟩) vs->cg (eY (s.env w g β) t) vs l->0<=i/\i < (l.length:Int)->
   VS (s.env w g β) (.gE t (nth t l i.toNat)) (.pointer (some ⟨bb,off+i.toNat*z,none⟩)):=by
  intro t z bb off vs l hz hr hc hb
  subst hz
  have mw:i.toNat < l.length:=by omega
  rw[CV mw]
  obtain⟨hp,_⟩:=y4 hc mw
  refine⟨_,?_,rfl⟩
  simp only[V]
  refine⟨_,_,_,rfl,λj v hj=> ?_,hp⟩
  rw[fv]at hj
  split at hj
  ·rw[kB]at hj
   obtain⟨b',o',e,hh⟩:=hr _ v hj
   simp only[aE,Addr.mk.injEq,and_true]at e
   obtain⟨rfl,rfl⟩:=e
   exact⟨_,_,rfl,by rw[gY];exact hh⟩
  ·cases hj
 unfold pB at he
 split at he
 ·rename_i t l hl
  rw[hl]at hx
  obtain⟨ad,cap,vs,hv,Nf,oZ,my,fI⟩:=qq hx
  obtain⟨h1,h2⟩:=aL.1 he
  obtain⟨h3,h4⟩:=cW.1 h2
  obtain rfl:=aB.1 h4
  simp only[decide_eq_true_eq]at h3
  split at h1 <;> try (cases h1;done)
  rename_i z Bv Bk
  obtain⟨e,hT,hz,rL⟩:=nO Bv Bk
  have Lz:z=t.size:=by simpa using h1
  have hlen:=cg.length (λc x hx=>eY.size hx) fI
  have mw:i.toNat < l.length:=by omega
  have h0:0 < vs.length:=by rw[hlen];exact Nat.mul_pos (by omega) (by omega)
  obtain⟨bb,off,e1,_⟩:=my 0 vs[0] (by simp[h0])
  subst e1
  have:=sl e z _ _ cap hT hz rL hv h3
  rw[Addr.add_lit]at this
  exact fin _ this (elt t z bb off vs l Lz my fI h3)
 ·rename_i n t l hl
  rw[hl]at hx
  obtain⟨bb,off,vs,hv,my,hR⟩:=y5 hx
  obtain⟨h1,h2⟩:=aL.1 he
  obtain⟨h3,h4⟩:=cW.1 h2
  obtain rfl:=aB.1 h4
  simp only[decide_eq_true_eq]at h3
  split at h1 <;> try (cases h1;done)
  rename_i z m Bv Bk
  obtain⟨e,hT,hz,rL⟩:=sk Bv Bk
  simp only[ak,beq_iff_eq]at h1
  obtain⟨Lz,rfl⟩:=h1
  simp only[eY]at hR
  have:=ar e z m _ hT hz rL hv h3
  rw[Addr.add_lit]at this
  exact fin _ this (elt t z bb off vs l Lz my hR.2 (by rw[hR.1];exact h3))
 ·rename_i id ver p c j len hl
  rw[hl]at hx
  obtain⟨ad,cap,hv,Nf,oZ,Ci,jt⟩:=pf hx
  obtain⟨r,RX,he⟩:=av.1 he
  obtain⟨h1,h2⟩:=aL.1 he
  obtain⟨h3,h4⟩:=cW.1 h2
  obtain rfl:=aB.1 h4
  simp only[decide_eq_true_eq]at h3
  split at h1 <;> try (cases h1;done)
  rename_i z Bv Bk
  obtain⟨e,hT,hz,rL⟩:=nO Bv Bk
  have Lz:z=r.2.1.size:=by simpa using h1
  have hs:=oZ (by omega)
  obtain⟨ad',rfl⟩:=dj.1 hs
  refine fin _ (sl e z ad' len cap hT hz rL hv h3) ⟨_,?_,rfl⟩
  simp only[V]
  refine⟨_,rfl,Ci,λhc=> ?_⟩
  have jt:=jt hc
  cases hp:β id with
  |none=>
   have hp':(s.env w g β).β id=none:=hp
   rw[hp']at jt
   exact absurd jt.1 (by simp)
  |some pl=>
   have hp':(s.env w g β).β id=some pl:=hp
   rw[hp']at jt
   have e1:=jt.1 (.inl (by omega))
   simp only[aE]at e1
   exact⟨pl,hp,by rw[e1,Addr.add_lit,Lz]⟩
 ·rename_i id ver p n hl
  rw[hl]at hx
  obtain⟨ad,hv,Ci,jt⟩:=qM hx
  obtain⟨h1,h2⟩:=aL.1 he
  obtain⟨h3,h4⟩:=cW.1 h2
  obtain rfl:=aB.1 h4
  simp only[decide_eq_true_eq]at h3
  split at h1 <;> try (cases h1;done)
  rename_i z m Bv Bk
  obtain⟨e,hT,hz,rL⟩:=sk Bv Bk
  rw[Bk,gj]at h3
  refine fin _ (ar e z m ad hT hz rL hv h3) ⟨_,?_,rfl⟩
  simp only[V]
  refine⟨_,rfl,Ci,λhc=> ?_⟩
  obtain⟨pl,hp,Lr⟩:=jt hc
  exact⟨pl,hp,by rw[Lr,Addr.add_lit,Bv,gj]⟩
 ·simp only[al]at he
theorem vn{T:TypeId}{f off:Nat}{ft:TypeId}(h:fieldInfo P T f=some (off,ft)):∃fs fd,P.underlying T=some (.struct fs)/\fs[f]? =some fd/\fd.offset=off/\fd.type=ft:=by
 unfold fieldInfo at h
 split at h
 ·rename_i fs hT
  split at h
  ·rename_i fd hf
   simp only[aE,eN]at h
   exact⟨fs,fd,hT,hf,h.1,h.2⟩
  ·cases h
 ·cases h
theorem yS{E:Env}:∀(x:aH) (f off:Nat) (v:aH) (cs:List Value),V E x cs->partOf x f=some (off,v)->V E v ((cs.drop off).take v.size)/\off+v.size<=cs.length:=by
 intro x f
 induction f generalizing x with
 |zero=>
  intro off v cs hx h
  cases x with
  |d t y=>
   cases t <;> simp only[partOf,reduceCtorEq]at h
   rename_i ta tb
   simp only[aE,eN]at h
   obtain⟨rfl,rfl⟩:=h
   simp only[V,eY]at hx ⊢
   obtain⟨ca,cb,rfl,ha,hb⟩:=hx
   have:=ha.size
   simp only[aH.size,aW,ae,bl]
   rw[List.take_left' this]
   exact⟨ha,by omega⟩
  |pr b c=>
   simp only[partOf,aE,eN]at h
   obtain⟨rfl,rfl⟩:=h
   simp only[V]at hx
   obtain⟨ca,cb,rfl,ha,hb⟩:=hx
   have:=ha.size
   simp only[aW,ae,bl]
   rw[List.take_left' this]
   exact⟨ha,by omega⟩
  |_=>simp only[partOf,reduceCtorEq]at h
 |succ f ih=>
  intro off v cs hx h
  have second:∀(ca cb:List Value) (n:Nat) (b:aH),cs=ca++cb->ca.length=n->V E b cb->(match partOf b f with | some (o,v)=>some (n+o,v) | none=>none)=some (off,v)->V E v ((cs.drop off).take v.size)/\off+v.size<=cs.length:=by
   intro ca cb n b e hl hb hh
   cases hp:partOf b f with
   |none=>rw[hp]at hh;cases hh
   |some r=>
    obtain⟨o',v'⟩:=r
    rw[hp]at hh
    simp only[aE,eN]at hh
    obtain⟨rfl,rfl⟩:=hh
    obtain⟨h1,h2⟩:=ih b o' v' cb hb hp
    subst e
    rw[<-hl,lz,gM (by omega),bu,mn]
    exact⟨h1,by simp only[ae];omega⟩
  cases x with
  |d t y=>
   cases t with
   |pair ta tb=>
    simp only[partOf]at h
    simp only[V,eY]at hx
    obtain⟨ca,cb,e,ha,hb⟩:=hx
    exact second ca cb ta.size (.d tb y.2) e ha.size (by simpa only[V]using hb) h
   |_=>simp only[partOf,reduceCtorEq]at h
  |pr b c=>
   simp only[partOf]at h
   simp only[V]at hx
   obtain⟨ca,cb,e,ha,hb⟩:=hx
   exact second ca cb b.size c e ha.size hb h
  |_=>simp only[partOf,reduceCtorEq]at h
theorem B8(h:Inv C g β s a w){T:TypeId}{x:Operand}{f:Nat}(ho:o.op= .fieldAddr T x f){v:aH}(he:(uS P T (s.ev x) f).eval=some v):iY P o a w (kL C (s.put o.dst v)):=by
 have hx:=h.ev x
 unfold uS at he
 split at he
 ·rename_i off ft hf
  obtain⟨fs,fd,hT,UU,rfl,rfl⟩:=vn hf
  obtain⟨h1,h2⟩:=aL.1 he
  have hz:P.cellsOf fd.type≠0:=by simpa using h1
  have run:∀bb n,a.eval x= .pointer (some ⟨bb,n,none⟩)->(Instr.fieldAt T (a.eval x) f).run P w= .ok (.pointer (some ⟨bb,n+fd.offset,none⟩)) w:=by
   intro bb n hy
   rw[hy]
   simp[Instr.fieldAt,run_underlying hT,UU,Instr.sureAddr,fieldPlace,pR (P:=P) (e:=fd.type) rfl (by omega),hz,Addr.add_lit]
  have runS:∀ad,a.eval x= .pointer (some ad)->(Instr.fieldAt T (a.eval x) f).run P w= .ok (.pointer (some (ad.add fd.offset))) w:=by
   intro ad hy
   rw[hy]
   simp[Instr.fieldAt,run_underlying hT,UU,Instr.sureAddr,fieldPlace,pR (P:=P) (e:=fd.type) rfl (by omega),hz]
  have fin:∀z,(Instr.fieldAt T (a.eval x) f).run P w= .ok z w->VS (s.env w g β) v z->iY P o a w (kL C (s.put o.dst v)):=by
   intro z h1 h2
   exact h.value h2 (fS (f:=Instr.fieldAt T (a.eval x) f) (by simp only[execOp,ho]) h1)
  split at h2
  ·rename_i id ver p n hl
   rw[hl]at hx
   obtain rfl:=aB.1 h2
   obtain⟨ad,hy,Ci,jt⟩:=qM hx
   refine fin _ (runS ad hy) ⟨_,?_,rfl⟩
   simp only[V]
   refine⟨_,rfl,Ci,λhc=> ?_⟩
   obtain⟨pl,hp,Lr⟩:=jt hc
   exact⟨pl,hp,by rw[Lr,Addr.add_lit]⟩
  ·rename_i t y hl
   rw[hl]at hx
   obtain⟨bb,off,vs,hy,my,hR⟩:=y5 hx
   split at h2
   ·rename_i o' t' y' hp
    obtain⟨h3,h4⟩:=aL.1 h2
    obtain rfl:=aB.1 h4
    have h3:fd.offset=o':=by simpa using h3
    obtain⟨hV,hle⟩:=yS (.d t y) f o' (.d t' y') vs (by simpa only[V]using hR) hp
    refine fin _ (run bb off hy) ⟨_,?_,rfl⟩
    simp only[V]at hV ⊢
    refine⟨_,_,_,rfl,λj u hj=> ?_,hV⟩
    rw[fv]at hj
    split at hj
    ·rw[kB]at hj
     obtain⟨b',o'',e,hh⟩:=my _ u hj
     simp only[aE,Addr.mk.injEq,and_true]at e
     obtain⟨rfl,rfl⟩:=e
     exact⟨_,_,rfl,by rw[h3,gY];exact hh⟩
    ·cases hj
   ·simp only[al]at h2
  ·simp only[al]at h2
 ·simp only[al]at he
theorem DC{x:aH}{f:Nat}{r:Nat×aH}(h:partOf x f=some r):x.agg=true/\x.iA=true:=by
 cases x with
 |d t y=>cases t <;> cases f <;> simp[partOf]at h <;> exact⟨rfl,rfl⟩
 |pr b c=>exact⟨rfl,rfl⟩
 |_=>cases f <;> simp[partOf]at h
theorem vW{T:TypeId}{v:aH}(h:fits P T v=true):xR P T v.agg=true/\P.cellsOf T=v.size/\v.iA=true:=by
 unfold fits at h
 simp only[ak,beq_iff_eq]at h
 exact⟨h.2,h.1.2,h.1.1⟩
theorem IX(h:Inv C g β s a w){T:TypeId}{x:Operand}{f:Nat}(ho:o.op= .field T x f){v:aH}(he:(Fu P T (s.ev x) f).eval=some v):iY P o a w (kL C (s.put o.dst v)):=by
 have hx:=h.ev x
 unfold Fu at he
 split at he
 ·rename_i off ft o' v' hf hp
  obtain⟨fs,fd,hT,UU,rfl,rfl⟩:=vn hf
  obtain⟨h1,h2⟩:=aL.1 he
  obtain rfl:=aB.1 h2
  simp only[ak,beq_iff_eq]at h1
  obtain⟨rfl,Cj⟩:=h1
  obtain⟨ym,I1⟩:=DC hp
  obtain⟨cs,hV,hO⟩:=hx.iA I1
  rw[ym]at hO
  have hy:a.eval x= .agg cs.toArray:=hO
  obtain⟨hVp,hle⟩:=yS _ _ _ _ cs hV hp
  obtain⟨q1,q2,q3⟩:=vW Cj
  obtain⟨y,hr,hOy⟩:=rB (w:=w) q1 q2 (λhh=>aH.H7 hh) hle
  refine h.value (VS.of hVp hOy) (fS (f:=Instr.field T (a.eval x) f) (by simp only[execOp,ho]) ?_)
  rw[hy]
  simp[Instr.field,run_underlying hT,UU,asAgg,hr]
 ·simp only[al]at he
theorem I9(h:Inv C g β s a w){T:TypeId}{x y:Operand}(ho:o.op= .index T x y){i:Int}(hi:(asInt (s.ev y)).eval=some i){v:aH}(he:(FJ P T (s.ev x) i).eval=some v):iY P o a w (kL C (s.put o.dst v)):=by
 have hx:=h.ev x
 obtain⟨k,hy⟩:=ue (h.ev y) hi
 have fin:∀z,(Instr.index T (a.eval x) (a.eval y)).run P w= .ok z w->VS (s.env w g β) v z->iY P o a w (kL C (s.put o.dst v)):=by
  intro z h1 h2
  exact h.value h2 (fS (f:=Instr.index T (a.eval x) (a.eval y)) (by simp only[execOp,ho]) h1)
 unfold FJ at he
 split at he
 ·rename_i n t l m e hl hT
  rw[hl]at hx
  obtain⟨h1,h2⟩:=aL.1 he
  obtain⟨h3,h4⟩:=cW.1 h2
  obtain rfl:=aB.1 h4
  simp only[ak,beq_iff_eq,decide_eq_true_eq]at h1 h3
  obtain⟨rfl,Cj⟩:=h1
  obtain⟨q1,q2,q3⟩:=vW Cj
  obtain⟨cs,hV,hO⟩:=hx.iA rfl
  have YL:a.eval x= .agg cs.toArray:=hO
  simp only[V,eY]at hV
  obtain⟨hlen,fI⟩:=hV
  have mw:i.toNat < l.length:=by omega
  obtain⟨hp,hle⟩:=y4 fI mw
  have q2':P.cellsOf e=t.size:=q2
  have q1':xR P e t.agg=true:=q1
  obtain⟨y',hr,hOy⟩:=rB (w:=w) q1' q2' rC hle
  obtain⟨j,hj,_⟩:=sr q1'
  rw[<-CV mw]at hp
  refine fin y' ?_ (VS.of (by simpa only[V]using hp) hOy)
  rw[YL,hy]
  have rM:=run_sizeOf hj w
  rw[<-mS hj,q2']at rM
  simp[Instr.index,asIntOf,run_underlying hT,h3,rM,hr]
 ·rename_i st hl hT
  rw[hl]at hx
  obtain⟨h3,h4⟩:=cW.1 he
  obtain rfl:=aB.1 h4
  simp only[decide_eq_true_eq]at h3
  have e1:=wC hx
  have mw:i.toNat < st.data.toList.length:=by
   have:st.size=st.data.toList.length:=by rw[eg];rfl
   omega
  have VD:st[i.toNat]? =some (st.data.toList[i.toNat]):=by
   have hlt':i.toNat < st.size:=by omega
   rw[getElem?_pos st i.toNat hlt']
   rfl
  refine fin (.int .u8 ((st.data.toList.getD i.toNat 0).toNat:Int)) ?_ (mQ _ _)
  rw[e1,hy]
  simp[Instr.index,asIntOf,run_underlying hT,h3.1,VD,aX,dB mw]
 ·simp only[al]at he
theorem Q5{E:Env}:∀(c:aH) (vs:List Value) (i:Nat) (v:aH),VC E c vs->c.list[i]? =some v->∃y,vs[i]? =some y/\VS E v y:=by
 intro c
 induction c with
 |cons x y _ ih=>
  intro vs i v hc hi
  simp only[VC]at hc
  obtain⟨u,vs',cs,rfl,hV,hO,hc⟩:=hc
  cases i with
  |zero=>
   simp only[aH.list,iT,aE]at hi
   subst hi
   exact⟨u,rfl,VS.of hV hO⟩
  |succ i=>
   simp only[aH.list,mi]at hi ⊢
   exact ih vs' i v hc hi
 |_=>intro vs i v hc hi;simp[aH.list]at hi
theorem Ft(h:Inv C g β s a w){x:Operand}{i:Nat}(ho:o.op= .extract x i){v:aH}(he:(Out.opt ((s.ev x).list[i]?)).eval=some v):iY P o a w (kL C (s.put o.dst v)):=by
 have hx:=h.ev x
 have he:=lF.1 he
 cases hc:s.ev x with
 |cons p q=>
  rw[hc]at hx he
  obtain⟨vs,hy,hVC⟩:=hx
  obtain⟨y,hv,hVS⟩:=Q5 _ vs i v hVC he
  refine h.value hVS (fS (f:=Instr.extract (a.eval x) i) (by simp only[execOp,ho]) ?_)
  rw[hy]
  simp[Instr.extract,hv]
 |_=>rw[hc]at he;simp[aH.list]at he
theorem JQ(h:Inv C g β s a w):∀(l:List Operand),sD (po s l)=true->VC (s.env w g β) (po s l) (l.map a.eval)
 |[],_=>by simp[po,VC]
 |x::xs,hc=>by
  simp only[po,sD,ak]at hc
  obtain⟨cs,hV,hO⟩:=(h.ev x).iA hc.1
  simp only[po,VC,cG]
  exact⟨_,_,cs,rfl,hV,hO,JQ h xs hc.2⟩
theorem DS(h:Inv C g β s a w){f:FuncId}{first caps:Array Operand}(ho:o.op= .makeFunc (.func f) first caps)(h1:first.isEmpty=true)(h2:sD (po s caps.toList)=true):
  iY P o a w (kL C (s.put o.dst (.fn f (po s caps.toList)))):=by
 have hf:first= #[]:=by simpa using h1
 refine h.value (x:= .func (.func f) #[] (caps.toList.map a.eval).toArray) ⟨_,?_,rfl⟩ (fS (f:=Instr.makeFunc (.func f) (first.map a.eval) (caps.map a.eval)) (by simp only[execOp,ho]) ?_)
 ·simp only[V]
  exact⟨_,rfl,JQ h _ h2⟩
 ·subst hf
  have:caps.map a.eval=(caps.toList.map a.eval).toArray:=by apply jW;simp
  simp[Instr.makeFunc,this]
theorem JG(h:Inv C g β s a w){T:TypeId}{x:Operand}(ho:o.op= .sliceToArrayPointer T x){s':AS}(he:(yg P s o.dst T (s.ev x)).eval=some s'):iY P o a w (kL C s'):=by
 have hx:=h.ev x
 unfold yg at he
 split at he
 ·rename_i n e hT
  split at he
  ·rename_i t ht
   obtain⟨h1,h2⟩:=aL.1 he
   obtain⟨l,h3,h4⟩:=av.1 h2
   obtain⟨h5,h6⟩:=cW.1 h4
   obtain rfl:=aB.1 h6
   simp only[ak,dI,beq_iff_eq,beq_eq_false_iff_ne,decide_eq_true_eq]at h1 h5
   obtain⟨⟨hz,hn⟩,PA⟩:=h1
   obtain⟨g1,i1,e1,t1,cs,hR,hO⟩:=sV h hx h3
   simp only[eY]at hR
   obtain⟨ad,cap,vs,rfl,Nf,oZ,my,fI⟩:=hR
   have hO': [Value.slice ad (List.length l) cap]=[a.eval x]:=hO
   have hy:a.eval x= .slice ad (List.length l) cap:=by simpa using hO'.symm
   have hlen:=cg.length (λc x hx=>eY.size hx) fI
   have h0:0 < vs.length:=by rw[hlen];exact Nat.mul_pos (by omega) (by omega)
   obtain⟨bb,off,e2,_⟩:=my 0 vs[0] (by simp[h0])
   subst e2
   refine .inl ⟨.pointer (some ⟨bb,off,none⟩),w,?_,g1,β,i1.put o.dst ⟨_,?_,rfl⟩⟩
   ·refine fS (f:=Instr.arrayAt T (a.eval x)) (by simp only[execOp,ho]) ?_
    rw[hy]
    have:¬List.length l < n:=by omega
    simp[Instr.arrayAt,run_underlying hT,this]
   ·simp only[V]
    refine⟨bb,off,vs.take (n*t.size),rfl,λj u hj=> ?_,?_⟩
    ·rw[fv]at hj
     split at hj
     ·exact my j u hj
     ·cases hj
    ·simp only[eY]
     exact⟨by simp;omega,cg.take (λ_ _ hx=>hx.size) n fI⟩
  ·simp only[al]at he
 ·simp only[al]at he
end
end Go.Ab
namespace Go.Ab
theorem Cz{α:Type}{f:α->α->Bool}(hf:∀x y,f x y=true->x=y):∀ {xs ys:List α},mW f xs ys=true->xs=ys
 |[],[],_=>rfl
 |x::xs,y::ys,h=>by
  simp only[mW,ak]at h
  rw[hf _ _ h.1,Cz hf h.2]
 |[],_::_,h=>by simp[mW]at h
 |_::_,[],h=>by simp[mW]at h
theorem beq_eq:∀(t:Ty) (x y:t.den),t.comp=true->t.beq x y=true->x=y
 | .int _,x,y,_,h=>by simpa[Ty.beq]using h
 | .bool,x,y,_,h=>by simpa[Ty.beq]using h
 | .str,x,y,_,h=>by
  have h:(x:ByteArray).toList=(y:ByteArray).toList:=by simpa[Ty.beq]using h
  rw[Go.ByteArray.toList_eq,Go.ByteArray.toList_eq]at h
  exact ByteArray.ext (Array.toList_inj.1 h)
 | .slice _,_,_,h,_=>by simp[Ty.comp]at h
 | .unit,_,_,_,_=>rfl
 | .pair a b,x,y,hc,h=>by
  simp only[Ty.comp,ak]at hc
  simp only[Ty.beq,ak]at h
  exact Prod.ext (beq_eq a _ _ hc.1 h.1) (beq_eq b _ _ hc.2 h.2)
 | .arr _ t,x,y,hc,h=>Cz (λx y=>beq_eq t x y hc) h
def Plain(c:Value):Prop:=∀n,Instr.sameBits n c c=true
theorem eY.plain{E:Env}:∀ {t:Ty} {cs:List Value} {x:t.den},t.comp=true->eY E t cs x->∀c∈cs,Plain c
 | .int _,_,_,_,h,c,hc,n=>by simp only[eY]at h;rw[h,aR]at hc;subst hc;cases n <;> simp[Instr.sameBits]
 | .bool,_,_,_,h,c,hc,n=>by simp only[eY]at h;rw[h,aR]at hc;subst hc;cases n <;> simp[Instr.sameBits]
 | .str,_,_,_,h,c,hc,n=>by simp only[eY]at h;rw[h,aR]at hc;subst hc;cases n <;> exact(Go.MapKept.bytes_beq _ _).2 rfl
 | .slice _,_,_,hc,_,_,_,_=>by simp[Ty.comp]at hc
 | .unit,_,_,_,h,c,hc,_=>by simp only[eY]at h;rw[h]at hc;cases hc
 | .pair a b,_,_,hp,h,c,hc,n=>by
  simp only[Ty.comp,ak]at hp
  simp only[eY]at h
  obtain⟨ca,cb,rfl,ha,hb⟩:=h
  rcases cf.1 hc with hc | hc
  ·exact eY.plain hp.1 ha c hc n
  ·exact eY.plain hp.2 hb c hc n
 | .arr _ t,_,_,hp,h,c,hc,n=>by
  simp only[eY]at h
  exact cg.all (p:=Plain) (λc x hx v hv=>eY.plain (t:=t) hp hx v hv) h.2 c hc n
theorem eY.Re{E:Env}:∀ {t:Ty} {cs cs':List Value} {x:t.den},t.comp=true->eY E t cs x->eY E t cs' x->cs=cs'
 | .int _,_,_,_,_,h,h'=>by simp only[eY]at h h';rw[h,h']
 | .bool,_,_,_,_,h,h'=>by simp only[eY]at h h';rw[h,h']
 | .str,_,_,_,_,h,h'=>by simp only[eY]at h h';rw[h,h']
 | .slice _,_,_,_,hc,_,_=>by simp[Ty.comp]at hc
 | .unit,_,_,_,_,h,h'=>by simp only[eY]at h h';rw[h,h']
 | .pair a b,_,_,_,hp,h,h'=>by
  simp only[Ty.comp,ak]at hp
  simp only[eY]at h h'
  obtain⟨ca,cb,rfl,ha,hb⟩:=h
  obtain⟨ca',cb',rfl,ha',hb'⟩:=h'
  rw[eY.Re hp.1 ha ha',eY.Re hp.2 hb hb']
 | .arr _ t,cs,cs',x,hp,h,h'=>by
  simp only[eY]at h h'
  have key:∀(l:List t.den) (cs cs':List Value),cg (eY E t) cs l->cg (eY E t) cs' l->cs=cs':=by
   intro l
   induction l with
   |nil=>intro cs cs' h h';have h:cs=[]:=h;have h':cs'=[]:=h';rw[h,h']
   |cons x l ih=>
    intro cs cs' h h'
    obtain⟨c,r,rfl,hx,hr⟩:=h
    obtain⟨c',r',rfl,hx',hr'⟩:=h'
    rw[eY.Re (t:=t) hp hx hx',ih _ _ hr hr']
  exact key _ _ _ h.2 h'.2
theorem uc.Re{E:Env}{t:Ty}{v v':Value}{x:t.den}(hc:t.comp=true)(h:uc E t v x)(h':uc E t v' x):v=v':=by
 obtain⟨cs,h1,h2⟩:=h
 obtain⟨cs',h1',h2'⟩:=h'
 have e:=eY.Re hc h1 h1'
 subst e
 unfold jI at h2 h2'
 cases ha:t.agg with
 |true=>rw[ha]at h2 h2';rw[h2,h2']
 |false=>
  rw[ha]at h2 h2'
  have h2:cs=[v]:=h2
  have h2':cs=[v']:=h2'
  rw[h2]at h2'
  simpa using h2'
theorem uc.same{E:Env}{t:Ty}{v:Value}{x:t.den}(hc:t.comp=true)(h:uc E t v x):Instr.sameBits 10000 v v=true:=by
 obtain⟨cs,h1,h2⟩:=h
 have hp:=eY.plain hc h1
 unfold jI at h2
 cases ha:t.agg with
 |true=>
  rw[ha]at h2
  have h2:v= .agg cs.toArray:=h2
  subst h2
  simp only[Instr.sameBits,beq_self_eq_true,cv,fy]
  intro p hp'
  obtain⟨a,b⟩:=p
  have:∀(l:List Value),(a,b)∈l.zip l->a∈l/\a=b:=by
   intro l
   induction l with
   |nil=>intro h;simp at h
   |cons y l ih=>
    intro h
    simp only[List.zip_cons_cons,cH,eN]at h
    rcases h with⟨rfl,rfl⟩ | h
    ·exact⟨bq,rfl⟩
    ·exact⟨bj _ (ih h).1,(ih h).2⟩
  obtain⟨hm,rfl⟩:=this _ hp'
  exact hp a (by simpa using hm) _
 |false=>
  rw[ha]at h2
  have h2:cs=[v]:=h2
  subst h2
  exact hp v (by simp) _
theorem L4{P:Program}{w:World}{E:Env}{t:Ty}{v:Value}{x:t.den}(hc:t.comp=true)(h:uc E t v x):(Instr.keyThatStays v v).run P w= .ok v w:=by
 unfold Instr.keyThatStays
 rw[if_pos (h.same hc)]
 rfl
section
variable {P:Program} {w:World} {E:Env}
theorem sF:∀(n:Nat) (T:TypeId) (t:Ty),pK P n T t=true->t.comp=true
 | 0,T,t,h=>by simp[pK]at h
 |n+1,T,t,h=>by
  simp only[pK]at h
  split at h
  ·rfl
  ·rfl
  ·rfl
  ·rename_i m e m' t' hT
   simp only[ak]at h
   exact sF n e t' h.2
  ·rename_i t0 _ _ fs hT
   simp only[ak]at h
   have key:∀(fl:List Field) (t:Ty) (off:Nat),xF P (pK P n) fl t off=true->t.comp=true:=by
    intro fl
    induction fl with
    |nil=>intro t off hc;cases t <;> first | rfl | (simp[xF]at hc;done)
    |cons f fl ih=>
     intro t off hc
     cases t <;> first | (simp[xF]at hc;done) | skip
     rename_i ta tb
     simp only[xF,ak]at hc
     simp only[Ty.comp,ak]
     exact⟨sF n _ _ hc.1.2,ih tb _ hc.2⟩
   exact key _ _ _ h.2
  ·cases h
theorem nN(em:Bool):∀(n:Nat) (T:TypeId) (t:Ty),pK P n T t=true->∀(d:Nat),n<=d->∀(v:Value) (x:t.den),uc E t v x->(Instr.checkKey em d T v).run P w= .ok () w
 | 0,T,t,h,_,_,_,_,_=>by simp[pK]at h
 |n+1,T,t,h,0,hd,_,_,_=>by omega
 |n+1,T,t,h,d+1,hd,v,x,⟨cs,hx,hv⟩=>by
  simp only[pK]at h
  split at h
  ·rename_i hT
   simp only[eY]at hx
   have e1:cs=[v]:=hv
   rw[hx]at e1
   simp only[iu,and_true]at e1
   subst e1
   simp[Instr.checkKey,run_underlying hT]
  ·rename_i hT
   simp only[eY]at hx
   have e1:cs=[v]:=hv
   rw[hx]at e1
   simp only[iu,and_true]at e1
   subst e1
   simp[Instr.checkKey,run_underlying hT]
  ·rename_i hT
   simp only[eY]at hx
   have e1:cs=[v]:=hv
   rw[hx]at e1
   simp only[iu,and_true]at e1
   subst e1
   simp[Instr.checkKey,run_underlying hT]
  ·rename_i m e m' t' hT
   simp only[ak,beq_iff_eq]at h
   obtain⟨⟨⟨⟨rfl,PA⟩,rM⟩,ym⟩,fI⟩:=h
   simp only[eY]at hx
   obtain⟨VU,Vx⟩:=hx
   have e1:v= .agg cs.toArray:=hv
   subst e1
   obtain⟨i,hi,G3⟩:=sr ym
   have hsz':=rM
   rw[mS hi]at hsz'
   simp only[Instr.checkKey,Sem.run_bind,run_underlying hT,Result.andThen_ok]
   simp only[Std.Legacy.Range.forIn_eq_forIn_range']
   have hm:([:m]:Std.Legacy.Range).size=m:=by simp[Std.Legacy.Range.size]
   rw[hm]
   have Ix:∀c z,eY E t' c z->c.length=t'.size:=λc z hz=>hz.size
   have bx:t'.agg=false->t'.size=1:=rC
   have key:∀(k:Nat) (x:List t'.den) (j:Nat),x.length=k->cg (eY E t') (cs.drop (j*t'.size)) x->
     (forIn (List.range' j k) () λi __s=>(do
      let __do_lift <-sizeOf e
      let __do_lift <-part e cs.toArray (i*__do_lift)
      Instr.checkKey em d e __do_lift
      pure (ForInStep.yield ()):Sem (ForInStep Unit))).run P w= .ok () w:=by
    intro k
    induction k with
    |zero=>intro x j _ _;rfl
    |succ k ih=>
     intro x j hx hcx'
     cases x with
     |nil=>simp at hx
     |cons x0 xs=>
      have gx:=cg.get Ix hcx' 0 (by simp)
      simp only[mP,aW,List.getElem_cons_zero]at gx
      have lenx:((cs.drop (j*t'.size)).take t'.size).length=t'.size:=gx.size
      have Bv:t'.size≠0:=by simpa using PA
      have VK:j*t'.size+t'.size<=cs.length:=by simp only[fO,iy]at lenx;omega
      obtain⟨ux,h1,o1⟩:=rB (w:=w) ym rM bx (cs:=cs) (off:=j*t'.size) VK
      have h3:=nN em n e t' fI d (by omega) ux x0 ⟨_,gx,o1⟩
      have nx:cg (eY E t') (cs.drop ((j+1)*t'.size)) xs:=by
       have:=cg.drop Ix 1 hcx'
       rw[iX]at this
       simpa[gN]using this
      have:=ih xs (j+1) (by simpa using hx) nx
      rw[List.range'_succ,List.forIn_cons]
      simp only[Sem.run_bind,run_sizeOf hi,hsz',h1,h3,Result.andThen_ok,Sem.run_pure]
      exact this
   exact(congrArg (λr:Result Unit=>r.andThen λ_ w'=>Sem.run P (pure ()) w') (key m x 0 VU (by simpa using Vx))).trans rfl
  ·rename_i t0 _ _ fs hT
   simp only[ak,dI]at h
   obtain⟨vF,Pk⟩:=h
   have ym:t0.agg=true:=by
    cases hl:fs.toList <;> rw[hl]at Pk <;> cases t0 <;> first | rfl | (simp[xF]at Pk;done)
   rw[ym]at hv
   have e1:v= .agg cs.toArray:=hv
   subst e1
   have key:∀(fl:List Field) (t:Ty) (off:Nat),xF P (pK P n) fl t off=true->∀(x:t.den),eY E t (cs.drop off) x->
     (forIn fl () λf __s=>(do
      if f.name≠ "_" then
       let __do_lift <-part f.type cs.toArray f.offset
       Instr.checkKey em d f.type __do_lift
       pure (ForInStep.yield ())
      else pure (ForInStep.yield ()):Sem (ForInStep Unit))).run P w= .ok () w:=by
    intro fl
    induction fl with
    |nil=>intro t off _ x _;rfl
    |cons f fl ih=>
     intro t off hc x hx
     cases t <;> first | (simp[xF]at hc;done) | skip
     rename_i ta tb
     simp only[xF,ak,dI,beq_iff_eq,beq_eq_false_iff_ne]at hc
     obtain⟨⟨⟨⟨⟨⟨V3,Pv⟩,hz⟩,rM⟩,ym⟩,fI⟩,Nl⟩:=hc
     simp only[eY]at hx
     obtain⟨xa,xb,ex,Un,Wq⟩:=hx
     have bx:ta.agg=false->ta.size=1:=rC
     have lx:xa.length=ta.size:=Un.size
     have sx1:(cs.drop off).take ta.size=xa:=by rw[ex];exact List.take_left' lx
     have sx2:cs.drop (off+ta.size)=xb:=by rw[<-iX,ex];exact List.drop_left' lx
     have sx3:off+ta.size<=cs.length:=by
      have:=congrArg List.length ex
      simp only[iy,ae]at this
      omega
     obtain⟨ux,h1,o1⟩:=rB (w:=w) ym rM bx (cs:=cs) (off:=off) sx3
     rw[sx1]at o1
     have h3:=nN em n f.type ta fI d (by omega) ux x.1 ⟨_,Un,o1⟩
     have h4:=ih tb (off+ta.size) Nl x.2 (by rw[sx2];exact Wq)
     rw[List.forIn_cons]
     simp only[ne_eq,V3,not_false_eq_true,if_true,Sem.run_bind,Pv,h1,h3,Result.andThen_ok,Sem.run_pure]
     exact h4
   have:=key fs.toList t0 0 Pk x (by simpa using hx)
   simp only[Instr.checkKey,Sem.run_bind,run_underlying hT,Result.andThen_ok,Array.forIn_toList]at this ⊢
   exact(congrArg (λr:Result Unit=>r.andThen λ_ w'=>Sem.run P (pure ()) w') this).trans rfl
  ·cases h
theorem yu{K:TypeId}{kt vt:Ty}(hK:pK P depth K kt=true){v:Value}{x:kt.den}(hx:uc E kt v x):∀(es:List MapEntry) (l:List (kt.den×vt.den)) (i:Nat),Alike (uG E kt vt) es l->
  ∃r,(Instr.findAsking K v es i).run P w= .ok r w/\match r with | none=>kD kt x l=none | some (j,u)=>∃n e,kD kt x l=some n/\j=i+n/\es[n]? =some e/\u=e.val
 |[],[],i,_=>⟨none,by simp[Instr.findAsking],rfl⟩
 |e::es,p::l,i,⟨he,hr⟩=>by
  have hx':=hx
  obtain⟨c1,r1,o1⟩:=hx'
  obtain⟨c2,r2,o2⟩:=he.1
  have heq:(Op.equal K v e.key).run P w= .ok (kt.beq x p.1) w:=qT E depth K kt hK 10000 (by decide) c1 c2 x p.1 v e.key r1 r2 o1 o2
  cases hb:kt.beq x p.1 with
  |true=>
   rw[hb]at heq
   refine⟨some (i,e.val),by simp[Instr.findAsking,heq],0,e,by simp[kD,hb],rfl,rfl,rfl⟩
  |false=>
   rw[hb]at heq
   obtain⟨r,h1,h2⟩:=yu hK hx es l (i+1) hr
   refine⟨r,by simp[Instr.findAsking,heq,h1],?_⟩
   cases r with
   |none=>simp only at h2 ⊢;simp[kD,hb,h2]
   |some u=>
    obtain⟨j,u⟩:=u
    obtain⟨n,e',g1,g2,g3,g4⟩:=h2
    exact⟨n+1,e',by simp[kD,hb,g1],by omega,by simpa using g3,g4⟩
 |[],_::_,_,h=>h.elim
 |_::_,[],_,h=>h.elim
theorem EL{d:TypeDesc}{kt vt:Ty}{v:Value}{x:kt.den}(hd:∀u y,uc E kt u y->Instr.sameNow d v u=some (kt.beq x y)):∀(es:List MapEntry) (l:List (kt.den×vt.den)) (i:Nat),Alike (uG E kt vt) es l->
  ∃r,Instr.findNow d v es i=some r/\match r with | none=>kD kt x l=none | some (j,u)=>∃n e,kD kt x l=some n/\j=i+n/\es[n]? =some e/\u=e.val
 |[],[],i,_=>⟨none,rfl,rfl⟩
 |e::es,p::l,i,⟨he,hr⟩=>by
  have h0:=hd e.key p.1 he.1
  cases hb:kt.beq x p.1 with
  |true=>
   rw[hb]at h0
   exact⟨some (i,e.val),by simp[Instr.findNow,h0],0,e,by simp[kD,hb],rfl,rfl,rfl⟩
  |false=>
   rw[hb]at h0
   obtain⟨r,h1,h2⟩:=EL hd es l (i+1) hr
   refine⟨r,by simp[Instr.findNow,h0,h1],?_⟩
   cases r with
   |none=>simp only at h2 ⊢;simp[kD,hb,h2]
   |some u=>
    obtain⟨j,u⟩:=u
    obtain⟨n,e',g1,g2,g3,g4⟩:=h2
    exact⟨n+1,e',by simp[kD,hb,g1],by omega,by simpa using g3,g4⟩
 |[],_::_,_,h=>h.elim
 |_::_,[],_,h=>h.elim
theorem xJ{K:TypeId}{kt vt:Ty}(hK:pK P depth K kt=true){v:Value}{x:kt.den}(hx:uc E kt v x){es:List MapEntry}{l:List (kt.den×vt.den)}(h:Alike (uG E kt vt) es l):
  ∃r,(Instr.findKey K v es).run P w= .ok r w/\match r with | none=>kD kt x l=none | some (j,u)=>∃e,kD kt x l=some j/\es[j]? =some e/\u=e.val:=by
 have fin:∀r:Option (Nat×Value),(match r with | none=>kD kt x l=none | some (j,u)=>∃n e,kD kt x l=some n/\j=0+n/\es[n]? =some e/\u=e.val)->match r with | none=>kD kt x l=none | some (j,u)=>∃e,kD kt x l=some j/\es[j]? =some e/\u=e.val:=by
  intro r hr
  cases r with
  |none=>exact hr
  |some u=>
   obtain⟨j,u⟩:=u
   obtain⟨n,e,g1,g2,g3,g4⟩:=hr
   obtain rfl:j=n:=by omega
   exact⟨e,g1,g3,g4⟩
 have scalar:∀d,P.underlying K=some d->(∀u y,uc E kt u y->Instr.sameNow d v u=some (kt.beq x y))->∃r,(Instr.findKey K v es).run P w= .ok r w/\match r with | none=>kD kt x l=none | some (j,u)=>∃e,kD kt x l=some j/\es[j]? =some e/\u=e.val:=by
  intro d hd hs
  obtain⟨r,h1,h2⟩:=EL hs es l 0 h
  exact⟨r,by simp[Instr.findKey,run_underlying hd,h1],fin r h2⟩
 have agg:∀d,P.underlying K=some d->(∀u y,uc E kt u y->Instr.sameNow d v u=none)->∃r,(Instr.findKey K v es).run P w= .ok r w/\match r with | none=>kD kt x l=none | some (j,u)=>∃e,kD kt x l=some j/\es[j]? =some e/\u=e.val:=by
  intro d hd hs
  cases es with
  |nil=>
   cases l with
   |nil=>exact⟨none,by simp[Instr.findKey,run_underlying hd,Instr.findNow],rfl⟩
   |cons _ _=>exact h.elim
  |cons e es=>
   cases l with
   |nil=>exact h.elim
   |cons p l=>
    have hn:Instr.findNow d v (e::es) 0=none:=by simp[Instr.findNow,hs e.key p.1 h.1.1]
    obtain⟨r,h1,h2⟩:=yu (w:=w) (vt:=vt) hK hx (e::es) (p::l) 0 h
    exact⟨r,by simp[Instr.findKey,run_underlying hd,hn,h1],fin r h2⟩
 have hK0:=hK
 unfold depth at hK0
 simp only[pK]at hK0
 obtain⟨cx,rx,ox⟩:=hx
 split at hK0
 ·rename_i k k' hT
  refine scalar _ hT λu y ⟨cy,ry,oy⟩=> ?_
  simp only[eY]at rx ry
  have e1:cx=[v]:=ox
  have e2:cy=[u]:=oy
  rw[rx]at e1;rw[ry]at e2
  simp only[iu,and_true]at e1 e2
  subst e1 e2
  simp[Instr.sameNow,Ty.beq]
 ·rename_i hT
  refine scalar _ hT λu y ⟨cy,ry,oy⟩=> ?_
  simp only[eY]at rx ry
  have e1:cx=[v]:=ox
  have e2:cy=[u]:=oy
  rw[rx]at e1;rw[ry]at e2
  simp only[iu,and_true]at e1 e2
  subst e1 e2
  simp[Instr.sameNow,Ty.beq]
 ·rename_i hT
  refine scalar _ hT λu y ⟨cy,ry,oy⟩=> ?_
  simp only[eY]at rx ry
  have e1:cx=[v]:=ox
  have e2:cy=[u]:=oy
  rw[rx]at e1;rw[ry]at e2
  simp only[iu,and_true]at e1 e2
  subst e1 e2
  have hs:∀a b:ByteArray,(a==b)=(a.toList==b.toList):=λa b=>by
   by_cases Vr:a=b
   ·subst Vr
    rw[(Go.MapKept.bytes_beq a a).2 rfl];simp
   ·have h1:(a==b)=false:=by
     cases h:(a==b) with
     |false=>rfl
     |true=>exact absurd ((Go.MapKept.bytes_beq a b).1 h) Vr
    have h2:(a.toList==b.toList)=false:=by
     cases h:(a.toList==b.toList) with
     |false=>rfl
     |true=>exact absurd (beq_eq .str a b rfl h) Vr
    rw[h1,h2]
  simp[Instr.sameNow,Ty.beq,hs]
 ·rename_i m e m' t' hT
  exact agg _ hT λu y _=>by simp[Instr.sameNow]
 ·rename_i t0 _ _ fs hT
  exact agg _ hT λu y _=>by simp[Instr.sameNow]
 ·cases hK0
end
section
variable {α β:Type} {R:α->β->Prop}
theorem Alike.get:∀ {xs:List α} {ys:List β} {i:Nat} {x:α},Alike R xs ys->xs[i]? =some x->∃y,ys[i]? =some y/\R x y
 |[],_,_,_,_,h=>by simp at h
 |_::_,[],_,_,h,_=>h.elim
 |x::xs,y::ys,0,z,⟨h1,_⟩,h=>by simp at h;subst h;exact⟨y,rfl,h1⟩
 |x::xs,y::ys,i+1,z,⟨_,h2⟩,h=>by simp at h;simpa using Alike.get h2 h
theorem Alike.set{x:α}{y:β}(hx:R x y):∀ {xs:List α} {ys:List β} (i:Nat),Alike R xs ys->Alike R (xs.set i x) (ys.set i y)
 |[],[],_,_=>trivial
 |[],_::_,_,h=>h.elim
 |_::_,[],_,h=>h.elim
 |_::_,_::_,0,⟨_,h2⟩=>⟨hx,h2⟩
 |_::_,_::_,i+1,⟨h1,h2⟩=>⟨h1,Alike.set hx i h2⟩
theorem Alike.push{x:α}{y:β}(hx:R x y):∀ {xs:List α} {ys:List β},Alike R xs ys->Alike R (xs++ [x]) (ys++ [y])
 |[],[],_=>⟨hx,trivial⟩
 |[],_::_,h=>h.elim
 |_::_,[],h=>h.elim
 |_::_,_::_,⟨h1,h2⟩=>⟨h1,Alike.push hx h2⟩
theorem Alike.erase:∀ {xs:List α} {ys:List β} (i:Nat),Alike R xs ys->Alike R (xs.eraseIdx i) (ys.eraseIdx i)
 |[],[],_,_=>by simp[Alike]
 |[],_::_,_,h=>h.elim
 |_::_,[],_,h=>h.elim
 |_::_,_::_,0,⟨_,h2⟩=>h2
 |_::_,_::_,i+1,⟨h1,h2⟩=>⟨h1,Alike.erase i h2⟩
end
theorem yI{α:Type}{f:α->α->Bool}(hf:∀x,f x x=true):∀xs:List α,mW f xs xs=true
 |[]=>rfl
 |x::xs=>by simp[mW,hf x,yI hf xs]
theorem beq_refl:∀(t:Ty) (x:t.den),t.comp=true->t.beq x x=true
 | .int _,x,_=>by simp[Ty.beq]
 | .bool,x,_=>by simp[Ty.beq]
 | .str,x,_=>by simp[Ty.beq]
 | .slice _,_,h=>by simp[Ty.comp]at h
 | .kg _,_,h=>by simp[Ty.comp]at h
 | .unit,_,_=>rfl
 | .pair a b,x,h=>by
  simp only[Ty.comp,ak]at h
  simp only[Ty.beq,beq_refl a _ h.1,beq_refl b _ h.2,l9]
 | .arr _ t,x,h=>by
  simp only[Ty.comp]at h
  exact yI (λy=>beq_refl t y h) x
section
variable {β:Type} {kt:Ty}
theorem uu{x:kt.den}:fj kt x ([]:List (kt.den×β))=none:=rfl
theorem jn{x:kt.den}{p:kt.den×β}{l:List (kt.den×β)}:fj kt x (p::l)=if kt.beq x p.1=true then some p.2 else fj kt x l:=by
 unfold fj
 cases h:kt.beq x p.1 with
 |true=>simp[kD,h]
 |false=>
  simp only[kD,h]
  cases kD kt x l <;> simp
theorem EK{x:kt.den}{v:β}:lu kt x v []=[(x,v)]:=rfl
theorem u7{x:kt.den}{v:β}{p:kt.den×β}{l:List (kt.den×β)}:lu kt x v (p::l)=if kt.beq x p.1=true then(x,v)::l else p::lu kt x v l:=by
 unfold lu
 cases h:kt.beq x p.1 with
 |true=>simp[kD,h]
 |false=>
  simp only[kD,h]
  cases kD kt x l <;> simp
theorem LM{x:kt.den}:mz kt x ([]:List (kt.den×β))=[]:=rfl
theorem xT{x:kt.den}{p:kt.den×β}{l:List (kt.den×β)}:mz kt x (p::l)=if kt.beq x p.1=true then l else p::mz kt x l:=by
 unfold mz
 cases h:kt.beq x p.1 with
 |true=>simp[kD,h]
 |false=>
  simp only[kD,h]
  cases kD kt x l <;> simp
theorem wW{x:kt.den}{v:β}:∀l:List (kt.den×β),(lu kt x v l).Perm ((x,v)::mz kt x l)
 |[]=>jz _
 |p::l=>by
  rw[u7,xT]
  split
  ·exact jz _
  ·exact((wW l).cons p).trans (List.Perm.swap _ _ _)
theorem qg(hc:kt.comp=true){x:kt.den}:∀ {l:List (kt.den×β)},(l.map (·.1)).Nodup->mz kt x l=l.filter λp=> !kt.beq x p.1
 |[],_=>rfl
 |p::l,hn=>by
  rw[cG,fR]at hn
  rw[xT,ix]
  by_cases h:kt.beq x p.1=true
  ·rw[if_pos h]
   simp only[h,bY,cF,if_false]
   have hx:=beq_eq kt _ _ hc h
   exact(kY.2 λq hq=>by
    simp only[dI]
    rw[Bool.eq_false_iff]
    intro hb
    have:=beq_eq kt _ _ hc hb
    exact hn.1 (by rw[<-hx,this];exact eb.2 ⟨q,hq,rfl⟩)).symm
  ·have h':kt.beq x p.1=false:=by simpa using h
   rw[if_neg h]
   simp only[h',gk,if_true]
   rw[qg hc hn.2]
theorem mA(hc:kt.comp=true){x:kt.den}{v:β}:∀ {l:List (kt.den×β)},(l.map (·.1)).Nodup->(fj kt x l=some v↔(x,v)∈l)
 |[],_=>by simp[uu]
 |p::l,hn=>by
  rw[cG,fR]at hn
  rw[jn,cH]
  by_cases h:kt.beq x p.1=true
  ·rw[if_pos h]
   have hx:=beq_eq kt _ _ hc h
   constructor
   ·intro e;left;rw[hx,<-cM e]
   ·rintro(e | e)
    ·rw[<-e]
    ·exact absurd (eb.2 ⟨_,e,rfl⟩) (by rw[<-hx]at hn;exact hn.1)
  ·rw[if_neg h,mA hc hn.2]
   constructor
   ·exact .inr
   ·rintro(e | e)
    ·exact absurd (by rw[<-e];exact beq_refl kt x hc) h
    ·exact e
theorem Jh(hc:kt.comp=true){x:kt.den}{l l':List (kt.den×β)}(hn:(l.map (·.1)).Nodup)(hp:l'.Perm l):fj kt x l'=fj kt x l:=by
 apply Option.ext
 intro v
 rw[mA hc ((hp.map _).nodup_iff.2 hn),mA hc hn,hp.mem_iff]
theorem CI(hc:kt.comp=true){x:kt.den}{l l':List (kt.den×β)}(hn:(l.map (·.1)).Nodup)(hp:l'.Perm l):(mz kt x l').Perm (mz kt x l):=by
 rw[qg hc ((hp.map _).nodup_iff.2 hn),qg hc hn]
 exact hp.filter _
theorem Ji(hc:kt.comp=true){x:kt.den}{v:β}{l l':List (kt.den×β)}(hn:(l.map (·.1)).Nodup)(hp:l'.Perm l):(lu kt x v l').Perm (lu kt x v l):=
 (wW l').trans (((CI hc hn hp).cons _).trans (wW l).symm)
theorem wg(hc:kt.comp=true){x:kt.den}{l:List (kt.den×β)}(hn:(l.map (·.1)).Nodup):((mz kt x l).map (·.1)).Nodup:=by
 rw[qg hc hn]
 exact hn.sublist (List.filter_sublist.map _)
theorem AP(hc:kt.comp=true){x:kt.den}{v:β}{l:List (kt.den×β)}(hn:(l.map (·.1)).Nodup):((lu kt x v l).map (·.1)).Nodup:=by
 rw[((wW l).map _).nodup_iff,cG,fR]
 refine⟨λh=> ?_,wg hc hn⟩
 obtain⟨p,hp,he⟩:=eb.1 h
 rw[qg hc hn,jG]at hp
 have:=hp.2
 have he:p.1=x:=he
 rw[he,beq_refl kt x hc]at this
 cases this
end
theorem xX{E:Env}:∀(v:aH) (t:Ty) (x:t.den) (cs:List Value),V E v cs->(oM t v).eval=some x->eY E t cs x/\v.agg=t.agg/\v.iA=true
 | .d t' x',t,x,cs,hv,h=>by
  have h':(Out.opt (qF t' t x')).eval=some x:=by cases t <;> simpa only[oM]using h
  obtain⟨rfl,h'⟩:=lq (lF.1 h')
  simp only at h'
  subst h'
  simp only[V]at hv
  exact⟨hv,rfl,rfl⟩
 | .eV,.slice t,x,cs,hv,h=>by
  simp only[oM,aB]at h
  subst h
  simp only[V]at hv
  simp only[eY]
  exact⟨⟨none,0,[],by simpa using hv,by simp,by simp,λi v hh=>by simp at hh,rfl⟩,rfl,rfl⟩
 | .pr a b,.pair ta tb,x,cs,hv,h=>by
  simp only[oM]at h
  obtain⟨x1,h1,h2⟩:=av.1 h
  obtain⟨x2,h3,h4⟩:=av.1 h2
  obtain rfl:=aB.1 h4
  simp only[V]at hv
  obtain⟨ca,cb,rfl,ha,hb⟩:=hv
  simp only[eY]
  exact⟨⟨ca,cb,rfl,(xX a ta x1 ca ha h1).1,(xX b tb x2 cb hb h3).1⟩,rfl,rfl⟩
 | .eV,.int _,_,_,_,h | .eV,.bool,_,_,_,h | .eV,.str,_,_,_,h | .eV,.unit,_,_,_,h | .eV,.pair _ _,_,_,_,h | .eV,.arr _ _,_,_,_,h=>by simp only[oM,al]at h
 | .pr _ _,.int _,_,_,_,h | .pr _ _,.bool,_,_,_,h | .pr _ _,.str,_,_,_,h | .pr _ _,.unit,_,_,_,h | .pr _ _,.slice _,_,_,_,h | .pr _ _,.arr _ _,_,_,_,h=>by simp only[oM,al]at h
 | .undef,t,_,_,_,h | .gone,t,_,_,_,h | .o6,t,_,_,_,h | .rP,t,_,_,_,h | .uw,t,_,_,_,h | .ptr ..,t,_,_,_,h | .gE ..,t,_,_,_,h | .dh ..,t,_,_,_,h | .fn ..,t,_,_,_,h
 | .cons ..,t,_,_,_,h | .nil,t,_,_,_,h | .vec ..,t,_,_,_,h | .sb _,t,_,_,_,h | .bx ..,t,_,_,_,h | .kO ..,t,_,_,_,h | .mp ..,t,_,_,_,h | .qd ..,t,_,_,_,h=>by cases t <;> simp only[oM,al]at h
theorem D4{v:aH}{t:Ty}{x:t.den}(h:(oM t v).eval=some x):v.iA=true:=by
 cases v <;> first | rfl | (cases t <;> simp only[oM,al]at h)
theorem va{E:Env}{v:aH}{y:Value}(hv:VS E v y){t:Ty}{x:t.den}(h:(oM t v).eval=some x):uc E t y x:=by
 obtain⟨cs,h1,h2⟩:=hv.iA (D4 h)
 obtain⟨h3,h4,_⟩:=xX v t x cs h1 h
 exact⟨cs,h3,by rw[<-h4];exact h2⟩
theorem tp{P:Program}{T K V':TypeId}{kt vt:Ty}(h:mapOf P T=some (K,V',kt,vt)):P.underlying T=some (.map K V')/\pK P depth K kt=true/\Gj P V' (.d vt vt.zero)=true:=by
 unfold mapOf at h
 split at h
 ·rename_i K0 V0 hT
  split at h
  ·split at h
   ·rename_i hc
    simp only[aE,eN]at h
    obtain⟨rfl,rfl,rfl,rfl⟩:=h
    rw[ak]at hc
    exact⟨hT,hc.1,hc.2⟩
   ·cases h
  ·cases h
 ·cases h
theorem GK{k v k' v':Ty}{l:List (k.den×v.den)}{l':List (k'.den×v'.den)}(h:IL k v k' v' l=some l'):∃(e1:k=k') (e2:v=v'),(e1▸e2▸l)=l':=by
 unfold IL at h
 split at h
 ·rename_i e;exact⟨e.1,e.2,by simpa using h⟩
 ·cases h
section
variable {P:Program} {C:Ctx} {g:Nat->od} {β:Id->Option Pl} {s:AS} {a:Act} {w:World} {o:Oper}
theorem sw(h:Inv C g β s a w){id:Id}{ver:Nat}{kt vt:Ty}{l:List (kt.den×vt.den)}(ho:(s.qf id ver kt vt).eval=some l){y:Value}(hv:VS (s.env w g β) (.kO id ver) y):
  ∃fr pl es clock,s.dx id=some (.obj ver fr (.mp kt vt l))/\β id=some pl/\y= .map (some pl.b)/\w.heap[pl.b]? =some (.map es clock)/\g pl.b= .own (.id id) 0/\Fb (s.env w g β) kt vt es.toList l/\nJ es.toList clock/\(l.map (·.1)).Nodup:=by
 unfold AS.qf at ho
 split at ho
 ·rename_i v fr k' v' l' nc
  obtain⟨R1,U2⟩:=aL.1 ho
  have R1:v=ver:=by simpa using R1
  obtain⟨rfl,rfl,rfl⟩:=GK (lF.1 U2)
  subst R1
  have eP:=gC nc
  obtain⟨pl,es,clock,h1,h2,h3,h4⟩:=h.da id v fr _ eP
  have hs:=hv.single rfl rfl
  simp only[V]at hs
  obtain⟨b,hb,_,hc⟩:=hs
  obtain⟨pl',h5,h6⟩:=hc ⟨fr,_,eP⟩
  have h1:β id=some pl:=h1
  have h5:β id=some pl':=h5
  rw[h1]at h5
  obtain rfl:pl=pl':=by simpa using h5
  refine⟨fr,pl,es,clock,eP,h1,?_,h2,h3,h4.1.1,h4.2,h4.1.2⟩
  have hb:y= .map (some b):=by simpa using hb
  rw[hb,h6]
 ·simp only[al]at ho
theorem FQ(h:Inv C g β s a w){T:TypeId}(fa:o.op= .makeMap T none){s':AS}(he:(wa P s o.dst T).eval=some s'):iY P o a w (kL C s'):=by
 unfold wa at he
 split at he
 ·rename_i K V' kt vt q hm hd
  obtain⟨hq,he⟩:=aL.1 he
  obtain rfl:=aB.1 he
  have ht:=Trans.alloc w g (.map #[] 0) (.own (.id (.new q 0)) 0)
  obtain⟨h1,h2⟩:=h.BU hq (c:= .mp kt vt []) (p:=some ⟨w.heap.size,0⟩) ht (λb hb=>⟨q9 w _ hb,jc _ _ _ (by omega)⟩) (λ_=>
   ⟨⟨w.heap.size,0⟩,#[],0,mE _ _ _,sC w _,ji _ _ _,⟨⟨[],trivial,jz _⟩,lE⟩,nJ.nil _⟩)
  refine .inl ⟨.map (some w.heap.size),w.alloc (.map #[] 0),?_,_,_,h1.put o.dst (v:= .kO (.new q 0) 0) ⟨[.map (some w.heap.size)],?_,rfl⟩⟩
  ·refine fS (f:=Instr.makeMap T none) (by simp only[execOp,fa];rfl) ?_
   simp[Instr.makeMap,run_newObj_alloc]
  ·simp only[V]
   exact⟨_,rfl,qb hq _ _ _ _,λ_=>⟨_,mE _ _ _,rfl⟩⟩
 ·simp only[al]at he
theorem uc.vs{E:Env}{t:Ty}{v:Value}{x:t.den}(h:uc E t v x):VS E (.d t x) v:=by
 obtain⟨cs,h1,h2⟩:=h
 exact⟨cs,by simpa only[V]using h1,h2⟩
theorem Hk(h:Inv C g β s a w){T:TypeId}{x i:Operand}{ok:Bool}(fa:o.op= .lookup T x i ok){v:aH}(he:(uY P s T (s.ev x) (s.ev i) ok).eval=some v):iY P o a w (kL C (s.put o.dst v)):=by
 unfold uY at he
 split at he
 ·rename_i K V' kt vt id ver hm hx
  obtain⟨l,h1,he⟩:=av.1 he
  obtain⟨k,h2,he⟩:=av.1 he
  obtain rfl:=aB.1 he
  obtain⟨hT,hK,hz⟩:=tp hm
  have Co:=h.ev x
  rw[hx]at Co
  obtain⟨fr,pl,es,clock,g1,g2,g3,g4,g5,g6,g7,gn⟩:=sw h h1 Co
  have xn:=sF depth K kt hK
  obtain⟨l0,g6,gp⟩:=g6
  rw[<-Jh xn gn gp]
  clear gn h1
  generalize l0=l at g6
  have hk:=va (h.ev i) h2
  have Nd:=nN (P:=P) (w:=w) es.isEmpty depth K kt hK 10000 (by decide) _ _ hk
  obtain⟨r,hf,hr⟩:=xJ (P:=P) (w:=w) hK hk g6
  obtain⟨iz,zv,z1,z2,z3,z4⟩:=qR hz (s.env w g β)
  have Ly:uc (s.env w g β) vt zv vt.zero:=⟨_,by simpa only[V]using z3,z4⟩
  have hzero:(zeroValue V').run P w= .ok zv w:=by simp[zeroValue,typeInfo,z1,z2]
  obtain⟨val,oY,sI⟩:∃val:Value×Bool,(Instr.lookup T (a.eval x) (a.eval i) ok).run P w= .ok (if ok then .tuple #[val.1,.bool val.2] else val.1) w/\uc (s.env w g β) vt val.1 ((fj kt k l).getD vt.zero)/\val.2=(fj kt k l).isSome:=by
   cases r with
   |none=>
    simp only at hr
    have hg:fj kt k l=none:=by simp[fj,hr]
    refine⟨(zv,false),?_,by rw[hg];exact Ly,by rw[hg];rfl⟩
    simp[Instr.lookup,run_underlying hT,g3,Go.MapKept.run_getObj_map g4,Nd,hf,hzero]
   |some u=>
    obtain⟨j,u⟩:=u
    obtain⟨e,m1,m2,rfl⟩:=hr
    obtain⟨p,m3,m4⟩:=g6.get m2
    have hg:fj kt k l=some p.2:=by simp[fj,m1,m3]
    refine⟨(e.val,true),?_,by rw[hg];exact m4.2,by rw[hg];rfl⟩
    simp[Instr.lookup,run_underlying hT,g3,Go.MapKept.run_getObj_map g4,Nd,hf]
  refine h.value (x:=if ok then .tuple #[val.1,.bool val.2] else val.1) ?_ (fS (f:=Instr.lookup T (a.eval x) (a.eval i) ok) (by simp only[execOp,fa]) oY)
  unfold QC
  cases ok with
  |true=>
   obtain⟨cs,c1,c2⟩:=sI.1
   refine⟨[val.1,.bool val.2],rfl,?_⟩
   simp only[VC]
   refine⟨_,_,cs,rfl,by simpa only[V]using c1,c2,_,_,[.bool val.2],rfl,?_,rfl,rfl⟩
   simp only[V,eY,sI.2]
  |false=>exact sI.1.vs
 ·simp only[al]at he
theorem Inv.Oi(h:Inv C g β s a w){id:Id}{ver:Nat}{fr:Bool}{kt vt:Ty}{l l':List (kt.den×vt.den)}{pl:Pl}{es es':Array MapEntry}{clock clock':Nat}(eP:s.dx id=some (.obj ver fr (.mp kt vt l)))(hp:β id=some pl)
  (hb:w.heap[pl.b]? =some (.map es clock)) (hg:g pl.b= .own (.id id) 0) (hr:Fb (s.env w g β) kt vt es'.toList l') (Ua:(l'.map (·.1)).Nodup) (TH:nJ es'.toList clock') (R0:s.qu id=true):
  Inv C g β (s.bM id (.obj ver false (.mp kt vt l'))) a {w with heap:=w.heap.setIfInBounds pl.b (.map es' clock')}:=by
 have mw:pl.b < w.heap.size:=(fu.1 hb).1
 have hother:∀b',b'≠pl.b->({w with heap:=w.heap.setIfInBounds pl.b (.map es' clock')}:World).heap[b']? =w.heap[b']? :=λb' lh=>by
  show(w.heap.setIfInBounds pl.b _)[b']? =_
  rw[iL,if_neg (λe=>lh e.symm)]
 have ht:Trans w {w with heap:=w.heap.setIfInBounds pl.b (.map es' clock')} g g:=by
  refine⟨rfl,rfl,⟨rfl,aC _⟩,by simp,λb' _=> ?_⟩
  by_cases he:b'=pl.b
  ·subst he
   rw[hg]
   exact⟨.inr ⟨id,0,rfl,aC _⟩,λ_ _ hh=>by omega⟩
  ·rw[hother b' he]
   cases Ck:g b' with
   |free=>exact⟨rfl,rfl⟩
   |own o' k=>cases o' with
    |iR=>exact⟨rfl,rfl⟩
    |id i'=>exact⟨.inr ⟨i',k,rfl,aC _⟩,λoff v _ hv=>by simpa only[World.cell?,hother b' he]using hv⟩
 have hle:dZ (s.env w g β) ((s.bM id (.obj ver false (.mp kt vt l'))).env {w with heap:=w.heap.setIfInBounds pl.b (.map es' clock')} g β):=dZ.bM eP (aC _) ht (λ_ _=>rfl) (λ_=>rfl)
 refine h.step (fi _ _ _) ht hle (lO.bM h.da (by rw[eP];simp) hle (λ_ _=>rfl) (λi ver fr c pl2 hi DN It=>⟨hother _ (h.apart hg hi DN It),rfl⟩) ?_ (by obtain rfl:=wH eP R0;exact By eP))
 refine⟨pl,es',clock',hp,?_,hg,⟨hr.mono hle.mem,Ua⟩,TH⟩
 show(w.heap.setIfInBounds pl.b _)[pl.b]? =_
 rw[iL,if_pos rfl,if_pos mw]
theorem Hr(h:Inv C g β s a w){T:TypeId}{m k x:Operand}(fa:o.op= .mapUpdate T m k x){s':AS}(he:(u6 P s T (s.ev m) (s.ev k) (s.ev x)).eval=some s'):iY P o a w (kL C (s'.put o.dst .undef)):=by
 unfold u6 at he
 split at he
 ·rename_i K V' kt vt id ver hm hx
  obtain⟨l,h1,he⟩:=av.1 he
  obtain⟨kx,h2,he⟩:=av.1 he
  obtain⟨vx,h3,he⟩:=av.1 he
  obtain⟨R0,he⟩:=aL.1 he
  obtain rfl:=aB.1 he
  obtain⟨hT,hK,_⟩:=tp hm
  have Co:=h.ev m
  rw[hx]at Co
  obtain⟨fr,pl,es,clock,g1,g2,g3,g4,g5,g6,g7,gn⟩:=sw h h1 Co
  obtain⟨l0,g6,gp⟩:=g6
  have hk:=va (h.ev k) h2
  have hv:=va (h.ev x) h3
  have Nd:=nN (P:=P) (w:=w) false depth K kt hK 10000 (by decide) _ _ hk
  obtain⟨r,hf,hr⟩:=xJ (P:=P) (w:=w) hK hk g6
  have xn:=sF depth K kt hK
  have fin:∀(es':Array MapEntry) (clock':Nat),(Instr.mapUpdate T (a.eval m) (a.eval k) (a.eval x)).run P w= .ok () {w with heap:=w.heap.setIfInBounds pl.b (.map es' clock')}->Alike (uG (s.env w g β) kt vt) es'.toList (lu kt kx vx l0)->nJ es'.toList clock'->
    iY P o a w (kL C ((s.bM id (.obj ver false (.mp kt vt (lu kt kx vx l)))).put o.dst .undef)):=λes' clock' oY Ph TH=>
   .inr (.inl ⟨_,Eu (f:=Instr.mapUpdate T (a.eval m) (a.eval k) (a.eval x)) (by simp only[execOp,fa]) oY,g,β,(h.Oi g1 g2 g4 g5 ⟨_,Ph,Ji xn gn gp⟩ (AP xn gn) TH R0).put o.dst VS.undef⟩)
  cases r with
  |none=>
   simp only at hr
   refine fin (es.push {key:=a.eval k,val:=a.eval x,born:=clock}) (clock+1) ?_ ?_ (by rw[Array.toList_push];exact g7.push rfl)
   ·simp[Instr.mapUpdate,run_underlying hT,g3,Go.MapKept.run_getObj_map g4,Nd,hf,Go.MapKept.run_setObj_map _ g4]
   ·simp only[lu,hr,Array.toList_push]
    exact g6.push ⟨hk,hv⟩
  |some u=>
   obtain⟨j,u⟩:=u
   obtain⟨e,m1,m2,rfl⟩:=hr
   obtain⟨p,m3,m4⟩:=g6.get m2
   have RA:kt.beq kx p.1=true:=by
    have:∀(l:List (kt.den×vt.den)) (j:Nat),kD kt kx l=some j->∀p,l[j]? =some p->kt.beq kx p.1=true:=by
     intro l
     induction l with
     |nil=>intro j hj;simp[kD]at hj
     |cons q l ih=>
      intro j hj p hp
      simp only[kD]at hj
      cases hb:kt.beq kx q.1 with
      |true=>
       rw[hb]at hj
       simp only[aE]at hj
       subst hj
       simp at hp
       subst hp
       exact hb
      |false=>
       rw[hb]at hj
       simp only[iG]at hj
       obtain⟨j',hj',rfl⟩:=hj
       exact ih j' hj' p (by simpa using hp)
    exact this l0 j m1 p m3
   have Wr:=beq_eq kt kx p.1 xn RA
   have VM:e.key=a.eval k:=uc.Re xn (Wr▸m4.1) hk
   have m2':es[j]? =some e:=by simpa using m2
   refine fin (es.modify j λe=> {e with key:=a.eval k,val:=a.eval x}) clock ?_ ?_ (by rw[Array.toList_modify,Go.ChangeMaps.modify_eq_set _ _ _ _ m2];exact g7.set m2 rfl)
   ·simp[Instr.mapUpdate,run_underlying hT,g3,Go.MapKept.run_getObj_map g4,Nd,hf,m2',VM,L4 xn hk,Go.MapKept.run_setObj_map _ g4]
   ·simp only[lu,m1,Array.toList_modify]
    rw[Go.ChangeMaps.modify_eq_set _ _ _ _ m2]
    exact Alike.set (R:=uG (s.env w g β) kt vt) ⟨hk,hv⟩ j g6
 ·simp only[al]at he
end
end Go.Ab
namespace Go.Ab
section
variable {P:Program} {C:Ctx} {g:Nat->od} {β:Id->Option Pl} {s:AS} {a:Act} {w:World} {o:Oper}
theorem tD{b:Builtin}{args:Array Operand}{ts:Array TypeId}{f:Sem Value}{x:Value}{w':World}(ho:o.op= .call {callee:= .builtin b,args,argTypes:=ts})
  (hb:∀ty cs xs,xs=args.map a.eval->builtin b ts ty cs xs=(do pure (.value (<-f)))) (hf:f.run P w= .ok x w'):(execOp a.eval o).run P w= .ok (.value x) w':=by
 simp only[execOp,ho,resolve,Sem.run_bind,Sem.run_pure,Result.andThen_ok,invoke]
 rw[hb _ _ _ rfl,Sem.run_bind,hf]
 rfl
theorem Nx(h:Inv C g β s a w){c:Call}{x:Operand}{T:TypeId}(ho:o.op= .call c)(hc:c.callee= .builtin .len)(ha:c.args.toList=[x])(ht:c.argTypes.toList=[T]){v:aH}(he:(PG P T (s.ev x)).eval=some v):
  iY P o a w (kL C (s.put o.dst v)):=by
 obtain⟨cal,args,tys⟩:=c
 simp only at hc ha ht
 have ha':args= #[x]:=by apply jW;simpa using ha
 have ht':tys= #[T]:=by apply jW;simpa using ht
 subst hc ha' ht'
 have hx:=h.ev x
 have fin:∀z,(Builtin.len_ #[T] 0 #[a.eval x]).run P w= .ok z w->VS (s.env w g β) v z->iY P o a w (kL C (s.put o.dst v)):=by
  intro z h1 h2
  refine h.value h2 (tD ho (f:=Builtin.len_ #[T] 0 #[a.eval x]) (λty cs xs Iv=> ?_) h1)
  subst Iv
  have e1:Builtin.len_ #[T] 0 #[a.eval x]=Builtin.len_ #[T] ty #[a.eval x]:=rfl
  rw[e1]
  simp[builtin]
 unfold PG at he
 split at he
 ·rename_i st hT hl
  rw[hl]at hx
  obtain rfl:=aB.1 he
  refine fin (.int .i64 (st.size:Int)) ?_ (mQ _ _)
  rw[wC hx]
  simp[Builtin.len_,run_underlying hT,goInt]
 ·rename_i e t l hT hl
  rw[hl]at hx
  obtain rfl:=aB.1 he
  obtain⟨ad,cap,vs,hy,_⟩:=qq hx
  refine fin (.int .i64 (l.length:Int)) ?_ (mQ _ _)
  rw[hy]
  simp[Builtin.len_,run_underlying hT,goInt]
 ·rename_i e hT hl
  rw[hl]at hx
  obtain rfl:=aB.1 he
  refine fin (.int .i64 0) ?_ (mQ _ _)
  rw[l5 hx]
  simp[Builtin.len_,run_underlying hT,goInt]
 ·rename_i e id ver p c i len hT hl
  rw[hl]at hx
  obtain rfl:=aB.1 he
  obtain⟨ad,cap,hy,_⟩:=pf hx
  refine fin (.int .i64 (len:Int)) ?_ (mQ _ _)
  rw[hy]
  simp[Builtin.len_,run_underlying hT,goInt]
 ·rename_i n e hT
  obtain rfl:=aB.1 he
  refine fin (.int .i64 (n:Int)) ?_ (mQ _ _)
  simp[Builtin.len_,run_underlying hT,goInt]
 ·simp only[al]at he
def Env.open(E:Env):Env:= {E with g:=λ_=> .free}
theorem PT(E:Env):dZ E E.open:=⟨⟨λ_ _ _ h=>⟨h.1,trivial⟩,λ_ _ _ h=>⟨rfl,h⟩⟩,λ_ _ h=>h,λ_ _ _ h=>⟨h,rfl⟩⟩
theorem Jp(h:Inv C g β s a w){v:aH}{y:Value}(hv:VS (s.env w g β) v y){t:Ty}{x:t.den}(ht:(s.Jo t v).eval=some x):
  ∃cs,eY (s.env w g β).open t cs x/\jI t.agg cs y:=by
 obtain⟨cs,hV,hO⟩:=hv.iA (tx ht)
 exact⟨cs,rG rfl h.da (PT _) v t x cs hV ht (λid _ v fr c _ pl _ j x hx _=>⟨hx,trivial⟩),by rw[<-Dm ht];exact hO⟩
theorem ra{E:Env}{k:IntKind}:∀ {vs:List Value} {l:List Int},cg (eY E (.int k)) vs l->vs=l.map (Value.int k)
 |vs,[],h=>h
 |_,x::xs,⟨c,cs',e,hx,hr⟩=>by
  have hx':c=[Value.int k x]:=by simpa only[eY]using hx
  rw[e,hx',ra hr]
  rfl
theorem re{E:Env}{k:IntKind}:∀(l:List Int),cg (eY E (.int k)) (l.map (Value.int k)) l
 |[]=>rfl
 |x::xs=>⟨[.int k x],xs.map (Value.int k),rfl,by simp[eY],re xs⟩
theorem foldl_push(l:List Int):∀b:ByteArray,l.foldl (λr n=>r.push (UInt8.ofNat n.toNat)) b=⟨b.data++(l.map λn=>UInt8.ofNat n.toNat).toArray⟩:=by
 induction l with
 |nil=>intro b;simp
 |cons n l ih=>
  intro b
  rw[iv,ih]
  simp[ByteArray.push]
theorem HW{α:Type}(xs:Array α)(x:α)(f:α->α):(xs.push x).modify xs.size f=xs.push (f x):=by
 apply Array.ext_getElem?
 intro i
 rw[lJ,Array.getElem?_push,Array.getElem?_push]
 by_cases h:i=xs.size
 ·subst h;simp
 ·have h':¬xs.size=i:=λe=>h e.symm
  simp[h,h']
theorem Fw(w:World)(c:Array Value)(e:TypeId)(n:Nat):(w.alloc (.cells c e)).freeze ⟨w.heap.size,n,none⟩ 1=w.alloc (.cells c e (n,n+1)):=by
 show({w with heap:=(w.heap.push (.cells c e)).modify w.heap.size _}:World)= {w with heap:=w.heap.push (.cells c e (n,n+1))}
 rw[HW]
 rfl
theorem GX{w:World}{b:Nat}{c:Array Value}{e:TypeId}{n:Nat}(h:w.heap[b]? =some (.cells c e (n,n+1))):w.freeze ⟨b,n,none⟩ 1=w:=by
 unfold World.freeze
 rw[if_neg (by omega)]
 have:∀f:Obj->Obj,f (.cells c e (n,n+1))= .cells c e (n,n+1)->w.heap.modify b f=w.heap:=λf hf=>by
  apply Array.ext_getElem?
  intro i
  rw[lJ]
  split
  ·rename_i hi;subst hi;rw[h];simp[hf]
  ·rfl
 rw[this]
 simp
theorem y6(e:TypeId)(st:ByteArray)(w:World):∃cap:Nat,st.size<=cap/\∃arr:Array Value,(∀(j:Nat) (v:Value),((cr st).map (Value.int .u8))[j]? =some v->arr[j]? =some v)/\
  (Conv.stringToBytes e st).run P w= .ok (.slice (some ⟨w.heap.size,0,none⟩) st.size cap) (w.drew.alloc (.cells arr e (arr.size,arr.size+1))):=by
 refine⟨(Question.appendCap st.size 0 e).cut (w.tape w.drawn (.appendCap st.size 0 e)),by simp[Question.cut],
  (st.data.map λb=>Value.int .u8 b.toNat)++Array.replicate ((Question.appendCap st.size 0 e).cut (w.tape w.drawn (.appendCap st.size 0 e)) - st.size) (.int .u8 0),?_,?_⟩
 ·intro j v hj
  have hl:j < st.data.size:=by
   have:=(fE.1 hj).1
   simpa[cr]using this
  rw[Array.getElem?_append,if_pos (by simpa using hl)]
  simpa[cr,hl]using hj
 ·have hs:∀(arr:Array Value),(markStringish ⟨w.heap.size,0,none⟩).run P (w.drew.alloc (.cells arr e))= .ok () (w.drew.alloc (.cells arr e (arr.size,arr.size+1))):=by
   intro arr
   have h1:(w.drew.alloc (.cells arr e)).shape? w.heap.size=some (e,arr.size):=by
    have h2:(w.drew.alloc (.cells arr e)).heap[w.heap.size]? =some (.cells arr e):=sC w.drew _
    simp only[World.shape?,h2]
   have h3:=Fw w.drew arr e arr.size
   have h4:w.drew.heap.size=w.heap.size:=rfl
   rw[h4]at h3
   simp only[markStringish,Sem.run_bind,run_shape,h1,Result.andThen_ok,run_freeze,h3]
  simp[Conv.stringToBytes,Question.forced,newRow,hs]
theorem Inv.kill(h:Inv C g β s a w){id:Id}{v:Nat}{fr:Bool}{c:aH}(hs:s.dx id=some (.obj v fr c)){b:Nat}(hg:g b= .own (.id id) 0){w':World}(S0:w'.os=w.os)(YF:w'.tape=w.tape)(FE:w'.output=w.output/\w.drawn<=w'.drawn)(rM:w'.heap.size=w.heap.size)
  (DM:∀b',b'≠b->w'.heap[b']? =w.heap[b']?):Inv C (oQ g b .free) β (s.bM id .dead) a w':=by
 have ht:Trans w w' g (oQ g b .free):=by
  refine⟨S0,YF,FE,by omega,λb' hb'=> ?_⟩
  by_cases he:b'=b
  ·subst he
   rw[hg,ji]
   exact⟨.inl rfl,λ_ _ hh=>by omega⟩
  ·rw[jc _ _ _ he,DM b' he]
   cases Ck:g b' with
   |free=>exact⟨rfl,rfl⟩
   |own o k=>cases o with
    |iR=>exact⟨rfl,rfl⟩
    |id i=>exact⟨.inr ⟨i,k,rfl,aC _⟩,λoff v _ hv=>by simp only[World.cell?,DM b' he]at hv ⊢;exact hv⟩
 have nR:=gI s id .dead (by rw[hs];simp)
 have hle:dZ (s.env w g β) ((s.bM id .dead).env w' (oQ g b .free) β):=by
  refine⟨Trans.mem ht,λi ver hb=> ?_,λi ver hb hc=> ?_⟩
  ·by_cases hi:i=id
   ·subst hi
    exact⟨by show(s.bM i .dead).dx i≠none;rw[nR];simp,λv fr c hh=>by
     have hh:(s.bM i .dead).dx i=some (.obj v fr c):=hh
     rw[nR]at hh;cases hh⟩
   ·have:=dV s id i .dead hi
    obtain⟨h1,h2⟩:=hb
    exact⟨by show(s.bM id .dead).dx i≠none;rw[this];exact h1,λv fr c hh=>h2 v fr c (this.symm.trans hh)⟩
  ·obtain⟨fr,c,hc⟩:=hc
   have hc:(s.bM id .dead).dx i=some (.obj ver fr c):=hc
   by_cases hi:i=id
   ·subst hi;rw[nR]at hc;cases hc
   ·rw[dV s id i .dead hi]at hc
    exact⟨⟨fr,c,hc⟩,rfl⟩
 refine h.step (fi _ _ _) ht hle λi ver fr c hi=> ?_
 have hi:(s.bM id .dead).dx i=some (.obj ver fr c):=hi
 by_cases eZ:i=id
 ·subst eZ;rw[nR]at hi;cases hi
 ·rw[dV s id i .dead eZ]at hi
  refine(h.da i ver fr c hi).mono hle rfl (λpl hp=> ?_) λq2 vq k2 v2 l2 Bj X2=> ?_
  ·have lh:=h.apart hg eZ hi (pl:=pl) hp
   exact⟨DM pl.b lh,jc _ _ _ lh⟩
  ·have Bj:s.dx q2=some (.obj vq true (.mp k2 v2 l2)):=Bj
   have hd:q2≠id:=λe=>by
    obtain⟨fr3,c3,UR⟩:=X2
    have UR:(s.bM id .dead).dx q2=some (.obj vq fr3 c3):=UR
    rw[e,nR]at UR
    cases UR
   refine⟨⟨k2,v2,l2,by show(s.bM id .dead).dx q2=_;rw[dV s id q2 .dead hd];exact Bj⟩,λpl hp=> ?_⟩
   have lh:=h.apart hg hd Bj (pl:=pl) hp
   exact⟨DM pl.b lh,jc _ _ _ lh⟩
theorem IN(h:Inv C g β s a w){src dst:TypeId}{x:Operand}(ho:o.op= .convert src dst x){id:Id}{ver len:Nat}(hx:s.ev x= .dh id ver [] 0 0 len){s':AS}(he:(GO P s o.dst src dst id ver len).eval=some s'):iY P o a w (kL C s'):=by
 unfold GO at he
 split at he
 ·rename_i v e0 l e nc hD
  split at he
  ·rename_i hE
   obtain⟨h1,h2⟩:=aL.1 he
   obtain⟨h3,h4⟩:=cW.1 h2
   obtain rfl:=aB.1 h4
   simp only[ak,beq_iff_eq]at h1
   obtain⟨rfl,rfl⟩:=h1
   simp only[decide_eq_true_eq]at h3
   obtain⟨h5,h6⟩:=h3
   have eP:=gC nc
   have hv:=h.ev x
   rw[hx]at hv
   obtain⟨ad,cap,hy,zL,_,_,jt⟩:=pf hv
   have jt:=jt ⟨false,_,eP⟩
   have hO:rI (s.env w g β) id false (.vec e0 (.int .u8) l):=h.da id v false _ eP
   obtain⟨hz,hO⟩:=hO
   have hO:(match β id with
    |none=>l=[]
    |some pl=>∃cur k,w.heap[pl.b]? =some (.cells cur e0 (0,0))/\cur.size=pl.cap*(Ty.int .u8).size/\l.length<=pl.cap/\pl.cap<=maxLen/\g pl.b= .own (.id id) k/\
      k<=l.length*(Ty.int .u8).size/\(false=false->k=0)/\cg (eY (s.env w g β) (.int .u8)) (cur.toList.take (l.length*(Ty.int .u8).size)) l):=hO
   have jt:(match β id with
    |some pl=>(0 < len\/0=0->ad=some ⟨pl.b,0,none⟩)/\(([]:List xy)=[]->0=0->cap=pl.cap)
    |none=>ad=none/\len=0/\cap=0):=jt
   cases hp:β id with
   |none=>rw[hp]at hO;simp only at hO;subst hO;simp at h6;omega
   |some pl=>
    rw[hp]at hO jt
    obtain⟨cur,k,q1,q2,q3,q4,q5,q6,q7,q8⟩:=hO
    have hk:=q7 rfl
    subst hk
    have Lr:=jt.1 (.inr rfl)
    subst Lr
    have hb:pl.b < w.heap.size:=(fu.1 q1).1
    have TW:∃w',w.freeze ⟨pl.b,cur.size,none⟩ 1=w'/\w'.heap[pl.b]? =some (.cells cur e0 (cur.size,cur.size+1))/\w'.os=w.os/\w'.tape=w.tape/\(w'.output=w.output/\w.drawn<=w'.drawn)/\w'.heap.size=w.heap.size/\∀b',b'≠pl.b->w'.heap[b']? =w.heap[b']? :=by
     refine⟨_,rfl,?_⟩
     unfold World.freeze
     rw[if_neg (by omega)]
     refine⟨?_,rfl,rfl,⟨rfl,aC _⟩,by simp,λb' hb'=> ?_⟩
     ·simp only[lJ,if_true,q1,jd]
      rfl
     ·simp only[lJ]
      rw[if_neg (λe=>hb' e.symm)]
    obtain⟨w',hw',f1,f2,f3,f4,f5,f6⟩:=TW
    have I4:w.shape? pl.b=some (e0,cur.size):=by simp only[World.shape?,q1]
    have hm:(markStringish ⟨pl.b,0,none⟩).run P w= .ok () w':=by
     simp only[markStringish,Sem.run_bind,run_shape,I4,Result.andThen_ok,run_freeze,hw']
    have i1:=h.kill eP q5 f2 f3 f4 f5 f6
    refine .inl ⟨.slice (some ⟨pl.b,0,none⟩) len cap,w',fS (f:=convert src src (a.eval x)) (by simp only[execOp,ho]) ?_,_,β,i1.put o.dst ⟨_,?_,rfl⟩⟩
    ·rw[hy]
     simp[convert,run_underlying hD,run_underlying hE,hm]
    ·have Cn:=ra q8
     have Nj:(Ty.int .u8).size=1:=rfl
     rw[Nj,kb]at Cn
     simp only[V,eY]
     refine⟨_,cap,l.map (Value.int .u8),by rw[h6],by rw[<-h6];exact zL,λ_=>rfl,λj vv hj=>⟨_,_,rfl,?_,?_⟩,re (E:=(s.bM id .dead).env w' (oQ g pl.b .free) β) _⟩
     ·rw[bl]
      show w'.cell? ⟨pl.b,j,none⟩=some vv
      simp only[World.cell?,f1]
      rw[<-Cn,fv]at hj
      split at hj
      ·simpa using hj
      ·cases hj
     ·show rq (oQ g pl.b .free) pl.b (0+j)
      unfold rq
      rw[ji]
      trivial
  ·simp only[al]at he
 ·simp only[al]at he
theorem O4(h:Inv C g β s a w){src dst:TypeId}{x:Operand}(ho:o.op= .convert src dst x){l:List Int}(hl:s.ev x= .sb l){v:aH}(he:(MT P src dst l).eval=some v):iY P o a w (kL C (s.put o.dst v)):=by
 have hx:=h.ev x
 have fin:∀z,(convert src dst (a.eval x)).run P w= .ok z w->VS (s.env w g β) v z->iY P o a w (kL C (s.put o.dst v)):=by
  intro z h1 h2
  exact h.value h2 (fS (f:=convert src dst (a.eval x)) (by simp only[execOp,ho]) h1)
 unfold MT at he
 split at he
 ·rename_i e e' hD hS
  rw[hl]at hx
  split at he
  ·rename_i hE
   obtain⟨h1,h2⟩:=aL.1 he
   obtain rfl:=aB.1 h2
   have h1:src=dst:=by simpa using h1
   subst h1
   obtain⟨cs,hv,hO⟩:=hx
   simp only[V]at hv
   obtain⟨b,cap,arr,e2,Lt,zL,RH,hb,I0⟩:=hv
   have hO':cs=[a.eval x]:=hO
   rw[Lt]at hO'
   have hy:a.eval x= .slice (some ⟨b,0,none⟩) l.length cap:=by simpa using hO'.symm
   rw[hD]at hS
   obtain rfl:e=e':=by simpa using hS
   refine fin (.slice (some ⟨b,0,none⟩) l.length cap) ?_ ⟨_,?_,rfl⟩
   ·rw[hy]
    have hb:w.heap[b]? =some (.cells arr e2 (arr.size,arr.size+1)):=hb
    have TW:=GX hb
    have I4:w.shape? b=some (e2,arr.size):=by simp only[World.shape?,hb]
    have hm:(markStringish ⟨b,0,none⟩).run P w= .ok () w:=by
     simp only[markStringish,Sem.run_bind,run_shape,I4,Result.andThen_ok,run_freeze,TW]
    simp[convert,run_underlying hD,run_underlying hE,hm]
   ·simp only[V,eY]
    refine⟨_,cap,l.map (Value.int .u8),rfl,zL,λ_=>rfl,λj v hj=>⟨_,_,rfl,?_,?_⟩,re (E:=s.env w g β) _⟩
    ·rw[bl]
     show w.cell? ⟨b,j,none⟩=some v
     have hb:w.heap[b]? =some (.cells arr e2 (arr.size,arr.size+1)):=hb
     simp only[World.cell?,hb]
     simpa using I0 j v hj
    ·show rq g b (0+j)
     unfold rq
     have RH:g b= .free:=RH
     rw[RH]
     trivial
  ·simp only[al]at he
 ·simp only[al]at he
theorem Fl(h:Inv C g β s a w){obj:Bool}{src dst:TypeId}{x:Operand}(ho:o.op= .convert src dst x){v:aH}(he:(Es P s obj src dst (s.ev x)).eval=some v):iY P o a w (kL C (s.put o.dst v)):=by
 have hx:=h.ev x
 have fin:∀z,(convert src dst (a.eval x)).run P w= .ok z w->VS (s.env w g β) v z->iY P o a w (kL C (s.put o.dst v)):=by
  intro z h1 h2
  exact h.value h2 (fS (f:=convert src dst (a.eval x)) (by simp only[execOp,ho]) h1)
 unfold Es at he
 split at he
 ·rename_i l hl
  exact O4 h ho hl he
 rename_i T5
 unfold MS at he
 split at he
 ·rename_i k n k' d hl hD hS
  rw[hl]at hx
  obtain rfl:=aB.1 he
  refine fin (.int k' (k'.wrap n)) ?_ (mQ _ _)
  rw[tP hx]
  simp[convert,run_underlying hD,run_underlying hS,Conv.intToInt]
 ·rename_i st d hl hD hS
  rw[hl]at hx
  obtain rfl:=aB.1 he
  refine fin (.string st) ?_ (Fc _)
  rw[wC hx]
  simp[convert,run_underlying hD,run_underlying hS]
 ·rename_i st e d hl hD hS
  rw[hl]at hx
  split at he
  ·rename_i hE
   obtain⟨cap,zL,arr,I0,oY⟩:=y6 (P:=P) e st w
   have i1:=(h.drew).wK (.cells arr e (arr.size,arr.size+1))
   have hlen:(cr st).length=st.size:=by simp only[cr,b8,eg];rfl
   have h2:=sC w.drew (.cells arr e (arr.size,arr.size+1))
   have hex:(execOp a.eval o).run P w= .ok (.value (.slice (some ⟨w.heap.size,0,none⟩) st.size cap)) (w.drew.alloc (.cells arr e (arr.size,arr.size+1))):=by
    refine fS (f:=convert src dst (a.eval x)) (by simp only[execOp,ho]) ?_
    rw[wC hx]
    simp[convert,run_underlying hD,run_underlying hS,run_underlying hE,oY]
   have Kd:oQ g w.drew.heap.size .free w.heap.size= .free:=by
    rw[show w.drew.heap.size=w.heap.size from rfl,ji]
   cases obj with
   |false=>
    obtain rfl:=aB.1 he
    refine .inl ⟨_,_,hex,_,β,i1.put o.dst ⟨_,?_,rfl⟩⟩
    simp only[V,eY]
    refine⟨_,cap,(cr st).map (Value.int .u8),by rw[hlen],by omega,λ_=>rfl,λj v hj=>⟨_,_,rfl,?_,?_⟩,re (E:=s.env (w.drew.alloc (.cells arr e (arr.size,arr.size+1))) (oQ g w.drew.heap.size .free) β) _⟩
    ·have:=I0 j v hj
     rw[bl]
     show(w.drew.alloc (.cells arr e (arr.size,arr.size+1))).cell? ⟨w.drew.heap.size,j,none⟩=some v
     simp only[World.cell?,h2]
     simpa using this
    ·show rq (oQ g w.drew.heap.size .free) w.heap.size (0+j)
     unfold rq
     rw[Kd]
     trivial
   |true=>
    obtain rfl:=aB.1 he
    refine .inl ⟨_,_,hex,_,β,i1.put o.dst ⟨_,?_,rfl⟩⟩
    simp only[V]
    exact⟨w.heap.size,cap,arr,e,by rw[hlen],by omega,Kd,h2,I0⟩
  ·simp only[al]at he
 ·rename_i e hD hS lh
  clear lh
  split at he
  ·rename_i hE
   obtain⟨l,h1,h2⟩:=av.1 he
   obtain rfl:=aB.1 h2
   obtain⟨cs,hR,hO⟩:=Jp h hx h1
   simp only[eY]at hR
   obtain⟨ad,cap,vs,rfl,Nf,oZ,my,fI⟩:=hR
   have hO': [Value.slice ad (List.length l) cap]=[a.eval x]:=hO
   have hy:a.eval x= .slice ad (List.length l) cap:=by simpa using hO'.symm
   refine fin (.string (kC l)) ?_ (Fc _)
   rw[hy,run_convert_bytes_string w src dst e ad _ _ hS hE hD]
   have Cn:=ra (E:=(s.env w g β).open) (k:= .u8) (vs:=vs) (l:=l) fI
   cases ad with
   |none=>
    have T5:l=[]:=by
     cases l with
     |nil=>rfl
     |cons _ _=>simp at oZ
    subst T5
    rfl
   |some ad=>
    have Ng:(loadCells ad (List.length l)).run P w= .ok (l.map (Value.int .u8)).toArray w:=by
     have:=run_loadCells_list (P:=P) w ad (l.map (Value.int .u8)) (λj v hj=>by
      rw[<-Cn]at hj
      obtain⟨bb,off,e1,hh⟩:=my j v hj
      simp only[aE]at e1
      subst e1
      rw[Addr.add_lit]
      exact hh.1)
     simpa using this
    rw[run_bytesToString w ad _ _ l Ng,foldl_push]
    simp[kC]
  ·simp only[al]at he
 ·simp only[al]at he
end
end Go.Ab
namespace Go.Ab
section
variable {P:Program} {C:Ctx} {g:Nat->od} {β:Id->Option Pl} {s:AS} {a:Act} {w:World} {o:Oper}
theorem Ew(off:Nat):∀(vs:List Value) (k:Nat) (cells:Array Value),off+k+vs.length<=cells.size->
  ((vs.zipIdx k).foldl (λcs (c,j)=>cs.setIfInBounds (off+j) c) cells).toList=fo cells.toList (off+k) vs
 |[],k,cells,_=>by simp[fo]
 |v::vs,k,cells,h=>by
  simp only[aN]at h
  rw[List.zipIdx_cons,iv,Ew off vs (k+1) _ (by simpa using(by omega:off+(k+1)+vs.length<=cells.size))]
  rw[Array.toList_setIfInBounds]
  have:=list_seg_step cells.toList (off+k) v vs (by simp;omega)
  unfold fo
  simpa[gY]using this
theorem Ev{place:Nat->Option (Nat×Nat)}{cells:Array Value}{i off:Nat}{v:Value}{vs:List Value}{rest:List (Nat×Value)}(hp:place i=some (off,vs.length))(hv:v.cells=vs.toArray)(hl:off+vs.length<=cells.size):
  Instr.fill place cells ((i,v)::rest)=Instr.fill place (fo cells.toList off vs).toArray rest:=by
 have h1:v.cells.size=vs.length:=by rw[hv];simp
 have h2:¬(v.cells.size≠vs.length || off+v.cells.size > cells.size)=true:=by simp[h1];omega
 simp only[Instr.fill,hp]
 rw[if_neg h2]
 congr 1
 apply jW
 have:=Ew off vs 0 cells (by omega)
 simp only[dE]at this
 rw[<-this,hv]
 rw[<-Array.foldl_toList]
 simp
theorem tW{E E':Env}(hs:E.s=s.dx)(ho:lO E)(he:dZ E E'){t:Ty}(Qi:∀x,VS E (s.ev x) (a.eval x)):
  ∀(ps:List (Nat×Operand)) (l:List t.den) (r:List t.den×List Id) (cells:Array Value),(ld t s ps l).eval=some r->Tb E E' r.2->cg (eY E' t) cells.toList l->
   ∃cells',Instr.fill (λi=>some (i*t.size,t.size)) cells (ps.map λ(i,x)=>(i,a.eval x))=some cells'/\cg (eY E' t) cells'.toList r.1
 |[],l,r,cells,h,_,hc=>by
  obtain rfl:=aB.1 h
  exact⟨cells,rfl,hc⟩
 | (i,x)::ps,l,r,cells,h,hf,hc=>by
  simp only[ld]at h
  obtain⟨h1,h2⟩:=aL.1 h
  obtain⟨y,h3,h4⟩:=av.1 h2
  obtain⟨r',h5,h6⟩:=av.1 h4
  obtain rfl:=aB.1 h6
  have hi:i < l.length:=by simpa using h1
  obtain⟨cs,hV,hO⟩:=(Qi x).iA (tx h3)
  have hR:=rG hs ho he _ t y cs hV h3 (λid eZ=>hf id (by simp[eZ]))
  have yA:=hO.cells hV.one
  have hlen:=hc.length (λ_ _ hx=>eY.size hx)
  have rM:=hR.size
  have hle:i*t.size+cs.length<=cells.size:=by
   have:=eR t.size (show i+1<=l.length by omega)
   rw[gN,kK]at this
   simp at hlen
   omega
  have FF:=cg.set (λ_ _ hx=>eY.size hx) hc i hi hR
  obtain⟨cells',q1,q2⟩:=tW hs ho he Qi ps (l.set i y) r' (fo cells.toList (i*t.size) cs).toArray h5 (λid eZ=>hf id (by simp[eZ])) FF
  refine⟨cells',?_,q2⟩
  rw[cG,Ev (by rw[rM]) yA hle]
  exact q1
theorem qo{E:Env}{t:Ty}{zc:Array Value}(hz:eY E t zc.toList t.zero):∀n:Nat,cg (eY E t) (madeCells zc (n*t.size)).toList (List.replicate n t.zero):=by
 have rM:zc.size=t.size:=by have:=hz.size;simpa using this
 intro n
 induction n with
 |zero=>simp[madeCells,cg]
 |succ n ih=>
  have e:(madeCells zc ((n+1)*t.size)).toList=(madeCells zc (n*t.size)).toList++zc.toList:=by
   apply List.ext_getElem?
   intro j
   rw[gN,kK]
   simp only[madeCells,Array.toList_map,Array.toList_range,jY,List.getElem?_append,b8,List.length_range]
   by_cases hj:j < n*t.size
   ·have hj':j < n*t.size+t.size:=by omega
    simp[hj,hj',rM]
   ·by_cases hj':j < n*t.size+t.size
    ·have mw:j - n*t.size < zc.size:=by omega
     have hm:j%t.size=j - n*t.size:=by
      have:j=(j - n*t.size)+t.size*n:=by rw[Nat.mul_comm t.size n];omega
      rw[this,Nat.add_mul_mod_self_left,oq (by omega)]
      rw[Nat.mul_comm t.size n];omega
     simp[hj,hj',rM,hm]
     rw[getElem?_pos zc _ mw,getElem!_pos zc _ mw]
    ·have h1:¬j - n*t.size < zc.size:=by omega
     simp[hj,hj',h1]
  rw[e,List.replicate_succ']
  exact cg.append ih (cg.one hz)
theorem oW{nl:Bool}{T:TypeId}{e:TypeId}{t:Ty}{b:Nat}(h:uR P nl T=some (e,t,b)):
  P.underlying T=some (.slice e)/\0 < t.size/\∃i zv,P.info? e=some i/\i.size=t.size/\i.bytes=b/\i.zero=some zv/\∀E,eY E t zv.cells.toList t.zero:=by
 unfold uR at h
 split at h
 ·rename_i e' hT
  split at h
  ·rename_i t' ht
   split at h
   ·rename_i hg
    simp only[aE,eN]at h
    obtain⟨rfl,rfl,rfl⟩:=h
    simp only[ak,dI,beq_iff_eq,beq_eq_false_iff_ne]at hg
    obtain⟨⟨h1,h2⟩,h3⟩:=hg
    obtain⟨i,zv,hi,hz,_,_⟩:=qR h3 {w:=default,g:=λ_=> .free,β:=λ_=>none,s:=λ_=>none}
    refine⟨hT,by omega,i,zv,hi,by rw[<-mS hi];exact h1,by simp[Program.bytesOf,hi],hz,λE=> ?_⟩
    obtain⟨i',zv',hi',hz',hV,_⟩:=qR h3 E
    rw[hi]at hi'
    obtain rfl:i=i':=by simpa using hi'
    rw[hz]at hz'
    obtain rfl:zv=zv':=by simpa using hz'
    simpa only[V]using hV
   ·cases h
  ·cases h
 ·cases h
theorem tJ{T:TypeId}{e:TypeId}{t:Ty}{b:Nat}(h:Br P T=some (e,t,b)):
  P.underlying T=some (.slice e)/\0 < t.size/\∃i zv,P.info? e=some i/\i.size=t.size/\i.bytes=b/\i.zero=some zv/\∀E,eY E t zv.cells.toList t.zero:=oW h
theorem DJ{T:TypeId}{e:TypeId}{t:Ty}{b:Nat}(h:Fq P T=some (e,t,b)):0 < t.size:=by
 unfold Fq at h
 split at h
 ·exact(oW h).2.1
 ·exact(oW h).2.1
theorem Inv.FV(h:Inv C g β s a w){q:Nat}(hq:s.gd q=true){e:TypeId}{t:Ty}{l:List t.den}{cur:Array Value}{cap:Nat}(hz:0 < t.size)(hc:cg (eY (s.env w g β) t) (cur.toList.take (l.length*t.size)) l)
  (hs:cur.size=cap*t.size) (hl:l.length<=cap) (hm:cap<=maxLen):
  ∃g' β',Inv C g' β' (s.born q [.obj 0 false (.vec e t l)]) a (w.alloc (.cells cur e))/\
   VS ((s.born q [.obj 0 false (.vec e t l)]).env (w.alloc (.cells cur e)) g' β') (.dh (.new q 0) 0 [] 0 0 l.length) (.slice (some ⟨w.heap.size,0,none⟩) l.length cap):=by
 have ht:=Trans.alloc w g (.cells cur e) (.own (.id (.new q 0)) 0)
 obtain⟨h1,h2⟩:=h.BU hq (c:= .vec e t l) (p:=some ⟨w.heap.size,cap⟩) ht (λb hb=>⟨q9 w _ hb,jc _ _ _ (by omega)⟩) (λhe=>by
  refine⟨hz,?_⟩
  show(match xh β (.new q 0) (some ⟨w.heap.size,cap⟩) (.new q 0) with
   |none=>l=[]
   |some pl=>_)
  rw[mE]
  exact⟨cur,0,sC w _,hs,hl,hm,ji _ _ _,bm _,λ_=>rfl,hc.mono λ_ _ hx=>hx.mono he.mem⟩)
 refine⟨_,_,h1,_,?_,rfl⟩
 simp only[V]
 refine⟨_,_,rfl,hl,λ_=>rfl,qb hq _ _ _ _,λ_=> ?_⟩
 show(match xh β (.new q 0) (some ⟨w.heap.size,cap⟩) (.new q 0) with
   |some pl=>_
   |none=>_)
 rw[mE]
 exact⟨λ_=>rfl,λ_ _=>rfl⟩
theorem Inv.NM(h:Inv C g β s a w){q:Nat}(hq:s.gd q=true){e:TypeId}{t:Ty}(hz:0 < t.size):
  ∃β',Inv C g β' (s.born q [.obj 0 false (.vec e t [])]) a w/\dZ (s.env w g β) ((s.born q [.obj 0 false (.vec e t [])]).env w g β')/\
   VS ((s.born q [.obj 0 false (.vec e t [])]).env w g β') (.dh (.new q 0) 0 [] 0 0 0) (.slice none 0 0):=by
 have ht:=Trans.refl w g
 obtain⟨h1,h2⟩:=h.BU hq (c:= .vec e t []) (p:=none) ht (λb hb=>⟨rfl,rfl⟩) (λhe=>by
  refine⟨hz,?_⟩
  show(match xh β (.new q 0) none (.new q 0) with
   |none=>([]:List t.den)=[]
   |some pl=>_)
  rw[mE])
 refine⟨_,h1,h2,_,?_,rfl⟩
 simp only[V]
 refine⟨_,_,rfl,aC _,λhh=>by omega,qb hq _ _ _ _,λ_=> ?_⟩
 simp[AS.env]
theorem z8(parts:Array (Nat×Operand)):(parts.map λ(i,x)=>(i,a.eval x)).toList=parts.toList.map λ(i,x)=>(i,a.eval x):=by simp
theorem Bf(h:Inv C g β s a w){T:TypeId}{n:Nat}{parts:Array (Nat×Operand)}{nl obj:Bool}(ho:o.op= .buildSlice T n parts){s':AS}(he:(mJ P s nl obj o.dst T n parts.toList).eval=some s'):iY P o a w (kL C s'):=by
 unfold mJ at he
 split at he
 ·rename_i e t b q xe hd
  obtain⟨hT,hz,i,zv,hi,Lw,Po,Iw,Ly⟩:=oW xe
  obtain⟨h1,h2⟩:=aL.1 he
  obtain⟨r,h3,h4⟩:=av.1 h2
  simp only[decide_eq_true_eq]at h1
  obtain⟨g1,i1,e1,t1,f1⟩:=kc r.2 h
  have S6:zv.cells.size=t.size:=by have:=(Ly (s.env w g β)).size;simpa using this
  obtain⟨cells',TT,fI⟩:=tW (a:=a) rfl h.da e1 h.ev parts.toList _ r (madeCells zv.cells (n*t.size)) h3 f1 (qo (Ly _) n)
  have T9:r.1.length=n:=by
   have:∀(ps:List (Nat×Operand)) (l:List t.den) (r:List t.den×List Id),(ld t s ps l).eval=some r->r.1.length=l.length:=by
    intro ps
    induction ps with
    |nil=>intro l r hh;obtain rfl:=aB.1 hh;rfl
    |cons p ps ih=>
     intro l r hh
     obtain⟨i,x⟩:=p
     simp only[ld]at hh
     obtain⟨_,h2⟩:=aL.1 hh
     obtain⟨y,h3,h4⟩:=av.1 h2
     obtain⟨r',h5,h6⟩:=av.1 h4
     obtain rfl:=aB.1 h6
     have:=ih _ _ h5
     simpa using this
   rw[this _ _ _ h3]
   simp
  have Mo:=fI.length (λ_ _ hx=>eY.size hx)
  have oY:(execOp a.eval o).run P w= .ok (.value (.slice (some ⟨w.heap.size,0,none⟩) n n)) (w.alloc (.cells cells' e)):=by
   refine fS (f:=Instr.buildSlice T n (parts.map λ(i,x)=>(i,a.eval x))) (by simp only[execOp,ho]) ?_
   have TG:¬n*t.size > 2^24:=by omega
   have hfill':Instr.fill (λi=>some (i*t.size,t.size)) ((Array.range (n*t.size)).map (λx=>(zv.cells)[x%zv.cells.size]!)) (parts.map λ(i,x)=>(i,a.eval x)).toList=some cells':=by
    rw[z8];exact TT
   by_cases hn:n*t.size=0
   ·have RR:n=0:=by
     rcases Nat.mul_eq_zero.1 hn with h' | h'
     ·exact h'
     ·omega
    subst RR
    simp only[mP]at hfill' TG
    have h0:Array.range 0= #[]:=rfl
    rw[h0,Array.map_empty]at hfill'
    simp at hfill'
    simp[Instr.buildSlice,run_underlying hT,run_sizeOf hi,Lw,newRow,h0,hfill']
   ·simp[Instr.buildSlice,run_underlying hT,run_sizeOf hi,Lw,newRow,hn,TG,zeroValue,typeInfo,hi,Iw]
    simp at hfill'
    simp[hfill']
  cases obj with
  |true=>
   simp only at h4
   obtain⟨hq,h5⟩:=aL.1 h4
   obtain rfl:=aB.1 h5
   rw[<-qQ r.2]at hq
   have TV:cells'.toList.take (r.1.length*t.size)=cells'.toList:=cn (by omega)
   obtain⟨g2,β2,i2,Dx⟩:=i1.FV hq (e:=e) (l:=r.1) (cur:=cells') (cap:=n) hz (by rw[TV];exact fI) (by simp at Mo;rw[Mo,T9]) (by omega) (by
    have:n<=n*t.size:=Nat.le_mul_of_pos_right n hz
    unfold maxLen;omega)
   refine .inl ⟨_,_,oY,g2,β2,?_⟩
   rw[hd]
   rw[T9]at Dx ⊢
   exact i2.put (some q) Dx
  |false=>
   simp only at h4
   obtain rfl:=aB.1 h4
   have i2:=i1.wK (.cells cells' e)
   refine .inl ⟨_,_,oY,oQ g1 w.heap.size .free,β,?_⟩
   rw[hd]
   refine i2.put (some q) ⟨[.slice (some ⟨w.heap.size,0,none⟩) n n],?_,rfl⟩
   simp only[V,eY]
   refine⟨_,n,cells'.toList,by rw[T9],by omega,λ_=>rfl,λj v hj=>⟨_,_,rfl,?_,?_⟩,fI.mono λ_ _ hx=>hx.mono (Trans.mem (E:=(s.cm r.2).env w g1 β) (E':=(s.cm r.2).env (w.alloc (.cells cells' e)) (oQ g1 w.heap.size .free) β) (Trans.alloc w g1 (.cells cells' e) .free))⟩
   ·show(w.alloc (.cells cells' e)).cell? ⟨w.heap.size,0+j,none⟩=some v
    rw[World.cell?_alloc_new,bl];simpa using hj
   ·show rq (oQ g1 w.heap.size .free) w.heap.size (0+j)
    unfold rq;rw[ji];trivial
 ·simp only[al]at he
theorem CG(h:Inv C g β s a w){T:TypeId}{x y:Operand}(ho:o.op= .makeSlice T x y){len cap:Int}(hx:(asInt (s.ev x)).eval=some len)(hy:(asInt (s.ev y)).eval=some cap){s':AS}
  (he:(pD P s o.dst T len cap).eval=some s'):iY P o a w (kL C s'):=by
 obtain⟨k,hx⟩:=ue (h.ev x) hx
 obtain⟨k',hy⟩:=ue (h.ev y) hy
 unfold pD at he
 split at he
 ·rename_i e t b q xe hd
  obtain⟨hT,hz,i,zv,hi,Lw,Po,Iw,Ly⟩:=tJ xe
  obtain⟨hq,h2⟩:=aL.1 he
  obtain⟨h3,h4⟩:=cW.1 h2
  obtain rfl:=aB.1 h4
  simp only[ak,decide_eq_true_eq,fk]at h3
  obtain⟨⟨h5,h6⟩,h7,h8⟩:=h3
  have hbytes:(i.bytes:Int)*cap<=281474976710656:=by
   rw[Po]
   have:((cap.toNat*b:Nat):Int)<=140737488355328:=by omega
   rw[pa,show((cap.toNat:Nat):Int)=cap by omega,Int.mul_comm]at this
   omega
  have hr:=run_make (P:=P) w T e i zv hT hi Iw k k' len cap h5 h6 hbytes (by omega)
  rw[Lw]at hr
  have S6:zv.cells.size=t.size:=by have:=(Ly (s.env w g β)).size;simpa using this
  have zK:=qo (Ly (s.env w g β)) cap.toNat
  have Pz:=cg.take (λ_ _ hx=>eY.size hx) len.toNat zK
  rw[List.take_replicate,jH (by omega)]at Pz
  obtain⟨g2,β2,i2,Dx⟩:=h.FV hq (e:=e) (l:=List.replicate len.toNat t.zero) (cur:=madeCells zv.cells (cap.toNat*t.size)) (cap:=cap.toNat) hz (by rw[eo];exact Pz) (size_madeCells _ _) (by rw[eo];omega) (by unfold maxLen;omega)
  rw[eo]at Dx
  refine .inl ⟨_,_,fS (f:=Instr.makeSlice T (a.eval x) (a.eval y)) (by simp only[execOp,ho]) (by rw[hx,hy];exact hr),g2,β2,?_⟩
  rw[hd]
  exact i2.put (some q) Dx
 ·simp only[al]at he
end
end Go.Ab
end
