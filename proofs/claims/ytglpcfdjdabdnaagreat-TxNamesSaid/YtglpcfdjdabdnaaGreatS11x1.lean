/-
  Made short by a program of mine (wip/tools/mini.py).
-/
import Derived.WalkKit
import Derived.KernelRfl
import Derived.MapKept
import Derived.ChangeMaps3
set_option linter.unusedVariables false
set_option linter.unusedSimpArgs false
namespace Go.Ab
inductive Ty where
 |int (k:IntKind) | bool | str | slice (t:Ty) | unit | pair (a b:Ty) | arr (n:Nat) (t:Ty)
 |fq (t:Ty)
 deriving DecidableEq,Inhabited
@[reducible] def Ty.den:Ty→Type
 | .int _=>Int
 | .bool=>Bool
 | .str=>ByteArray
 | .slice t=>List t.den
 | .unit=>Unit
 | .pair a b=>a.den×b.den
 | .arr _ t=>List t.den
 | .fq t=>Option (List t.den)
def Ty.size:Ty→Nat
 | .unit=>0
 | .pair a b=>a.size+b.size
 | .arr n t=>n*t.size
 | .int _ | .bool | .str | .slice _ | .fq _=>1
def Ty.agg:Ty→Bool
 | .unit | .pair _ _ | .arr _ _=>true
 | .int _ | .bool | .str | .slice _ | .fq _=>false
def Ty.zero:(t:Ty)→t.den
 | .int _=>(0:Int)
 | .bool=>false
 | .str=>ByteArray.empty
 | .slice _=> []
 | .unit=>()
 | .pair a b=>(a.zero,b.zero)
 | .arr n t=>List.replicate n t.zero
 | .fq _=>none
def Ty.comp:Ty→Bool
 | .slice _ | .fq _=>false
 | .pair a b=>a.comp && b.comp
 | .arr _ t=>t.comp
 | .int _ | .bool | .str | .unit=>true
def g9{α:Type}(f:α→α→Bool):List α→List α→Bool
 |[],[]=>true
 |x::xs,y::ys=>f x y && g9 f xs ys
 |_,_=>false
def Ty.beq:(t:Ty)→t.den→t.den→Bool
 | .int _,x,y=>(x:Int)==y
 | .bool,x,y=>(x:Bool)==y
 | .str,x,y=>(x:ByteArray).toList==(y:ByteArray).toList
 | .slice t,x,y=>g9 t.beq x y
 | .unit,_,_=>true
 | .pair a b,x,y=>a.beq x.1 y.1 && b.beq x.2 y.2
 | .arr _ t,x,y=>g9 t.beq x y
 | .fq t,x,y=>g9 t.beq (x.getD []) (y.getD [])
def jF(t t':Ty)(x:t.den):Option t'.den:=if h:t=t' then some (h▸x) else none
def s5:(a b:Ty)→Option (a.den→b.den)
 | .fq t,.slice t'=>if h:t=t' then some fun o=>cast (congrArg (fun t:Ty=>List t.den) h) (o.getD []) else none
 | .slice t,.fq t'=>if h:t=t' then some fun l=>some (cast (congrArg (fun t:Ty=>List t.den) h) l) else none
 | .pair a b,.pair c d=>match s5 a c,s5 b d with
  |some f,some k=>some fun x=>(f x.1,k x.2)
  |_,_=>none
 | .slice a,.slice b=>match s5 a b with
  |some f=>some (List.map f)
  |none=>none
 |a,b=>if h:a=b then some (cast (congrArg Ty.den h)) else none
def DL(a b:Ty)(x:a.den):b.den:=match s5 a b with | some f=>f x | none=>b.zero
def nq(t t':Ty)(x:t.den):Option t'.den:=
 match jF t t' x with
 |some y=>some y
 |none=>match s5 t t' with
  |some f=>some (f x)
  |none=>none
def nth(t:Ty)(l:List t.den)(i:Nat):t.den:=l.getD i t.zero
inductive Id where
 |fK (k:Nat)
 |new (site j:Nat)
 deriving DecidableEq,Inhabited
inductive pa where
 |fst | snd
 |idx (i:Nat)
 |arr
inductive aC where
 |undef
 |gone
 |da | kc | ka | lJ
 |d (t:Ty) (x:t.den)
 |pr (a b:aC)
 |ptr (id:Id) (ver:Nat) (p:List pa) (n:Nat)
 |ej (t:Ty) (x:t.den)
 |bU (id:Id) (ver:Nat) (p:List pa) (c i len:Nat)
 |fn (f:FuncId) (caps:aC)
 |cons (a b:aC)
 |nil
 |vec (e:TypeId) (t:Ty) (l:List t.den)
 |sb (l:List Int)
 |bx (e:TypeId) (z:Nat) (c:aC)
 |jt (id:Id) (ver:Nat)
 |mp (k v:Ty) (l:List (k.den×v.den))
inductive eP where
 |dead
 |obj (ver:Nat) (fr:Bool) (c:aC)
structure AS where
 cl:List aC
 dj:List eP
 news:List (List eP)
def ba(n:Nat)(l:List aC):List aC:=List.replicate n .undef++l
def bK(n:Nat)(l:List (List eP)):List (List eP):=List.replicate n []++l
inductive Out(α:Type):Type 1 where
 |ok (a:α)
 |fail
 |jD (c:Bool) (r:Out α)
 |get {β:Type} (x:Option β) (f:β→Out α)
 |br (c:Bool) (a b:Out α)
def Out.eval{α:Type}:Out α→Option α
 | .ok a=>some a
 | .fail=>none
 | .jD c r=>match c with | true=>r.eval | false=>none
 | .get x f=>match x with | some y=>(f y).eval | none=>none
 | .br c a b=>match c with | true=>a.eval | false=>b.eval
def aF{α:Type}(c:Bool)(x y:Option α):Option α:=match c with | true=>x | false=>y
def ae{α β:Type}(x:Option α)(f:α→Option β):Option β:=match x with | some a=>f a | none=>none
def Out.run{α R:Type}:Out α→(α→Option R)→Option R
 | .ok a,k=>k a
 | .fail,_=>none
 | .jD c r,k=>aF c (r.run k) none
 | .get x f,k=>ae x fun y=>(f y).run k
 | .br c a b,k=>aF c (a.run k) (b.run k)
def Out.bind{α β:Type}:Out α→(α→Out β)→Out β
 | .ok a,f=>f a
 | .fail,_=> .fail
 | .jD c r,f=> .jD c (r.bind f)
 | .get x g,f=> .get x fun y=>(g y).bind f
 | .br c a b,f=> .br c (a.bind f) (b.bind f)
def Out.opt{α:Type}:Option α→Out α
 |some a=> .ok a
 |none=> .fail
def Out.guard{α:Type}(c:Bool)(r:Out α):Out α:=match c with | true=>r | false=> .fail
def aC.size:aC→Nat
 | .d t _=>t.size
 | .pr a b=>a.size+b.size
 |_=>1
def aC.agg:aC→Bool
 | .d t _=>t.agg
 | .pr _ _=>true
 |_=>false
def aC.eE:aC→Bool
 | .undef | .cons _ _ | .nil | .vec .. | .bx .. | .mp .. =>false
 |_=>true
def aC.strip:aC→aC
 | .bx _ _ c=>c
 |c=>c
def aC.wrap:aC→aC→aC
 | .bx e z _,c=> .bx e z c
 |_,c=>c
def pA:aC→aC→aC
 | .d a x,.d b y=> .d (.pair a b) (x,y)
 |a,b=> .pr a b
def ofConst:Value→aC
 | .bool b=> .d .bool b
 | .int k n=> .d (.int k) n
 | .string s=> .d .str s
 | .slice none 0 0=> .da
 | .pointer none=> .kc
 | .nilFunc=> .ka
 | .map none=> .lJ
 |_=> .undef
def AS.slot(s:AS)(i:Nat):aC:=s.cl.getD i .undef
def AS.ev(s:AS):Operand→aC
 | .tmp t=>s.slot t
 | .const v=>ofConst v
 | .func f=> .fn f .nil
 | .global _=> .undef
def AS.put(s:AS)(dst:Option Tmp)(v:aC):AS:=
 match dst with
 |some t=> {s with cl:=s.cl.set t v}
 |none=>s
def AS.ck(s:AS):Id→Option eP
 | .fK k=>s.dj[k]?
 | .new i j=>(s.news.getD i [])[j]?
def AS.bz(s:AS)(id:Id)(e:eP):AS:=
 match id with
 | .fK k=> {s with dj:=s.dj.set k e}
 | .new i j=> {s with news:=s.news.set i ((s.news.getD i []).set j e)}
def AS.dO(s:AS)(i:Nat):Bool:=match s.news[i]? with | some []=>true | _=>false
def AS.born(s:AS)(i:Nat)(es:List eP):AS:= {s with news:=s.news.set i es}
def AS.obj(s:AS)(id:Id):Option (Nat×Bool×aC):=
 match s.ck id with
 |some (.obj v f c)=>some (v,f,c)
 |_=>none
def ug(P:Program)(nl:Bool):Nat→TypeId→Option Ty
 | 0,_=>none
 |n+1,T=>
  match P.underlying T with
  |some (.int k)=>some (.int k)
  |some .bool=>some .bool
  |some .string=>some .str
  |some (.slice e)=>match ug P false n e with | some t=>some (match nl with | true=> .fq t | false=> .slice t) | none=>none
  |some (.array k e)=>match ug P nl n e with | some t=>some (.arr k t) | none=>none
  |some (.struct fs)=>fs.toList.foldr (fun f acc=>match ug P nl n f.type,acc with | some a,some b=>some (.pair a b) | _,_=>none) (some .unit)
  |_=>none
def xo(P:Program):Nat→TypeId→Option Ty:=ug P false
def zeroOf(P:Program):Nat→TypeId→Option aC
 | 0,_=>none
 |n+1,T=>
  match P.underlying T with
  |some (.int k)=>some (.d (.int k) (0:Int))
  |some .bool=>some (.d .bool false)
  |some .string=>some (.d .str ByteArray.empty)
  |some (.slice _)=>some .da
  |some (.pointer _)=>some .kc
  |some (.map _ _)=>some .lJ
  |some (.func _ _ _)=>some .ka
  |some (.array k e)=>match xo P n e with | some t=>some (.d (.arr k t) (List.replicate k t.zero)) | none=>none
  |some (.struct fs)=>fs.toList.foldr (fun f acc=>match zeroOf P n f.type,acc with | some a,some b=>some (pA a b) | _,_=>none) (some (.d .unit ()))
  |_=>none
def depth:Nat:=12
def fits(P:Program)(T:TypeId)(v:aC):Bool:=
 v.eE && (P.cellsOf T==v.size) &&
 (match P.underlying T with | some (.struct _)=>v.agg | some (.array _ _)=>v.agg | some _=> !v.agg | none=>false)
def gW:Nat→List pa
 | 0=> [.fst]
 |n+1=> .snd::gW n
def loc:aC→List pa→Out (Nat×aC)
 |c,[]=> .ok (0,c)
 |c,.arr::p=>loc c p
 | .pr a _,.fst::p=>loc a p
 | .pr a b,.snd::p=>(loc b p).bind fun(n,v)=> .ok (a.size+n,v)
 | .d (.pair a _) x,.fst::p=>loc (.d a x.1) p
 | .d (.pair a b) x,.snd::p=>(loc (.d b x.2) p).bind fun(n,v)=> .ok (a.size+n,v)
 | .d (.arr _ t) l,.idx i::p=> .jD (decide (i < (l:List t.den).length)) ((loc (.d t (nth t l i)) p).bind fun(n,v)=> .ok (i*t.size+n,v))
 | .vec _ t l,.idx i::p=> .jD (decide (i < l.length)) ((loc (.d t (nth t l i)) p).bind fun(n,v)=> .ok (i*t.size+n,v))
 |_,_::_=> .fail
def m9:aC→List pa→aC→Out aC
 |c,.arr::p,v=>m9 c p v
 | .vec ..,[],_=> .fail
 | .mp ..,[],_=> .fail
 |c,[],v=> .guard (v.eE && (c.size==v.size)) (.ok v)
 | .pr a b,.fst::p,v=>(m9 a p v).bind fun a'=> .ok (pA a' b)
 | .pr a b,.snd::p,v=>(m9 b p v).bind fun b'=> .ok (pA a b')
 | .d (.pair a b) x,.fst::p,v=>(m9 (.d a x.1) p v).bind fun a'=> .ok (pA a' (.d b x.2))
 | .d (.pair a b) x,.snd::p,v=>(m9 (.d b x.2) p v).bind fun b'=> .ok (pA (.d a x.1) b')
 | .d (.arr n t) l,.idx i::p,v=> .jD (decide (i < (l:List t.den).length)) ((m9 (.d t (nth t l i)) p v).bind fun
   | .d t' y=>(Out.opt (jF t' t y)).bind fun y=> .ok (.d (.arr n t) ((l:List t.den).set i y))
   |_=> .fail)
 | .vec e t l,.idx i::p,v=> .jD (decide (i < l.length)) ((m9 (.d t (nth t l i)) p v).bind fun
   | .d t' y=>(Out.opt (jF t' t y)).bind fun y=> .ok (.vec e t (l.set i y))
   |_=> .fail)
 |_,_::_,_=> .fail
def AS.row(s:AS)(id:Id)(ver:Nat)(p:List pa):Out (Nat×(t:Ty)×List t.den):=
 match s.obj id with
 |some (v,_,c)=> .guard (v==ver) ((loc c.strip p).bind fun
  | (n,.d (.arr _ t) l)=> .ok (n,⟨t,l⟩)
  | (n,.vec _ t l)=> .ok (n,⟨t,l⟩)
  |_=> .fail)
 |none=> .fail
def cut{α:Type}(l:List α)(i len:Nat):List α:=(l.drop i).take len
def AS.fP(s:AS):(t:Ty)→aC→Out t.den
 |t,.d t' x=>Out.opt (nq t' t x)
 | .slice _,.da=> .ok []
 | .fq _,.da=> .ok none
 | .slice t,.bU id ver p c i len=>(s.row id ver p).bind fun r=> .jD (decide (r.1+i*r.2.1.size=c∧i+len≤r.2.2.length)) (Out.opt (nq (.slice r.2.1) (.slice t) (cut r.2.2 i len)))
 | .fq t,.bU id ver p c i len=>(s.row id ver p).bind fun r=> .jD (decide (r.1+i*r.2.1.size=c∧i+len≤r.2.2.length)) (Out.opt (nq (.slice r.2.1) (.fq t) (cut r.2.2 i len)))
 | .pair a b,.pr x y=>(s.fP a x).bind fun x=>(s.fP b y).bind fun y=> .ok (x,y)
 |_,_=> .fail
def aC.shared:aC→List Id
 | .bU id _ _ _ _ _=> [id]
 | .pr a b=>a.shared++b.shared
 |_=> []
def AS.freeze(s:AS)(id:Id):AS:=
 match s.ck id with
 |some (.obj v _ c)=>s.bz id (.obj v true c)
 |_=>s
def AS.bj(s:AS):List Id→AS
 |[]=>s
 |id::ids=>(s.freeze id).bj ids
end Go.Ab
namespace Go.Ab
def AU{α:Type}(f:α→List Value→Option (List Value)):List α→List Value→Option (List Value)
 |[],cs=>some cs
 |x::xs,cs=>match f x cs with | some r=>AU f xs r | none=>none
def lG:(t:Ty)→t.den→List Value→Option (List Value)
 | .int k,x,.int k' n::r=>match decide (k=k'),decide (n=(x:Int)) with | true,true=>some r | _,_=>none
 | .bool,x,.bool b::r=>match decide (b=(x:Bool)) with | true=>some r | false=>none
 | .str,x,.string s::r=>match decide (s=(x:ByteArray)) with | true=>some r | false=>none
 | .slice _,[],.slice none 0 0::r=>some r
 | .fq _,none,.slice none 0 0::r=>some r
 | .unit,_,r=>some r
 | .pair a b,x,r=>match lG a x.1 r with | some r'=>lG b x.2 r' | none=>none
 | .arr n t,l,r=>match decide ((l:List t.den).length=n) with | true=>AU (lG t) l r | false=>none
 |_,_,_=>none
def qW:aC→List Value→Option (List Value)
 | .d t x,r=>lG t x r
 | .da,.slice none 0 0::r=>some r
 | .kc,.pointer none::r=>some r
 | .ka,.nilFunc::r=>some r
 | .lJ,.map none::r=>some r
 | .pr a b,r=>match qW a r with | some r'=>qW b r' | none=>none
 |_,_=>none
def iY:Value→Bool | .agg _=>true | _=>false
def vq(P:Program)(T:TypeId)(z:aC):Bool:=
 match P.info? T with
 |some i=>match i.zero with
  |some zv=>(match qW z zv.cells.toList with | some []=>true | _=>false) && (iY zv==z.agg)
  |none=>false
 |none=>false
structure aZ where
 val:aC
 dj:List eP
 news:List eP
structure Entry where
 params:List (Option Ty)
 X:Type
 run:List aC→List eP→Option X
 out:List aC→List eP→X→aZ
abbrev dV:=FuncId→List aC→Option Entry
def aC.ids:aC→List Id
 | .ptr id _ _ _=> [id]
 | .bU id _ _ _ _ _=> [id]
 | .pr a b=>a.ids++b.ids
 | .cons a b=>a.ids++b.ids
 | .fn _ c=>c.ids
 | .bx _ _ c=>c.ids
 | .jt id _=> [id]
 |_=> []
def eP.ids:eP→List Id
 | .obj _ _ c=>c.ids
 | .dead=> []
def AS.reach(s:AS):Nat→List Id→List Id→List Id
 | 0,_,acc=>acc
 |_+1,[],acc=>acc
 |n+1,id::todo,acc=>if acc.contains id then s.reach n todo acc else s.reach n (((s.ck id).getD .dead).ids++todo) (acc++ [id])
def idxOf(id:Id):List Id→Option Nat
 |[]=>none
 |x::xs=>if x=id then some 0 else(idxOf id xs).map (· +1)
def aC.fZ(ρ:Id→Nat→Option (Id×Nat)):aC→aC
 | .ptr id ver p n=>match ρ id ver with | some r=> .ptr r.1 r.2 p n | none=> .gone
 | .bU id ver p c i len=>match ρ id ver with | some r=> .bU r.1 r.2 p c i len | none=> .gone
 | .pr a b=> .pr (a.fZ ρ) (b.fZ ρ)
 | .cons a b=> .cons (a.fZ ρ) (b.fZ ρ)
 | .fn f c=> .fn f (c.fZ ρ)
 | .bx e z c=> .bx e z (c.fZ ρ)
 | .jt id ver=>match ρ id ver with | some r=> .jt r.1 r.2 | none=> .gone
 |v=>v
def AS.kF(s:AS)(ids:List Id)(id:Id)(ver:Nat):Option (Id×Nat):=
 match idxOf id ids,s.obj id with
 |some k,some (v,_,_)=>if v=ver then some (.fK k,0) else none
 |_,_=>none
def AS.hZ(s:AS)(ids:List Id)(id:Id):eP:=
 match s.ck id with
 |some (.obj _ fr c)=> .obj 0 fr (c.fZ (s.kF ids))
 |_=> .dead
def AS.lD(s:AS)(id:Id):Nat:=match s.obj id with | some (v,_,_)=>v | none=>0
def CM(ids:List Id)(dst:Nat):Id→Id
 | .fK k=>ids.getD k (.fK 0)
 | .new _ j=> .new dst j
def AS.jM(s:AS)(ids:List Id)(dst:Nat):Id→Nat→Option (Id×Nat)
 | .fK k,v=>match ids[k]? with | some id=>some (id,s.lD id+v) | none=>none
 | .new _ j,v=>some (.new dst j,v)
def AS.iQ(s:AS)(ids:List Id)(dst:Nat)(ver:Nat):eP→eP
 | .obj v fr c=> .obj (ver+v) fr (c.fZ (s.jM ids dst))
 | .dead=> .dead
def AS.conv(s:AS):List (Option Ty)→List aC→Out (List aC×List Id)
 |[],[]=> .ok ([],[])
 |some t::ps,v::vs=>(s.fP t v).bind fun x=>(s.conv ps vs).bind fun r=> .ok (.d t x::r.1,v.shared++r.2)
 |none::ps,v::vs=>(s.conv ps vs).bind fun r=> .ok (v::r.1,r.2)
 |_,_=> .fail
def AS.fU(s0:AS)(all:List Id)(dst:Nat)(s:AS):List Id→List eP→AS
 |id::ids,e::es=>AS.fU s0 all dst (s.bz id (s0.iQ all dst (s0.lD id) e)) ids es
 |_,_=>s
def aC.list:aC→List aC
 | .cons a b=>a::b.list
 |_=> []
def AS.made(s:AS)(ids:List Id)(t:Nat):List eP→AS
 |[]=>s
 |e::es=>s.born t ((e::es).map (s.iQ ids t 0))
def AS.back(s:AS)(ids:List Id)(dst:Option Tmp)(g:aZ):Out AS:=
 match dst with
 |some t=> .guard ((g.dj.length==ids.length) && (g.news.isEmpty || s.dO t))
   (.ok ((AS.fU s ids t (s.made ids t g.news) ids g.dj).put dst (g.val.fZ (s.jM ids t))))
 |none=> .guard ((g.dj.length==ids.length) && g.news.isEmpty) (.ok (AS.fU s ids 0 s ids g.dj))
def AS.yU(s:AS)(vs:List aC):List Id:=s.reach 64 (vs.flatMap aC.ids) []
def AS.enter(s:AS)(en:Entry)(dst:Option Tmp)(ids:List Id)(vs:List aC):Out AS:=
 .guard (ids.all fun id=>(s.obj id).isSome)
  (.get (en.run (vs.map (aC.fZ (s.kF ids))) (ids.map (s.hZ ids))) fun x=>s.back ids dst (en.out (vs.map (aC.fZ (s.kF ids))) (ids.map (s.hZ ids)) x))
def AS.call(s:AS)(en:Entry)(dst:Option Tmp)(vs:List aC):Out AS:=
 (s.conv en.params vs).bind fun r=>(s.bj r.2).enter en dst ((s.bj r.2).yU r.1) r.1
def ct(op:BinOp)(k:IntKind)(x y:Int):Int:=
 match op with
 | .and=>k.wrap ((BitVec.ofInt k.bits x &&& BitVec.ofInt k.bits y).toNat)
 | .or=>k.wrap ((BitVec.ofInt k.bits x ||| BitVec.ofInt k.bits y).toNat)
 | .xor=>k.wrap ((BitVec.ofInt k.bits x^^^BitVec.ofInt k.bits y).toNat)
 |_=>k.wrap ((BitVec.ofInt k.bits x &&& ~~~BitVec.ofInt k.bits y).toNat)
def Ba(op:BinOp)(k:IntKind)(x:Int)(k':IntKind)(y:Int):Out aC:=
 match op with
 | .shl=> .jD (decide (0≤y)) (.ok (.d (.int k) (k.wrap (x*2^(min y.toNat k.bits)))))
 | .shr=> .jD (decide (0≤y)) (.ok (.d (.int k) (x.fdiv (2^(min y.toNat k.bits)))))
 |_=> .guard (decide (k=k')) (match op with
  | .add=> .ok (.d (.int k) (k.wrap (x+y)))
  | .sub=> .ok (.d (.int k) (k.wrap (x - y)))
  | .mul=> .ok (.d (.int k) (k.wrap (x*y)))
  | .quo=> .jD (!(decide (y=0))) (.ok (.d (.int k) (k.wrap (x.tdiv y))))
  | .rem=> .jD (!(decide (y=0))) (.ok (.d (.int k) (x.tmod y)))
  | .eql=> .ok (.d .bool (x==y))
  | .neq=> .ok (.d .bool (x !=y))
  | .lss=> .ok (.d .bool (decide (x < y)))
  | .leq=> .ok (.d .bool (decide (x≤y)))
  | .gtr=> .ok (.d .bool (decide (x > y)))
  | .geq=> .ok (.d .bool (decide (x≥y)))
  |op=> .ok (.d (.int k) (ct op k x y)))
def BI(op:BinOp)(x y:ByteArray):Out aC:=
 match op with
 | .add=> .jD (decide (((x.size+y.size:Nat):Int)≤IntKind.i64.max)) (.ok (.d .str (x++y)))
 | .eql=> .ok (.d .bool (x.toList==y.toList))
 | .neq=> .ok (.d .bool (!(x.toList==y.toList)))
 | .lss=> .ok (.d .bool (Op.bytesLess x.toList y.toList))
 | .geq=> .ok (.d .bool (!(Op.bytesLess x.toList y.toList)))
 |_=> .fail
def oP(P:Program)(T:TypeId)(b:Bool):Bool:=
 match P.underlying T with | some (.struct _)=>b | some (.array _ _)=>b | some _=> !b | none=>false
def oK(P:Program)(jD:TypeId→Ty→Bool):List Field→Ty→Nat→Bool
 |[],.unit,_=>true
 |f::fs,.pair a b,off=> !(f.name== "_") && (f.offset==off) && !(a.size==0) && (P.cellsOf f.type==a.size) && oP P f.type a.agg && jD f.type a && oK P jD fs b (off+a.size)
 |_,_,_=>false
def jd(P:Program):Nat→TypeId→Ty→Bool
 | 0,_,_=>false
 |n+1,T,t=>match P.underlying T,t with
  |some (.int _),.int _=>true
  |some .bool,.bool=>true
  |some .string,.str=>true
  |some (.array m e),.arr m' t'=>(m==m') && !(t'.size==0) && (P.cellsOf e==t'.size) && oP P e t'.agg && jd P n e t'
  |some (.struct fs),t=> !P.stoodInHeld T && oK P (jd P n) fs.toList t 0
  |_,_=>false
def lY(P:Program)(T:TypeId):aC→aC→Out Bool
 | .d t x,.d t' y=>(Out.opt (jF t' t y)).bind fun y=> .guard ((t.agg && !P.eqGuardType P.depth T || decide (t= .bool)) && jd P depth T t) (.ok (t.beq x y))
 | .da,.da=> .guard (isSl P T) (.ok true)
 | .d (.slice t) l,.da=> .guard (isSl P T) (.jD (decide (0 < (l:List t.den).length)) (.ok false))
 | .da,.d (.slice t) l=> .guard (isSl P T) (.jD (decide (0 < (l:List t.den).length)) (.ok false))
 | .bU _ _ _ _ _ len,.da=> .guard (isSl P T) (.jD (decide (0 < len)) (.ok false))
 | .da,.bU _ _ _ _ _ len=> .guard (isSl P T) (.jD (decide (0 < len)) (.ok false))
 | .kc,.kc=> .guard (isPt P T) (.ok true)
 | .ptr ..,.kc=> .guard (isPt P T) (.ok false)
 | .kc,.ptr .. => .guard (isPt P T) (.ok false)
 | .ka,.ka=> .guard (isFn P T) (.ok true)
 | .fn ..,.ka=> .guard (isFn P T) (.ok false)
 | .ka,.fn .. => .guard (isFn P T) (.ok false)
 |_,_=> .fail
where
 isSl (P:Program) (T:TypeId):Bool:=match P.underlying T with | some (.slice _)=>true | _=>false
 isPt (P:Program) (T:TypeId):Bool:=match P.underlying T with | some (.pointer _)=>true | _=>false
 isFn (P:Program) (T:TypeId):Bool:=match P.underlying T with | some (.func _ _ _)=>true | _=>false
def C7(P:Program)(T:TypeId)(op:BinOp)(x y:aC):Out aC:=
 match x,y with
 | .d (.int k) a,.d (.int k') b=>Ba op k a k' b
 | .d .str a,.d .str b=>BI op a b
 |x,y=>match op with
  | .eql=>(lY P T x y).bind fun b=> .ok (.d .bool b)
  | .neq=>(lY P T x y).bind fun b=> .ok (.d .bool (!b))
  |_=> .fail
def EA(op:UnOp)(x:aC):Out aC:=
 match op,x with
 | .not,.d .bool b=> .ok (.d .bool (!b))
 | .neg,.d (.int k) n=> .ok (.d (.int k) (k.wrap (0 - n)))
 | .xor,.d (.int k) n=> .ok (.d (.int k) (ct .xor k (if k.signed then -1 else k.max) n))
 |_,_=> .fail
def bk(s:ByteArray):List Int:=s.data.toList.map fun b=>(b.toNat:Int)
def gj(l:List Int):ByteArray:=⟨(l.map fun n=>UInt8.ofNat n.toNat).toArray⟩
def AS.yf(s:AS)(t:Ty)(v:aC):Out t.den:=s.fP t v
def AQ(P:Program)(s:AS)(obj:Bool)(src dst:TypeId)(x:aC):Out aC:=
 match x,P.underlying dst,P.underlying src with
 | .d (.int _) n,some (.int k),some _=> .ok (.d (.int k) (k.wrap n))
 | .d .str a,some .string,some _=> .ok (.d .str a)
 | .d .str a,some (.slice e),some _=>match P.underlying e with
  |some (.int .u8)=>match obj with | true=> .ok (.sb (bk a)) | false=> .ok (.d (.slice (.int .u8)) (bk a))
  |_=> .fail
 |x,some .string,some (.slice e)=>match P.underlying e with
  |some (.int .u8)=>(s.yf (.slice (.int .u8)) x).bind fun l=> .ok (.d .str (gj l))
  |_=> .fail
 |_,_,_=> .fail
def AR(P:Program)(src dst:TypeId)(l:List Int):Out aC:=
 match P.underlying dst,P.underlying src with
 |some (.slice e),some (.slice _)=>match P.underlying e with
  |some (.int .u8)=> .guard (src==dst) (.ok (.d (.slice (.int .u8)) l))
  |_=> .fail
 |_,_=> .fail
def tx(P:Program)(s:AS)(obj:Bool)(src dst:TypeId)(x:aC):Out aC:=
 match x with
 | .sb l=>AR P src dst l
 |x=>AQ P s obj src dst x
def vQ(P:Program)(s:AS)(d:Option Tmp)(src dst:TypeId)(id:Id)(ver len:Nat):Out AS:=
 match s.obj id,P.underlying dst with
 |some (v,false,.vec _ (.int .u8) l),some (.slice e)=>match P.underlying e with
  |some (.int .u8)=> .guard ((v==ver) && (src==dst)) (.jD (decide (0 < len∧len=(l:List Int).length)) (.ok ((s.bz id .dead).put d (.d (.slice (.int .u8)) l))))
  |_=> .fail
 |_,_=> .fail
def tz(P:Program)(s:AS)(src dst:TypeId)(id:Id)(ver:Nat):Out aC:=
 match s.obj id with
 |some (v,_,.bx e 0 c)=>match P.underlying src,P.underlying dst with
  |some (.pointer t),some .unsafePointer=> .guard ((v==ver) && !(P.cellsOf t==0) && !(c.size==0)) (.ok (.ptr id ver [] 0))
  |some .unsafePointer,some (.pointer u)=> .guard ((v==ver) && !(P.cellsOf u==0) && liesAt P P.depth e (c.size / P.cellsOf e) 0 u 1) (.ok (.ptr id ver [] 0))
  |_,_=> .fail
 |_=> .fail
def Ef(P:Program)(T:TypeId):Bool:=match P.underlying T with | some (.pointer u)=>(P.info? u).isSome | _=>false
def DM(P:Program)(s:AS)(T:TypeId)(op:BinOp)(i:Id)(v:Nat)(j:Id)(w:Nat):Out aC:=
 match s.obj i with
 |some (v',_,_)=> .guard (decide (i=j) && (v==w) && (v==v') && Ef P T) (match op with | .eql=> .ok (.d .bool true) | .neq=> .ok (.d .bool false) | _=> .fail)
 |none=> .fail
def xl(P:Program)(s:AS)(d:Option Tmp)(T:TypeId)(id:Id)(ver:Nat)(n:Int):Out AS:=
 match s.obj id,P.underlying T with
 |some (v,false,.vec e (.int .u8) l),some (.pointer u)=> .guard ((v==ver) && (u==e) && (P.cellsOf e==1))
   (.jD (decide (0 < n∧n≤((l:List Int).length:Int))) (.ok ((s.bz id .dead).put d (.d .str (gj ((l:List Int).take n.toNat))))))
 |_,_=> .fail
def asInt:aC→Out Int
 | .d (.int _) n=> .ok n
 |_=> .fail
def bounds(s:AS)(n:Nat)(lo hi:Option Operand):Out (Nat×Nat):=
 (match hi with
  |some h=>(asInt (s.ev h)).bind fun h=> .jD (decide (0≤h∧h≤(n:Int))) (.ok h.toNat)
  |none=> .ok n).bind fun h=>
 (match lo with
  |some l=>(asInt (s.ev l)).bind fun l=> .jD (decide (0≤l∧l≤(h:Int))) (.ok l.toNat)
  |none=> .ok 0).bind fun l=> .ok (l,h)
def gr(P:Program)(T:TypeId):Option Nat:=
 match P.underlying T with
 |some (.array _ e)=>match P.cellsOf e with | 0=>none | z+1=>some (z+1)
 |some (.slice e)=>match P.cellsOf e with | 0=>none | z+1=>some (z+1)
 |_=>none
def kE(P:Program)(T:TypeId):Option Nat:=
 match P.underlying T with
 |some (.array n _)=>some n
 |_=>none
def oV(P:Program)(s:AS)(T:TypeId)(x:aC)(lo hi:Option Operand):Out aC:=
 match x with
 | .d .str a=> .guard (match P.underlying T with | some .string=>true | _=>false) ((bounds s a.size lo hi).bind fun b=> .ok (.d .str (a.extract b.1 b.2)))
 | .d (.slice t) l=> .guard (match gr P T,kE P T with | some z,none=>z==t.size | _,_=>false)
   ((bounds s (l:List t.den).length lo hi).bind fun b=> .ok (.d (.slice t) (cut l b.1 (b.2 - b.1))))
 | .da=> .guard (match gr P T,kE P T with | some _,none=>true | _,_=>false) ((bounds s 0 lo hi).bind fun _=> .ok .da)
 | .bU id ver p c i len=>(s.row id ver p).bind fun r=> .guard (match gr P T,kE P T with | some z,none=>z==r.2.1.size | _,_=>false)
   ((bounds s len lo hi).bind fun b=> .ok (.bU id ver p (c+b.1*r.2.1.size) (i+b.1) (b.2 - b.1)))
 | .ptr id ver p n=>(s.row id ver p).bind fun r=> .guard (match gr P T,kE P T with | some z,some _=>z==r.2.1.size | _,_=>false)
   (.jD (decide (kE P T=some r.2.2.length∧r.1=n)) ((bounds s ((kE P T).getD 0) lo hi).bind fun b=> .ok (.bU id ver (p++ [.arr]) (n+b.1*r.2.1.size) b.1 (b.2 - b.1))))
 | .ej (.arr n t) l=> .guard (match gr P T,kE P T with | some z,some m=>(z==t.size) && (m==n) | _,_=>false)
   ((bounds s n lo hi).bind fun b=> .ok (.d (.slice t) (cut l b.1 (b.2 - b.1))))
 |_=> .fail
def iX(P:Program)(s:AS)(T:TypeId)(x:aC)(i:Int):Out aC:=
 match x with
 | .d (.slice t) l=> .guard (match gr P T,kE P T with | some z,none=>z==t.size | _,_=>false)
   (.jD (decide (0≤i∧i < ((l:List t.den).length:Int))) (.ok (.ej t (nth t l i.toNat))))
 | .ej (.arr n t) l=> .guard (match gr P T,kE P T with | some z,some m=>(z==t.size) && (m==n) | _,_=>false)
   (.jD (decide (0≤i∧i < (n:Int))) (.ok (.ej t (nth t l i.toNat))))
 | .bU id ver p c j len=>(s.row id ver p).bind fun r=> .guard (match gr P T,kE P T with | some z,none=>z==r.2.1.size | _,_=>false)
   (.jD (decide (0≤i∧i < (len:Int))) (.ok (.ptr id ver (p++ [.idx (j+i.toNat)]) (c+i.toNat*r.2.1.size))))
 | .ptr id ver p n=> .guard (match gr P T,kE P T with | some _,some _=>true | _,_=>false)
   (.jD (decide (0≤i∧i < (((kE P T).getD 0:Nat):Int))) (.ok (.ptr id ver (p++ [.idx i.toNat]) (n+i.toNat*(gr P T).getD 0))))
 |_=> .fail
def fieldInfo(P:Program)(T:TypeId)(f:Nat):Option (Nat×TypeId):=
 match P.underlying T with
 |some (.struct fs)=>match fs[f]? with | some x=>some (x.offset,x.type) | none=>none
 |_=>none
def partOf:aC→Nat→Option (Nat×aC)
 | .d (.pair a _) x,0=>some (0,.d a x.1)
 | .d (.pair a b) x,n+1=>match partOf (.d b x.2) n with | some (o,v)=>some (a.size+o,v) | none=>none
 | .pr a _,0=>some (0,a)
 | .pr a b,n+1=>match partOf b n with | some (o,v)=>some (a.size+o,v) | none=>none
 |_,_=>none
def mu(P:Program)(T:TypeId)(x:aC)(f:Nat):Out aC:=
 match fieldInfo P T f with
 |some (o,ft)=> .guard (!(P.cellsOf ft==0)) (match x with
  | .ptr id ver p n=> .ok (.ptr id ver (p++gW f) (n+o))
  | .ej t x=>match partOf (.d t x) f with
   |some (o',.d t' y)=> .guard (o==o') (.ok (.ej t' y))
   |_=> .fail
  |_=> .fail)
 |none=> .fail
def uI(P:Program)(T:TypeId)(x:aC)(f:Nat):Out aC:=
 match fieldInfo P T f,partOf x f with
 |some (o,ft),some (o',v)=> .guard ((o==o') && fits P ft v) (.ok v)
 |_,_=> .fail
def uP(P:Program)(T:TypeId)(x:aC)(i:Int):Out aC:=
 match x,P.underlying T with
 | .d (.arr n t) l,some (.array m e)=> .guard ((n==m) && fits P e (.d t t.zero)) (.jD (decide (0≤i∧i < (n:Int))) (.ok (.d t (nth t l i.toNat))))
 | .d .str a,some .string=> .jD (decide (0≤i∧i < (a.size:Int))) (.ok (.d (.int .u8) ((a.data.toList.getD i.toNat 0).toNat:Int)))
 |_,_=> .fail
def Dq:aC→Out aC
 | .d (.fq t) l=> .jD (l:Option (List t.den)).isNone (.ok .da)
 |v=> .ok v
def py(P:Program)(s:AS)(T:TypeId)(x:aC):Out aC:=
 match x with
 | .ptr id ver p n=>match s.obj id with
  |some (v,_,c)=> .guard (v==ver) ((loc c.strip p).bind fun r=> .guard (fits P T r.2) (.jD (decide (r.1=n)) (Dq r.2)))
  |none=> .fail
 | .ej t y=> .guard (fits P T (.d t y)) (.ok (.d t y))
 |_=> .fail
def nQ(P:Program)(s:AS)(T:TypeId)(x v:aC):Out AS:=
 match x with
 | .ptr id ver p n=>match s.obj id with
  |some (ve,fr,c)=> .guard ((ve==ver) && !fr && fits P T v) ((loc c.strip p).bind fun r=> .guard (fits P T r.2) (.jD (decide (r.1=n)) ((m9 c.strip p v).bind fun c'=> .ok (s.bz id (.obj ve fr (c.wrap c'))))))
  |none=> .fail
 |_=> .fail
def Co(P:Program)(T:TypeId)(x:aC):Out aC:=
 match P.underlying T,x with
 |some .string,.d .str a=> .ok (.d (.int .i64) (a.size:Int))
 |some (.slice _),.d (.slice t) l=> .ok (.d (.int .i64) ((l:List t.den).length:Int))
 |some (.slice _),.da=> .ok (.d (.int .i64) (0:Int))
 |some (.slice _),.bU _ _ _ _ _ len=> .ok (.d (.int .i64) (len:Int))
 |some (.array n _),_=> .ok (.d (.int .i64) (n:Int))
 |_,_=> .fail
def nH(P:Program)(s:AS)(t:Ty)(X:TypeId)(x:aC):Out (List t.den):=
 match x with
 | .d .str a=>match P.underlying X with
  |some .string=>Out.opt (jF (.slice (.int .u8)) (.slice t) (bk a))
  |_=> .fail
 |x=>match P.underlying X with
  |some (.slice _)=>s.yf (.slice t) x
  |_=> .fail
def du(n b:Nat):Bool:=decide (n*b≤140737488355328∧n≤9223372036854775807)
def mr(P:Program)(nl:Bool)(T:TypeId):Option (TypeId×Ty×Nat):=
 match P.underlying T with
 |some (.slice e)=>match ug P nl depth e with
  |some t=>match(P.cellsOf e==t.size) && !(t.size==0) && vq P e (.d t t.zero) with | true=>some (e,t,P.bytesOf e) | false=>none
  |none=>none
 |_=>none
def rj(P:Program)(T:TypeId):Option (TypeId×Ty×Nat):=mr P false T
def uE(P:Program)(T:TypeId):Option (TypeId×Ty×Nat):=
 match Nat.ble 100000 T with
 |true=>mr P true (T - 100000)
 |false=>mr P false T
def v7(P:Program)(s:AS)(dst:Option Tmp)(T X:TypeId)(n:Int):Out AS:=
 match rj P T,dst,P.underlying X with
 |some (e,t,b),some q,some (.int _)=> .guard (s.dO q) (.jD (decide (0 < n) && du n.toNat b)
   (.ok ((s.born q [.obj 0 false (.vec e t (List.replicate n.toNat t.zero))]).put dst (.bU (.new q 0) 0 [] 0 0 n.toNat))))
 |_,_,_=> .fail
def zY(mx:Bool):List aC→Out aC
 |[.d (.int k) x,.d (.int k') y]=> .guard (decide (k=k')) (.ok (.d (.int k) (match mx with | true=>(if x < y then y else x) | false=>(if y < x then y else x))))
 |_=> .fail
def kH(P:Program)(s:AS)(nl dt:Bool)(dst:Option Tmp)(T X:TypeId)(x y:aC):Out AS:=
 match mr P nl T,dst with
 |some (e,t,b),some q=>(nH P s t X y).bind fun m=>
  match x with
  | .da=>match dt with
   |true=> .jD (du m.length b && decide (0 < m.length)) (.ok (s.put dst (.d (.fq t) (some m))))
   |false=> .guard (s.dO q) (.jD (du m.length b) (.ok ((s.born q [.obj 0 false (.vec e t m)]).put dst (.bU (.new q 0) 0 [] 0 0 m.length))))
  | .bU id ver [] 0 0 len=>match s.obj id with
   |some (v,fr,.vec e' t' l)=> .guard ((v==ver) && (e==e')) ((Out.opt (jF (.slice t') (.slice t) l)).bind fun l=>
     .jD (decide (len≤l.length)) <| .jD ((!fr) || decide (len=l.length)) (.jD (du (len+m.length) b)
      (.ok ((s.bz id (.obj (v+1) fr (.vec e t (l.take len++m)))).put dst (.bU id (v+1) [] 0 0 (len+m.length))))))
   |_=> .fail
  |_=> .fail
 |_,_=> .fail
def rG(P:Program)(s:AS)(dst:Option Tmp)(T X:TypeId)(x y:aC):Out AS:=
 match rj P T,x with
 |some (_,t,_),.bU id ver [.arr] 0 0 len=>(nH P s t X y).bind fun m=>match s.obj id with
  |some (ve,false,.d (.arr n t') l)=> .guard ((ve==ver) && (len==n)) ((Out.opt (jF (.slice t') (.slice t) l)).bind fun l=> .jD (decide (m.length≤n))
    (.ok ((s.bz id (.obj ve false (.d (.arr n t) (m++(l:List t.den).drop m.length)))).put dst (.d (.int .i64) (m.length:Int)))))
  |_=> .fail
 |_,_=> .fail
def fT(t:Ty)(s:AS):List (Nat×Operand)→List t.den→Out (List t.den×List Id)
 |[],l=> .ok (l,[])
 | (i,x)::ps,l=> .guard (decide (i < l.length)) ((s.fP t (s.ev x)).bind fun y=>(fT t s ps (l.set i y)).bind fun r=> .ok (r.1,(s.ev x).shared++r.2))
def iu(P:Program)(fs:Array Field)(s:AS):List (Nat×Operand)→aC→Out aC
 |[],v=> .ok v
 | (i,x)::ps,v=>match fs[i]?,partOf v i with
  |some f,some (o,fK)=> .guard ((f.offset==o) && fits P f.type fK && fits P f.type (s.ev x)) ((m9 v (gW i) (s.ev x)).bind fun v'=>iu P fs s ps v')
  |_,_=> .fail
def np(P:Program)(s:AS)(dst:Option Tmp)(T:TypeId)(parts:List (Nat×Operand)):Out AS:=
 match P.underlying T with
 |some (.struct fs)=>match zeroOf P depth T with
  |some z=> .guard (vq P T z && z.agg && fs.toList.all fun f=>(P.info? f.type).isSome)
    ((iu P fs s parts z).bind fun v=> .ok (s.put dst v))
  |none=> .fail
 |some (.array n e)=>match xo P depth e with
  |some t=> .guard ((P.cellsOf e==t.size) && vq P T (.d (.arr n t) (List.replicate n t.zero))) ((fT t s parts (List.replicate n t.zero)).bind fun r=> .ok ((s.bj r.2).put dst (.d (.arr n t) r.1)))
  |none=> .fail
 |_=> .fail
def gI(P:Program)(s:AS)(nl obj:Bool)(dst:Option Tmp)(T:TypeId)(n:Nat)(parts:List (Nat×Operand)):Out AS:=
 match mr P nl T,dst with
 |some (e,t,_),some q=> .guard (decide (n*t.size≤16777216)) ((fT t s parts (List.replicate n t.zero)).bind fun r=>
   match obj with
   |true=> .guard (s.dO q) (.ok (((s.bj r.2).born q [.obj 0 false (.vec e t r.1)]).put dst (.bU (.new q 0) 0 [] 0 0 r.1.length)))
   |false=> .ok ((s.bj r.2).put dst (.d (.slice t) r.1)))
 |_,_=> .fail
def ja(P:Program)(s:AS)(dst:Option Tmp)(T:TypeId)(len cap:Int):Out AS:=
 match rj P T,dst with
 |some (e,t,b),some q=> .guard (s.dO q) (.jD (decide (0≤len∧len≤cap) && du cap.toNat b)
   (.ok ((s.born q [.obj 0 false (.vec e t (List.replicate len.toNat t.zero))]).put dst (.bU (.new q 0) 0 [] 0 0 len.toNat))))
 |_,_=> .fail
def Cx(P:Program)(T:TypeId):Bool:=
 match P.underlying T with
 |some (.struct fs)=>fs.toList.any fun f=>match P.underlying f.type with | some (.pointer u)=>decide (u=T) | _=>false
 |_=>false
def boxed(P:Program)(T:TypeId)(z:aC):aC:=match Cx P T with | true=> .bx T 0 z | false=>z
def vJ(P:Program)(s:AS)(obj:Bool)(dst:Option Tmp)(T:TypeId)(v:aC):Out AS:=
 match dst with
 |some q=>match obj with
  |true=> .guard (s.dO q && fits P T v) (.ok ((s.born q [.obj 0 false v]).put dst (.ptr (.new q 0) 0 [] 0)))
  |false=>match xo P depth T with
   |some t=> .guard (fits P T (.d t t.zero)) ((s.fP t v).bind fun x=> .ok ((s.bj v.shared).put dst (.ej t x)))
   |none=> .fail
 |none=> .fail
def oX(P:Program)(s:AS)(dst:Option Tmp)(T:TypeId)(x:aC):Out AS:=
 match P.underlying T with
 |some (.array n e)=>match xo P depth e with
  |some t=> .guard ((P.cellsOf e==t.size) && !(n==0) && !(t.size==0)) ((s.fP (.slice t) x).bind fun l=> .jD (decide (n≤(l:List t.den).length)) (.ok ((s.bj x.shared).put dst (.ej (.arr n t) (l.take n)))))
  |none=> .fail
 |_=> .fail
def iP(s:AS):List Operand→aC
 |[]=> .nil
 |x::xs=> .cons (s.ev x) (iP s xs)
def kT:aC→Bool
 | .cons a b=>a.eE && kT b
 | .nil=>true
 |_=>false
def y8(c a b:aC):Out aC:=
 match c with
 | .d .bool c=>match a,b with
  | .d .bool x,.d .bool y=> .ok (.d .bool (bif c then x else y))
  |a,b=> .br c (.ok a) (.ok b)
 |_=> .fail
def isObj(bN:List Nat):Option Tmp→Bool
 |some q=>bN.any fun x=>decide (x=q)
 |none=>false
def zO(bN:List Nat)(dst:Option Tmp):Bool:=isObj bN (dst.map (· +100000))
def Cm(bN:List Nat)(dst:Option Tmp):Bool:=isObj bN (dst.map (· +200000))
def iA:(t:Ty)→aC→Out t.den
 |t,.d t' x=>Out.opt (jF t' t x)
 | .slice _,.da=> .ok []
 | .pair a b,.pr x y=>(iA a x).bind fun x=>(iA b y).bind fun y=> .ok (x,y)
 |_,_=> .fail
def mapOf(P:Program)(T:TypeId):Option (TypeId×TypeId×Ty×Ty):=
 match P.underlying T with
 |some (.map K V)=>match xo P depth K,xo P depth V with
  |some kt,some vt=>match jd P depth K kt && vq P V (.d vt vt.zero) with | true=>some (K,V,kt,vt) | false=>none
  |_,_=>none
 |_=>none
def gD{β:Type}(kt:Ty)(x:kt.den):List (kt.den×β)→Option Nat
 |[]=>none
 |p::l=>match kt.beq x p.1 with | true=>some 0 | false=>(gD kt x l).map (· +1)
def ow{β:Type}(kt:Ty)(x:kt.den)(l:List (kt.den×β)):Option β:=(gD kt x l).bind fun i=>(l[i]?).map (·.2)
def oz{β:Type}(kt:Ty)(x:kt.den)(v:β)(l:List (kt.den×β)):List (kt.den×β):=
 match gD kt x l with | some i=>l.set i (x,v) | none=>l++ [(x,v)]
def wD{β:Type}(kt:Ty)(x:kt.den)(l:List (kt.den×β)):List (kt.den×β):=
 match gD kt x l with | some i=>l.eraseIdx i | none=>l
def xH(k v k' v':Ty)(l:List (k.den×v.den)):Option (List (k'.den×v'.den)):=if h:k=k'∧v=v' then some (h.1▸h.2▸l) else none
def AS.jK(s:AS)(id:Id)(ver:Nat)(kt vt:Ty):Out (List (kt.den×vt.den)):=
 match s.obj id with
 |some (v,_,.mp k' v' l)=> .guard (v==ver) (Out.opt (xH k' v' kt vt l))
 |_=> .fail
def CR(vt:Ty)(ok:Bool)(r:Option vt.den):aC:=
 match ok with
 |true=> .cons (.d vt (r.getD vt.zero)) (.cons (.d .bool r.isSome) .nil)
 |false=> .d vt (r.getD vt.zero)
def nF(P:Program)(s:AS)(dst:Option Tmp)(T:TypeId):Out AS:=
 match mapOf P T,dst with
 |some (_,_,kt,vt),some q=> .guard (s.dO q) (.ok ((s.born q [.obj 0 false (.mp kt vt [])]).put dst (.jt (.new q 0) 0)))
 |_,_=> .fail
def my(P:Program)(s:AS)(T:TypeId)(m k:aC)(ok:Bool):Out aC:=
 match mapOf P T,m with
 |some (_,_,kt,vt),.jt id ver=>(s.jK id ver kt vt).bind fun l=>(iA kt k).bind fun k=> .ok (CR vt ok (ow kt k l))
 |_,_=> .fail
def mB(P:Program)(s:AS)(T:TypeId)(m k v:aC):Out AS:=
 match mapOf P T,m with
 |some (_,_,kt,vt),.jt id ver=>(s.jK id ver kt vt).bind fun l=>(iA kt k).bind fun k=>(iA vt v).bind fun v=> .ok (s.bz id (.obj ver false (.mp kt vt (oz kt k v l))))
 |_,_=> .fail
def mz(P:Program)(s:AS)(T:TypeId)(m k:aC):Out AS:=
 match mapOf P T,m with
 |some (_,_,kt,vt),.jt id ver=>(s.jK id ver kt vt).bind fun l=>(iA kt k).bind fun k=> .ok (s.bz id (.obj ver false (.mp kt vt (wD kt k l))))
 |_,_=> .fail
def iE(P:Program)(Γ:dV)(bN:List Nat)(o:Oper)(s:AS):Out AS:=
 match o.op with
 | .move x=> .ok (s.put o.dst (s.ev x))
 | .assign x=> .ok (s.put o.dst (s.ev x))
 | .pick c a b=>(y8 (s.ev c) (s.ev a) (s.ev b)).bind fun v=> .ok (s.put o.dst v)
 | .alloc T=>match zeroOf P depth T,o.dst with
  |some z,some q=> .guard (s.dO q && vq P T z) (.ok ((s.born q [.obj 0 false (boxed P T z)]).put o.dst (.ptr (.new q 0) 0 [] 0)))
  |_,_=> .fail
 | .box T x=>vJ P s (isObj bN o.dst) o.dst T (s.ev x)
 | .build T parts=>np P s o.dst T parts.toList
 | .buildSlice T n parts=>gI P s (zO bN o.dst) (isObj bN o.dst) o.dst T n parts.toList
 | .load T x=>(py P s T (s.ev x)).bind fun v=> .ok (s.put o.dst v)
 | .store T x v=>(nQ P s T (s.ev x) (s.ev v)).bind fun s'=> .ok (s'.put o.dst .undef)
 | .nilCheck x=>match s.ev x with
  | .ptr id v p n=> .ok (s.put o.dst (.ptr id v p n))
  | .ej t y=> .ok (s.put o.dst (.ej t y))
  | .fn f c=> .ok (s.put o.dst (.fn f c))
  |_=> .fail
 | .binOp op T x y _=>match s.ev x,s.ev y with
  | .ptr i v [] 0,.ptr j w [] 0=>(DM P s T op i v j w).bind fun v=> .ok (s.put o.dst v)
  |_,_=>(C7 P T op (s.ev x) (s.ev y)).bind fun v=> .ok (s.put o.dst v)
 | .unOp op _ x=>(EA op (s.ev x)).bind fun v=> .ok (s.put o.dst v)
 | .convert src dst x=>match src==dst,s.ev x with
  |true,.bU id ver [] 0 0 len=>vQ P s o.dst src dst id ver len
  |_,.ptr id ver [] 0=>(tz P s src dst id ver).bind fun v=> .ok (s.put o.dst v)
  |_,_=>(tx P s (isObj bN o.dst) src dst (s.ev x)).bind fun v=> .ok (s.put o.dst v)
 | .sliceToArrayPointer T x=>oX P s o.dst T (s.ev x)
 | .makeFunc (.func f) first caps=> .guard (first.isEmpty && kT (iP s caps.toList)) (.ok (s.put o.dst (.fn f (iP s caps.toList))))
 | .makeSlice T l c=>(asInt (s.ev l)).bind fun l=>(asInt (s.ev c)).bind fun c=>ja P s o.dst T l c
 | .slice T x lo hi none=>(oV P s T (s.ev x) lo hi).bind fun v=> .ok (s.put o.dst v)
 | .fieldAddr T x f=>(mu P T (s.ev x) f).bind fun v=> .ok (s.put o.dst v)
 | .field T x f=>(uI P T (s.ev x) f).bind fun v=> .ok (s.put o.dst v)
 | .indexAddr T x i=>(asInt (s.ev i)).bind fun i=>(iX P s T (s.ev x) i).bind fun v=> .ok (s.put o.dst v)
 | .index T x i=>(asInt (s.ev i)).bind fun i=>(uP P T (s.ev x) i).bind fun v=> .ok (s.put o.dst v)
 | .extract x i=>(Out.opt ((s.ev x).list[i]?)).bind fun v=> .ok (s.put o.dst v)
 | .makeMap T none=>nF P s o.dst T
 | .lookup T x i ok=>(my P s T (s.ev x) (s.ev i) ok).bind fun v=> .ok (s.put o.dst v)
 | .mapUpdate T m k x=>(mB P s T (s.ev m) (s.ev k) (s.ev x)).bind fun s'=> .ok (s'.put o.dst .undef)
 | .call c=>match c.callee with
  | .builtin .delete=>match c.args.toList,c.argTypes.toList with
   |[m,k],[T,_]=>(mz P s T (s.ev m) (s.ev k)).bind fun s'=> .ok (s'.put o.dst .nil)
   |_,_=> .fail
  | .builtin .copy=>match c.args.toList,c.argTypes.toList with
   |[x,y],[T,X]=>rG P s o.dst T X (s.ev x) (s.ev y)
   |_,_=> .fail
  | .builtin .len=>match c.args.toList,c.argTypes.toList with
   |[x],[T]=>(Co P T (s.ev x)).bind fun v=> .ok (s.put o.dst v)
   |_,_=> .fail
  | .builtin .append=>match c.args.toList,c.argTypes.toList with
   |[x,y],[T,X]=>match s.ev x,s.ev y with
    | .da,.d (.int _) n=>v7 P s o.dst T X n
    |_,_=>kH P s (zO bN o.dst) (Cm bN o.dst) o.dst T X (s.ev x) (s.ev y)
   |_,_=> .fail
  | .builtin .cap=>match c.args.toList,c.argTypes.toList with
   |[x],[T]=>match s.ev x,P.underlying T with
    | .da,some (.slice _)=> .ok (s.put o.dst (.d (.int .i64) (0:Int)))
    |_,_=> .fail
   |_,_=> .fail
  | .builtin .max=>(zY true (c.args.toList.map s.ev)).bind fun v=> .ok (s.put o.dst v)
  | .builtin .min=>(zY false (c.args.toList.map s.ev)).bind fun v=> .ok (s.put o.dst v)
  | .builtin .unsafeSliceData=>match c.args.toList with
   |[x]=>match s.ev x with
    | .bU id ver [] 0 0 len=> .jD (decide (0 < len)) (.ok (s.put o.dst (.ptr id ver [.idx 0] 0)))
    |_=> .fail
   |_=> .fail
  | .builtin .unsafeString=>match c.args.toList,c.argTypes.toList with
   |[x,y],[T,_]=>match s.ev x,s.ev y with
    | .ptr id ver [.idx 0] 0,.d (.int .i64) n=>xl P s o.dst T id ver n
    |_,_=> .fail
   |_,_=> .fail
  | .value f=>match s.ev f with
   | .fn f caps=>match Γ f (c.args.toList.map s.ev++caps.list) with
    |some en=>s.call en o.dst (c.args.toList.map s.ev++caps.list)
    |none=> .fail
   |_=> .fail
  |_=> .fail
 |_=> .fail
def ru(xs:Array Operand):List Nat:=xs.toList.filterMap fun | .tmp t=>some t | _=>none
def qi(ops:Array Oper)(o:Oper):List Nat:=
 match o.guard with
 |some (j,_)=>match(ops[j]?).bind (·.dst) with | some t=> [t] | none=> []
 |none=> []
def Df{R:Type}(P:Program)(Γ:dV)(bN:List Nat)(ops:Array Oper)(o:Oper)(s:AS)(k:AS→Option R):Option R:=
 match o.guard with
 |none=>(iE P Γ bN o s).run k
 |some (j,want)=>match(ops[j]?).bind (·.dst) with
  |some q=>match s.slot q with
   | .d .bool b=>match want with
    |true=>aF b ((iE P Γ bN o (s.put (some q) (.d .bool true))).run k) (k ((s.put (some q) (.d .bool false)).put o.dst .nil))
    |false=>aF b (k ((s.put (some q) (.d .bool true)).put o.dst .nil)) ((iE P Γ bN o (s.put (some q) (.d .bool false))).run k)
   | .nil=>k (s.put o.dst .nil)
   |_=>none
  |none=>none
def r9(s:AS)(x y:Operand):Option Nat:=
 match s.ev x,s.ev y with
 | .d (.slice t) l,.da=>some (l:List t.den).length
 | .da,.d (.slice t) l=>some (l:List t.den).length
 |_,_=>none
open Classical in
noncomputable def nd{R:Type}(x y:Option R):Option R:=if x=y then x else none
noncomputable def Cf{R:Type}(P:Program)(Γ:dV)(bN:List Nat)(ops:Array Oper)(o:Oper)(s:AS)(k:AS→Option R):Option R:=
 match o.guard,o.op with
 |none,.binOp .eql T x y _=>match r9 s x y,lY.isSl P T with
  |some n,true=>aF (decide (0 < n)) (k (s.put o.dst (.d .bool false))) (nd (k (s.put o.dst (.d .bool true))) (k (s.put o.dst (.d .bool false))))
  |_,_=>Df P Γ bN ops o s k
 |none,.binOp .neq T x y _=>match r9 s x y,lY.isSl P T with
  |some n,true=>aF (decide (0 < n)) (k (s.put o.dst (.d .bool true))) (nd (k (s.put o.dst (.d .bool true))) (k (s.put o.dst (.d .bool false))))
  |_,_=>Df P Γ bN ops o s k
 |_,_=>Df P Γ bN ops o s k
noncomputable def seen{α R:Type}(l:List α):(List α→R)→R:=List.rec (motive:=fun _=>(List α→R)→R) (fun k=>k []) (fun x _ ih k=>ih fun l'=>k (x::l')) l
theorem pP{α R:Type}:∀(l:List α) (k:List α→R),seen l k=k l
 |[],_=>rfl
 |_::l,k=>pP l _
noncomputable def AS.seen{R:Type}(s:AS)(k:AS→R):R:=Go.Ab.seen s.cl fun l=>k ⟨l,s.dj,s.news⟩
theorem AS.pP{R:Type}(s:AS)(k:AS→R):s.seen k=k s:=Go.Ab.pP _ _
noncomputable def Cg{R:Type}(P:Program)(Γ:dV)(bN:List Nat)(ops:Array Oper):List Oper→AS→(AS→Option R)→Option R
 |[],s,k=>k s
 |o::l,s,k=>Cf P Γ bN ops o s fun s'=>s'.seen fun s'=>Cg P Γ bN ops l s' k
def ur(acc:List Nat)(o:Oper):Nat:=(o.after.toList.filter (Region.binds .any)).foldr (fun e m=>Nat.lor (Nat.lor (Nat.pow 2 e.on) (acc.getD e.on 0)) m) 0
def vD(ops:List Oper):List Nat:=ops.foldl (fun acc o=>acc++ [ur acc o]) []
structure nb where
 dst:Option Tmp
 cl:List Nat
 rs:List Id
 ws:List Id
def wO(s:AS)(o:Oper):List Id:=(ru o.op.operands).flatMap fun i=>(s.slot i).ids
def jW:List (Option Ty)→List aC→List Id
 |none::ps,v::vs=>v.ids++jW ps vs
 |some _::ps,_::vs=>jW ps vs
 |_,_=> []
def writes(Γ:dV)(s:AS)(o:Oper):List Id:=
 match o.op with
 | .store _ x _=>(s.ev x).ids
 | .mapUpdate _ m _ _=>(s.ev m).ids
 | .convert src dst x=>match src==dst with | true=>(s.ev x).ids | false=> []
 | .call c=>match c.callee with
  | .builtin .append=>match c.args.toList with | x::_=>(s.ev x).ids | []=> []
  | .builtin .delete=>match c.args.toList with | x::_=>(s.ev x).ids | []=> []
  | .builtin .copy=>match c.args.toList with | x::_=>(s.ev x).ids | []=> []
  | .builtin .unsafeString=>match c.args.toList with | x::_=>(s.ev x).ids | []=> []
  | .value F=>match s.ev F with
   | .fn f caps=>match Γ f (c.args.toList.map s.ev++caps.list) with
    |some en=>s.reach 64 (jW en.params (c.args.toList.map s.ev++caps.list)) []
    |none=> []
   |_=> []
  |_=> []
 |_=> []
def fh(Γ:dV)(ops:Array Oper)(s:AS)(o:Oper):nb:=
 {dst:=o.dst,cl:=ru o.op.operands++qi ops o,rs:=wO s o++writes Γ s o,ws:=writes Γ s o}
def meets(xs ys:List Id):Bool:=xs.any fun x=>ys.any fun y=>decide (x=y)
def nb.D4(f g:nb):Bool:=
 match f.dst with
 |some t=>(g.cl.any fun x=>decide (x=t)) || decide (g.dst=some t)
 |none=>false
def sI(d:Option Tmp)(ids:List Id):Bool:=
 match d with
 |some q=>ids.any fun x=>match x with | .new i _=>decide (i=q) | .fK _=>false
 |none=>false
def nb.indep(f g:nb):Bool:= !f.D4 g && !g.D4 f && !meets f.ws g.rs && !meets g.ws f.rs && !sI f.dst g.rs && !sI g.dst f.rs
noncomputable def tI{R:Type}(P:Program)(Γ:dV)(bN:List Nat)(ops:Array Oper)(anc:List Nat):Nat→List Oper→List (Nat×nb)→AS→(AS→Option R)→Option R
 |_,[],_,s,k=>k s
 |i,o::l,fs,s,k=>
  match fs.all fun x=>(anc.getD i 0).testBit x.1 || x.2.indep (fh Γ ops s o) with
  |true=>Df P Γ bN ops o s fun s'=>s'.seen fun s'=>tI P Γ bN ops anc (i+1) l ((i,fh Γ ops s o)::fs) s' k
  |false=>none
def uD(ops:List Oper):Bool:=ops.zipIdx.all fun x=>x.1.after.toList.all fun e=> !Region.binds .any e || decide (e.on < x.2)
structure B2 where
 j:Nat
 p:List pa
 q:Nat
 T:TypeId
structure Es where
 j:Nat
 p:List pa
 t:Ty
structure g8 where
 bn:List Nat:=[]
 sites:List Nat:=[]
 yN:List Id:=[]
 data:List (Nat×Ty):=[]
 iH:List B2:=[]
 s6:List Es:=[]
 Fb:List Nat:=[]
 Fi:List Nat:=[]
structure bP where
 X:Type
 run:AS→Option X
 out:X→Out (Exit×AS)
structure rz where
 an:g8
 X:Type
 DN:Exit→AS→Option X
 out:X→Out (Exit×AS)
 ok:∀e s x,DN e s=some x→(out x).eval=some (e,s)
structure eJ where
 bN:List Nat:=[]
 loops:Nat→g8:=fun _=> {}
 outs:Nat→Bool→g8:=fun _ _=> {}
 fJ:Nat→Option bP:=fun _=>none
 iH:List B2:=[]
 trim:List Nat:=[]
 res:List (Option Ty):=[]
 s6:List Es:=[]
 D6:Nat→Option rz:=fun _=>none
 CP:Nat→Option rz:=fun _=>none
def dY:Code→Nat
 | .region id _ _=>id
 | .seq a _=>dY a
 | .block _ b=>dY b
 | .loop b=>dY b
 | .scope b=>dY b
 |_=>0
def fY(bn:List Nat):Nat→List aC→List aC
 |_,[]=> []
 |i,v::vs=>(match bn.any (fun x=>decide (x=i)) with | true=>v | false=> .undef)::fY bn (i+1) vs
def gX(bn:List Nat):Nat→List (List eP)→List (List eP)
 |_,[]=> []
 |i,v::vs=>(match bn.any (fun x=>decide (x=i)) with | true=>v | false=> [])::gX bn (i+1) vs
def aC.head:aC→Option (Id×Nat)
 | .bU id ver [] 0 0 _=>some (id,ver)
 | .ptr id ver [] 0=>some (id,ver)
 |_=>none
def single(l:Option (List eP)):Bool:=match l with | some [_]=>true | _=>false
def AS.uW(s:AS)(q b:Nat):Bool:=single s.news[b]? && (decide (b=q) || single s.news[q]? || s.dO q)
def sq(id:Id)(v q:Nat)(i:Id)(ver:Nat):Option (Id×Nat):=
 match decide (i=id) with
 |true=>(match ver==v with | true=>some (.new q 0,0) | false=>none)
 |false=>(match decide (i= .new q 0) with | true=>none | false=>some (i,ver))
def eP.fZ(ρ:Id→Nat→Option (Id×Nat)):eP→eP
 | .obj v fr c=> .obj v fr (c.fZ ρ)
 | .dead=> .dead
def AS.nK(s:AS)(b v q:Nat)(fr:Bool)(c:aC):AS:=
 {cl:=s.cl.map (aC.fZ (sq (.new b 0) v q)),dj:=s.dj.map (eP.fZ (sq (.new b 0) v q)),
  news:=((s.news.map fun es=>es.map (eP.fZ (sq (.new b 0) v q))).set b []).set q [.obj 0 fr (c.fZ (sq (.new b 0) v q))]}
def AS.at(s:AS)(j:Nat):List pa→Out aC
 |[]=> .ok (s.slot j)
 |p=>match s.slot j with
  | .ptr id ver p0 _=>match s.obj id with
   |some (v,_,c)=> .guard (v==ver) ((loc c.strip (p0++p)).bind fun r=> .ok r.2)
   |none=> .fail
  |_=> .fail
def AS.putAt(s:AS)(j:Nat)(v:aC):List pa→Out AS
 |[]=> .ok (s.put (some j) v)
 |p=>match s.slot j with
  | .ptr id _ p0 _=>match s.obj id with
   |some (ver,fr,c)=>match c.strip with
    | .vec .. => .fail
    |c1=>(m9 c1 (p0++p) v).bind fun c'=> .ok (s.bz id (.obj ver fr (c.wrap c')))
   |none=> .fail
  |_=> .fail
def tA(s:AS):List Es→Out AS
 |[]=> .ok s
 |o::l=>(s.at o.j o.p).bind fun u=>(s.fP o.t u).bind fun x=>((s.bj u.shared).putAt o.j (.d o.t x) o.p).bind fun s'=>tA s' l
def qe:(t:Ty)→t.den→Out aC
 | .fq t,x=> .jD (x:Option (List t.den)).isNone (.ok .da)
 | .pair a b,x=>(qe a x.1).bind fun u=>(qe b x.2).bind fun v=> .ok (pA u v)
 |t,x=> .ok (.d t x)
def zK(s:AS):List Nat→Out AS
 |[]=> .ok s
 |j::l=>match s.slot j with
  | .ptr id ver (.idx k::p) n=>match s.obj id with
   |some (v,false,.vec e t r)=> .guard (v==ver) (.jD (decide (k < r.length)) ((qe t (nth t r k)).bind fun u=>
     zK ((s.bz id (.obj v false (.bx e t.size (.pr (.d (.arr k t) (r.take k)) (.pr u (.d (.arr (r.drop (k+1)).length t) (r.drop (k+1)))))))).put (some j) (.ptr id ver (.snd:: .fst::p) n)) l))
   |_=> .fail
  | .ptr _ _ (.snd::_) _=>zK s l
  |_=> .fail
def BO(s:AS):List Nat→Out AS
 |[]=> .ok s
 |j::l=>match s.slot j with
  | .ptr id ver (.snd:: .fst::p) n=>match s.obj id with
   |some (v,false,.bx e z (.pr (.d (.arr k t) l1) (.pr u (.d (.arr _ t') l2))))=> .guard ((v==ver) && (z==t.size) && !(z==0) && !(u.shared.any fun i=>decide (i=id)))
     ((Out.opt (jF (.slice t') (.slice t) l2)).bind fun l2=>(s.fP t u).bind fun x=>
      BO (((s.bj u.shared).bz id (.obj v false (.vec e t (l1++x::l2)))).put (some j) (.ptr id ver (.idx k::p) n)) l)
   |_=> .fail
  |_=> .fail
def mD(P:Program)(s:AS):List B2→Out AS
 |[]=> .ok s
 |o::l=>(s.at o.j o.p).bind fun u=>match u with
  | .da=>match uE P o.T,s.dO o.q with
   |some (e,t,_),true=>((s.born o.q [.obj 0 false (.vec e t [])]).putAt o.j (.bU (.new o.q 0) 0 [] 0 0 0) o.p).bind fun s'=>mD P s' l
   |_,_=> .fail
  |u=>match u.head with
   |some (.new b 0,ver)=>match s.obj (.new b 0),s.uW o.q b with
    |some (v,fr,c),true=>match v==ver with
     |true=>mD P (s.nK b v o.q fr c) l
     |false=> .fail
    |_,_=> .fail
   |_=> .fail
def xn(s:AS):List Nat→Out AS
 |[]=> .ok s
 |j::l=>match s.slot j with
  | .bU id ver [] 0 0 len=>match s.obj id with
   |some (v,false,.vec e t r)=>match v==ver with
    |true=> .jD (decide (len≤r.length)) (xn (s.bz id (.obj v false (.vec e t (r.take len)))) l)
    |false=> .fail
   |_=> .fail
  |_=> .fail
def asData(s:AS):List (Nat×Ty)→Out AS
 |[]=> .ok s
 | (j,t)::l=>(s.fP t (s.slot j)).bind fun x=>asData ((s.bj (s.slot j).shared).put (some j) (.d t x)) l
def aC.there(s:AS):aC→Bool
 | .ptr id _ _ _=>(s.obj id).isSome
 | .bU id _ _ _ _ _=>(s.obj id).isSome
 | .pr a b=>a.there s && b.there s
 | .cons a b=>a.there s && b.there s
 | .fn _ c=>c.there s
 | .bx _ _ c=>c.there s
 | .jt id _=>(s.obj id).isSome
 |_=>true
def eP.there(s:AS):eP→Bool
 | .obj _ _ c=>c.there s
 | .dead=>true
def pt(an:g8)(s:AS):AS:= {cl:=fY an.bn 0 s.cl,dj:=s.dj,news:=gX an.sites 0 s.news}
def AS.vB(s:AS):Bool:=(s.cl.all (aC.there s)) && (s.dj.all (eP.there s)) && (s.news.all fun es=>es.all (eP.there s))
def norm(P:Program)(an:g8)(s:AS):Out AS:=
 (BO (s.bj an.yN) an.Fi).bind fun s=>(tA s an.s6).bind fun s=>(asData s an.data).bind fun s=> .guard (pt an s).vB ((zK (pt an s) an.Fb).bind fun s=>mD P s an.iH)
def rZ{R:Type}(nrm:AS→Out AS)(nrmX:Exit→AS→Out AS)(body:AS→(Exit→AS→Option R)→Option R):Nat→AS→(Exit→AS→Option R)→Option R
 | 0,_,_=>none
 |n+1,s,k=>body s fun e s'=>match e with
  | .normal=>(nrm s').run fun s1=>rZ nrm nrmX body n s1 k
  |e=>(nrmX e s').run (k e)
def yT:Exit→Bool | .ret=>true | _=>false
def BQ{R:Type}(le:bP)(s:AS)(k:Exit→AS→Option R):Option R:=ae (le.run s) fun x=>(le.out x).run fun r=>k r.1 r.2
def uR{R:Type}(P:Program)(j:Option rz)(run: {R:Type}→(Exit→AS→Option R)→Option R)(k:Exit→AS→Option R):Option R:=
 match j with
 |none=>run k
 |some j=>ae (run fun e s=>(norm P j.an s).run (j.DN e)) fun x=>(j.out x).run fun r=>k r.1 r.2
noncomputable def ev(P:Program)(Γ:dV)(an:eJ)(N:Nat):Code→ {R:Type}→AS→(Exit→AS→Option R)→Option R
 | .skip,_,s,k=>k .normal s
 | .region id ops draw,_,s,k=>uR P (an.D6 id) (fun k=>match draw with
  |true=>(match uD ops.toList with
   |true=>tI P Γ an.bN ops (vD ops.toList) 0 ops.toList [] s fun s'=>k .normal s'
   |false=>none)
  |false=>Cg P Γ an.bN ops ops.toList s fun s'=>k .normal s') k
 | .seq a b,_,s,k=>uR P (an.CP (dY b)) (fun k=>ev P Γ an N a s k) fun e s'=>match e with | .normal=>ev P Γ an N b s' k | e=>k e s'
 | .cond c x y,_,s,k=>match s.ev c with
  | .d .bool b=>aF b (ev P Γ an N x s k) (ev P Γ an N y s k)
  |_=>none
 | .block id b,_,s,k=>ev P Γ an N b s fun e s'=>match e with | .exit i=>(match decide (i=id) with | true=>k .normal s' | false=>k (.exit i) s') | e=>k e s'
 | .loop b,_,s,k=>(norm P (an.loops (dY b)) s).run fun s1=>match an.fJ (dY b) with
  |some le=>BQ le s1 k
  |none=>rZ (norm P (an.loops (dY b))) (fun e=>norm P (an.outs (dY b) (yT e))) (ev P Γ an N b) N s1 k
 | .scope b,_,s,k=>ev P Γ an N b s fun e s'=>match e with | .goto _=>none | e=>k e s'
 | .label _,_,s,k=>k .normal s
 | .exit id,_,s,k=>k (.exit id) s
 | .ret,_,s,k=>k .ret s
 |_,_,_,_=>none
def sx(P:Program)(s:AS):ResultVar→Out aC
 | .tmp t=> .ok (s.slot t)
 | .cell a T=>py P s T (s.slot a)
def sw(P:Program)(s:AS)(r:ResultVar):Option Ty→Out (AS×aC)
 |none=>(sx P s r).bind fun v=> .ok (s,v)
 |some t=>(sx P s r).bind fun v=>(s.fP t v).bind fun x=> .ok (s.bj v.shared,.d t x)
def pL(P:Program)(s:AS):List ResultVar→List (Option Ty)→Out (AS×aC)
 |[],_=> .ok (s,.nil)
 |r::rs,ts=>(sw P s r (ts.headD none)).bind fun x=> .guard x.2.eE ((pL P x.1 rs ts.tail).bind fun y=> .ok (y.1,.cons x.2 y.2))
def va(P:Program)(fn:Func)(ts:List (Option Ty))(s:AS):Out (AS×aC):=
 match fn.results.toList with
 |[r]=>sw P s r (ts.headD none)
 |rs=>pL P s rs ts
def gO:Code→List Code
 | .seq a b=>gO a++gO b
 | .cond _ a b=>gO a++gO b
 | .block _ b=>gO b
 | .scope b=>gO b
 | .loop b=>b::gO b
 |_=> []
def iT(fn:Func)(i:Nat):Code:=match fn.body with | some c=>(gO c).getD i .skip | none=> .skip
noncomputable def qm(P:Program)(Γ:dV)(an:eJ)(N:Nat)(fn:Func)(i:Nat){R:Type}(s:AS)(kn:AS→Option R)(kx:Exit→AS→Option R):Option R:=
 ev P Γ an N (iT fn i) s fun e s'=>match e with
  | .normal=>(norm P (an.loops (dY (iT fn i))) s').run kn
  |e=>(norm P (an.outs (dY (iT fn i)) (yT e)) s').run (kx e)
noncomputable def wq(P:Program)(Γ:dV)(an:eJ)(N:Nat)(fn:Func)(i:Nat){R:Type}(n:Nat)(s:AS)(k:Exit→AS→Option R):Option R:=
 rZ (norm P (an.loops (dY (iT fn i)))) (fun e=>norm P (an.outs (dY (iT fn i)) (yT e))) (ev P Γ an N (iT fn i)) n s k
def Id.CO:Id→Bool | .new _ _=>true | .fK _=>false
def AS.qf(s:AS)(v:aC):List Id:=(s.reach 64 (v.ids++s.dj.flatMap eP.ids) []).filter Id.CO
def oM(ids:List Id):Id→Nat→Option (Id×Nat)
 | .fK k,v=>some (.fK k,v)
 |id,v=>match idxOf id ids with | some j=>some (.new 0 j,v) | none=>none
def eP.fin(ids:List Id):eP→eP
 | .obj v fr c=> .obj v fr (c.fZ (oM ids))
 | .dead=> .dead
def AS.CK(s:AS)(ids:List Id)(v:aC):aZ:=
 {val:=v.fZ (oM ids),dj:=s.dj.map (eP.fin ids),news:=ids.map fun id=>((s.ck id).getD .dead).fin ids}
def AS.fin(s:AS)(v:aC):aZ:=s.CK (s.qf v) v
def start(fn:Func)(args:List aC)(dj:List eP):AS:=
 {cl:=args++List.replicate (fn.ntmps - args.length) .undef,dj,news:=List.replicate fn.ntmps []}
def BC(fn:Func):List Nat:=fn.results.toList.map fun r=>match r with | .tmp t=>t | .cell a _=>a
def AS.drop(s:AS)(ks:List Nat):AS:= {cl:=fY ks 0 s.cl,dj:=s.dj,news:=s.news}
def finish(P:Program)(an:eJ)(fn:Func)(s:AS):Out aZ:=
 (tA s an.s6).bind fun s=>(mD P (s.drop (BC fn)) an.iH).bind fun s=>(xn s an.trim).bind fun s=>(va P fn an.res s).bind fun r=> .ok (r.1.fin r.2)
noncomputable def B4(P:Program)(Γ:dV)(an:eJ)(N:Nat)(fn:Func)(args:List aC)(dj:List eP){R:Type}(k:aZ→Option R):Option R:=
 match fn.body with
 |some c=>ev P Γ an N c (start fn args dj) fun e s=>match e with
  | .normal=>(finish P an fn s).run k
  | .ret=>(finish P an fn s).run k
  |_=>none
 |none=>none
end Go.Ab
namespace Go.Ab
inductive Et where
 |eQ
 |id (i:Id)
inductive ix where
 |free
 |own (o:Et) (k:Nat)
structure Pl where
 b:Nat
 cap:Nat
structure Env where
 w:World
 g:Nat→ix
 β:Id→Option Pl
 s:Id→Option eP
def kf(g:Nat→ix)(b off:Nat):Prop:=match g b with | .free=>True | .own _ k=>off < k
def Env.has(E:Env)(b off:Nat)(v:Value):Prop:=E.w.cell? ⟨b,off,none⟩=some v∧kf E.g b off
def bg{α:Type}(R:List Value→α→Prop):List Value→List α→Prop
 |cs,[]=>cs=[]
 |cs,x::xs=>∃c cs',cs=c++cs'∧R c x∧bg R cs' xs
def nf(E:Env)(a:Option Addr)(vs:List Value):Prop:=
 ∀i v,vs[i]? =some v→∃b off,a=some ⟨b,off,none⟩∧E.has b (off+i) v
def cT(E:Env):(t:Ty)→List Value→t.den→Prop
 | .int k,cs,x=>cs=[.int k x]
 | .bool,cs,x=>cs=[.bool x]
 | .str,cs,x=>cs=[.string x]
 | .slice t,cs,l=>∃a cap vs,cs=[.slice a (l:List t.den).length cap]∧(l:List t.den).length≤cap∧(0 < (l:List t.den).length→a.isSome=true)∧nf E a vs∧bg (cT E t) vs l
 | .unit,cs,_=>cs=[]
 | .pair a b,cs,x=>∃ca cb,cs=ca++cb∧cT E a ca x.1∧cT E b cb x.2
 | .arr n t,cs,l=>(l:List t.den).length=n∧bg (cT E t) cs l
 | .fq t,cs,x=>((x:Option (List t.den))=none→cs=[.slice none 0 0])∧∀l:List t.den,(x:Option (List t.den))=some l→
   ∃a cap vs,cs=[.slice a l.length cap]∧l.length≤cap∧(0 < l.length→a.isSome=true)∧nf E a vs∧bg (cT E t) vs l
section
variable {α:Type} {R R':List Value→α→Prop} {z:Nat}
theorem bg.mono(h:∀c x,R c x→R' c x):∀ {cs:List Value} {l:List α},bg R cs l→bg R' cs l
 |_,[],hc=>hc
 |_,_::_,⟨c,cs',e,hx,hr⟩=>⟨c,cs',e,h _ _ hx,bg.mono h hr⟩
theorem bg.length(h:∀c x,R c x→c.length=z):∀ {cs:List Value} {l:List α},bg R cs l→cs.length=l.length*z
 |cs,[],hc=>by
  have:cs=[]:=hc
  simp[this]
 |_,x::xs,⟨c,cs',e,hx,hr⟩=>by
  rw[e,List.length_append,h c x hx,bg.length h hr,List.length_cons,Nat.add_mul,Nat.one_mul,Nat.add_comm]
theorem bg.all{p:Value→Prop}(h:∀c x,R c x→∀v∈c,p v):∀ {cs:List Value} {l:List α},bg R cs l→∀v∈cs,p v
 |cs,[],hc,v,hv=>by
  have:cs=[]:=hc
  simp[this]at hv
 |_,_::_,⟨c,cs',e,hx,hr⟩,v,hv=>by
  rw[e]at hv
  rcases List.mem_append.1 hv with hv | hv
  ·exact h _ _ hx v hv
  ·exact bg.all h hr v hv
theorem bg.append:∀ {cs:List Value} {l:List α} {cs':List Value} {l':List α},bg R cs l→bg R cs' l'→bg R (cs++cs') (l++l')
 |cs,[],_,_,hc,h'=>by
  have:cs=[]:=hc
  simpa[this]using h'
 |_,x::xs,_,_,⟨c,cs1,e,hx,hr⟩,h'=>⟨c,cs1++_,by rw[e,List.append_assoc],hx,bg.append hr h'⟩
theorem bg.take(h:∀c x,R c x→c.length=z):∀ {cs:List Value} {l:List α} (n:Nat),bg R cs l→bg R (cs.take (n*z)) (l.take n)
 |cs,[],n,hc=>by
  have:cs=[]:=hc
  simp[this,bg]
 |_,x::xs,0,_=>by simp[bg]
 |_,x::xs,n+1,⟨c,cs',e,hx,hr⟩=>by
  refine⟨c,cs'.take (n*z),?_,hx,bg.take h n hr⟩
  rw[e,List.take_append,h c x hx,Nat.add_mul,Nat.one_mul,List.take_of_length_le (by rw[h c x hx];omega),Nat.add_sub_cancel]
theorem bg.drop(h:∀c x,R c x→c.length=z):∀ {cs:List Value} {l:List α} (n:Nat),bg R cs l→bg R (cs.drop (n*z)) (l.drop n)
 |cs,[],n,hc=>by
  have:cs=[]:=hc
  simp[this,bg]
 |_,x::xs,0,hc=>by simpa using hc
 |_,x::xs,n+1,⟨c,cs',e,hx,hr⟩=>by
  rw[e,List.drop_append,h c x hx,Nat.add_mul,Nat.one_mul,List.drop_of_length_le (by rw[h c x hx];omega),Nat.add_sub_cancel]
  simpa using bg.drop h n hr
theorem bg.get(h:∀c x,R c x→c.length=z){cs:List Value}{l:List α}(hc:bg R cs l)(i:Nat)(hi:i < l.length):R ((cs.drop (i*z)).take z) l[i]:=by
 have h1:=bg.take h 1 (bg.drop h i hc)
 rw[List.drop_eq_getElem_cons hi]at h1
 simp only[Nat.one_mul,List.take_succ_cons,List.take_zero]at h1
 obtain⟨c,cs',e,hx,hr⟩:=h1
 have:cs'=[]:=hr
 rw[e,this,List.append_nil]
 exact hx
theorem bg.set(h:∀c x,R c x→c.length=z){cs:List Value}{l:List α}(hc:bg R cs l)(i:Nat)(hi:i < l.length){c:List Value}{x:α}(hx:R c x):
  bg R (cs.take (i*z)++c++cs.drop (i*z+c.length)) (l.set i x):=by
 rw[List.set_eq_take_append_cons_drop,if_pos hi,h c x hx]
 have h1:=bg.take h i hc
 have h2:=bg.drop h (i+1) hc
 rw[Nat.add_mul,Nat.one_mul]at h2
 have h3:bg R (c++cs.drop (i*z+z)) (x::l.drop (i+1)):=⟨c,_,rfl,hx,h2⟩
 rw[List.append_assoc]
 exact bg.append h1 h3
theorem bg.one{c:List Value}{x:α}(h:R c x):bg R c [x]:=⟨c,[],by simp,h,rfl⟩
end
theorem cT.size{E:Env}:∀ {t:Ty} {cs:List Value} {x:t.den},cT E t cs x→cs.length=t.size
 | .int _,_,_,h=>by simp only[cT]at h;simp[h,Ty.size]
 | .bool,_,_,h=>by simp only[cT]at h;simp[h,Ty.size]
 | .str,_,_,h=>by simp only[cT]at h;simp[h,Ty.size]
 | .slice t,_,_,h=>by simp only[cT]at h;obtain⟨a,cap,vs,rfl,_⟩:=h;simp[Ty.size]
 | .unit,_,_,h=>by simp only[cT]at h;simp[h,Ty.size]
 | .pair a b,_,_,h=>by
  simp only[cT]at h
  obtain⟨ca,cb,rfl,ha,hb⟩:=h
  simp[Ty.size,cT.size ha,cT.size hb]
 | .arr n t,_,_,h=>by
  simp only[cT]at h
  rw[bg.length (fun c x hx=>cT.size hx) h.2,h.1,Ty.size]
 | .fq t,_,x,h=>by
  simp only[cT]at h
  obtain⟨h1,h2⟩:=h
  cases hx:(x:Option (List t.den)) with
  |none=>rw[h1 hx];rfl
  |some l=>obtain⟨a,cap,vs,rfl,_⟩:=h2 l hx;rfl
theorem cT.one{E:Env}:∀ {t:Ty} {cs:List Value} {x:t.den},cT E t cs x→∀c∈cs,c.oneCell'=true
 | .int _,_,_,h=>by simp only[cT]at h;simp[h,Value.oneCell']
 | .bool,_,_,h=>by simp only[cT]at h;simp[h,Value.oneCell']
 | .str,_,_,h=>by simp only[cT]at h;simp[h,Value.oneCell']
 | .slice t,_,_,h=>by simp only[cT]at h;obtain⟨a,cap,vs,rfl,_⟩:=h;simp[Value.oneCell']
 | .unit,_,_,h=>by simp only[cT]at h;simp[h]
 | .pair a b,_,_,h=>by
  simp only[cT]at h
  obtain⟨ca,cb,rfl,ha,hb⟩:=h
  intro c hc
  rcases List.mem_append.1 hc with hc | hc
  ·exact cT.one ha c hc
  ·exact cT.one hb c hc
 | .arr n t,_,_,h=>by
  simp only[cT]at h
  exact bg.all (fun c x hx=>cT.one hx) h.2
 | .fq t,_,x,h=>by
  simp only[cT]at h
  obtain⟨h1,h2⟩:=h
  cases hx:(x:Option (List t.den)) with
  |none=>rw[h1 hx];simp[Value.oneCell']
  |some l=>obtain⟨a,cap,vs,rfl,_⟩:=h2 l hx;simp[Value.oneCell']
structure lr(E E':Env):Prop where
 has:∀b off v,E.has b off v→E'.has b off v
 fz:∀b ob,E.g b= .free→E.w.heap[b]? =some ob→E'.g b= .free∧E'.w.heap[b]? =some ob
theorem lr.refl(E:Env):lr E E:=⟨fun _ _ _ h=>h,fun _ _ h h'=>⟨h,h'⟩⟩
theorem lr.trans{E E' E'':Env}(h:lr E E')(h':lr E' E''):lr E E'':=⟨fun b o v x=>h'.has b o v (h.has b o v x),fun b ob h1 h2=>let⟨h3,h4⟩:=h.fz b ob h1 h2;h'.fz b ob h3 h4⟩
theorem nf.mono{E E':Env}(h:lr E E'){a:Option Addr}{vs:List Value}(hr:nf E a vs):nf E' a vs:=
 fun i v hv=>let⟨b,off,ha,hh⟩:=hr i v hv;⟨b,off,ha,h.has _ _ _ hh⟩
theorem cT.mono{E E':Env}(hm:lr E E'):∀ {t:Ty} {cs:List Value} {x:t.den},cT E t cs x→cT E' t cs x
 | .int _,_,_,h=>by simpa only[cT]using h
 | .bool,_,_,h=>by simpa only[cT]using h
 | .str,_,_,h=>by simpa only[cT]using h
 | .slice t,_,_,h=>by
  simp only[cT]at h ⊢
  obtain⟨a,cap,vs,e,hl,hs,hr,hc⟩:=h
  exact⟨a,cap,vs,e,hl,hs,hr.mono hm,hc.mono fun c x hx=>cT.mono hm hx⟩
 | .unit,_,_,h=>by simpa only[cT]using h
 | .pair a b,_,_,h=>by
  simp only[cT]at h ⊢
  obtain⟨ca,cb,e,ha,hb⟩:=h
  exact⟨ca,cb,e,cT.mono hm ha,cT.mono hm hb⟩
 | .arr n t,_,_,h=>by
  simp only[cT]at h ⊢
  exact⟨h.1,h.2.mono fun c x hx=>cT.mono hm hx⟩
 | .fq t,_,_,h=>by
  simp only[cT]at h ⊢
  refine⟨h.1,fun l hx=> ?_⟩
  obtain⟨a,cap,vs,e,hl,hs,hr,hc⟩:=h.2 l hx
  exact⟨a,cap,vs,e,hl,hs,hr.mono hm,hc.mono fun c x hx=>cT.mono hm hx⟩
def Env.cur(E:Env)(id:Id)(ver:Nat):Prop:=∃fr c,E.s id=some (.obj ver fr c)
def Env.rf(E:Env)(id:Id)(ver:Nat):Prop:=E.s id≠none∧∀v fr c,E.s id=some (.obj v fr c)→ver≤v
def fe(agg:Bool)(cs:List Value)(v:Value):Prop:=match agg with | true=>v= .agg cs.toArray | false=>cs=[v]
mutual
def V(E:Env):aC→List Value→Prop
 | .undef,_=>False
 | .gone,cs=>∃v,cs=[v]∧v.oneCell'=true
 | .da,cs=>cs=[.slice none 0 0]
 | .kc,cs=>cs=[.pointer none]
 | .ka,cs=>cs=[.nilFunc]
 | .lJ,cs=>cs=[.map none]
 | .sb l,cs=>∃(b cap:Nat) (arr:Array Value) (e:TypeId),cs=[.slice (some ⟨b,0,none⟩) l.length cap]∧l.length≤cap∧E.g b= .free∧E.w.heap[b]? =some (.cells arr e (arr.size,arr.size+1))∧∀(j:Nat) (v:Value),(l.map (Value.int .u8))[j]? =some v→arr[j]? =some v
 | .d t x,cs=>cT E t cs x
 | .pr a b,cs=>∃ca cb,cs=ca++cb∧V E a ca∧V E b cb
 | .ptr id ver _ n,cs=>∃a,cs=[.pointer (some a)]∧E.rf id ver∧(E.cur id ver→∃pl,E.β id=some pl∧a=⟨pl.b,n,none⟩)
 | .ej t x,cs=>∃b off vs,cs=[.pointer (some ⟨b,off,none⟩)]∧nf E (some ⟨b,off,none⟩) vs∧cT E t vs x
 | .bU id ver p c i len,cs=>∃a cap,cs=[.slice a len cap]∧len≤cap∧(0 < len→a.isSome=true)∧E.rf id ver∧
   (E.cur id ver→match E.β id with
    |some pl=>(0 < len∨i=0→a=some ⟨pl.b,c,none⟩)∧(p=[]→i=0→cap=pl.cap)
    |none=>a=none∧len=0∧cap=0)
 | .fn f c,cs=>∃vs,cs=[.func (.func f) #[] vs.toArray]∧VC E c vs
 | .cons _ _,_=>False
 | .nil,_=>False
 | .vec ..,_=>False
 | .bx ..,_=>False
 | .jt id ver,cs=>∃b,cs=[.map (some b)]∧E.rf id ver∧(E.cur id ver→∃pl,E.β id=some pl∧b=pl.b)
 | .mp ..,_=>False
def VC(E:Env):aC→List Value→Prop
 | .nil,vs=>vs=[]
 | .cons a b,vs=>∃v vs' cs,vs=v::vs'∧V E a cs∧fe a.agg cs v∧VC E b vs'
 |_,_=>False
end
structure cW(E E':Env):Prop where
 mem:lr E E'
 rf:∀id ver,E.rf id ver→E'.rf id ver
 cur:∀id ver,E.rf id ver→E'.cur id ver→E.cur id ver∧E'.β id=E.β id
theorem cW.refl(E:Env):cW E E:=⟨lr.refl E,fun _ _ h=>h,fun _ _ _ h=>⟨h,rfl⟩⟩
theorem cW.trans{E E' E'':Env}(h:cW E E')(h':cW E' E''):cW E E'':=
 ⟨h.mem.trans h'.mem,fun id v b=>h'.rf id v (h.rf id v b),fun id v b c=>
  let⟨c1,e1⟩:=h'.cur id v (h.rf id v b) c
  let⟨c2,e2⟩:=h.cur id v b c1
  ⟨c2,e1.trans e2⟩⟩
mutual
theorem V.mono{E E':Env}(h:cW E E'):∀ {a:aC} {cs:List Value},V E a cs→V E' a cs
 | .undef,_,hv=>by simp only[V]at hv
 | .gone,_,hv=>by simpa only[V]using hv
 | .da,_,hv=>by simpa only[V]using hv
 | .kc,_,hv=>by simpa only[V]using hv
 | .ka,_,hv=>by simpa only[V]using hv
 | .lJ,_,hv=>by simpa only[V]using hv
 | .sb l,_,hv=>by
  simp only[V]at hv ⊢
  obtain⟨b,cap,arr,e,h1,h2,h3,h4,h5⟩:=hv
  obtain⟨h6,h7⟩:=h.mem.fz b _ h3 h4
  exact⟨b,cap,arr,e,h1,h2,h6,h7,h5⟩
 | .d t x,_,hv=>by simp only[V]at hv ⊢;exact hv.mono h.mem
 | .pr a b,_,hv=>by
  simp only[V]at hv ⊢
  obtain⟨ca,cb,e,ha,hb⟩:=hv
  exact⟨ca,cb,e,V.mono h ha,V.mono h hb⟩
 | .ptr id ver p n,_,hv=>by
  simp only[V]at hv ⊢
  obtain⟨a,e,hb,hc⟩:=hv
  refine⟨a,e,h.rf _ _ hb,fun c=> ?_⟩
  obtain⟨c1,e1⟩:=h.cur _ _ hb c
  rw[e1];exact hc c1
 | .ej t x,_,hv=>by
  simp only[V]at hv ⊢
  obtain⟨b,off,vs,e,hr,hx⟩:=hv
  exact⟨b,off,vs,e,hr.mono h.mem,hx.mono h.mem⟩
 | .bU id ver p c i len,_,hv=>by
  simp only[V]at hv ⊢
  obtain⟨a,cap,e,hl,hs,hb,hc⟩:=hv
  refine⟨a,cap,e,hl,hs,h.rf _ _ hb,fun c=> ?_⟩
  obtain⟨c1,e1⟩:=h.cur _ _ hb c
  rw[e1];exact hc c1
 | .fn f c,_,hv=>by
  simp only[V]at hv ⊢
  obtain⟨vs,e,hc⟩:=hv
  exact⟨vs,e,VC.mono h hc⟩
 | .cons _ _,_,hv=>by simp only[V]at hv
 | .nil,_,hv=>by simp only[V]at hv
 | .vec ..,_,hv=>by simp only[V]at hv
 | .bx ..,_,hv=>by simp only[V]at hv
 | .jt id ver,_,hv=>by
  simp only[V]at hv ⊢
  obtain⟨b,e,hb,hc⟩:=hv
  refine⟨b,e,h.rf _ _ hb,fun c=> ?_⟩
  obtain⟨c1,e1⟩:=h.cur _ _ hb c
  rw[e1];exact hc c1
 | .mp ..,_,hv=>by simp only[V]at hv
theorem VC.mono{E E':Env}(h:cW E E'):∀ {a:aC} {vs:List Value},VC E a vs→VC E' a vs
 | .nil,_,hv=>by simpa only[VC]using hv
 | .cons a b,_,hv=>by
  simp only[VC]at hv ⊢
  obtain⟨v,vs',cs,e,ha,ho,hb⟩:=hv
  exact⟨v,vs',cs,e,V.mono h ha,ho,VC.mono h hb⟩
 | .undef,_,hv=>by simp only[VC]at hv
 | .gone,_,hv=>by simp only[VC]at hv
 | .da,_,hv=>by simp only[VC]at hv
 | .kc,_,hv=>by simp only[VC]at hv
 | .ka,_,hv=>by simp only[VC]at hv
 | .lJ,_,hv=>by simp only[VC]at hv
 | .sb _,_,hv=>by simp only[VC]at hv
 | .d t x,_,hv=>by simp only[VC]at hv
 | .pr a b,_,hv=>by simp only[VC]at hv
 | .ptr ..,_,hv=>by simp only[VC]at hv
 | .ej ..,_,hv=>by simp only[VC]at hv
 | .bU ..,_,hv=>by simp only[VC]at hv
 | .fn ..,_,hv=>by simp only[VC]at hv
 | .vec ..,_,hv=>by simp only[VC]at hv
 | .bx ..,_,hv=>by simp only[VC]at hv
 | .jt ..,_,hv=>by simp only[VC]at hv
 | .mp ..,_,hv=>by simp only[VC]at hv
end
theorem V.size{E:Env}:∀ {a:aC} {cs:List Value},V E a cs→cs.length=a.size
 | .undef,_,hv=>by simp only[V]at hv
 | .gone,_,hv=>by simp only[V]at hv;obtain⟨v,rfl,_⟩:=hv;rfl
 | .da,_,hv=>by simp only[V]at hv;rw[hv];rfl
 | .kc,_,hv=>by simp only[V]at hv;rw[hv];rfl
 | .ka,_,hv=>by simp only[V]at hv;rw[hv];rfl
 | .lJ,_,hv=>by simp only[V]at hv;rw[hv];rfl
 | .sb _,_,hv=>by simp only[V]at hv;obtain⟨_,_,_,_,rfl,_⟩:=hv;rfl
 | .d t x,_,hv=>by simp only[V]at hv;exact hv.size
 | .pr a b,_,hv=>by
  simp only[V]at hv
  obtain⟨ca,cb,rfl,ha,hb⟩:=hv
  simp[aC.size,V.size ha,V.size hb]
 | .ptr ..,_,hv=>by simp only[V]at hv;obtain⟨a,rfl,_⟩:=hv;rfl
 | .ej ..,_,hv=>by simp only[V]at hv;obtain⟨_,_,_,rfl,_⟩:=hv;rfl
 | .bU ..,_,hv=>by simp only[V]at hv;obtain⟨_,_,rfl,_⟩:=hv;rfl
 | .fn ..,_,hv=>by simp only[V]at hv;obtain⟨_,rfl,_⟩:=hv;rfl
 | .cons _ _,_,hv=>by simp only[V]at hv
 | .nil,_,hv=>by simp only[V]at hv
 | .vec ..,_,hv=>by simp only[V]at hv
 | .bx ..,_,hv=>by simp only[V]at hv
 | .jt ..,_,hv=>by simp only[V]at hv;obtain⟨_,rfl,_⟩:=hv;rfl
 | .mp ..,_,hv=>by simp only[V]at hv
theorem V.one{E:Env}:∀ {a:aC} {cs:List Value},V E a cs→∀c∈cs,c.oneCell'=true
 | .undef,_,hv=>by simp only[V]at hv
 | .gone,_,hv=>by simp only[V]at hv;obtain⟨v,rfl,h⟩:=hv;simp[h]
 | .da,_,hv=>by simp only[V]at hv;rw[hv];simp[Value.oneCell']
 | .kc,_,hv=>by simp only[V]at hv;rw[hv];simp[Value.oneCell']
 | .ka,_,hv=>by simp only[V]at hv;rw[hv];simp[Value.oneCell']
 | .lJ,_,hv=>by simp only[V]at hv;rw[hv];simp[Value.oneCell']
 | .sb _,_,hv=>by simp only[V]at hv;obtain⟨_,_,_,_,rfl,_⟩:=hv;simp[Value.oneCell']
 | .d t x,_,hv=>by simp only[V]at hv;exact hv.one
 | .pr a b,_,hv=>by
  simp only[V]at hv
  obtain⟨ca,cb,rfl,ha,hb⟩:=hv
  intro c hc
  rcases List.mem_append.1 hc with hc | hc
  ·exact V.one ha c hc
  ·exact V.one hb c hc
 | .ptr ..,_,hv=>by simp only[V]at hv;obtain⟨a,rfl,_⟩:=hv;simp[Value.oneCell']
 | .ej ..,_,hv=>by simp only[V]at hv;obtain⟨_,_,_,rfl,_⟩:=hv;simp[Value.oneCell']
 | .bU ..,_,hv=>by simp only[V]at hv;obtain⟨_,_,rfl,_⟩:=hv;simp[Value.oneCell']
 | .fn ..,_,hv=>by simp only[V]at hv;obtain⟨_,rfl,_⟩:=hv;simp[Value.oneCell']
 | .cons _ _,_,hv=>by simp only[V]at hv
 | .nil,_,hv=>by simp only[V]at hv
 | .vec ..,_,hv=>by simp only[V]at hv
 | .bx ..,_,hv=>by simp only[V]at hv
 | .jt ..,_,hv=>by simp only[V]at hv;obtain⟨_,rfl,_⟩:=hv;simp[Value.oneCell']
 | .mp ..,_,hv=>by simp only[V]at hv
theorem aC.xe:∀ {v:aC},v.agg=false→v.size=1
 | .d (.int _) _,_ | .d .bool _,_ | .d .str _,_ | .d (.slice _) _,_ | .d (.fq _) _,_=>rfl
 | .d .unit _,h | .d (.pair _ _) _,h | .d (.arr _ _) _,h=>by simp[aC.agg,Ty.agg]at h
 | .pr _ _,h=>by simp[aC.agg]at h
 | .undef,_ | .gone,_ | .da,_ | .kc,_ | .ka,_ | .lJ,_ | .ptr ..,_ | .ej ..,_ | .bU ..,_ | .fn ..,_ | .cons ..,_ | .nil,_ | .vec ..,_ | .sb _,_ | .bx ..,_ | .jt ..,_ | .mp ..,_=>rfl
def VS(E:Env):aC→Value→Prop
 | .undef,_=>True
 | .cons a b,v=>∃vs,v= .tuple vs.toArray∧VC E (.cons a b) vs
 | .nil,v=>v= .tuple #[]
 |a,v=>∃cs,V E a cs∧fe a.agg cs v
theorem VS.mono{E E':Env}(h:cW E E'):∀ {a:aC} {v:Value},VS E a v→VS E' a v:=by
 intro a v hv
 cases a <;> first
  |trivial
  |exact hv
  | (obtain⟨cs,h1,h2⟩:=hv;exact⟨cs,V.mono h h1,h2⟩)
  | (obtain⟨vs,e,hc⟩:=hv;exact⟨vs,e,VC.mono h hc⟩)
theorem VS.undef{E:Env}{v:Value}:VS E .undef v:=trivial
theorem VS.of{E:Env}{a:aC}{cs:List Value}{v:Value}(h:V E a cs)(ho:fe a.agg cs v):VS E a v:=by
 cases a <;> first
  | (simp only[V]at h;done)
  |exact⟨cs,h,ho⟩
theorem VS.eE{E:Env}{a:aC}{v:Value}(h:VS E a v)(hc:a.eE=true):∃cs,V E a cs∧fe a.agg cs v:=by
 cases a <;> first
  | (simp[aC.eE]at hc;done)
  |exact h
theorem VS.single{E:Env}{a:aC}{v:Value}(h:VS E a v)(hc:a.eE=true)(ha:a.agg=false):V E a [v]:=by
 obtain⟨cs,hv,ho⟩:=h.eE hc
 rw[ha]at ho
 have:cs=[v]:=ho
 rw[←this];exact hv
theorem fe.cells{agg:Bool}{cs:List Value}{v:Value}(h:fe agg cs v)(h1:∀c∈cs,c.oneCell'=true):v.cells=cs.toArray:=by
 cases agg with
 |true=>have:v= .agg cs.toArray:=h;rw[this];rfl
 |false=>
  have e:cs=[v]:=h
  have:=h1 v (by simp[e])
  rw[e]
  cases v <;> first | rfl | (simp[Value.oneCell']at this;done)
end Go.Ab
namespace Go.Ab
section
variable {α β:Type}
theorem ax{a b:α}:(Out.ok a).eval=some b↔a=b:=by simp[Out.eval]
theorem ak{b:α}:(Out.fail:Out α).eval=some b↔False:=by simp[Out.eval]
theorem bF{c:Bool}{r:Out α}{b:α}:(Out.jD c r).eval=some b↔c=true∧r.eval=some b:=by cases c <;> simp[Out.eval]
theorem aE{c:Bool}{r:Out α}{b:α}:(Out.guard c r).eval=some b↔c=true∧r.eval=some b:=by cases c <;> simp[Out.guard,Out.eval]
theorem rK{x:Option β}{f:β→Out α}{b:α}:(Out.get x f).eval=some b↔∃y,x=some y∧(f y).eval=some b:=by
 cases x <;> simp[Out.eval]
theorem gg{x:Option α}{b:α}:(Out.opt x).eval=some b↔x=some b:=by cases x <;> simp[Out.opt,Out.eval]
theorem uF(o:Out α)(f:α→Out β):(o.bind f).eval=o.eval.bind fun a=>(f a).eval:=by
 induction o with
 |ok a=>rfl
 |fail=>rfl
 |jD c r ih=>cases c <;> simp[Out.bind,Out.eval,ih]
 |get x g ih=>cases x <;> simp[Out.bind,Out.eval,ih]
 |br c x y ih1 ih2=>cases c <;> simp[Out.bind,Out.eval,ih1,ih2]
theorem aw{o:Out α}{f:α→Out β}{b:β}:(o.bind f).eval=some b↔∃a,o.eval=some a∧(f a).eval=some b:=by
 rw[uF];simp[Option.bind_eq_some_iff]
theorem run_eq{R:Type}(o:Out α)(k:α→Option R):o.run k=o.eval.bind k:=by
 induction o with
 |ok a=>rfl
 |fail=>rfl
 |jD c r ih=>cases c <;> simp[Out.run,Out.eval,aF,ih]
 |get x g ih=>cases x <;> simp[Out.run,Out.eval,ae,ih]
 |br c x y ih1 ih2=>cases c <;> simp[Out.run,Out.eval,aF,ih1,ih2]
theorem iI{R:Type}{o:Out α}{k:α→Option R}{r:R}:o.run k=some r↔∃a,o.eval=some a∧k a=some r:=by
 rw[run_eq];simp[Option.bind_eq_some_iff]
end
theorem fV{t t':Ty}{x:t.den}{y:t'.den}(h:jF t t' x=some y):∃e:t=t',e▸x=y:=by
 unfold jF at h
 split at h
 ·rename_i e;exact⟨e,by simpa using h⟩
 ·cases h
theorem bg.map{α β:Type}{R:List Value→α→Prop}{R':List Value→β→Prop}{f:α→β}(h:∀c x,R c x→R' c (f x)):∀ {cs:List Value} {l:List α},bg R cs l→bg R' cs (l.map f)
 |_,[],hc=>hc
 |_,x::xs,⟨c,cs',e,hx,hr⟩=>⟨c,cs',e,h c x hx,bg.map h hr⟩
theorem cT.DL{E:Env}:∀(a b:Ty) (f:a.den→b.den),s5 a b=some f→∀(cs:List Value) (x:a.den),cT E a cs x→cT E b cs (f x):=by
 intro a b
 induction a,b using s5.induct with
 |case1 t=>
  intro f hf cs x hx
  unfold s5 at hf
  rw[dif_pos rfl]at hf
  obtain rfl:=Option.some.inj hf
  simp only[cT]at hx
  obtain⟨h1,h2⟩:=hx
  show cT E (.slice t) cs ((x:Option (List t.den)).getD [])
  simp only[cT]
  cases hx:(x:Option (List t.den)) with
  |none=>exact⟨none,0,[],h1 hx,Nat.le_refl _,fun h=>absurd h (Nat.lt_irrefl 0),fun i v hh=>by simp at hh,rfl⟩
  |some l=>exact h2 l hx
 |case2 t t' hne=>
  intro f hf
  unfold s5 at hf
  rw[dif_neg hne]at hf
  cases hf
 |case3 t=>
  intro f hf cs x hx
  unfold s5 at hf
  rw[dif_pos rfl]at hf
  obtain rfl:=Option.some.inj hf
  simp only[cT]at hx ⊢
  refine⟨fun h=>(by cases h),fun l hl=> ?_⟩
  obtain rfl:x=l:=Option.some.inj hl
  exact hx
 |case4 t t' hne=>
  intro f hf
  unfold s5 at hf
  rw[dif_neg hne]at hf
  cases hf
 |case5 a b c d f g h1 h2 ih1 ih2=>
  intro k hk cs x hx
  unfold s5 at hk
  rw[h2,h1]at hk
  obtain rfl:=Option.some.inj hk
  simp only[cT]at hx ⊢
  obtain⟨ca,cb,e,ha,hb⟩:=hx
  exact⟨ca,cb,e,ih1 f h2 ca x.1 ha,ih2 g h1 cb x.2 hb⟩
 |case6 a b c d hn ih1 ih2=>
  intro p hp
  unfold s5 at hp
  split at hp
  ·rename_i f k h1 h2
   exact(hn _ _ h1 h2).elim
  ·cases hp
 |case7 a b f h1 ih=>
  intro k hk cs x hx
  unfold s5 at hk
  rw[h1]at hk
  obtain rfl:=Option.some.inj hk
  simp only[cT]at hx ⊢
  obtain⟨ad,cap,vs,e,hl,hs,hr,hc⟩:=hx
  rw[List.length_map]
  exact⟨ad,cap,vs,e,hl,hs,hr,hc.map fun c x hx=>ih f h1 c x hx⟩
 |case8 a b h1 ih=>
  intro p hp
  unfold s5 at hp
  rw[h1]at hp
  cases hp
 |case9 a h1 h2 h3 h4=>
  intro f hf cs x hx
  rw[s5.eq_5 _ _ h1 h2 h3 h4,dif_pos rfl]at hf
  obtain rfl:=Option.some.inj hf
  exact hx
 |case10 a b h1 h2 h3 h4 hne=>
  intro f hf
  rw[s5.eq_5 _ _ h1 h2 h3 h4,dif_neg hne]at hf
  cases hf
theorem Ca{t t':Ty}{f:t.den→t'.den}(hp:s5 t t'=some f):t.agg=t'.agg:=by
 unfold s5 at hp
 split at hp
 ·rfl
 ·rfl
 ·rfl
 ·rfl
 ·split at hp
  ·rename_i e;rw[e]
  ·cases hp
theorem tw{t t':Ty}{x:t.den}{y:t'.den}(h:nq t t' x=some y):t.agg=t'.agg:=by
 unfold nq at h
 split at h
 ·rename_i z hz
  obtain⟨e,_⟩:=fV hz
  rw[e]
 ·split at h
  ·rename_i f hf
   exact Ca hf
  ·cases h
theorem mm{E:Env}{t t':Ty}{x:t.den}{y:t'.den}(h:nq t t' x=some y){cs:List Value}(hx:cT E t cs x):cT E t' cs y:=by
 unfold nq at h
 split at h
 ·rename_i z hz
  obtain⟨e,hz⟩:=fV hz
  subst e
  obtain rfl:=Option.some.inj h
  simp only at hz
  rw[←hz]
  exact hx
 ·split at h
  ·rename_i f hf
   obtain rfl:=Option.some.inj h
   exact cT.DL _ _ f hf cs x hx
  ·cases h
theorem zF{E:Env}{t t':Ty}{x:List t.den}{y:List t'.den}(h:nq (.slice t) (.slice t') x=some y):y.length=x.length∧∀vs,bg (cT E t) vs x→bg (cT E t') vs y:=by
 unfold nq at h
 split at h
 ·rename_i z hz
  obtain⟨e,hz⟩:=fV hz
  have e':t=t':=by simpa using e
  subst e'
  obtain rfl:=Option.some.inj h
  simp only at hz
  subst hz
  exact⟨rfl,fun _ h=>h⟩
 ·split at h
  ·rename_i p hp
   obtain rfl:=Option.some.inj h
   unfold s5 at hp
   cases hd:s5 t t' with
   |none=>rw[hd]at hp;cases hp
   |some q=>
    rw[hd]at hp
    obtain rfl:=Option.some.inj hp
    exact⟨List.length_map _,fun vs hc=>hc.map fun c x hx=>cT.DL _ _ q hd c x hx⟩
  ·cases h
def VO(E:Env):aC→List Value→Prop
 | .vec _ t l,cs=>bg (cT E t) cs l
 |a,cs=>V E a cs
theorem VO.of{E:Env}{a:aC}{cs:List Value}(h:V E a cs):VO E a cs:=by
 cases a <;> first | exact h | (simp only[V]at h)
def aC.fM:aC→Bool | .vec .. =>true | .mp .. =>true | _=>false
theorem VO.to{E:Env}{a:aC}{cs:List Value}(h:VO E a cs)(hn:a.fM=false):V E a cs:=by
 cases a <;> first | exact h | (simp[aC.fM]at hn)
theorem VO.mono{E E':Env}(h:cW E E'){a:aC}{cs:List Value}(hv:VO E a cs):VO E' a cs:=by
 cases a <;> first | exact V.mono h hv | exact bg.mono (fun _ _ hx=>hx.mono h.mem) hv
theorem sa{t:Ty}{l:List t.den}{i:Nat}(h:i < l.length):nth t l i=l[i]:=by
 unfold nth;simp[h]
theorem sj{α:Type}(cs:List α)(n m k j:Nat)(h:k+j≤m):(((cs.drop n).take m).drop k).take j=(cs.drop (n+k)).take j:=by
 rw[List.drop_take,List.take_take,List.drop_drop]
 congr 1
 omega
theorem pM{E:Env}{t:Ty}{cs:List Value}{l:List t.den}(h:bg (cT E t) cs l){i:Nat}(hi:i < l.length):
  cT E t ((cs.drop (i*t.size)).take t.size) l[i]∧i*t.size+t.size≤cs.length:=by
 have hz:∀c x,cT E t c x→c.length=t.size:=fun c x hx=>hx.size
 refine⟨h.get hz i hi,?_⟩
 rw[h.length hz,←Nat.succ_mul]
 exact Nat.mul_le_mul_right _ hi
theorem jg{E:Env}:∀(p:List pa) (c:aC) (cs:List Value) (n:Nat) (v:aC),VO E c cs→(loc c p).eval=some (n,v)→
  (n=0∧v=c)∨(V E v ((cs.drop n).take v.size)∧n+v.size≤cs.length)
 |[],c,cs,n,v,hc,h=>by
  left
  simp only[loc,ax,Prod.mk.injEq]at h
  exact⟨h.1.symm,h.2.symm⟩
 |st::p,c,cs,n,v,hc,h=>by
  by_cases hst:st= .arr
  ·subst hst
   have h':(loc c p).eval=some (n,v):=by cases c <;> simpa only[loc]using h
   exact jg p c cs n v hc h'
  right
  have whole:∀(c':aC) (cs':List Value) (n':Nat) (v':aC),V E c' cs'→(loc c' p).eval=some (n',v')→V E v' ((cs'.drop n').take v'.size)∧n'+v'.size≤cs'.length:=by
   intro c' cs' n' v' hc' hl
   rcases jg p c' cs' n' v' (VO.of hc') hl with⟨rfl,rfl⟩ | hh
   ·have:=hc'.size
    rw[List.drop_zero,List.take_of_length_le (by omega)]
    exact⟨hc',by omega⟩
   ·exact hh
  have second:∀(a b:aC) (ca cb:List Value),cs=ca++cb→ca.length=a.size→V E b cb→((loc b p).bind fun(n,v)=>Out.ok (a.size+n,v)).eval=some (n,v)→
    V E v ((cs.drop n).take v.size)∧n+v.size≤cs.length:=by
   intro a b ca cb e hl hb hh
   obtain⟨⟨n',v'⟩,h1,h2⟩:=aw.1 hh
   simp only[ax,Prod.mk.injEq]at h2
   obtain⟨rfl,rfl⟩:=h2
   obtain⟨h3,h4⟩:=whole b cb n' v' hb h1
   subst e
   rw[←hl,List.drop_append,List.drop_of_length_le (by omega),List.nil_append,Nat.add_sub_cancel_left]
   exact⟨h3,by simp only[List.length_append];omega⟩
  have elem:∀(t:Ty) (l:List t.den) (i:Nat),bg (cT E t) cs l→(Out.jD (decide (i < l.length)) ((loc (.d t (nth t l i)) p).bind fun(n,v)=>Out.ok (i*t.size+n,v))).eval=some (n,v)→
    V E v ((cs.drop n).take v.size)∧n+v.size≤cs.length:=by
   intro t l i hch hh
   obtain⟨hi,hh⟩:=bF.1 hh
   have hi:i < l.length:=by simpa using hi
   obtain⟨⟨n',v'⟩,h1,h2⟩:=aw.1 hh
   simp only[ax,Prod.mk.injEq]at h2
   obtain⟨rfl,rfl⟩:=h2
   obtain⟨hp,hle⟩:=pM hch hi
   rw[sa hi]at h1
   have hv:V E (.d t l[i]) ((cs.drop (i*t.size)).take t.size):=by simpa only[V]using hp
   obtain⟨h3,h4⟩:=whole _ _ n' v' hv h1
   have hlen:((cs.drop (i*t.size)).take t.size).length=t.size:=hp.size
   rw[sj _ _ _ _ _ (by omega)]at h3
   exact⟨h3,by omega⟩
  cases c with
  |pr a b=>
   simp only[VO,V]at hc
   obtain⟨ca,cb,e,ha,hb⟩:=hc
   cases st with
   |arr=>exact absurd rfl hst
   |fst=>
    simp only[loc]at h
    obtain⟨h3,h4⟩:=whole a ca n v ha h
    subst e
    refine⟨?_,by simp only[List.length_append];omega⟩
    rw[List.drop_append,List.take_append,List.length_drop,Nat.sub_eq_zero_of_le (by omega:v.size≤ca.length - n),List.take_zero,List.append_nil]
    exact h3
   |snd=>simp only[loc]at h;exact second a b ca cb e ha.size hb h
   |idx i=>simp only[loc,ak]at h
  |d t x=>
   simp only[VO,V]at hc
   cases t with
   |pair ta tb=>
    simp only[cT]at hc
    obtain⟨ca,cb,e,ha,hb⟩:=hc
    cases st with
    |arr=>exact absurd rfl hst
    |fst=>
     simp only[loc]at h
     obtain⟨h3,h4⟩:=whole (.d ta x.1) ca n v (by simpa only[V]using ha) h
     subst e
     refine⟨?_,by simp only[List.length_append];omega⟩
     rw[List.drop_append,List.take_append,List.length_drop,Nat.sub_eq_zero_of_le (by omega:v.size≤ca.length - n),List.take_zero,List.append_nil]
     exact h3
    |snd=>simp only[loc]at h;exact second (.d ta x.1) (.d tb x.2) ca cb e ha.size (by simpa only[V]using hb) h
    |idx i=>simp only[loc,ak]at h
   |arr m t=>
    simp only[cT]at hc
    cases st with
    |arr=>exact absurd rfl hst
    |idx i=>simp only[loc]at h;exact elem t x i hc.2 h
    |fst=>simp only[loc,ak]at h
    |snd=>simp only[loc,ak]at h
   |_=>cases st <;> first | exact absurd rfl hst | (simp only[loc,ak]at h)
  |vec e t l=>
   simp only[VO]at hc
   cases st with
   |arr=>exact absurd rfl hst
   |idx i=>simp only[loc]at h;exact elem t l i hc h
   |fst=>simp only[loc,ak]at h
   |snd=>simp only[loc,ak]at h
  |_=>cases st <;> first | exact absurd rfl hst | (simp only[loc,ak]at h)
theorem xw{E:Env}{a b:aC}{ca cb:List Value}(ha:V E a ca)(hb:V E b cb):V E (pA a b) (ca++cb):=by
 have gen:V E (.pr a b) (ca++cb):=by simp only[V];exact⟨ca,cb,rfl,ha,hb⟩
 unfold pA
 split
 ·simp only[V]at ha hb ⊢
  simp only[cT]
  exact⟨ca,cb,rfl,ha,hb⟩
 ·exact gen
theorem qN(a b:aC):(pA a b).fM=false:=by unfold pA;split <;> rfl
def dd(cs:List Value)(n:Nat)(vs:List Value):List Value:=cs.take n++vs++cs.drop (n+vs.length)
theorem yo{cs vs:List Value}(h:cs.length=vs.length):dd cs 0 vs=vs:=by
 simp[dd,List.drop_of_length_le (by omega:cs.length≤vs.length)]
theorem lB{ca cb vs:List Value}{n:Nat}(h:n+vs.length≤ca.length):dd (ca++cb) n vs=dd ca n vs++cb:=by
 unfold dd
 rw[List.take_append,List.drop_append,Nat.sub_eq_zero_of_le (by omega:n≤ca.length),List.take_zero,List.append_nil,Nat.sub_eq_zero_of_le h,List.drop_zero]
 simp only[List.append_assoc]
theorem pT{ca cb vs:List Value}{n:Nat}:dd (ca++cb) (ca.length+n) vs=ca++dd cb n vs:=by
 unfold dd
 rw[List.take_append,List.take_of_length_le (by omega),Nat.add_sub_cancel_left,List.drop_append,List.drop_of_length_le (by omega),List.nil_append]
 simp only[List.append_assoc]
 congr 4
 omega
theorem yp{cs vs:List Value}{i z n:Nat}(hz:i+z≤cs.length)(h:n+vs.length≤z):
  dd cs (i+n) vs=cs.take i++dd ((cs.drop i).take z) n vs++cs.drop (i+z):=by
 have e:cs=cs.take i++((cs.drop i).take z++cs.drop (i+z)):=by
  rw[←List.drop_drop,List.take_append_drop,List.take_append_drop]
 have hl:(cs.take i).length=i:=by simp;omega
 have hm:((cs.drop i).take z).length=z:=by simp;omega
 conv=>lhs;rw[e,show i+n=(cs.take i).length+n by rw[hl]]
 rw[pT,lB (by omega)]
 simp only[List.append_assoc]
theorem fW{cs vs:List Value}{n:Nat}(h:n+vs.length≤cs.length):(dd cs n vs).length=cs.length:=by
 simp[dd];omega
def gA:aC→aC→Prop
 | .vec e t l,.vec e' t' l'=>e'=e∧t'=t∧l'.length=l.length
 | .vec ..,_=>False
 |_,.vec .. =>False
 | .mp ..,_=>False
 |_,.mp .. =>False
 |_,_=>True
theorem gA.jv{a b:aC}(h:gA a b)(ha:a.fM=false):b.fM=false:=by
 cases b <;> first
  |rfl
  | (cases a <;> first | (simp[aC.fM]at ha;done) | exact h.elim)
theorem gA.of{a b:aC}(ha:a.fM=false)(hb:b.fM=false):gA a b:=by
 cases a <;> first
  | (simp[aC.fM]at ha;done)
  | (cases b <;> first | trivial | (simp[aC.fM]at hb;done))
theorem V.jv{E:Env}{a:aC}{cs:List Value}(h:V E a cs):a.fM=false:=by
 cases a <;> first | rfl | (simp only[V]at h)
theorem iw{E:Env}:∀(p:List pa) (c:aC) (cs:List Value) (n:Nat) (o v c':aC) (vs:List Value),VO E c cs→(loc c p).eval=some (n,o)→V E v vs→
  (m9 c p v).eval=some c'→n+vs.length≤cs.length∧VO E c' (dd cs n vs)∧
   gA c c'
 |[],c,cs,n,o,v,c',vs,hc,hl,hv,h=>by
  simp only[loc,ax,Prod.mk.injEq]at hl
  obtain⟨rfl,rfl⟩:=hl
  have main:∀(hnv:c.fM=false),(Out.guard (v.eE && (c.size==v.size)) (.ok v)).eval=some c'→0+vs.length≤cs.length∧VO E c' (dd cs 0 vs)∧
   gA c c':=by
   intro hnv hg
   obtain⟨h1,h2⟩:=aE.1 hg
   obtain rfl:=ax.1 h2
   simp only[Bool.and_eq_true,beq_iff_eq]at h1
   have e1:=(hc.to hnv).size
   have e2:=hv.size
   refine⟨by omega,?_,?_⟩
   ·rw[yo (by omega)];exact VO.of hv
   ·exact gA.of hnv hv.jv
  cases c with
  |vec e t l=>simp only[m9,ak]at h
  |mp k v l=>simp only[m9,ak]at h
  |_=>exact main rfl (by simpa only[m9]using h)
 |st::p,c,cs,n,o,v,c',vs,hc,hl,hv,h=>by
  by_cases hst:st= .arr
  ·subst hst
   have hl':(loc c p).eval=some (n,o):=by cases c <;> simpa only[loc]using hl
   have h':(m9 c p v).eval=some c':=by cases c <;> simpa only[m9]using h
   exact iw p c cs n o v c' vs hc hl' hv h'
  have left:∀(a b:aC) (ca cb:List Value),cs=ca++cb→V E a ca→V E b cb→(loc a p).eval=some (n,o)→((m9 a p v).bind fun a'=>Out.ok (pA a' b)).eval=some c'→
    n+vs.length≤cs.length∧VO E c' (dd cs n vs)∧c'.fM=false:=by
   intro a b ca cb e ha hb hl hh
   obtain⟨a',h1,h2⟩:=aw.1 hh
   obtain rfl:=ax.1 h2
   obtain⟨h3,h4,h5⟩:=iw p a ca n o v a' vs (VO.of ha) hl hv h1
   subst e
   refine⟨by simp only[List.length_append];omega,?_,qN _ _⟩
   rw[lB h3]
   have hav:a'.fM=false:=h5.jv ha.jv
   exact VO.of (xw (h4.to hav) hb)
  have right:∀(a b:aC) (ca cb:List Value),cs=ca++cb→ca.length=a.size→V E a ca→V E b cb→((loc b p).bind fun(n,v)=>Out.ok (a.size+n,v)).eval=some (n,o)→
    ((m9 b p v).bind fun b'=>Out.ok (pA a b')).eval=some c'→n+vs.length≤cs.length∧VO E c' (dd cs n vs)∧c'.fM=false:=by
   intro a b ca cb e hal ha hb hl hh
   obtain⟨⟨n',v'⟩,h1,h2⟩:=aw.1 hl
   simp only[ax,Prod.mk.injEq]at h2
   obtain⟨rfl,rfl⟩:=h2
   obtain⟨b',h3,h4⟩:=aw.1 hh
   obtain rfl:=ax.1 h4
   obtain⟨h5,h6,h7⟩:=iw p b cb n' v' v b' vs (VO.of hb) h1 hv h3
   subst e
   refine⟨by simp only[List.length_append];omega,?_,qN _ _⟩
   rw[←hal,pT]
   have hav:b'.fM=false:=h7.jv hb.jv
   exact VO.of (xw ha (h6.to hav))
  have elem:∀(t:Ty) (l:List t.den) (i:Nat) (mk:List t.den→aC),bg (cT E t) cs l→(Out.jD (decide (i < l.length)) ((loc (.d t (nth t l i)) p).bind fun(n,v)=>Out.ok (i*t.size+n,v))).eval=some (n,o)→
    (Out.jD (decide (i < l.length)) ((m9 (.d t (nth t l i)) p v).bind fun
     | .d t' y=>(Out.opt (jF t' t y)).bind fun y=> .ok (mk (l.set i y))
     |_=> .fail)).eval=some c'→
    n+vs.length≤cs.length∧∃l',c'=mk l'∧l'.length=l.length∧bg (cT E t) (dd cs n vs) l':=by
   intro t l i mk hch hl hh
   obtain⟨hi,hl⟩:=bF.1 hl
   have hi:i < l.length:=by simpa using hi
   obtain⟨⟨n',v'⟩,h1,h2⟩:=aw.1 hl
   simp only[ax,Prod.mk.injEq]at h2
   obtain⟨rfl,rfl⟩:=h2
   obtain⟨_,hh⟩:=bF.1 hh
   obtain⟨w,h3,h4⟩:=aw.1 hh
   obtain⟨hp,hle⟩:=pM hch hi
   rw[sa hi]at h1 h3
   have hvp:V E (.d t l[i]) ((cs.drop (i*t.size)).take t.size):=by simpa only[V]using hp
   have hlen:((cs.drop (i*t.size)).take t.size).length=t.size:=hp.size
   obtain⟨h5,h6,h7⟩:=iw p _ _ n' v' v w vs (VO.of hvp) h1 hv h3
   cases w with
   |d t' y=>
    simp only at h4
    obtain⟨y',h8,h9⟩:=aw.1 h4
    obtain⟨rfl,h8⟩:=fV (gg.1 h8)
    simp only at h8
    subst h8
    obtain rfl:=ax.1 h9
    refine⟨by omega,_,rfl,by simp,?_⟩
    have hy:cT E t' (dd ((cs.drop (i*t'.size)).take t'.size) n' vs) y:=by simpa only[VO,V]using h6
    have:=bg.set (fun c x hx=>cT.size hx) hch i hi hy
    rw[yp (by omega:i*t'.size+t'.size≤cs.length) (by omega)]
    rwa[hy.size]at this
   |_=>simp only[ak]at h4
  cases c with
  |pr a b=>
   simp only[VO,V]at hc
   obtain⟨ca,cb,e,ha,hb⟩:=hc
   cases st with
   |arr=>exact absurd rfl hst
   |fst=>
    simp only[loc]at hl;simp only[m9]at h
    obtain⟨r1,r2,r3⟩:=left a b ca cb e ha hb hl h
    exact⟨r1,r2,gA.of rfl r3⟩
   |snd=>
    simp only[loc]at hl;simp only[m9]at h
    obtain⟨r1,r2,r3⟩:=right a b ca cb e ha.size ha hb hl h
    exact⟨r1,r2,gA.of rfl r3⟩
   |idx i=>simp only[loc,ak]at hl
  |d t x=>
   simp only[VO,V]at hc
   cases t with
   |pair ta tb=>
    simp only[cT]at hc
    obtain⟨ca,cb,e,ha,hb⟩:=hc
    have ha':V E (.d ta x.1) ca:=by simpa only[V]using ha
    have hb':V E (.d tb x.2) cb:=by simpa only[V]using hb
    cases st with
    |arr=>exact absurd rfl hst
    |fst=>
     simp only[loc]at hl;simp only[m9]at h
     obtain⟨r1,r2,r3⟩:=left _ _ ca cb e ha' hb' hl h
     exact⟨r1,r2,gA.of rfl r3⟩
    |snd=>
     simp only[loc]at hl;simp only[m9]at h
     obtain⟨r1,r2,r3⟩:=right (.d ta x.1) (.d tb x.2) ca cb e ha.size ha' hb' hl h
     exact⟨r1,r2,gA.of rfl r3⟩
    |idx i=>simp only[loc,ak]at hl
   |arr m t=>
    simp only[cT]at hc
    cases st with
    |arr=>exact absurd rfl hst
    |idx i=>
     simp only[loc]at hl;simp only[m9]at h
     obtain⟨r1,l',e,r2,r3⟩:=elem t x i (fun l=> .d (.arr m t) l) hc.2 hl h
     subst e
     refine⟨r1,?_,trivial⟩
     simp only[VO,V,cT]
     exact⟨by rw[r2];exact hc.1,r3⟩
    |fst=>simp only[loc,ak]at hl
    |snd=>simp only[loc,ak]at hl
   |_=>cases st <;> first | exact absurd rfl hst | (simp only[loc,ak]at hl)
  |vec e t l=>
   simp only[VO]at hc
   cases st with
   |arr=>exact absurd rfl hst
   |idx i=>
    simp only[loc]at hl;simp only[m9]at h
    obtain⟨r1,l',e',r2,r3⟩:=elem t l i (fun l=> .vec e t l) hc hl h
    subst e'
    exact⟨r1,by simpa only[VO]using r3,rfl,rfl,r2⟩
   |fst=>simp only[loc,ak]at hl
   |snd=>simp only[loc,ak]at hl
  |_=>cases st <;> first | exact absurd rfl hst | (simp only[loc,ak]at hl)
end Go.Ab
namespace Go.Ab
def ED(E:Env)(id:Id)(fr:Bool)(e:TypeId)(t:Ty)(l:List t.den):Prop:=
 0 < t.size∧match E.β id with
  |none=>l=[]
  |some pl=>∃cur k,E.w.heap[pl.b]? =some (.cells cur e (0,0))∧cur.size=pl.cap*t.size∧l.length≤pl.cap∧pl.cap≤maxLen∧E.g pl.b= .own (.id id) k∧
    k≤l.length*t.size∧(fr=false→k=0)∧bg (cT E t) (cur.toList.take (l.length*t.size)) l
def aC.nk:aC→Pl→Nat→TypeId→Prop
 | .bx e' 0 _,_,_,e=>e=e'
 | .bx e' (z+1) c,pl,n,e=>e=e'∧n=pl.cap*(z+1)∧pl.cap≤maxLen∧c.size≤n
 |_,_,_,_=>True
def aC.ku:aC→Nat→Nat
 | .bx _ (_+1) c,_=>c.size
 |_,n=>n
def aC.s9:aC→Bool | .bx .. =>true | _=>false
theorem V.kZ{E:Env}{a:aC}{cs:List Value}(h:V E a cs):a.s9=false:=by
 cases a <;> first | rfl | (simp only[V]at h)
theorem qz{c:aC}(h:c.s9=false):c.strip=c:=by
 cases c <;> first | rfl | (simp[aC.s9]at h)
theorem qb{c:aC}(h:c.s9=false)(pl:Pl)(n:Nat)(e:TypeId):c.nk pl n e:=by
 cases c <;> first | trivial | (simp[aC.s9]at h)
theorem rD{c:aC}(h:c.s9=false)(n:Nat):c.ku n=n:=by
 cases c <;> first | rfl | (simp[aC.s9]at h)
theorem oW(c:aC){c':aC}(h:c'.s9=false):(c.wrap c').strip=c':=by
 cases c <;> first | rfl | exact qz h
theorem oD{c c':aC}{pl:Pl}{n:Nat}{e:TypeId}(hc:c.nk pl n e)(h:c'.s9=false)(hs:c'.size=c.strip.size):(c.wrap c').nk pl n e:=by
 cases c with
 |bx e' z c=>cases z with
  |zero=>exact hc
  |succ z=>exact⟨hc.1,hc.2.1,hc.2.2.1,by rw[hs];exact hc.2.2.2⟩
 |_=>exact qb h pl n e
theorem qa{c c':aC}{n:Nat}(h:c'.s9=false)(hs:c'.size=c.strip.size):(c.wrap c').ku n=c.ku n:=by
 cases c with
 |bx e' z c=>cases z with
  |zero=>rfl
  |succ z=>exact hs
 |_=>exact rD h n
theorem ri{c:aC}{pl:Pl}{n:Nat}{e:TypeId}(h:c.nk pl n e):c.ku n≤n:=by
 cases c with
 |bx e' z c=>cases z with
  |zero=>exact Nat.le_refl _
  |succ z=>exact h.2.2.2
 |_=>exact Nat.le_refl _
def xD(id:Id)(fr:Bool):ix:=match fr with | true=> .free | false=> .own (.id id) 0
def pY(E:Env)(id:Id)(fr:Bool)(c:aC):Prop:=
 ∃pl cur e,E.β id=some pl∧E.w.heap[pl.b]? =some (.cells cur e (0,0))∧E.g pl.b=xD id fr∧c.nk pl cur.size e∧V E c.strip (cur.toList.take (c.ku cur.size))
def Alike{α β:Type}(R:α→β→Prop):List α→List β→Prop
 |[],[]=>True
 |x::xs,y::ys=>R x y∧Alike R xs ys
 |_,_=>False
theorem Alike.mono{α β:Type}{R R':α→β→Prop}(h:∀x y,R x y→R' x y):∀ {xs:List α} {ys:List β},Alike R xs ys→Alike R' xs ys
 |[],[],_=>trivial
 |_::_,_::_,⟨h1,h2⟩=>⟨h _ _ h1,Alike.mono h h2⟩
 |[],_::_,h=>h.elim
 |_::_,[],h=>h.elim
def lR(E:Env)(t:Ty)(v:Value)(x:t.den):Prop:=∃cs,cT E t cs x∧fe t.agg cs v
def qU(E:Env)(kt vt:Ty)(e:MapEntry)(x:kt.den×vt.den):Prop:=lR E kt e.key x.1∧lR E vt e.val x.2
theorem qU.mono{E E':Env}(h:lr E E'){kt vt:Ty}{e:MapEntry}{x:kt.den×vt.den}(he:qU E kt vt e x):qU E' kt vt e x:=
 let⟨⟨c1,a1,b1⟩,c2,a2,b2⟩:=he
 ⟨⟨c1,a1.mono h,b1⟩,c2,a2.mono h,b2⟩
def EC(E:Env)(id:Id)(kt vt:Ty)(l:List (kt.den×vt.den)):Prop:=
 ∃pl es clock,E.β id=some pl∧E.w.heap[pl.b]? =some (.map es clock)∧E.g pl.b= .own (.id id) 0∧Alike (qU E kt vt) es.toList l
def mh(E:Env)(id:Id)(fr:Bool):aC→Prop
 | .vec e t l=>ED E id fr e t l
 | .mp kt vt l=>EC E id kt vt l
 |c=>pY E id fr c
theorem mh.box{E:Env}{id:Id}{fr:Bool}{c:aC}(h:mh E id fr c)(hn:c.fM=false):pY E id fr c:=by
 cases c <;> first | exact h | (simp[aC.fM]at hn)
theorem pY.obj{E:Env}{id:Id}{fr:Bool}{c:aC}(h:pY E id fr c):mh E id fr c:=by
 cases c <;> first | exact h | (obtain⟨_,_,_,_,_,_,_,hv⟩:=h;simp only[aC.strip,V]at hv)
def gz(E:Env):Prop:=∀id ver fr c,E.s id=some (.obj ver fr c)→mh E id fr c
structure Trans(w w':World)(g g':Nat→ix):Prop where
 os:w'.os=w.os
 tape:w'.tape=w.tape
 output:w'.output=w.output
 size:w.heap.size≤w'.heap.size
 zu:∀b,b < w.heap.size→match g b with
  | .free=>g' b= .free∧w'.heap[b]? =w.heap[b]?
  | .own .eQ k=>g' b= .own .eQ k∧w'.heap[b]? =w.heap[b]?
  | .own (.id _) k=>(g' b= .free∨∃i k',g' b= .own (.id i) k'∧k≤k')∧∀off v,off < k→w.cell? ⟨b,off,none⟩=some v→w'.cell? ⟨b,off,none⟩=some v
theorem Trans.refl(w:World)(g:Nat→ix):Trans w w g g:=
 ⟨rfl,rfl,rfl,Nat.le_refl _,fun b _=>by
  cases g b with
  |free=>exact⟨rfl,rfl⟩
  |own o k=>cases o with
   |eQ=>exact⟨rfl,rfl⟩
   |id i=>exact⟨.inr ⟨i,k,rfl,Nat.le_refl _⟩,fun _ _ _ h=>h⟩⟩
theorem Trans.trans{w w' w'':World}{g g' g'':Nat→ix}(h:Trans w w' g g')(h':Trans w' w'' g' g''):Trans w w'' g g'':=by
 refine⟨h'.os.trans h.os,h'.tape.trans h.tape,h'.output.trans h.output,Nat.le_trans h.size h'.size,fun b hb=> ?_⟩
 have h1:=h.zu b hb
 have h2:=h'.zu b (Nat.lt_of_lt_of_le hb h.size)
 cases hg:g b with
 |free=>
  rw[hg]at h1;simp only at h1 ⊢
  rw[h1.1]at h2;simp only at h2
  exact⟨h2.1,h2.2.trans h1.2⟩
 |own o k=>
  cases o with
  |eQ=>
   rw[hg]at h1;simp only at h1 ⊢
   rw[h1.1]at h2;simp only at h2
   exact⟨h2.1,h2.2.trans h1.2⟩
  |id i=>
   rw[hg]at h1;simp only at h1 ⊢
   obtain⟨h1g,h1c⟩:=h1
   rcases h1g with h1g | ⟨i',k',h1g,hk⟩
   ·rw[h1g]at h2;simp only at h2
    exact⟨.inl h2.1,fun off v ho hv=>by
     have:=h1c off v ho hv
     simpa only[World.cell?,h2.2]using this⟩
   ·rw[h1g]at h2;simp only at h2
    refine⟨?_,fun off v ho hv=>h2.2 off v (by omega) (h1c off v ho hv)⟩
    rcases h2.1 with h2g | ⟨i'',k'',h2g,hk'⟩
    ·exact .inl h2g
    ·exact .inr ⟨i'',k'',h2g,by omega⟩
theorem Trans.mem{E E':Env}(h:Trans E.w E'.w E.g E'.g):lr E E':=by
 refine⟨?_,fun b ob hf ho=>by
  have h1:=h.zu b (Array.getElem?_eq_some_iff.1 ho).1
  rw[hf]at h1
  exact⟨h1.1,h1.2.trans ho⟩⟩
 intro b off v ⟨hc,ho⟩
 have hb:b < E.w.heap.size:=World.block_lt_of_cell? _ _ hc
 have h1:=h.zu b hb
 unfold Env.has kf at*
 cases hg:E.g b with
 |free=>
  rw[hg]at h1;simp only at h1
  refine⟨?_,by rw[h1.1];trivial⟩
  simpa only[World.cell?,h1.2]using hc
 |own o k=>
  rw[hg]at ho;simp only at ho
  cases o with
  |eQ=>
   rw[hg]at h1;simp only at h1
   refine⟨?_,by rw[h1.1];exact ho⟩
   simpa only[World.cell?,h1.2]using hc
  |id i=>
   rw[hg]at h1;simp only at h1
   refine⟨h1.2 off v ho hc,?_⟩
   rcases h1.1 with h2 | ⟨i',k',h2,hk⟩
   ·rw[h2];trivial
   ·rw[h2];show off < k';omega
theorem mh.mono{E E':Env}(h:cW E E'){id:Id}{fr:Bool}{c:aC}(ho:mh E id fr c)(hβ:E'.β id=E.β id)
    (hb:∀pl,E.β id=some pl→E'.w.heap[pl.b]? =E.w.heap[pl.b]? ∧E'.g pl.b=E.g pl.b):mh E' id fr c:=by
  by_cases hn:c.fM=false
  · obtain⟨pl,cur,e,h1,h2,h3,h5,h4⟩:=ho.box hn
    obtain⟨b1,b2⟩:=hb pl h1
    exact pY.obj ⟨pl,cur,e,by rw[hβ,h1],by rw[b1,h2],by rw[b2,h3],h5,h4.mono h⟩
  · cases c <;> first
      | (exact absurd rfl hn)
      | (obtain⟨pl,es,clock,h1,h2,h3,h4⟩:=ho
         obtain⟨b1,b2⟩:=hb pl h1
         exact⟨pl,es,clock,by rw[hβ,h1],by rw[b1,h2],by rw[b2,h3],h4.mono fun _ _ he=>he.mono h.mem⟩)
      |skip
    rename_i e t l
    obtain⟨hz,ho⟩:=ho
    refine⟨hz,?_⟩
    rw[hβ]
    cases hp:E.β id with
    |none=>rw[hp]at ho;exact ho
    |some pl=>
      rw[hp]at ho
      simp only at ho ⊢
      obtain⟨b1,b2⟩:=hb pl hp
      obtain⟨cur,k,h1,h2,h3,h4,h5,h6,h7,h8⟩:=ho
      exact⟨cur,k,by rw[b1,h1],h2,h3,h4,by rw[b2,h5],h6,h7,h8.mono fun c x hx=>hx.mono h.mem⟩
def AS.env(s:AS)(w:World)(g:Nat→ix)(β:Id→Option Pl):Env:= {w,g,β,s:=s.ck}
structure Ctx where
 E:Env
structure Inv(C:Ctx)(g:Nat→ix)(β:Id→Option Pl)(s:AS)(a:Act)(w:World):Prop where
 defers:a.defers=[]
 size:a.tmps.size=s.cl.length
 cl:∀i,VS (s.env w g β) (s.slot i) (a.tmps.getD i undef)
 bN:gz (s.env w g β)
 trans:Trans C.E.w w C.E.g g
 le:cW C.E (s.env w g β)
def fQ(C:Ctx)(s:AS)(a:Act)(w:World):Prop:=∃g β,Inv C g β s a w
theorem sJ(s:AS)(d:Nat)(v:aC)(i:Nat):(s.put (some d) v).slot i=if i=d∧d < s.cl.length then v else s.slot i:=by
 simp only[AS.put,AS.slot,List.getD_eq_getElem?_getD,List.getElem?_set]
 by_cases h:d=i
 ·subst h
  by_cases hl:d < s.cl.length
  ·simp[hl]
  ·simp[hl]
 ·simp[h,Ne.symm h]
@[simp] theorem nV(s:AS)(d:Option Tmp)(v:aC):(s.put d v).ck=s.ck:=by
 cases d <;> rfl
@[simp] theorem yL(s:AS)(d:Option Tmp)(v:aC)(w:World)(g:Nat→ix)(β:Id→Option Pl):(s.put d v).env w g β=s.env w g β:=by
 simp[AS.env]
theorem BM(a:Act)(d:Nat)(v:Value)(i:Nat):(a.put (some d) v).tmps.getD i undef=if i=d∧d < a.tmps.size then v else a.tmps.getD i undef:=by
 simp only[Act.put,Array.getD_eq_getD_getElem?,Array.getElem?_setIfInBounds]
 by_cases h:d=i
 ·subst h
  by_cases hl:d < a.tmps.size
  ·simp[hl]
  ·simp[hl]
 ·simp[h,Ne.symm h]
theorem Inv.put{C:Ctx}{g:Nat→ix}{β:Id→Option Pl}{s:AS}{a:Act}{w:World}(h:Inv C g β s a w)(d:Option Tmp){v:aC}{x:Value}(hv:VS (s.env w g β) v x):
  Inv C g β (s.put d v) (a.put d x) w:=by
 cases d with
 |none=>exact h
 |some d=>
  refine⟨by simpa[Act.put]using h.defers,by simpa[Act.put,AS.put]using h.size,fun i=> ?_,by simpa using h.bN,h.trans,by simpa using h.le⟩
  rw[yL,sJ,BM,h.size]
  split
  ·exact hv
  ·exact h.cl i
theorem Inv.step{C:Ctx}{g g':Nat→ix}{β β':Id→Option Pl}{s s':AS}{a:Act}{w w':World}(h:Inv C g β s a w)(hs:s'.cl=s.cl)
  (ht:Trans w w' g g') (he:cW (s.env w g β) (s'.env w' g' β')) (ho:gz (s'.env w' g' β')):Inv C g' β' s' a w':=
 ⟨h.defers,by rw[hs];exact h.size,fun i=>by
  have:s'.slot i=s.slot i:=by simp[AS.slot,hs]
  rw[this]
  exact(h.cl i).mono he,ho,h.trans.trans ht,h.le.trans he⟩
theorem Ax{E:Env}(v:Value):VS E (ofConst v) v:=by
 cases v with
 |bool b=>exact⟨_,by simp[ofConst,V,cT],rfl⟩
 |int k n=>exact⟨_,by simp[ofConst,V,cT],rfl⟩
 |string s=>exact⟨_,by simp[ofConst,V,cT],rfl⟩
 |slice a l c=>cases a with
  |none=>
   cases l with
   |zero=>cases c with
    |zero=>exact⟨_,by simp[ofConst,V],rfl⟩
    |succ _=>trivial
   |succ _=>trivial
  |some _=>trivial
 |pointer a=>cases a with
  |none=>exact⟨_,by simp[ofConst,V],rfl⟩
  |some _=>trivial
 |map r=>cases r with
  |none=>exact⟨_,by simp[ofConst,V],rfl⟩
  |some _=>trivial
 |nilFunc=>exact⟨_,by simp[ofConst,V],rfl⟩
 |_=>trivial
theorem Inv.ev{C:Ctx}{g:Nat→ix}{β:Id→Option Pl}{s:AS}{a:Act}{w:World}(h:Inv C g β s a w)(x:Operand):VS (s.env w g β) (s.ev x) (a.eval x):=by
 cases x with
 |tmp t=>exact h.cl t
 |const v=>exact Ax v
 |func f=>exact⟨_,by simp only[AS.ev,V];exact⟨[],rfl,by simp[VC]⟩,rfl⟩
 |global _=>trivial
theorem eS(s:AS)(id:Id)(e:eP)(h:s.ck id≠none):(s.bz id e).ck id=some e:=by
 cases id with
 |fK k=>
  simp only[AS.ck,AS.bz]at*
  have hk:k < s.dj.length:=by
   rcases Nat.lt_or_ge k s.dj.length with h' | h'
   ·exact h'
   ·exact absurd (List.getElem?_eq_none h') h
  simp[hk]
 |new i j=>
  simp only[AS.ck,AS.bz]at*
  have hj:j < (s.news.getD i []).length:=by
   rcases Nat.lt_or_ge j (s.news.getD i []).length with h' | h'
   ·exact h'
   ·exact absurd (List.getElem?_eq_none h') h
  have hi:i < s.news.length:=by
   rcases Nat.lt_or_ge i s.news.length with h' | h'
   ·exact h'
   ·simp[List.getElem?_eq_none h']at hj
  have:((s.news.set i ((s.news.getD i []).set j e)).getD i [])=(s.news.getD i []).set j e:=by
   simp[List.getD_eq_getElem?_getD,hi]
  rw[this]
  simp only[List.getElem?_set,hj,if_true]
theorem dW(s:AS)(id id':Id)(e:eP)(h:id'≠id):(s.bz id e).ck id'=s.ck id':=by
 cases id with
 |fK k=>
  cases id' with
  |fK k'=>
   simp only[AS.ck,AS.bz]
   rw[List.getElem?_set_ne (fun e=>h (by rw[e]))]
  |new i j=>rfl
 |new i j=>
  cases id' with
  |fK k'=>rfl
  |new i' j'=>
   simp only[AS.ck,AS.bz]
   by_cases hi:i'=i
   ·subst hi
    have hj:j≠j':=fun e=>h (by rw[e])
    by_cases hl:i' < s.news.length
    ·have:((s.news.set i' ((s.news.getD i' []).set j e)).getD i' [])=(s.news.getD i' []).set j e:=by
      simp[List.getD_eq_getElem?_getD,hl]
     rw[this,List.getElem?_set_ne hj]
    ·rw[List.set_eq_of_length_le (by omega)]
   ·have:(s.news.set i ((s.news.getD i []).set j e)).getD i' []=s.news.getD i' []:=by
     simp only[List.getD_eq_getElem?_getD]
     rw[List.getElem?_set_ne (Ne.symm hi)]
    rw[this]
@[simp] theorem dK(s:AS)(id:Id)(e:eP):(s.bz id e).cl=s.cl:=by cases id <;> rfl
@[simp] theorem DA(s:AS)(i:Nat)(es:List eP):(s.born i es).cl=s.cl:=rfl
theorem eB{s:AS}{id:Id}{v:Nat}{fr:Bool}{c:aC}(h:s.obj id=some (v,fr,c)):s.ck id=some (.obj v fr c):=by
 unfold AS.obj at h
 split at h
 ·rename_i h';simp at h;obtain⟨rfl,rfl,rfl⟩:=h;exact h'
 ·cases h
theorem cW.bz{s:AS}{w w':World}{g g':Nat→ix}{β β':Id→Option Pl}{id:Id}{v v':Nat}{fr fr':Bool}{c c':aC}(hs:s.ck id=some (.obj v fr c))(hv:v≤v')
  (ht:Trans w w' g g') (hβ:∀i,i≠id→β' i=β i) (hβ':v'=v→β' id=β id):cW (s.env w g β) ((s.bz id (.obj v' fr' c')).env w' g' β'):=by
 have hself:=eS s id (.obj v' fr' c') (by rw[hs];simp)
 refine⟨Trans.mem ht,fun i ver hb=> ?_,fun i ver hb hc=> ?_⟩
 ·by_cases hi:i=id
  ·subst hi
   obtain⟨_,h2⟩:=hb
   refine⟨by show(s.bz i (.obj v' fr' c')).ck i≠none;rw[hself];simp,fun v'' fr'' c'' he=> ?_⟩
   have he':(s.bz i (.obj v' fr' c')).ck i=some (.obj v'' fr'' c''):=he
   rw[hself]at he'
   simp only[Option.some.injEq,eP.obj.injEq]at he'
   have:=h2 v fr c hs
   omega
  ·have:=dW s id i (.obj v' fr' c') hi
   obtain⟨h1,h2⟩:=hb
   exact⟨by show(s.bz id (.obj v' fr' c')).ck i≠none;rw[this];exact h1,fun v'' fr'' c'' he=>h2 v'' fr'' c'' (this.symm.trans he)⟩
 ·obtain⟨fr'',c'',hc⟩:=hc
  by_cases hi:i=id
  ·subst hi
   have hc':(s.bz i (.obj v' fr' c')).ck i=some (.obj ver fr'' c''):=hc
   rw[hself]at hc'
   simp only[Option.some.injEq,eP.obj.injEq]at hc'
   have h2:=hb.2 v fr c hs
   have e:v'=v:=by omega
   refine⟨⟨fr,c,?_⟩,hβ' e⟩
   rw[←hc'.1,e];exact hs
  ·have hc':(s.bz id (.obj v' fr' c')).ck i=some (.obj ver fr'' c''):=hc
   rw[dW s id i _ hi]at hc'
   exact⟨⟨fr'',c'',hc'⟩,hβ i hi⟩
theorem gz.bz{s:AS}{w w':World}{g g':Nat→ix}{β β':Id→Option Pl}{id:Id}{v':Nat}{fr':Bool}{c':aC}(h:gz (s.env w g β))(hne:s.ck id≠none)
  (he:cW (s.env w g β) ((s.bz id (.obj v' fr' c')).env w' g' β')) (hβ:∀i,i≠id→β' i=β i)
  (hb:∀i ver fr c pl,i≠id→s.ck i=some (.obj ver fr c)→β i=some pl→w'.heap[pl.b]? =w.heap[pl.b]? ∧g' pl.b=g pl.b)
  (ho:mh ((s.bz id (.obj v' fr' c')).env w' g' β') id fr' c'):gz ((s.bz id (.obj v' fr' c')).env w' g' β'):=by
 intro i ver fr c hi
 by_cases hid:i=id
 ·subst hid
  have hi':(s.bz i (.obj v' fr' c')).ck i=some (.obj ver fr c):=hi
  rw[eS s i _ hne]at hi'
  simp only[Option.some.injEq,eP.obj.injEq]at hi'
  obtain⟨rfl,rfl,rfl⟩:=hi'
  exact ho
 ·have hi':(s.bz id (.obj v' fr' c')).ck i=some (.obj ver fr c):=hi
  rw[dW s id i _ hid]at hi'
  exact(h i ver fr c hi').mono he (hβ i hid) fun pl hp=>hb i ver fr c pl hid hi' hp
theorem mh.label{E:Env}{id:Id}{fr:Bool}{c:aC}(h:mh E id fr c){pl:Pl}(hp:E.β id=some pl):
    pl.b < E.w.heap.size∧((∃k,E.g pl.b= .own (.id id) k)∨(fr=true∧E.g pl.b= .free)):=by
  by_cases hn:c.fM=false
  · obtain⟨pl',cur,e,h1,h2,h3,h4⟩:=h.box hn
    rw[hp]at h1
    obtain rfl:pl=pl':=by simpa using h1
    refine⟨(Array.getElem?_eq_some_iff.1 h2).1,?_⟩
    cases fr with
    |true=>exact .inr ⟨rfl,h3⟩
    |false=>exact .inl ⟨0,h3⟩
  · cases c <;> first
      | (exact absurd rfl hn)
      | (obtain⟨pl',es,clock,h1,h2,h3,_⟩:=h
         rw[hp]at h1
         obtain rfl:pl=pl':=by simpa using h1
         exact⟨(Array.getElem?_eq_some_iff.1 h2).1,.inl ⟨0,h3⟩⟩)
      |skip
    obtain⟨_,h⟩:=h
    rw[hp]at h
    obtain⟨cur,k,h1,_,_,_,h5,_⟩:=h
    exact⟨(Array.getElem?_eq_some_iff.1 h1).1,.inl ⟨k,h5⟩⟩
def iM{α:Type}(f:Nat→α)(b:Nat)(x:α):Nat→α:=fun b'=>if b'=b then x else f b'
@[simp] theorem fa{α:Type}(f:Nat→α)(b:Nat)(x:α):iM f b x b=x:=by simp[iM]
theorem fv{α:Type}(f:Nat→α)(b:Nat)(x:α){b':Nat}(h:b'≠b):iM f b x b'=f b':=by simp[iM,h]
def rU:aC→Nat→Prop
 | .vec _ t l,j=>j < l.length*t.size
 |_,_=>True
theorem rU.of{c:aC}(h:c.fM=false)(j:Nat):rU c j:=by
 cases c <;> first | trivial | (simp[aC.fM]at h)
theorem AP{w:World}{b:Nat}{es:Array MapEntry}{clock:Nat}(h:w.heap[b]? =some (.map es clock))(j:Nat):w.cell? ⟨b,j,none⟩=none:=by
 simp[World.cell?,h]
theorem uL{C:Ctx}{g:Nat→ix}{β:Id→Option Pl}{s:AS}{a:Act}{w:World}(h:Inv C g β s a w)(id:Id):
    ∃g',Inv C g' β (s.freeze id) a w∧cW (s.env w g β) ((s.freeze id).env w g' β)∧Trans w w g g'∧
      (∀v fr c,s.ck id=some (.obj v fr c)→∀pl,β id=some pl→∀j x,w.cell? ⟨pl.b,j,none⟩=some x→
        rU c j→kf g' pl.b j):=by
  unfold AS.freeze
  cases hs:s.ck id with
  |none=>exact⟨g,h,cW.refl _,Trans.refl _ _,fun _ _ _ hh=>by cases hh⟩
  |some e=>
    cases e with
    |dead=>exact⟨g,h,cW.refl _,Trans.refl _ _,fun _ _ _ hh=>by cases hh⟩
    |obj v fr c=>
      simp only
      have hob:mh (s.env w g β) id fr c:=h.bN id v fr c hs
      cases hp:β id with
      |none=>
        have ht:=Trans.refl w g
        have he:cW (s.env w g β) ((s.bz id (.obj v true c)).env w g β):=cW.bz hs (Nat.le_refl _) ht (fun _ _=>rfl) (fun _=>rfl)
        refine⟨g,h.step (dK _ _ _) ht he ?_,he,ht,fun _ _ _ _ pl hpl=>by cases hpl⟩
        refine gz.bz h.bN (by rw[hs];simp) he (fun _ _=>rfl) (fun _ _ _ _ _ _ _ _=>⟨rfl,rfl⟩) ?_
        by_cases hn:c.fM=false
        · obtain⟨pl,_,_,h1,_⟩:=hob.box hn
          have h1':β id=some pl:=h1
          rw[hp]at h1';cases h1'
        · cases c <;> first
            | (exact absurd rfl hn)
            | (obtain⟨pl,_,_,h1,_⟩:=hob
               have h1':β id=some pl:=h1
               rw[hp]at h1';cases h1')
            |skip
          obtain⟨hz,ho⟩:=hob
          have ho':(match β id with
            |none=>_
            |some pl=>_):=ho
          refine⟨hz,?_⟩
          show(match β id with
            |none=>_
            |some pl=>_)
          rw[hp]at ho' ⊢
          exact ho'
      |some pl=>
        have hlab:=hob.label (pl:=pl) hp
        by_cases hn:c.fM=false
        · obtain⟨pl',cur,e,h1,h2,h3,h5,h4⟩:=hob.box hn
          have h1':β id=some pl':=h1
          rw[hp]at h1'
          obtain rfl:pl=pl':=by simpa using h1'
          have h3':g pl.b=xD id fr:=h3
          have ht:Trans w w g (iM g pl.b .free):=by
            refine⟨rfl,rfl,rfl,Nat.le_refl _,fun b hb=> ?_⟩
            by_cases hbe:b=pl.b
            · subst hbe
              rw[h3',fa]
              cases fr with
              |true=>exact⟨rfl,rfl⟩
              |false=>exact⟨.inl rfl,fun _ _ _ hh=>hh⟩
            · rw[fv _ _ _ hbe]
              exact(Trans.refl w g).zu b hb
          have he:cW (s.env w g β) ((s.bz id (.obj v true c)).env w (iM g pl.b .free) β):=cW.bz hs (Nat.le_refl _) ht (fun _ _=>rfl) (fun _=>rfl)
          refine⟨iM g pl.b .free,h.step (dK _ _ _) ht he ?_,he,ht,?_⟩
          · refine gz.bz h.bN (by rw[hs];simp) he (fun _ _=>rfl) (fun i ver fr' c' pl' hi hent hpl=>⟨rfl,?_⟩) ?_
            · by_cases hbe:pl'.b=pl.b
              · rw[hbe,fa]
                have hl:=(h.bN i ver fr' c' hent).label (pl:=pl') hpl
                have hl2:(∃k,g pl'.b= .own (.id i) k)∨(fr'=true∧g pl'.b= .free):=hl.2
                rw[hbe,h3']at hl2
                cases fr with
                |true=>exact h3'.symm▸rfl
                |false=>
                  exfalso
                  rcases hl2 with⟨k,hk⟩ | ⟨_,hk⟩
                  · simp only[xD,ix.own.injEq,Et.id.injEq]at hk
                    exact hi hk.1.symm
                  · cases hk
              · rw[fv _ _ _ hbe]
            · exact pY.obj ⟨pl,cur,e,hp,h2,fa _ _ _,h5,V.mono he h4⟩
          · intro v1 fr1 c1 hh pl1 hpl1 j x hx hj
            obtain rfl:pl=pl1:=by simpa using hpl1
            unfold kf;rw[fa];trivial
        · cases c <;> first | (exact absurd rfl hn) | skip
          rotate_left
          · obtain⟨pl',es,clock,h1,h2,h3,h4⟩:=hob
            have h1':β id=some pl':=h1
            rw[hp]at h1'
            obtain rfl:pl=pl':=by simpa using h1'
            have ht:=Trans.refl w g
            rename_i kt vt l
            have he:cW (s.env w g β) ((s.bz id (.obj v true (.mp kt vt l))).env w g β):=cW.bz hs (Nat.le_refl _) ht (fun _ _=>rfl) (fun _=>rfl)
            refine⟨g,h.step (dK _ _ _) ht he ?_,he,ht,fun _ _ _ _ pl1 hpl1 j x hx _=> ?_⟩
            · exact gz.bz h.bN (by rw[hs];simp) he (fun _ _=>rfl) (fun _ _ _ _ _ _ _ _=>⟨rfl,rfl⟩) ⟨pl,es,clock,hp,h2,h3,h4.mono fun _ _ hx=>hx.mono he.mem⟩
            · obtain rfl:pl=pl1:=by simpa using hpl1
              have h2:w.heap[pl.b]? =some (.map es clock):=h2
              rw[AP h2]at hx
              cases hx
          rename_i e t l
          obtain⟨hz,ho⟩:=hob
          have ho':(match β id with
            |none=>l=[]
            |some pl=>∃cur k,w.heap[pl.b]? =some (.cells cur e (0,0))∧cur.size=pl.cap*t.size∧l.length≤pl.cap∧pl.cap≤maxLen∧g pl.b= .own (.id id) k∧
                k≤l.length*t.size∧(fr=false→k=0)∧bg (cT (s.env w g β) t) (cur.toList.take (l.length*t.size)) l):=ho
          rw[hp]at ho'
          obtain⟨cur,k,h1,h2,h3,h4,h5,h6,h7,h8⟩:=ho'
          have ht:Trans w w g (iM g pl.b (.own (.id id) (l.length*t.size))):=by
            refine⟨rfl,rfl,rfl,Nat.le_refl _,fun b hb=> ?_⟩
            by_cases hbe:b=pl.b
            · subst hbe
              rw[h5,fa]
              exact⟨.inr ⟨id,_,rfl,h6⟩,fun _ _ _ hh=>hh⟩
            · rw[fv _ _ _ hbe]
              exact(Trans.refl w g).zu b hb
          have he:cW (s.env w g β) ((s.bz id (.obj v true (.vec e t l))).env w (iM g pl.b (.own (.id id) (l.length*t.size))) β):=cW.bz hs (Nat.le_refl _) ht (fun _ _=>rfl) (fun _=>rfl)
          refine⟨_,h.step (dK _ _ _) ht he ?_,he,ht,?_⟩
          · refine gz.bz h.bN (by rw[hs];simp) he (fun _ _=>rfl) (fun i ver fr' c' pl' hi hent hpl=>⟨rfl,?_⟩) ?_
            · by_cases hbe:pl'.b=pl.b
              · exfalso
                have hl:=(h.bN i ver fr' c' hent).label (pl:=pl') hpl
                have hl2:(∃k,g pl'.b= .own (.id i) k)∨(fr'=true∧g pl'.b= .free):=hl.2
                rw[hbe,h5]at hl2
                rcases hl2 with⟨k,hk⟩ | ⟨_,hk⟩
                · simp only[ix.own.injEq,Et.id.injEq]at hk
                  exact hi hk.1.symm
                · cases hk
              · rw[fv _ _ _ hbe]
            · refine⟨hz,?_⟩
              show(match β id with
                |none=>l=[]
                |some pl=>_)
              rw[hp]
              exact⟨cur,_,h1,h2,h3,h4,fa _ _ _,Nat.le_refl _,(by intro hh;cases hh),h8.mono fun c x hx=>hx.mono he.mem⟩
          · intro v1 fr1 c1 hh pl1 hpl1 j x hx hj
            obtain rfl:pl=pl1:=by simpa using hpl1
            simp only[Option.some.injEq,eP.obj.injEq]at hh
            obtain⟨_,_,rfl⟩:=hh
            unfold kf;rw[fa];exact hj
end Go.Ab
namespace Go.Ab
def DP(E E':Env)(ids:List Id):Prop:=
 ∀id∈ids,∀v fr c,E.s id=some (.obj v fr c)→∀pl,E.β id=some pl→∀j x,E.w.cell? ⟨pl.b,j,none⟩=some x→
  rU c j→E'.has pl.b j x
theorem rI{s:AS}{id i:Id}{v:Nat}{fr:Bool}{c:aC}(h:s.ck i=some (.obj v fr c)):∃fr',(s.freeze id).ck i=some (.obj v fr' c):=by
 unfold AS.freeze
 by_cases hi:i=id
 ·subst hi
  rw[h]
  exact⟨true,eS s i _ (by rw[h];simp)⟩
 ·split
  ·exact⟨fr,by rw[dW s id i _ hi];exact h⟩
  ·exact⟨fr,h⟩
theorem fy{C:Ctx}{β:Id→Option Pl}{a:Act}{w:World}:∀(ids:List Id) {g:Nat→ix} {s:AS},Inv C g β s a w→
  ∃g',Inv C g' β (s.bj ids) a w∧cW (s.env w g β) ((s.bj ids).env w g' β)∧Trans w w g g'∧DP (s.env w g β) ((s.bj ids).env w g' β) ids
 |[],g,s,h=>⟨g,h,cW.refl _,Trans.refl _ _,fun _ hi=>by cases hi⟩
 |id::ids,g,s,h=>by
  obtain⟨g1,h1,e1,t1,f1⟩:=uL h id
  obtain⟨g2,h2,e2,t2,f2⟩:=fy ids h1
  refine⟨g2,h2,e1.trans e2,t1.trans t2,fun i hi v fr c hs pl hp j x hx hj=> ?_⟩
  rcases List.mem_cons.1 hi with rfl | hi
  ·exact e2.mem.has _ _ _ ⟨hx,f1 v fr c hs pl hp j x hx hj⟩
  ·obtain⟨fr',hs'⟩:=rI (id:=id) hs
   exact f2 i hi v fr' c hs' pl hp j x hx hj
theorem vh(s:AS)(id:Id):(s.freeze id).cl=s.cl:=by unfold AS.freeze;split <;> simp
theorem gU:∀(ids:List Id) (s:AS),(s.bj ids).cl=s.cl
 |[],_=>rfl
 |id::ids,s=>by rw[AS.bj,gU ids,vh]
theorem wG(s:AS)(id:Id)(q:Nat):(s.freeze id).dO q=s.dO q:=by
 unfold AS.freeze
 split
 ·rename_i v b c h
  cases id with
  |fK k=>rfl
  |new i j=>
   simp only[AS.bz,AS.dO]
   by_cases hq:i=q
   ·subst hq
    simp only[AS.ck]at h
    by_cases hl:i < s.news.length
    ·rw[List.getElem?_set_self hl,List.getElem?_eq_getElem hl]
     rw[List.getD_eq_getElem?_getD,List.getElem?_eq_getElem hl]at h ⊢
     simp only[Option.getD_some]at h ⊢
     cases hh:s.news[i]with
     |nil=>rw[hh]at h;simp at h
     |cons x xs=>cases j <;> simp[List.set]
    ·rw[List.set_eq_of_length_le (by omega)]
   ·rw[List.getElem?_set_ne hq]
 ·rfl
theorem jS:∀(ids:List Id) (s:AS) (q:Nat),(s.bj ids).dO q=s.dO q
 |[],_,_=>rfl
 |id::ids,s,q=>by rw[AS.bj,jS ids,wG]
theorem rY{e:TypeId}{t:Ty}:∀ {p:List pa} {n:Nat} {v:aC},(loc (.vec e t []) p).eval=some (n,v)→n=0∧v= .vec e t []
 |[],n,v,h=>by
  simp only[loc,ax,Prod.mk.injEq]at h
  exact⟨h.1.symm,h.2.symm⟩
 | .arr::p,n,v,h=>by
  simp only[loc]at h
  exact rY h
 | .idx i::p,n,v,h=>by simp[loc,bF]at h
 | .fst::p,n,v,h=>by simp only[loc,ak]at h
 | .snd::p,n,v,h=>by simp only[loc,ak]at h
theorem uT{k t:Ty}{l:List (k.den×t.den)}:∀ {p:List pa} {n:Nat} {v:aC},(loc (.mp k t l) p).eval=some (n,v)→n=0∧v= .mp k t l
 |[],n,v,h=>by
  simp only[loc,ax,Prod.mk.injEq]at h
  exact⟨h.1.symm,h.2.symm⟩
 | .arr::p,n,v,h=>by
  simp only[loc]at h
  exact uT h
 | .idx i::p,n,v,h=>by simp only[loc,ak]at h
 | .fst::p,n,v,h=>by simp only[loc,ak]at h
 | .snd::p,n,v,h=>by simp only[loc,ak]at h
theorem qu{E:Env}{s:AS}(hs:E.s=s.ck)(ho:gz E){id:Id}{ver:Nat}{p:List pa}{n:Nat}{t:Ty}{l:List t.den}(h:(s.row id ver p).eval=some (n,⟨t,l⟩)):
    ∃fr c,E.s id=some (.obj ver fr c)∧((E.β id=none∧l=[]∧n=0)∨∃pl cur e,E.β id=some pl∧E.w.heap[pl.b]? =some (.cells cur e (0,0))∧n+l.length*t.size≤cur.size∧
      bg (cT E t) ((cur.toList.drop n).take (l.length*t.size)) l∧
      ∀j,j < n+l.length*t.size→rU c j):=by
  unfold AS.row at h
  cases hob:s.obj id with
  |none=>rw[hob]at h;simp only[ak]at h
  |some r=>
    obtain⟨v,fr,c⟩:=r
    rw[hob]at h
    obtain⟨h1,h2⟩:=aE.1 h
    obtain⟨⟨n',v'⟩,h3,h4⟩:=aw.1 h2
    have hv:v=ver:=by simpa using h1
    subst hv
    have hent:E.s id=some (.obj v fr c):=by rw[hs];exact eB hob
    refine⟨fr,c,hent,?_⟩
    have hO:=ho id v fr c hent
    have harr:∀(pl:Pl) (cur:Array Value) (e:TypeId) (m:Nat) (t':Ty) (l':List t'.den) (n':Nat),E.β id=some pl→E.w.heap[pl.b]? =some (.cells cur e (0,0))→c.fM=false→
        V E (.d (.arr m t') l') ((cur.toList.drop n').take (aC.d (.arr m t') l').size)→n'+(aC.d (.arr m t') l').size≤cur.toList.length→(Out.ok (n',(⟨t',l'⟩:(t:Ty)×List t.den))).eval=some (n,⟨t,l⟩)→
        ∃pl cur e,E.β id=some pl∧E.w.heap[pl.b]? =some (.cells cur e (0,0))∧n+l.length*t.size≤cur.size∧bg (cT E t) ((cur.toList.drop n).take (l.length*t.size)) l∧
          ∀j,j < n+l.length*t.size→rU c j:=by
      intro pl cur e m t' l' n' hp hh hn hv hl he
      simp only[ax,Prod.mk.injEq]at he
      obtain⟨rfl,he⟩:=he
      obtain⟨rfl,he⟩:=he
      simp only[V,cT]at hv
      obtain⟨hv1,hv2⟩:=hv
      have hsz:∀(t:Ty) (l:List t.den),l.length=m→(aC.d (.arr m t) l).size=l.length*t.size:=fun t l hh=>by simp[aC.size,Ty.size,hh]
      rw[hsz _ _ hv1]at hv2 hl
      exact⟨pl,cur,e,hp,hh,by simpa using hl,hv2,fun j _=>rU.of hn j⟩
    by_cases hn:c.fM=false
    · right
      obtain⟨pl,cur,e,hp,hh,hg,hk,hV⟩:=hO.box hn
      have hN:=ri hk
      generalize c.ku cur.size=N at hN hV
      have hNl:(cur.toList.take N).length=N:=by rw[List.length_take,Array.length_toList];omega
      obtain⟨u,hu⟩:∃u,c.strip=u:=⟨_,rfl⟩
      rw[hu]at hV h3
      have hcut:∀m k:Nat,m+k≤(cur.toList.take N).length→((cur.toList.take N).drop m).take k=(cur.toList.drop m).take k∧m+k≤cur.toList.length:=fun m k hmk=>by
        rw[hNl]at hmk
        refine⟨?_,by rw[Array.length_toList];omega⟩
        rw[List.drop_take,List.take_take,Nat.min_eq_left (by omega)]
      rcases jg p u (cur.toList.take N) n' v' (VO.of hV) h3 with⟨rfl,rfl⟩ | ⟨hV',hle⟩
      · cases v' with
        |d t' x=>cases t' with
          |arr m t'=>
            have hs:=hV.size
            have hc:=hcut 0 (aC.d (.arr m t') x).size (by omega)
            refine harr pl cur e m t' x 0 hp hh hn ?_ hc.2 (by simpa only using h4)
            rw[←hc.1,List.drop_zero,List.take_of_length_le (by omega)]
            exact hV
          |_=>simp only[ak]at h4
        |vec=>simp only[V]at hV
        |_=>simp only[ak]at h4
      · cases v' with
        |d t' x=>cases t' with
          |arr m t'=>
            have hc:=hcut _ _ hle
            exact harr pl cur e m t' x n' hp hh hn (by rw[←hc.1];exact hV') hc.2 (by simpa only using h4)
          |_=>simp only[ak]at h4
        |vec=>simp only[V]at hV'
        |_=>simp only[ak]at h4
    · cases c <;> first
        | (exact absurd rfl hn)
        | (obtain⟨rfl,rfl⟩:=uT h3
           simp only[ak]at h4)
        |skip
      rename_i e t0 l0
      obtain⟨hz,hO⟩:=hO
      cases hp:E.β id with
      |none=>
        rw[hp]at hO
        have hl0:l0=[]:=hO
        subst hl0
        obtain⟨rfl,rfl⟩:=rY h3
        simp only[ax,Prod.mk.injEq]at h4
        obtain⟨rfl,he⟩:=h4
        obtain⟨rfl,he⟩:=he
        exact .inl ⟨rfl,rfl,rfl⟩
      |some pl=>
        rw[hp]at hO
        obtain⟨cur,k,q1,q2,q3,q4,q5,q6,q7,q8⟩:=hO
        right
        have hlen:(cur.toList.take (l0.length*t0.size)).length=l0.length*t0.size:=bg.length (fun c x hx=>cT.size hx) q8
        have hsize:l0.length*t0.size≤cur.size:=by rw[q2];exact Nat.mul_le_mul_right _ q3
        rcases jg (E:=E) p (.vec e t0 l0) (cur.toList.take (l0.length*t0.size)) n' v' q8 h3 with⟨rfl,rfl⟩ | ⟨hV',hle⟩
        · simp only[ax,Prod.mk.injEq]at h4
          obtain⟨rfl,he⟩:=h4
          obtain⟨rfl,he⟩:=he
          exact⟨pl,cur,e,rfl,q1,by omega,by simpa using q8,fun j hj=>by show j < l.length*t.size;omega⟩
        · have hle':=hle
          rw[hlen]at hle'
          rw[List.drop_take,List.take_take,Nat.min_eq_left (by omega)]at hV'
          cases v' with
          |d t' x=>cases t' with
            |arr m t'=>
              simp only[ax,Prod.mk.injEq]at h4
              obtain⟨rfl,he⟩:=h4
              obtain⟨rfl,he⟩:=he
              simp only[V,cT]at hV'
              obtain⟨hv1,hv2⟩:=hV'
              have hsz:∀(t:Ty) (l:List t.den),l.length=m→(aC.d (.arr m t) l).size=l.length*t.size:=fun t l hh=>by simp[aC.size,Ty.size,hh]
              rw[hsz _ _ hv1]at hv2 hle'
              refine⟨pl,cur,e,rfl,q1,by omega,hv2,fun j hj=> ?_⟩
              show j < l0.length*t0.size
              omega
            |_=>simp only[ak]at h4
          |vec=>simp only[V]at hV'
          |_=>simp only[ak]at h4
theorem oF{E:Env}{t:Ty}{cs:List Value}{l:List t.den}(h:bg (cT E t) cs l)(i len:Nat):bg (cT E t) ((cs.drop (i*t.size)).take (len*t.size)) (cut l i len):=
 bg.take (fun _ _ hx=>hx.size) len (bg.drop (fun _ _ hx=>hx.size) i h)
theorem mn{α:Type}{l:List α}{i len:Nat}(h:i+len≤l.length):(cut l i len).length=len:=by
 simp[cut];omega
theorem xh{E E':Env}{s:AS}(hs:E.s=s.ck)(ho:gz E)(he:cW E E'){id:Id}{ver c i len n:Nat}{p:List pa}{t':Ty}{l:List t'.den}{cs:List Value}
  (h1:(s.row id ver p).eval=some (n,⟨t',l⟩)) (h3:decide (n+i*t'.size=c∧i+len≤l.length)=true) (hv:V E (.bU id ver p c i len) cs) (hf:DP E E' (aC.bU id ver p c i len).shared):cT E' (.slice t') cs (cut l i len):=by
 simp only[decide_eq_true_eq]at h3
 obtain⟨hc,hlen⟩:=h3
 obtain⟨fr,c0,hent,hrow⟩:=qu hs ho h1
 simp only[V]at hv
 obtain⟨a,cap,hcs,hle,hsome,hb,hcur⟩:=hv
 have hcur:=hcur ⟨fr,c0,hent⟩
 have hxl:(cut l i len).length=len:=mn hlen
 simp only[cT]
 refine⟨a,cap,?_⟩
 rcases hrow with⟨hp,hl,_⟩ | ⟨pl,cur,e,hp,hh,hsz,hch,hbound⟩
 ·rw[hp]at hcur
  simp only at hcur
  obtain⟨rfl,rfl,rfl⟩:=hcur
  refine⟨[],?_,by omega,by omega,fun _ _ hh=>by simp at hh,?_⟩
  ·rw[hxl];exact hcs
  ·have:cut l i 0=[]:=by simp[cut]
   rw[this];rfl
 ·rw[hp]at hcur
  simp only at hcur
  refine⟨((((cur.toList.drop n).take (l.length*t'.size)).drop (i*t'.size)).take (len*t'.size)),by rw[hxl];exact hcs,by omega,by rw[hxl];exact hsome,?_,(oF hch i len).mono fun _ _ hx=>hx.mono he.mem⟩
  have hmul:(i+len)*t'.size≤l.length*t'.size:=Nat.mul_le_mul_right _ hlen
  rw[Nat.add_mul]at hmul
  rw[sj _ _ _ _ _ hmul]
  intro j v hj
  rw[List.getElem?_take]at hj
  split at hj
  ·rename_i hjl
   rw[List.getElem?_drop,hc]at hj
   have hlp:0 < len:=by
    rcases Nat.eq_zero_or_pos len with h0 | h0
    ·subst h0;simp at hjl
    ·exact h0
   refine⟨pl.b,c,hcur.1 (.inl hlp),?_⟩
   refine hf id (by simp[aC.shared]) ver fr c0 hent pl hp (c+j) v ?_ (hbound _ (by omega))
   rw[cell_of_row E.w pl.b (c+j) cur e (0,0) hh]
   simpa using hj
  ·cases hj
theorem kp{E E':Env}{s:AS}(hs:E.s=s.ck)(ho:gz E)(he:cW E E'):∀(v:aC) (t:Ty) (x:t.den) (cs:List Value),V E v cs→(s.fP t v).eval=some x→DP E E' v.shared→cT E' t cs x
 | .d t' x',t,x,cs,hv,h,_=>by
  have h':(Out.opt (nq t' t x')).eval=some x:=by cases t <;> simpa only[AS.fP]using h
  simp only[V]at hv
  exact mm (gg.1 h') (hv.mono he.mem)
 | .da,.slice t,x,cs,hv,h,_=>by
  simp only[AS.fP,ax]at h
  subst h
  simp only[V]at hv
  simp only[cT]
  exact⟨none,0,[],by simpa using hv,by simp,by simp,fun i v hh=>by simp at hh,rfl⟩
 | .da,.fq t,x,cs,hv,h,_=>by
  simp only[AS.fP,ax]at h
  subst h
  simp only[V]at hv
  simp only[cT]
  exact⟨fun _=>hv,fun l hl=>(by cases hl)⟩
 | .bU id ver p c i len,.fq t,x,cs,hv,h,hf=>by
  simp only[AS.fP]at h
  obtain⟨⟨n,t',l⟩,h1,h2⟩:=aw.1 h
  obtain⟨h3,h4⟩:=bF.1 h2
  exact mm (gg.1 h4) (xh hs ho he h1 h3 hv hf)
 | .bU id ver p c i len,.slice t,x,cs,hv,h,hf=>by
  simp only[AS.fP]at h
  obtain⟨⟨n,t',l⟩,h1,h2⟩:=aw.1 h
  obtain⟨h3,h4⟩:=bF.1 h2
  exact mm (gg.1 h4) (xh hs ho he h1 h3 hv hf)
 | .pr a b,.pair ta tb,x,cs,hv,h,hf=>by
  simp only[AS.fP]at h
  obtain⟨x1,h1,h2⟩:=aw.1 h
  obtain⟨x2,h3,h4⟩:=aw.1 h2
  obtain rfl:=ax.1 h4
  simp only[V]at hv
  obtain⟨ca,cb,e,ha,hb⟩:=hv
  simp only[cT]
  exact⟨ca,cb,e,kp hs ho he a ta x1 ca ha h1 (fun i hi=>hf i (by simp[aC.shared,hi])),kp hs ho he b tb x2 cb hb h3 (fun i hi=>hf i (by simp[aC.shared,hi]))⟩
 | .da,.int _,_,_,_,h,_ | .da,.bool,_,_,_,h,_ | .da,.str,_,_,_,h,_ | .da,.unit,_,_,_,h,_ | .da,.pair _ _,_,_,_,h,_ | .da,.arr _ _,_,_,_,h,_=>by simp only[AS.fP,ak]at h
 | .bU ..,.int _,_,_,_,h,_ | .bU ..,.bool,_,_,_,h,_ | .bU ..,.str,_,_,_,h,_ | .bU ..,.unit,_,_,_,h,_ | .bU ..,.pair _ _,_,_,_,h,_ | .bU ..,.arr _ _,_,_,_,h,_=>by simp only[AS.fP,ak]at h
 | .pr _ _,.int _,_,_,_,h,_ | .pr _ _,.bool,_,_,_,h,_ | .pr _ _,.str,_,_,_,h,_ | .pr _ _,.unit,_,_,_,h,_ | .pr _ _,.slice _,_,_,_,h,_ | .pr _ _,.arr _ _,_,_,_,h,_ | .pr _ _,.fq _,_,_,_,h,_=>by simp only[AS.fP,ak]at h
 | .undef,t,_,_,_,h,_=>by cases t <;> simp only[AS.fP,ak]at h
 | .gone,t,_,_,_,h,_=>by cases t <;> simp only[AS.fP,ak]at h
 | .kc,t,_,_,_,h,_=>by cases t <;> simp only[AS.fP,ak]at h
 | .ka,t,_,_,_,h,_=>by cases t <;> simp only[AS.fP,ak]at h
 | .lJ,t,_,_,_,h,_=>by cases t <;> simp only[AS.fP,ak]at h
 | .sb _,t,_,_,_,h,_=>by cases t <;> simp only[AS.fP,ak]at h
 | .ptr ..,t,_,_,_,h,_=>by cases t <;> simp only[AS.fP,ak]at h
 | .ej ..,t,_,_,_,h,_=>by cases t <;> simp only[AS.fP,ak]at h
 | .fn ..,t,_,_,_,h,_=>by cases t <;> simp only[AS.fP,ak]at h
 | .cons ..,t,_,_,_,h,_=>by cases t <;> simp only[AS.fP,ak]at h
 | .nil,t,_,_,_,h,_=>by cases t <;> simp only[AS.fP,ak]at h
 | .vec ..,t,_,_,_,h,_=>by cases t <;> simp only[AS.fP,ak]at h
 | .bx ..,t,_,_,_,h,_ | .jt ..,t,_,_,_,h,_ | .mp ..,t,_,_,_,h,_=>by cases t <;> simp only[AS.fP,ak]at h
theorem lC{s:AS}{t:Ty}{v:aC}{x:t.den}(h:(s.fP t v).eval=some x):v.eE=true:=by
 cases v <;> first
  |rfl
  | (cases t <;> simp only[AS.fP,ak]at h)
theorem sQ{s:AS}{t:Ty}{v:aC}{x:t.den}(h:(s.fP t v).eval=some x):v.agg=t.agg:=by
 cases v with
 |d t' x'=>
  have h':(Out.opt (nq t' t x')).eval=some x:=by cases t <;> simpa only[AS.fP]using h
  exact tw (gg.1 h')
 |_=>cases t <;> first | rfl | (simp only[AS.fP,ak]at h)
theorem lh{C:Ctx}{g:Nat→ix}{β:Id→Option Pl}{s:AS}{a:Act}{w:World}(h:Inv C g β s a w){v:aC}{y:Value}(hv:VS (s.env w g β) v y){t:Ty}{x:t.den}(ht:(s.fP t v).eval=some x):
  ∃g',Inv C g' β (s.bj v.shared) a w∧cW (s.env w g β) ((s.bj v.shared).env w g' β)∧Trans w w g g'∧
   ∃cs,cT ((s.bj v.shared).env w g' β) t cs x∧fe t.agg cs y:=by
 obtain⟨g',h1,h2,h3,h4⟩:=fy v.shared h
 obtain⟨cs,hV,hO⟩:=hv.eE (lC ht)
 exact⟨g',h1,h2,h3,cs,kp rfl h.bN h2 v t x cs hV ht h4,by rw[←sQ ht];exact hO⟩
theorem rH{α:Type}{R:List Value→α→Prop}{f:α→List Value→Option (List Value)}(hf:∀x cs r,f x cs=some r→∃c,cs=c++r∧R c x):
  ∀(l:List α) (cs r:List Value),AU f l cs=some r→∃c,cs=c++r∧bg R c l
 |[],cs,r,h=>by
  simp only[AU,Option.some.injEq]at h
  exact⟨[],by simp[h],rfl⟩
 |x::xs,cs,r,h=>by
  simp only[AU]at h
  cases hx:f x cs with
  |none=>rw[hx]at h;cases h
  |some r1=>
   rw[hx]at h
   obtain⟨c1,e1,h1⟩:=hf x cs r1 hx
   obtain⟨c2,e2,h2⟩:=rH hf xs r1 r h
   exact⟨c1++c2,by rw[e1,e2,List.append_assoc],c1,c2,rfl,h1,h2⟩
theorem mq(E:Env):∀(t:Ty) (x:t.den) (cs r:List Value),lG t x cs=some r→∃c,cs=c++r∧cT E t c x
 | .int k,x,cs,r,h=>by
  cases cs with
  |nil=>simp[lG]at h
  |cons v r'=>
   cases v <;> simp only[lG]at h <;> try (cases h;done)
   rename_i k' n
   split at h
   ·rename_i h1 h2
    simp at h1 h2 h
    subst h1 h2 h
    exact⟨[.int k n],rfl,by simp[cT]⟩
   ·cases h
 | .bool,x,cs,r,h=>by
  cases cs with
  |nil=>simp[lG]at h
  |cons v r'=>
   cases v <;> simp only[lG]at h <;> try (cases h;done)
   rename_i b
   split at h
   ·rename_i h1
    simp at h1 h
    subst h1 h
    exact⟨[.bool b],rfl,by simp[cT]⟩
   ·cases h
 | .str,x,cs,r,h=>by
  cases cs with
  |nil=>simp[lG]at h
  |cons v r'=>
   cases v <;> simp only[lG]at h <;> try (cases h;done)
   rename_i b
   split at h
   ·rename_i h1
    simp at h1 h
    subst h1 h
    exact⟨[.string b],rfl,by simp[cT]⟩
   ·cases h
 | .slice t,x,cs,r,h=>by
  cases x with
  |cons _ _=>simp[lG]at h
  |nil=>
   cases cs with
   |nil=>simp[lG]at h
   |cons v r'=>
    unfold lG at h
    split at h <;> try (cases h;done)
    all_goals simp_all
    exact⟨[.slice none 0 0],rfl,by simp only[cT];exact⟨none,0,[],rfl,by simp,by simp,fun i v hh=>by simp at hh,rfl⟩⟩
 | .fq t,x,cs,r,h=>by
  cases x with
  |some _=>simp[lG]at h
  |none=>
   cases cs with
   |nil=>simp[lG]at h
   |cons v r'=>
    unfold lG at h
    split at h <;> try (cases h;done)
    all_goals simp_all
    exact⟨[.slice none 0 0],rfl,by simp[cT]⟩
 | .unit,x,cs,r,h=>by
  simp only[lG,Option.some.injEq]at h
  exact⟨[],by simp[h],by simp[cT]⟩
 | .pair a b,x,cs,r,h=>by
  simp only[lG]at h
  cases hx:lG a x.1 cs with
  |none=>rw[hx]at h;cases h
  |some r1=>
   rw[hx]at h
   obtain⟨c1,e1,h1⟩:=mq E a x.1 cs r1 hx
   obtain⟨c2,e2,h2⟩:=mq E b x.2 r1 r h
   exact⟨c1++c2,by rw[e1,e2,List.append_assoc],by simp only[cT];exact⟨c1,c2,rfl,h1,h2⟩⟩
 | .arr n t,x,cs,r,h=>by
  simp only[lG]at h
  split at h
  ·rename_i h1
   obtain⟨c,e,hc⟩:=rH (fun x cs r hh=>mq E t x cs r hh) _ _ _ h
   exact⟨c,e,by simp only[cT];exact⟨by simpa using h1,hc⟩⟩
  ·cases h
theorem xM(E:Env):∀(a:aC) (cs r:List Value),qW a cs=some r→∃c,cs=c++r∧V E a c:=by
 intro a
 induction a with
 |d t x=>
  intro cs r h
  simp only[qW]at h
  obtain⟨c,e,hc⟩:=mq E t x cs r h
  exact⟨c,e,by simpa only[V]using hc⟩
 |pr a b iha ihb=>
  intro cs r h
  simp only[qW]at h
  cases hx:qW a cs with
  |none=>rw[hx]at h;cases h
  |some r1=>
   rw[hx]at h
   obtain⟨c1,e1,h1⟩:=iha cs r1 hx
   obtain⟨c2,e2,h2⟩:=ihb r1 r h
   exact⟨c1++c2,by rw[e1,e2,List.append_assoc],by simp only[V];exact⟨c1,c2,rfl,h1,h2⟩⟩
 |da=>intro cs r h;unfold qW at h;split at h <;> simp_all <;> exact⟨[.slice none 0 0],rfl,by simp[V]⟩
 |kc=>intro cs r h;unfold qW at h;split at h <;> simp_all <;> exact⟨[.pointer none],rfl,by simp[V]⟩
 |ka=>intro cs r h;unfold qW at h;split at h <;> simp_all <;> exact⟨[.nilFunc],rfl,by simp[V]⟩
 |lJ=>intro cs r h;unfold qW at h;split at h <;> simp_all <;> exact⟨[.map none],rfl,by simp[V]⟩
 |_=>intro cs r h;simp[qW]at h
theorem jU{P:Program}{T:TypeId}{z:aC}(h:vq P T z=true)(E:Env):
  ∃i zv,P.info? T=some i∧i.zero=some zv∧V E z zv.cells.toList∧fe z.agg zv.cells.toList zv:=by
 unfold vq at h
 split at h <;> try (cases h;done)
 rename_i i hi
 split at h <;> try (cases h;done)
 rename_i zv hz
 simp only[Bool.and_eq_true,beq_iff_eq]at h
 obtain⟨h1,h2⟩:=h
 split at h1 <;> try (cases h1;done)
 rename_i he
 obtain⟨c,e,hV⟩:=xM E z _ _ he
 rw[List.append_nil]at e
 rw[←e]at hV
 refine⟨i,zv,hi,hz,hV,?_⟩
 cases hagg:z.agg with
 |true=>
  rw[hagg]at h2
  cases zv <;> simp[iY]at h2
  simp[fe,Value.cells]
 |false=>
  rw[hagg]at h2
  cases zv <;> first | (simp[iY]at h2;done) | simp[fe,Value.cells]
end Go.Ab
namespace Go.Ab
def eZ(P:Program)(o:Oper)(a:Act)(w:World)(K:Act→World→Prop):Prop:=
 (∃x w',(execOp a.eval o).run P w= .ok (.value x) w'∧K (a.put o.dst x) w')∨
 (∃w',(execOp a.eval o).run P w= .ok .skip w'∧K (a.put o.dst undef) w')∨
 (∃f args w',(execOp a.eval o).run P w= .ok (.enter f args) w'∧Calls P f args w' fun e w''=>∃x,e= .returned x∧K (a.put o.dst x) w'')
theorem eZ.wp{P:Program}{o:Oper}{a:Act}{w:World}{K:Act→World→Prop}{Q:Exit→Act→World→Prop}(h:eZ P o a w K):o.wp P a w K Q:=by
 unfold Oper.wp
 rcases h with⟨x,w',hr,hk⟩ | ⟨w',hr,hk⟩ | ⟨f,args,w',hr,hk⟩
 ·rw[hr,Oper.upon_value];exact hk
 ·rw[hr,Oper.upon_skip];exact hk
 ·rw[hr,Oper.upon_enter]
  refine hk.mono fun e w'' ⟨x,he,hx⟩=> ?_
  subst he
  exact hx
theorem eZ.mono{P:Program}{o:Oper}{a:Act}{w:World}{K K':Act→World→Prop}(h:eZ P o a w K)(hk:∀a w,K a w→K' a w):eZ P o a w K':=by
 rcases h with⟨x,w',hr,h⟩ | ⟨w',hr,h⟩ | ⟨f,args,w',hr,h⟩
 ·exact .inl ⟨x,w',hr,hk _ _ h⟩
 ·exact .inr (.inl ⟨w',hr,hk _ _ h⟩)
 ·exact .inr (.inr ⟨f,args,w',hr,h.mono fun e w'' ⟨x,he,hx⟩=>⟨x,he,hk _ _ hx⟩⟩)
section
variable {P:Program} {C:Ctx} {g:Nat→ix} {β:Id→Option Pl} {s:AS} {a:Act} {w:World} {o:Oper}
theorem Inv.value(h:Inv C g β s a w){v:aC}{x:Value}(hv:VS (s.env w g β) v x)(hr:(execOp a.eval o).run P w= .ok (.value x) w):eZ P o a w (fQ C (s.put o.dst v)):=
 .inl ⟨x,w,hr,g,β,h.put o.dst hv⟩
theorem dR{f:Sem Value}{x:Value}{w':World}(he:execOp a.eval o=(do pure (.value (←f))))(hf:f.run P w= .ok x w'):(execOp a.eval o).run P w= .ok (.value x) w':=by
 rw[he,Sem.run_bind,hf];rfl
theorem tC{f:Sem Unit}{w':World}(he:execOp a.eval o=(do f;pure .skip))(hf:f.run P w= .ok () w'):(execOp a.eval o).run P w= .ok .skip w':=by
 rw[he,Sem.run_bind,hf];rfl
theorem kW{E:Env}{k:IntKind}{n:Int}{y:Value}(h:VS E (.d (.int k) n) y):y= .int k n:=by
 obtain⟨cs,hv,ho⟩:=h
 simp only[V,cT]at hv
 have ho':cs=[y]:=ho
 rw[hv]at ho'
 simpa using ho'.symm
theorem rh{E:Env}{b:Bool}{y:Value}(h:VS E (.d .bool b) y):y= .bool b:=by
 obtain⟨cs,hv,ho⟩:=h
 simp only[V,cT]at hv
 have ho':cs=[y]:=ho
 rw[hv]at ho'
 simpa using ho'.symm
theorem mJ{E:Env}{b:ByteArray}{y:Value}(h:VS E (.d .str b) y):y= .string b:=by
 obtain⟨cs,hv,ho⟩:=h
 simp only[V,cT]at hv
 have ho':cs=[y]:=ho
 rw[hv]at ho'
 simpa using ho'.symm
theorem gJ{E:Env}(k:IntKind)(n:Int):VS E (.d (.int k) n) (.int k n):=⟨[.int k n],by simp[V,cT],rfl⟩
theorem kG{E:Env}(b:Bool):VS E (.d .bool b) (.bool b):=⟨[.bool b],by simp[V,cT],rfl⟩
theorem uo{E:Env}(b:ByteArray):VS E (.d .str b) (.string b):=⟨[.string b],by simp[V,cT],rfl⟩
theorem yR{T:TypeId}{d:TypeDesc}(h:P.underlying T=some d):∃i,P.info? T=some i:=by
 unfold Program.underlying at h
 split at h
 ·rename_i h';exact⟨_,h'⟩
 ·rename_i i _ h';exact⟨_,h'⟩
 ·cases h
theorem run_sizeOf{T:TypeId}{i:TypeInfo}(h:P.info? T=some i)(w:World):(sizeOf T).run P w= .ok i.size w:=by
 simp[sizeOf,typeInfo,h]
theorem gL{T:TypeId}{i:TypeInfo}(h:P.info? T=some i):P.cellsOf T=i.size:=by simp[Program.cellsOf,h]
theorem iS{T:TypeId}{v:aC}(h:fits P T v=true):v.eE=true∧∃i,P.info? T=some i∧i.size=v.size∧∀w,(isAgg T).run P w= .ok v.agg w:=by
 unfold fits at h
 simp only[Bool.and_eq_true,beq_iff_eq]at h
 obtain⟨⟨h1,h2⟩,h3⟩:=h
 cases hu:P.underlying T with
 |none=>rw[hu]at h3;cases h3
 |some d=>
  obtain⟨i,hi⟩:=yR hu
  refine⟨h1,i,hi,by rw[gL hi]at h2;exact h2,fun w=> ?_⟩
  rw[hu]at h3
  unfold isAgg
  rw[Sem.run_bind,run_underlying hu w]
  cases d <;> simp at h3 <;> simp[h3]
theorem nL{T:TypeId}{v:aC}(hf:fits P T v=true){b off:Nat}{cs:List Value}(hl:cs.length=v.size)(hc:∀j x,cs[j]? =some x→w.cell? ⟨b,off+j,none⟩=some x):
  ∃y,(loadVar T ⟨b,off,none⟩).run P w= .ok y w∧fe v.agg cs y:=by
 obtain⟨_,i,hi,hs,hagg⟩:=iS hf
 unfold loadVar
 rw[Sem.run_bind,hagg w]
 simp only[Result.andThen_ok]
 have hcell:∀j x,cs[j]? =some x→w.cell? ((⟨b,off,none⟩:Addr).add j)=some x:=fun j x hj=>by
  rw[Addr.add_lit];exact hc j x hj
 cases ha:v.agg with
 |true=>
  refine⟨.agg cs.toArray,?_,rfl⟩
  simp only[if_true,Sem.run_bind,run_sizeOf hi,Result.andThen_ok,hs,←hl,run_loadCells_list w _ cs hcell]
  rfl
 |false=>
  have h1:v.size=1:=aC.xe ha
  obtain⟨y,rfl⟩:∃y,cs=[y]:=by
   match cs,hl with
   |[y],_=>exact⟨y,rfl⟩
   |[],hh=>simp[h1]at hh
   |_::_::_,hh=>simp[h1]at hh
  refine⟨y,?_,rfl⟩
  have:=hc 0 y rfl
  rw[Nat.add_zero]at this
  simp[this]
theorem mV{T:TypeId}{v:aC}{E:Env}(hf:fits P T v=true){cs:List Value}{y:Value}(hV:V E v cs)(ho:fe v.agg cs y){b off:Nat}{cur:Array Value}{e:TypeId}
  (hh:w.heap[b]? =some (.cells cur e (0,0))) (hle:off+cs.length≤cur.size):
  (storeVar T ⟨b,off,none⟩ y).run P w= .ok () (w.setRow b (dd cur.toList off cs).toArray):=by
 obtain⟨_,i,hi,hs,_⟩:=iS hf
 have hcs:y.cells=cs.toArray:=ho.cells hV.one
 have hl:=hV.size
 have hst:=run_storeCells_at P b off e cs 0 cur w hh (by simpa using hle) hV.one
 simp only[Nat.add_zero]at hst
 unfold storeVar
 simp only[hcs,Sem.run_bind,run_sizeOf hi,Result.andThen_ok,List.size_toArray,hl,hs,ne_eq,not_true_eq_false,if_false]
 simpa[dd]using hst
theorem lT(w:World)(ob:Obj){b:Nat}(h:b < w.heap.size):(w.alloc ob).heap[b]? =w.heap[b]? :=by
 show(w.heap.push ob)[b]? =w.heap[b]?
 rw[Array.getElem?_push,if_neg (Nat.ne_of_lt h)]
theorem lS(w:World)(ob:Obj):(w.alloc ob).heap[w.heap.size]? =some ob:=by
 show(w.heap.push ob)[w.heap.size]? =some ob
 simp
theorem Trans.alloc(w:World)(g:Nat→ix)(ob:Obj)(l:ix):Trans w (w.alloc ob) g (iM g w.heap.size l):=by
 refine⟨rfl,rfl,rfl,by simp,fun b hb=> ?_⟩
 rw[fv _ _ _ (by omega),lT w ob hb]
 cases g b with
 |free=>exact⟨rfl,rfl⟩
 |own o k=>cases o with
  |eQ=>exact⟨rfl,rfl⟩
  |id i=>exact⟨.inr ⟨i,k,rfl,Nat.le_refl _⟩,fun off v _ hv=>by rw[World.cell?_alloc_lt w ob _ hb];exact hv⟩
theorem Trans.drew(w:World)(g:Nat→ix):Trans w w.drew g g:=Trans.refl w g |> fun h=>⟨h.os,h.tape,h.output,h.size,h.zu⟩
theorem gz.same{w':World}{g':Nat→ix}(h:gz (s.env w g β))(he:cW (s.env w g β) (s.env w' g' β))
  (hb:∀i ver fr c pl,s.ck i=some (.obj ver fr c)→β i=some pl→w'.heap[pl.b]? =w.heap[pl.b]? ∧g' pl.b=g pl.b):gz (s.env w' g' β):=
 fun i ver fr c hi=>(h i ver fr c hi).mono he rfl fun pl hp=>hb i ver fr c pl hi hp
theorem cW.same{w':World}{g':Nat→ix}(ht:Trans w w' g g'):cW (s.env w g β) (s.env w' g' β):=
 ⟨Trans.mem ht,fun _ _ h=>h,fun _ _ _ h=>⟨h,rfl⟩⟩
theorem Inv.nT(h:Inv C g β s a w)(ob:Obj):Inv C (iM g w.heap.size .free) β s a (w.alloc ob):=by
 have ht:=Trans.alloc w g ob .free
 have he:cW (s.env w g β) (s.env (w.alloc ob) (iM g w.heap.size .free) β):=cW.same ht
 refine h.step rfl ht he (gz.same h.bN he fun i ver fr c pl hi hp=> ?_)
 have hl:=((h.bN i ver fr c hi).label (pl:=pl) hp).1
 have hl':pl.b < w.heap.size:=hl
 exact⟨lT w ob hl',fv _ _ _ (by omega)⟩
theorem Inv.drew(h:Inv C g β s a w):Inv C g β s a w.drew:=by
 have ht:=Trans.drew w g
 have he:cW (s.env w g β) (s.env w.drew g β):=cW.same ht
 exact h.step rfl ht he (gz.same h.bN he fun _ _ _ _ _ _ _=>⟨rfl,rfl⟩)
theorem gl{q:Nat}(h:s.dO q=true):(∀j,s.ck (.new q j)=none)∧q < s.news.length:=by
 unfold AS.dO at h
 split at h
 ·rename_i hn
  refine⟨fun j=> ?_,(List.getElem?_eq_some_iff.1 hn).1⟩
  simp[AS.ck,List.getD_eq_getElem?_getD,hn]
 ·cases h
theorem kL{q:Nat}(hq:q < s.news.length)(es:List eP)(j:Nat):(s.born q es).ck (.new q j)=es[j]? :=by
 simp[AS.ck,AS.born,List.getD_eq_getElem?_getD,hq]
theorem gB{q:Nat}(es:List eP){id:Id}(h:∀j,id≠ .new q j):(s.born q es).ck id=s.ck id:=by
 cases id with
 |fK k=>rfl
 |new i j=>
  have:i≠q:=fun e=>h j (by rw[e])
  simp only[AS.ck,AS.born,List.getD_eq_getElem?_getD]
  rw[List.getElem?_set_ne (Ne.symm this)]
def o3(β:Id→Option Pl)(id:Id)(p:Option Pl):Id→Option Pl:=fun i=>if i=id then p else β i
@[simp] theorem iv(β:Id→Option Pl)(id:Id)(p:Option Pl):o3 β id p id=p:=by simp[o3]
theorem mM(β:Id→Option Pl)(id:Id)(p:Option Pl){i:Id}(h:i≠id):o3 β id p i=β i:=by simp[o3,h]
theorem Inv.uz(h:Inv C g β s a w){q:Nat}(hq:s.dO q=true){w':World}{g':Nat→ix}{c:aC}{p:Option Pl}(ht:Trans w w' g g')
  (hb:∀b,b < w.heap.size→w'.heap[b]? =w.heap[b]? ∧g' b=g b)
  (ho:cW (s.env w g β) ((s.born q [.obj 0 false c]).env w' g' (o3 β (.new q 0) p))→mh ((s.born q [.obj 0 false c]).env w' g' (o3 β (.new q 0) p)) (.new q 0) false c):
  Inv C g' (o3 β (.new q 0) p) (s.born q [.obj 0 false c]) a w'∧cW (s.env w g β) ((s.born q [.obj 0 false c]).env w' g' (o3 β (.new q 0) p)):=by
 obtain⟨hv,hl⟩:=gl hq
 have hne:∀id,s.ck id≠none→∀j,id≠ .new q j:=fun id hid j e=>hid (by rw[e];exact hv j)
 have he:cW (s.env w g β) ((s.born q [.obj 0 false c]).env w' g' (o3 β (.new q 0) p)):=by
  refine⟨Trans.mem ht,fun id ver hbd=> ?_,fun id ver hbd hc=> ?_⟩
  ·have hid:=hne id hbd.1
   have e:=gB (s:=s) [.obj 0 false c] hid
   exact⟨by show(s.born q _).ck id≠none;rw[e];exact hbd.1,fun v fr c' hh=>hbd.2 v fr c' (e.symm.trans hh)⟩
  ·have hid:=hne id hbd.1
   have e:=gB (s:=s) [.obj 0 false c] hid
   obtain⟨fr,c',hc⟩:=hc
   exact⟨⟨fr,c',e.symm.trans hc⟩,mM _ _ _ (hid 0)⟩
 refine⟨h.step rfl ht he fun id ver fr c' hid=> ?_,he⟩
 have hid':(s.born q [.obj 0 false c]).ck id=some (.obj ver fr c'):=hid
 by_cases hi:∃j,id= .new q j
 ·obtain⟨j,rfl⟩:=hi
  rw[kL hl]at hid'
  cases j with
  |zero=>
   simp only[List.getElem?_cons_zero,Option.some.injEq,eP.obj.injEq]at hid'
   obtain⟨rfl,rfl,rfl⟩:=hid'
   exact ho he
  |succ j=>simp at hid'
 ·have hi':∀j,id≠ .new q j:=fun j e=>hi ⟨j,e⟩
  rw[gB _ hi']at hid'
  refine(h.bN id ver fr c' hid').mono he (mM _ _ _ (hi' 0)) fun pl hp=> ?_
  exact hb pl.b ((h.bN id ver fr c' hid').label (pl:=pl) hp).1
theorem kM{q:Nat}(hq:s.dO q=true)(c:aC)(w':World)(g':Nat→ix)(β':Id→Option Pl):((s.born q [.obj 0 false c]).env w' g' β').rf (.new q 0) 0:=by
 have e:=kL (s:=s) (gl hq).2 [.obj 0 false c] 0
 refine⟨by show(s.born q [.obj 0 false c]).ck (.new q 0)≠none;rw[e];simp,fun v fr c' _=>Nat.zero_le _⟩
theorem Inv.yY(h:Inv C g β s a w){q:Nat}(hq:s.dO q=true){v:aC}{cs:List Value}{e:TypeId}(hk:∀pl n,v.nk pl n e)(hN:∀n,v.ku n=n)(hv:V (s.env w g β) v.strip cs):
  ∃g' β',Inv C g' β' (s.born q [.obj 0 false v]) a (w.alloc (.cells cs.toArray e))∧
   VS ((s.born q [.obj 0 false v]).env (w.alloc (.cells cs.toArray e)) g' β') (.ptr (.new q 0) 0 [] 0) (.pointer (some ⟨w.heap.size,0,none⟩)):=by
 have ht:=Trans.alloc w g (.cells cs.toArray e) (.own (.id (.new q 0)) 0)
 obtain⟨h1,h2⟩:=h.uz hq (c:=v) (p:=some ⟨w.heap.size,0⟩) ht (fun b hb=>⟨lT w _ hb,fv _ _ _ (by omega)⟩) (fun he=>
  pY.obj ⟨⟨w.heap.size,0⟩,cs.toArray,e,iv _ _ _,lS w _,fa _ _ _,hk _ _,by rw[hN,show cs.toArray.toList.take cs.toArray.size=cs by simp];exact hv.mono he⟩)
 refine⟨_,_,h1,?_⟩
 refine⟨[.pointer (some ⟨w.heap.size,0,none⟩)],?_,rfl⟩
 simp only[V]
 exact⟨_,rfl,kM hq _ _ _ _,fun _=>⟨_,iv _ _ _,rfl⟩⟩
theorem Inv.Dp(h:Inv C g β s a w){q:Nat}(hq:s.dO q=true){v:aC}{cs:List Value}(hv:V (s.env w g β) v cs)(e:TypeId):
  ∃g' β',Inv C g' β' (s.born q [.obj 0 false v]) a (w.alloc (.cells cs.toArray e))∧
   VS ((s.born q [.obj 0 false v]).env (w.alloc (.cells cs.toArray e)) g' β') (.ptr (.new q 0) 0 [] 0) (.pointer (some ⟨w.heap.size,0,none⟩)):=
 h.yY hq (fun pl n=>qb hv.kZ pl n e) (fun n=>rD hv.kZ n) (by rw[qz hv.kZ];exact hv)
theorem AI(P:Program)(T:TypeId){z:aC}{E:Env}{cs:List Value}(hv:V E z cs):(∀pl n,(boxed P T z).nk pl n T)∧(∀n,(boxed P T z).ku n=n)∧V E (boxed P T z).strip cs:=by
 unfold boxed
 split
 ·exact⟨fun _ _=>rfl,fun _=>rfl,hv⟩
 ·exact⟨fun pl n=>qb hv.kZ pl n T,fun n=>rD hv.kZ n,by rw[qz hv.kZ];exact hv⟩
theorem Inv.Ct(h:Inv C g β s a w){t:Ty}{x:t.den}{cs:List Value}(hv:cT (s.env w g β) t cs x)(e:TypeId):
  ∃g',Inv C g' β s a (w.alloc (.cells cs.toArray e))∧cW (s.env w g β) (s.env (w.alloc (.cells cs.toArray e)) g' β)∧
   VS (s.env (w.alloc (.cells cs.toArray e)) g' β) (.ej t x) (.pointer (some ⟨w.heap.size,0,none⟩)):=by
 have ht:=Trans.alloc w g (.cells cs.toArray e) .free
 have he:cW (s.env w g β) (s.env (w.alloc (.cells cs.toArray e)) (iM g w.heap.size .free) β):=cW.same ht
 refine⟨_,h.nT _,he,[.pointer (some ⟨w.heap.size,0,none⟩)],?_,rfl⟩
 simp only[V]
 refine⟨w.heap.size,0,cs,rfl,fun i v hi=>⟨_,_,rfl,?_,?_⟩,hv.mono he.mem⟩
 ·show(w.alloc (.cells cs.toArray e)).cell? ⟨w.heap.size,0+i,none⟩=some v
  rw[World.cell?_alloc_new,Nat.zero_add];simpa using hi
 ·show kf (iM g w.heap.size .free) w.heap.size (0+i)
  unfold kf;rw[fa];trivial
theorem sB(T:TypeId)(y:Value)(w:World):(newVar T y).run P w= .ok ⟨w.heap.size,0,none⟩ (w.alloc (.cells y.cells T)):=by
 simp[newVar,newRow]
theorem xy(h:Inv C g β s a w){T:TypeId}(ho:o.op= .alloc T){z:aC}{q:Nat}(hq:s.dO q=true)(hz:vq P T z=true):
  eZ P o a w (fQ C ((s.born q [.obj 0 false (boxed P T z)]).put o.dst (.ptr (.new q 0) 0 [] 0))):=by
 obtain⟨i,zv,hi,hzv,hV,hO⟩:=jU hz (s.env w g β)
 obtain⟨hk,hN,hV⟩:=AI P T hV
 obtain⟨g',β',h1,h2⟩:=h.yY hq hk hN hV
 refine .inl ⟨.pointer (some ⟨w.heap.size,0,none⟩),w.alloc (.cells zv.cells T),?_,g',β',?_⟩
 ·refine dR (f:=Instr.alloc T true (.tuple #[])) (by simp only[execOp,ho]) ?_
  simp[Instr.alloc,zeroValue,typeInfo,hi,hzv,sB]
 ·have:=h1.put o.dst h2
  simpa using this
theorem AH(h:Inv C g β s a w){T:TypeId}{x:Operand}{obj:Bool}(ho:o.op= .box T x){s':AS}(he:(vJ P s obj o.dst T (s.ev x)).eval=some s'):eZ P o a w (fQ C s'):=by
 unfold vJ at he
 cases hd:o.dst with
 |none=>rw[hd]at he;simp only[ak]at he
 |some q=>
  rw[hd]at he
  have hev:=h.ev x
  have hrun:∀cs:List Value,(a.eval x).cells=cs.toArray→(execOp a.eval o).run P w= .ok (.value (.pointer (some ⟨w.heap.size,0,none⟩))) (w.alloc (.cells cs.toArray T)):=by
   intro cs hcs
   refine dR (f:=Instr.box T (a.eval x)) (by simp only[execOp,ho]) ?_
   simp[Instr.box,sB,hcs]
  cases obj with
  |true=>
   obtain⟨hg,hok⟩:=aE.1 he
   obtain rfl:=ax.1 hok
   simp only[Bool.and_eq_true]at hg
   obtain⟨hq,hf⟩:=hg
   obtain⟨hc,_⟩:=iS hf
   obtain⟨cs,hV,hO⟩:=hev.eE hc
   obtain⟨g',β',h1,h2⟩:=h.Dp hq hV T
   refine .inl ⟨_,_,hrun cs (hO.cells hV.one),g',β',?_⟩
   rw[hd]
   exact h1.put (some q) h2
  |false=>
   simp only at he
   cases ht:xo P depth T with
   |none=>rw[ht]at he;simp only[ak]at he
   |some t=>
    rw[ht]at he
    obtain⟨_,he⟩:=aE.1 he
    obtain⟨y,h1,h2⟩:=aw.1 he
    obtain rfl:=ax.1 h2
    obtain⟨g1,i1,e1,t1,cs,hR,hO⟩:=lh h hev h1
    obtain⟨g2,i2,e2,hv⟩:=i1.Ct hR T
    refine .inl ⟨_,_,hrun cs (hO.cells hR.one),g2,β,?_⟩
    rw[hd]
    exact i2.put (some q) hv
theorem pN{E:Env}{t:Ty}{x:t.den}{y:Value}(h:VS E (.ej t x) y):∃b off vs,y= .pointer (some ⟨b,off,none⟩)∧nf E (some ⟨b,off,none⟩) vs∧cT E t vs x:=by
 obtain⟨cs,hv,ho⟩:=h
 simp only[V]at hv
 obtain⟨b,off,vs,e,hr,hx⟩:=hv
 have ho':cs=[y]:=ho
 rw[e]at ho'
 exact⟨b,off,vs,by simpa using ho'.symm,hr,hx⟩
theorem kB{E:Env}{id:Id}{ver n:Nat}{p:List pa}{y:Value}(h:VS E (.ptr id ver p n) y):
  ∃a,y= .pointer (some a)∧E.rf id ver∧(E.cur id ver→∃pl,E.β id=some pl∧a=⟨pl.b,n,none⟩):=by
 obtain⟨cs,hv,ho⟩:=h
 simp only[V]at hv
 obtain⟨a,e,hb,hc⟩:=hv
 have ho':cs=[y]:=ho
 rw[e]at ho'
 exact⟨a,by simpa using ho'.symm,hb,hc⟩
theorem j4{E:Env}{id:Id}{ver c i len:Nat}{p:List pa}{y:Value}(h:VS E (.bU id ver p c i len) y):
  ∃a cap,y= .slice a len cap∧len≤cap∧(0 < len→a.isSome=true)∧E.rf id ver∧
   (E.cur id ver→match E.β id with
    |some pl=>(0 < len∨i=0→a=some ⟨pl.b,c,none⟩)∧(p=[]→i=0→cap=pl.cap)
    |none=>a=none∧len=0∧cap=0):=by
 obtain⟨cs,hv,ho⟩:=h
 simp only[V]at hv
 obtain⟨a,cap,e,rest⟩:=hv
 have ho':cs=[y]:=ho
 rw[e]at ho'
 exact⟨a,cap,by simpa using ho'.symm,rest⟩
theorem ko{E:Env}{t:Ty}{l:List t.den}{y:Value}(h:VS E (.d (.slice t) l) y):
  ∃a cap vs,y= .slice a l.length cap∧l.length≤cap∧(0 < l.length→a.isSome=true)∧nf E a vs∧bg (cT E t) vs l:=by
 obtain⟨cs,hv,ho⟩:=h
 simp only[V,cT]at hv
 obtain⟨a,cap,vs,e,rest⟩:=hv
 have ho':cs=[y]:=ho
 rw[e]at ho'
 exact⟨a,cap,vs,by simpa using ho'.symm,rest⟩
theorem gQ{E:Env}{y:Value}(h:VS E .da y):y= .slice none 0 0:=by
 obtain⟨cs,hv,ho⟩:=h
 simp only[V]at hv
 have ho':cs=[y]:=ho
 rw[hv]at ho'
 simpa using ho'.symm
theorem z6{E:Env}{id:Id}{fr:Bool}{c:aC}(h:mh E id fr c){p:List pa}{n:Nat}{v:aC}(hl:(loc c.strip p).eval=some (n,v))(hf:v.eE=true):
  ∃pl cur e,E.β id=some pl∧E.w.heap[pl.b]? =some (.cells cur e (0,0))∧V E v ((cur.toList.drop n).take v.size)∧n+v.size≤cur.size:=by
 by_cases hn:c.fM=false
 ·obtain⟨pl,cur,e,hp,hh,hg,hk,hV⟩:=h.box hn
  have hN:=ri hk
  generalize c.ku cur.size=N at hN hV
  have hNl:(cur.toList.take N).length=N:=by rw[List.length_take,Array.length_toList];omega
  obtain⟨u,hu⟩:∃u,c.strip=u:=⟨_,rfl⟩
  rw[hu]at hV hl
  rcases jg p u (cur.toList.take N) n v (VO.of hV) hl with⟨rfl,rfl⟩ | ⟨h1,h2⟩
  ·have hs:=hV.size
   rw[hNl]at hs
   refine⟨pl,cur,e,hp,hh,?_,by omega⟩
   rw[List.drop_zero,←hs]
   exact hV
  ·rw[hNl]at h2
   rw[List.drop_take,List.take_take,Nat.min_eq_left (by omega)]at h1
   exact⟨pl,cur,e,hp,hh,h1,by omega⟩
 ·cases c <;> first | (exact absurd rfl hn) | skip
  rotate_left
  ·have hl:(loc (.mp _ _ _) p).eval=_:=hl
   obtain⟨_,rfl⟩:=uT hl
   simp[aC.eE]at hf
  rename_i e t l
  obtain⟨hz,h⟩:=h
  cases hp:E.β id with
  |none=>
   rw[hp]at h
   have:l=[]:=h
   subst this
   obtain⟨_,rfl⟩:=rY hl
   simp[aC.eE]at hf
  |some pl=>
   rw[hp]at h
   obtain⟨cur,k,q1,q2,q3,q4,q5,q6,q7,q8⟩:=h
   have hlen:=bg.length (fun c x hx=>cT.size hx) q8
   have hsz:l.length*t.size≤cur.size:=by rw[q2];exact Nat.mul_le_mul_right _ q3
   rcases jg (E:=E) p (.vec e t l) _ n v q8 hl with⟨rfl,rfl⟩ | ⟨h1,h2⟩
   ·simp[aC.eE]at hf
   ·rw[hlen]at h2
    rw[List.drop_take,List.take_take,Nat.min_eq_left (by omega)]at h1
    exact⟨pl,cur,e,rfl,q1,h1,by omega⟩
theorem z0{E:Env}{v v':aC}(h:(Dq v).eval=some v'):(∀cs,V E v cs→V E v' cs)∧v'.agg=v.agg:=by
 unfold Dq at h
 split at h
 ·rename_i t l
  obtain⟨h1,h2⟩:=bF.1 h
  obtain rfl:=ax.1 h2
  refine⟨fun cs hv=> ?_,rfl⟩
  simp only[V,cT]at hv ⊢
  exact hv.1 (Option.isNone_iff_eq_none.1 h1)
 ·obtain rfl:=ax.1 h
  exact⟨fun _ h=>h,rfl⟩
theorem rX(h:Inv C g β s a w){T:TypeId}{x:aC}{y:Value}(hx:VS (s.env w g β) x y){v:aC}(he:(py P s T x).eval=some v):
  ∃ad z,y= .pointer (some ad)∧(loadVar T ad).run P w= .ok z w∧VS (s.env w g β) v z:=by
 unfold py at he
 split at he
 ·rename_i id ver p n
  cases hob:s.obj id with
  |none=>rw[hob]at he;simp only[ak]at he
  |some r=>
   obtain⟨v0,fr,c⟩:=r
   rw[hob]at he
   obtain⟨h1,h2⟩:=aE.1 he
   obtain⟨⟨n',v'⟩,h3,h4⟩:=aw.1 h2
   obtain⟨h5,h6⟩:=aE.1 h4
   obtain⟨h7,h8⟩:=bF.1 h6
   obtain⟨n1,n2⟩:=z0 (E:=s.env w g β) h8
   simp only[decide_eq_true_eq]at h7
   have hv0:v0=ver:=by simpa using h1
   subst hv0 h7
   have hent:=eB hob
   obtain⟨ad,rfl,hb,hc⟩:=kB hx
   obtain⟨pl,hp,rfl⟩:=hc ⟨fr,c,hent⟩
   obtain⟨hcel,_⟩:=iS h5
   obtain⟨pl',cur,e,hp',hh,hV,hle⟩:=z6 (h.bN id v0 fr c hent) h3 hcel
   rw[hp]at hp'
   obtain rfl:pl=pl':=by simpa using hp'
   obtain⟨z,hz1,hz2⟩:=nL (P:=P) (w:=w) h5 (b:=pl.b) (off:=n') hV.size (fun j x hj=>by
    rw[cell_of_row w pl.b (n'+j) cur e (0,0) hh]
    rw[List.getElem?_take]at hj
    split at hj
    ·rw[List.getElem?_drop]at hj;simpa using hj
    ·cases hj)
   exact⟨_,z,rfl,hz1,VS.of (n1 _ hV) (by rw[n2];exact hz2)⟩
 ·rename_i t x'
  obtain⟨h1,h2⟩:=aE.1 he
  obtain rfl:=ax.1 h2
  obtain⟨b,off,vs,rfl,hr,hR⟩:=pN hx
  obtain⟨z,hz1,hz2⟩:=nL (P:=P) (w:=w) h1 (b:=b) (off:=off) hR.size (fun j x hj=>by
   obtain⟨b',off',e,hh⟩:=hr j x hj
   simp only[Option.some.injEq,Addr.mk.injEq,and_true]at e
   obtain⟨rfl,rfl⟩:=e
   exact hh.1)
  exact⟨_,z,rfl,hz1,VS.of (by simpa only[V]using hR) hz2⟩
 ·simp only[ak]at he
theorem zV(h:Inv C g β s a w){T:TypeId}{x:Operand}(ho:o.op= .load T x){v:aC}(he:(py P s T (s.ev x)).eval=some v):eZ P o a w (fQ C (s.put o.dst v)):=by
 obtain⟨ad,z,hy,hr,hv⟩:=rX h (h.ev x) he
 refine h.value hv (dR (f:=Instr.loadAt T (a.eval x)) (by simp only[execOp,ho]) ?_)
 simp[Instr.loadAt,Instr.sureAddr,hy,hr]
theorem Trans.setRow(w:World){b:Nat}{i:Id}(hg:g b= .own (.id i) 0)(cur:Array Value):Trans w (w.setRow b cur) g g:=by
 refine⟨by simp,by simp,by simp,by simp,fun b' hb=> ?_⟩
 by_cases he:b'=b
 ·subst he
  rw[hg]
  exact⟨.inr ⟨i,0,rfl,Nat.le_refl _⟩,fun _ _ hh=>by omega⟩
 ·rw[setRow_other w b b' cur he]
  cases hgb:g b' with
  |free=>exact⟨rfl,rfl⟩
  |own o' k=>cases o' with
   |eQ=>exact⟨rfl,rfl⟩
   |id i'=>exact⟨.inr ⟨i',k,rfl,Nat.le_refl _⟩,fun off v _ hv=>by rw[cell_setRow_other w b cur _ he];exact hv⟩
theorem Inv.apart(h:Inv C g β s a w){id:Id}{k:Nat}{b:Nat}(hg:g b= .own (.id id) k){i:Id}{ver:Nat}{fr:Bool}{c:aC}{pl:Pl}(hi:i≠id)(hs:s.ck i=some (.obj ver fr c))(hp:β i=some pl):pl.b≠b:=by
 intro hb
 have hl:(∃k,g pl.b= .own (.id i) k)∨(fr=true∧g pl.b= .free):=((h.bN i ver fr c hs).label (pl:=pl) hp).2
 rw[hb,hg]at hl
 rcases hl with⟨k',hk⟩ | ⟨_,hk⟩
 ·simp only[ix.own.injEq,Et.id.injEq]at hk
  exact hi hk.1.symm
 ·cases hk
theorem xi(h:Inv C g β s a w){T:TypeId}{x v:aC}{y z:Value}(hx:VS (s.env w g β) x y)(hz:VS (s.env w g β) v z){s':AS}(he:(nQ P s T x v).eval=some s'):
  ∃ad w',y= .pointer (some ad)∧(storeVar T ad z).run P w= .ok () w'∧∃g' β',Inv C g' β' s' a w':=by
 unfold nQ at he
 split at he
 ·rename_i id ver p n
  cases hob:s.obj id with
  |none=>rw[hob]at he;simp only[ak]at he
  |some r=>
   obtain⟨v0,fr,c⟩:=r
   rw[hob]at he
   obtain⟨h1,h2⟩:=aE.1 he
   obtain⟨⟨n',o'⟩,h3,h4⟩:=aw.1 h2
   obtain⟨h5,h6⟩:=aE.1 h4
   obtain⟨h7,h8⟩:=bF.1 h6
   obtain⟨c',h9,h10⟩:=aw.1 h8
   obtain rfl:=ax.1 h10
   simp only[decide_eq_true_eq]at h7
   simp only[Bool.and_eq_true,beq_iff_eq,Bool.not_eq_true']at h1
   obtain⟨⟨hv0,hfr⟩,hfits⟩:=h1
   subst hv0 h7 hfr
   have hent:=eB hob
   obtain⟨ad,rfl,hb,hc⟩:=kB hx
   obtain⟨pl,hp,rfl⟩:=hc ⟨false,c,hent⟩
   have hp:β id=some pl:=hp
   obtain⟨hcel,_⟩:=iS hfits
   obtain⟨cs,hV,hO⟩:=hz.eE hcel
   have hOb:=h.bN id v0 false c hent
   obtain⟨hcel',_⟩:=iS h5
   have hvec:c.fM=false∨c.fM=true:=by cases c.fM <;> simp
   rcases hvec with hn | hn
   ·obtain⟨pl',cur,e,hp',hh,hg,hk,hVc⟩:=hOb.box hn
    have hp':β id=some pl':=hp'
    rw[hp]at hp'
    obtain rfl:pl=pl':=by simpa using hp'
    have hg:g pl.b= .own (.id id) 0:=hg
    have hh:w.heap[pl.b]? =some (.cells cur e (0,0)):=hh
    have hN:=ri hk
    have hNl:(cur.toList.take (c.ku cur.size)).length=c.ku cur.size:=by rw[List.length_take,Array.length_toList];omega
    obtain⟨u1,u2,u3⟩:=iw p c.strip (cur.toList.take (c.ku cur.size)) n' o' v c' cs (VO.of hVc) h3 hV h9
    have u4:=u2.to (u3.jv hVc.jv)
    have hsz:c'.size=c.strip.size:=by
     have e1:=u4.size
     have e2:=hVc.size
     rw[fW u1]at e1
     omega
    rw[hNl]at u1
    have hsp:(dd cur.toList n' cs).length=cur.toList.length:=fW (by have e1:cur.toList.length=cur.size:=Array.length_toList;omega)
    have hspt:(dd cur.toList n' cs).take (c.ku cur.size)=dd (cur.toList.take (c.ku cur.size)) n' cs:=by
     conv=>lhs;rw[←List.take_append_drop (c.ku cur.size) cur.toList]
     rw[lB (by rw[hNl];exact u1),List.take_append_of_le_length (by rw[fW (by rw[hNl];exact u1),hNl];exact Nat.le_refl _)]
     exact List.take_of_length_le (by rw[fW (by rw[hNl];exact u1),hNl];exact Nat.le_refl _)
    have hrun:=mV (P:=P) (w:=w) hfits hV hO (b:=pl.b) (off:=n') hh (by have e1:cur.toList.length=cur.size:=Array.length_toList;have e2:cs.toArray.size=cs.length:=List.size_toArray;omega)
    have ht:=Trans.setRow w hg (dd cur.toList n' cs).toArray
    have hle:cW (s.env w g β) ((s.bz id (.obj v0 false (c.wrap c'))).env (w.setRow pl.b (dd cur.toList n' cs).toArray) g β):=cW.bz hent (Nat.le_refl _) ht (fun _ _=>rfl) (fun _=>rfl)
    refine⟨_,_,rfl,hrun,g,β,h.step (dK _ _ _) ht hle (gz.bz h.bN (by rw[hent];simp) hle (fun _ _=>rfl) (fun i ver fr c pl2 hi hs2 hp2=>⟨setRow_other w pl.b pl2.b _ (h.apart hg hi hs2 hp2),rfl⟩) ?_)⟩
    exact pY.obj ⟨pl,_,e,hp,setRow_heap w pl.b cur _ e (0,0) hh,hg,by rw[List.size_toArray,hsp,Array.length_toList];exact oD hk u4.kZ hsz,by
     rw[oW c u4.kZ,List.size_toArray,hsp,Array.length_toList,qa u4.kZ hsz,show(dd cur.toList n' cs).toArray.toList=dd cur.toList n' cs from rfl,hspt]
     exact V.mono hle u4⟩
   ·cases c <;> first | (simp[aC.fM]at hn;done) | skip
    rotate_left
    ·have h3:(loc (.mp _ _ _) p).eval=_:=h3
     obtain⟨_,rfl⟩:=uT h3
     simp[aC.eE]at hcel'
    rename_i e t l
    obtain⟨hzz,hOb⟩:=hOb
    have hOb:(match β id with
     |none=>l=[]
     |some pl=>∃cur k,w.heap[pl.b]? =some (.cells cur e (0,0))∧cur.size=pl.cap*t.size∧l.length≤pl.cap∧pl.cap≤maxLen∧g pl.b= .own (.id id) k∧
       k≤l.length*t.size∧(false=false→k=0)∧bg (cT (s.env w g β) t) (cur.toList.take (l.length*t.size)) l):=hOb
    rw[hp]at hOb
    obtain⟨cur,k,q1,q2,q3,q4,q5,q6,q7,q8⟩:=hOb
    have hk:=q7 rfl
    subst hk
    have hlen:=bg.length (fun c x hx=>cT.size hx) q8
    have hsz:l.length*t.size≤cur.size:=by rw[q2];exact Nat.mul_le_mul_right _ q3
    obtain⟨u1,u2,u3⟩:=iw (E:=s.env w g β) p (.vec e t l) _ n' o' v c' cs q8 h3 hV h9
    rw[hlen]at u1
    have hrun:=mV (P:=P) (w:=w) hfits hV hO (b:=pl.b) (off:=n') q1 (by omega)
    cases c' <;> first | (exact u3.elim) | skip
    rename_i e' t' l'
    obtain⟨rfl,rfl,hl'⟩:=u3
    have ht:=Trans.setRow w q5 (dd cur.toList n' cs).toArray
    have hle:cW (s.env w g β) ((s.bz id (.obj v0 false (.vec e' t' l'))).env (w.setRow pl.b (dd cur.toList n' cs).toArray) g β):=cW.bz hent (Nat.le_refl _) ht (fun _ _=>rfl) (fun _=>rfl)
    refine⟨_,_,rfl,hrun,g,β,h.step (dK _ _ _) ht hle (gz.bz h.bN (by rw[hent];simp) hle (fun _ _=>rfl) (fun i ver fr c pl2 hi hs2 hp2=>⟨setRow_other w pl.b pl2.b _ (h.apart q5 hi hs2 hp2),rfl⟩) ?_)⟩
    refine⟨hzz,?_⟩
    show(match β id with
     |none=>l'=[]
     |some pl=>_)
    rw[hp]
    have hsp:(dd cur.toList n' cs).length=cur.toList.length:=fW (by simp;omega)
    refine⟨_,0,setRow_heap w pl.b cur _ e' (0,0) q1,by rw[List.size_toArray,hsp];simpa using q2,by omega,q4,q5,by omega,fun _=>rfl,?_⟩
    have e2:(dd cur.toList n' cs).take (l'.length*t'.size)=dd (cur.toList.take (l.length*t'.size)) n' cs:=by
     rw[hl']
     conv=>lhs;rw[←List.take_append_drop (l.length*t'.size) cur.toList]
     rw[lB (by rw[hlen];exact u1),List.take_append_of_le_length (by rw[fW (by rw[hlen];exact u1),hlen];exact Nat.le_refl _)]
     exact List.take_of_length_le (by rw[fW (by rw[hlen];exact u1),hlen];exact Nat.le_refl _)
    rw[show(dd cur.toList n' cs).toArray.toList=dd cur.toList n' cs from rfl,e2]
    exact bg.mono (fun _ _ hx=>hx.mono hle.mem) u2
 ·simp only[ak]at he
theorem yq(h:Inv C g β s a w){T:TypeId}{x v:Operand}(ho:o.op= .store T x v){s':AS}(he:(nQ P s T (s.ev x) (s.ev v)).eval=some s'):eZ P o a w (fQ C (s'.put o.dst .undef)):=by
 obtain⟨ad,w',hy,hr,g',β',hi⟩:=xi h (h.ev x) (h.ev v) he
 refine .inr (.inl ⟨w',tC (f:=Instr.storeAt T (a.eval x) (a.eval v)) (by simp only[execOp,ho]) ?_,g',β',hi.put o.dst VS.undef⟩)
 simp[Instr.storeAt,Instr.sureAddr,hy,hr]
end
end Go.Ab
namespace Go.Ab
section
variable {P:Program} {C:Ctx} {g:Nat→ix} {β:Id→Option Pl} {s:AS} {a:Act} {w:World} {o:Oper}
theorem tP(h:Inv C g β s a w){x:Operand}(ho:o.op= .move x∨o.op= .assign x):eZ P o a w (fQ C (s.put o.dst (s.ev x))):=by
 refine h.value (h.ev x) ?_
 rcases ho with ho | ho <;> simp[execOp,ho]
theorem z9(h:Inv C g β s a w){c x y:Operand}(ho:o.op= .pick c x y){v:aC}(he:(y8 (s.ev c) (s.ev x) (s.ev y)).eval=some v):eZ P o a w (fQ C (s.put o.dst v)):=by
 have hc:=h.ev c
 have hx:=h.ev x
 have hy:=h.ev y
 unfold y8 at he
 split at he
 ·rename_i b hb
  rw[hb]at hc
  have hcv:=rh hc
  have hr:(execOp a.eval o).run P w= .ok (.value (if b then a.eval x else a.eval y)) w:=by
   simp[execOp,ho,hcv,asBool]
  split at he
  ·rename_i bx by' hbx hby
   obtain rfl:=ax.1 he
   rw[hbx]at hx
   rw[hby]at hy
   refine h.value ?_ hr
   cases b
   ·simpa using hy
   ·simpa using hx
  ·cases b with
   |true=>
    simp only[Out.eval,Option.some.injEq]at he
    subst he
    exact h.value (by simpa using hx) hr
   |false=>
    simp only[Out.eval,Option.some.injEq]at he
    subst he
    exact h.value (by simpa using hy) hr
 ·simp only[ak]at he
theorem tg(h:Inv C g β s a w){x:Operand}(ho:o.op= .nilCheck x){s':AS}(he:(match s.ev x with
  | .ptr id v p n=>Out.ok (s.put o.dst (.ptr id v p n))
  | .ej t y=> .ok (s.put o.dst (.ej t y))
  | .fn f c=> .ok (s.put o.dst (.fn f c))
  |_=> .fail).eval=some s'):eZ P o a w (fQ C s'):=by
 have hx:=h.ev x
 split at he
 ·rename_i id v p n hv
  obtain rfl:=ax.1 he
  rw[hv]at hx
  obtain⟨ad,hy,_⟩:=kB hx
  exact h.value hx (by simp[execOp,ho,hy])
 ·rename_i t y hv
  obtain rfl:=ax.1 he
  rw[hv]at hx
  obtain⟨b,off,vs,hy,_⟩:=pN hx
  exact h.value hx (by simp[execOp,ho,hy])
 ·rename_i f c hv
  obtain rfl:=ax.1 he
  rw[hv]at hx
  obtain⟨cs,hV,hO⟩:=hx.eE rfl
  simp only[V]at hV
  obtain⟨vs,e,hc⟩:=hV
  have hO':cs=[a.eval x]:=hO
  rw[e]at hO'
  have hy:a.eval x= .func (.func f) #[] vs.toArray:=by simpa using hO'.symm
  refine h.value (v:= .fn f c) ⟨cs,by simp only[V];exact⟨vs,e,hc⟩,hO⟩ (by simp[execOp,ho,hy])
 ·simp only[ak]at he
theorem wc{op:BinOp}{k k':IntKind}{x y:Int}{v:aC}(he:(Ba op k x k' y).eval=some v)(T:TypeId)(E:Env):
  ∃z,(binOp op T (.int k x) (.int k' y)).run P w= .ok z w∧VS E v z:=by
 unfold Ba at he
 have same:∀(hk:decide (k=k')=true),k=k':=fun hk=>by simpa using hk
 cases op with
 |shl=>
  obtain⟨h1,h2⟩:=bF.1 he
  obtain rfl:=ax.1 h2
  have h1:¬y < 0:=by simpa using h1
  exact⟨_,by simp[binOp,Op.shift,h1],gJ _ _⟩
 |shr=>
  obtain⟨h1,h2⟩:=bF.1 he
  obtain rfl:=ax.1 h2
  have h1:¬y < 0:=by simpa using h1
  exact⟨_,by simp[binOp,Op.shift,h1],gJ _ _⟩
 |quo=>
  obtain⟨h1,h2⟩:=aE.1 he
  obtain rfl:=same h1
  obtain⟨h3,h4⟩:=bF.1 h2
  obtain rfl:=ax.1 h4
  have h3:y≠0:=by simpa using h3
  exact⟨_,by simp[binOp,Op.intDiv,h3],gJ _ _⟩
 |rem=>
  obtain⟨h1,h2⟩:=aE.1 he
  obtain rfl:=same h1
  obtain⟨h3,h4⟩:=bF.1 h2
  obtain rfl:=ax.1 h4
  have h3:y≠0:=by simpa using h3
  exact⟨_,by simp[binOp,Op.intDiv,h3],gJ _ _⟩
 |add | sub | mul=>
  obtain⟨h1,h2⟩:=aE.1 he
  obtain rfl:=same h1
  obtain rfl:=ax.1 h2
  exact⟨_,by simp[binOp,Op.intArith],gJ _ _⟩
 |and | or | xor | andNot=>
  obtain⟨h1,h2⟩:=aE.1 he
  obtain rfl:=same h1
  obtain rfl:=ax.1 h2
  refine⟨_,?_,gJ _ _⟩
  unfold binOp Op.intBits
  simp[ct]
 |eql | neq | lss | leq | gtr | geq=>
  obtain⟨h1,h2⟩:=aE.1 he
  obtain rfl:=same h1
  obtain rfl:=ax.1 h2
  refine⟨_,?_,kG _⟩
  simp[binOp,Op.intCmp]
theorem xj{op:BinOp}{x y:ByteArray}{v:aC}(he:(BI op x y).eval=some v)(T:TypeId)(E:Env):
  ∃z,(binOp op T (.string x) (.string y)).run P w= .ok z w∧VS E v z:=by
 unfold BI at he
 cases op <;> simp only[ak]at he
 case add=>
  obtain⟨h1,h2⟩:=bF.1 he
  obtain rfl:=ax.1 h2
  have h1:¬((x.size+y.size:Nat):Int) > IntKind.i64.max:=by simpa using h1
  refine⟨.string (x++y),?_,uo _⟩
  show(Op.stringOp .add x y).run P w=_
  unfold Op.stringOp
  simp only[h1,if_false]
  rfl
 all_goals
  obtain rfl:=ax.1 he
  exact⟨_,by simp[binOp,Op.stringOp],kG _⟩
theorem gV{op:BinOp}{T:TypeId}{x y:Operand}{u v:Value}(h1:u≠ .nilIface)(h2:iY u=false):(eqGuard op T x y u v).run P w= .ok () w:=by
 unfold eqGuard
 cases op <;> simp
 all_goals (cases u <;> simp_all [iY])
theorem kP{T:TypeId}{b:Bool}(h:oP P T b=true):∃i,P.info? T=some i∧∀w,(isAgg T).run P w= .ok b w:=by
 unfold oP at h
 cases hu:P.underlying T with
 |none=>rw[hu]at h;cases h
 |some d=>
  obtain⟨i,hi⟩:=yR hu
  refine⟨i,hi,fun w=> ?_⟩
  rw[hu]at h
  unfold isAgg
  rw[Sem.run_bind,run_underlying hu w]
  cases d <;> simp at h <;> simp[h]
theorem kk{T:TypeId}{b:Bool}(h:oP P T b=true){cs:List Value}{off n:Nat}(hn:P.cellsOf T=n)(hb:b=false→n=1)(hl:off+n≤cs.length):
  ∃y,(part T cs.toArray off).run P w= .ok y w∧fe b ((cs.drop off).take n) y:=by
 obtain⟨i,hi,hagg⟩:=kP h
 rw[gL hi]at hn
 unfold part
 rw[Sem.run_bind,hagg w]
 simp only[Result.andThen_ok]
 cases b with
 |true=>
  refine⟨.agg ((cs.drop off).take n).toArray,?_,rfl⟩
  simp only[if_true,Sem.run_bind,run_sizeOf hi,Result.andThen_ok,hn,Sem.run_pure]
  simp[List.extract_eq_take_drop]
 |false=>
  have h1:=hb rfl
  subst h1
  have hlt:off < cs.length:=by omega
  refine⟨cs[off],?_,?_⟩
  ·simp[hlt]
  ·show(cs.drop off).take 1=[cs[off]]
   rw[List.drop_eq_getElem_cons hlt,List.take_succ_cons,List.take_zero]
theorem km{t:Ty}(h:t.agg=false):t.size=1:=by
 cases t <;> first | rfl | (simp[Ty.agg]at h)
theorem nE{α:Type}(f:α→α→Bool)(x y:α)(xs ys:List α):g9 f (x::xs) (y::ys)=(f x y && g9 f xs ys):=rfl
theorem jV(E:Env):∀(n:Nat) (T:TypeId) (t:Ty),jd P n T t=true→∀(d:Nat),n≤d→∀(cx cy:List Value) (x y:t.den) (u v:Value),cT E t cx x→cT E t cy y→fe t.agg cx u→fe t.agg cy v→
  (Op.equalIn d T u v).run P w= .ok (t.beq x y) w
 | 0,T,t,h,_,_,_,_,_,_,_,_,_,_,_,_=>by simp[jd]at h
 |n+1,T,t,h,0,hd,_,_,_,_,_,_,_,_,_,_=>by omega
 |n+1,T,t,h,d+1,hd,cx,cy,x,y,u,v,hx,hy,hu,hv=>by
  simp only[jd]at h
  split at h
  ·rename_i k k' hT
   simp only[cT]at hx hy
   have e1:cx=[u]:=hu
   have e2:cy=[v]:=hv
   rw[hx]at e1;rw[hy]at e2
   simp only[List.cons.injEq,and_true]at e1 e2
   subst e1 e2
   rw[run_equalIn_int w d T _ _ _ _ hT];rfl
  ·rename_i hT
   simp only[cT]at hx hy
   have e1:cx=[u]:=hu
   have e2:cy=[v]:=hv
   rw[hx]at e1;rw[hy]at e2
   simp only[List.cons.injEq,and_true]at e1 e2
   subst e1 e2
   rw[run_equalIn_bool' w d T _ _ hT];rfl
  ·rename_i hT
   simp only[cT]at hx hy
   have e1:cx=[u]:=hu
   have e2:cy=[v]:=hv
   rw[hx]at e1;rw[hy]at e2
   simp only[List.cons.injEq,and_true]at e1 e2
   subst e1 e2
   rw[run_equalIn_string w d T _ _ hT];rfl
  ·rename_i m e m' t' hT
   simp only[Bool.and_eq_true,beq_iff_eq]at h
   obtain⟨⟨⟨⟨rfl,hz0⟩,hsz⟩,hag⟩,hch⟩:=h
   simp only[cT]at hx hy
   obtain⟨hlx,hcx⟩:=hx
   obtain⟨hly,hcy⟩:=hy
   have e1:u= .agg cx.toArray:=hu
   have e2:v= .agg cy.toArray:=hv
   subst e1 e2
   obtain⟨i,hi,hagg⟩:=kP hag
   have hsz':=hsz
   rw[gL hi]at hsz'
   simp only[Op.equalIn,Sem.run_bind,run_underlying hT,Result.andThen_ok,run_sizeOf hi,hsz']
   simp only[Std.Legacy.Range.forIn_eq_forIn_range']
   have hm:([:m]:Std.Legacy.Range).size=m:=by simp[Std.Legacy.Range.size]
   rw[hm]
   have hzz:∀c z,cT E t' c z→c.length=t'.size:=fun c z hz=>hz.size
   have bx:t'.agg=false→t'.size=1:=km
   have key:∀(k:Nat) (x y:List t'.den) (j:Nat),x.length=k→y.length=k→bg (cT E t') (cx.drop (j*t'.size)) x→bg (cT E t') (cy.drop (j*t'.size)) y→
     (forIn (List.range' j k) ((none,()):Option Bool×Unit) fun i __s=>(do
      let __do_lift ←part e cx.toArray (i*t'.size)
      let __do_lift_1 ←part e cy.toArray (i*t'.size)
      let __do_lift ←Op.equalIn d e __do_lift __do_lift_1
      if(!__do_lift)=true then pure (ForInStep.done (some false,())) else pure (ForInStep.yield (none,())):Sem (ForInStep (Option Bool×Unit)))).run P w= .ok (if g9 t'.beq x y then none else some false,()) w:=by
    intro k
    induction k with
    |zero=>
     intro x y j hx hy _ _
     rw[List.length_eq_zero_iff.1 hx,List.length_eq_zero_iff.1 hy]
     rfl
    |succ k ih=>
     intro x y j hx hy hcx' hcy'
     cases x with
     |nil=>simp at hx
     |cons x0 xs=>
      cases y with
      |nil=>simp at hy
      |cons y0 ys=>
       have gx:=bg.get hzz hcx' 0 (by simp)
       have gy:=bg.get hzz hcy' 0 (by simp)
       simp only[Nat.zero_mul,List.drop_zero,List.getElem_cons_zero]at gx gy
       have lenx:((cx.drop (j*t'.size)).take t'.size).length=t'.size:=gx.size
       have leny:((cy.drop (j*t'.size)).take t'.size).length=t'.size:=gy.size
       have hz1:t'.size≠0:=by simpa using hz0
       have hjx:j*t'.size+t'.size≤cx.length:=by simp only[List.length_take,List.length_drop]at lenx;omega
       have hjy:j*t'.size+t'.size≤cy.length:=by simp only[List.length_take,List.length_drop]at leny;omega
       obtain⟨ux,h1,o1⟩:=kk (w:=w) hag hsz bx (cs:=cx) (off:=j*t'.size) hjx
       obtain⟨uy,h2,o2⟩:=kk (w:=w) hag hsz bx (cs:=cy) (off:=j*t'.size) hjy
       have h3:=jV E n e t' hch d (by omega) _ _ x0 y0 ux uy gx gy o1 o2
       have nx:bg (cT E t') (cx.drop ((j+1)*t'.size)) xs:=by
        have:=bg.drop hzz 1 hcx'
        rw[List.drop_drop]at this
        simpa[Nat.add_mul]using this
       have ny:bg (cT E t') (cy.drop ((j+1)*t'.size)) ys:=by
        have:=bg.drop hzz 1 hcy'
        rw[List.drop_drop]at this
        simpa[Nat.add_mul]using this
       have:=ih xs ys (j+1) (by simpa using hx) (by simpa using hy) nx ny
       rw[List.range'_succ,List.forIn_cons]
       simp only[Sem.run_bind,h1,h2,h3,Result.andThen_ok,nE]
       rcases Bool.eq_false_or_eq_true (t'.beq x0 y0) with hb | hb
       ·simp only[hb,Bool.not_true,Bool.false_eq_true,if_false,Sem.run_pure,Result.andThen_ok,Bool.true_and]
        exact this
       ·simp only[hb,Bool.not_false,if_true,Sem.run_pure,Result.andThen_ok,Bool.false_and,Bool.false_eq_true,if_false]
   have:=key m x y 0 hlx hly (by simpa using hcx) (by simpa using hcy)
   rw[this]
   show _=Result.ok (g9 t'.beq x y) w
   cases g9 t'.beq x y <;> rfl
  ·rename_i t0 _ _ fs hT
   simp only[Bool.and_eq_true,Bool.not_eq_true']at h
   obtain⟨hst,hfs⟩:=h
   have hF:P.fieldsOf T=fs:=by simp[Program.fieldsOf,hT]
   have hT':P.underlying T=some (.struct (P.fieldsOf T)):=by rw[hF];exact hT
   have key:∀(fl:List Field) (t:Ty) (off:Nat),oK P (jd P n) fl t off=true→∀(x y:t.den),cT E t (cx.drop off) x→cT E t (cy.drop off) y→
     (Op.eqFields d cx.toArray cy.toArray fl).run P w= .ok (t.beq x y) w:=by
    intro fl
    induction fl with
    |nil=>
     intro t off hc x y _ _
     cases t <;> first | (simp[oK]at hc;done) | rfl
    |cons f fl ih=>
     intro t off hc x y hx hy
     cases t <;> first | (simp[oK]at hc;done) | skip
     rename_i ta tb
     simp only[oK,Bool.and_eq_true,Bool.not_eq_true',beq_iff_eq,beq_eq_false_iff_ne]at hc
     obtain⟨⟨⟨⟨⟨⟨hnm,hoff⟩,hz⟩,hsz⟩,hag⟩,hch⟩,hrest⟩:=hc
     simp only[cT]at hx hy
     obtain⟨xa,xb,ex,hxa,hxb⟩:=hx
     obtain⟨ya,yb,ey,hya,hyb⟩:=hy
     have bx:ta.agg=false→ta.size=1:=km
     have lx:xa.length=ta.size:=hxa.size
     have ly:ya.length=ta.size:=hya.size
     have split:∀(cs xa xb:List Value),cs.drop off=xa++xb→xa.length=ta.size→(cs.drop off).take ta.size=xa∧cs.drop (off+ta.size)=xb∧off+ta.size≤cs.length:=by
      intro cs xa xb e l
      refine⟨by rw[e];exact List.take_left' l,by rw[←List.drop_drop,e];exact List.drop_left' l,?_⟩
      have:=congrArg List.length e
      simp only[List.length_drop,List.length_append]at this
      omega
     obtain⟨sx1,sx2,sx3⟩:=split cx xa xb ex lx
     obtain⟨sy1,sy2,sy3⟩:=split cy ya yb ey ly
     obtain⟨ux,h1,o1⟩:=kk (w:=w) hag hsz bx (cs:=cx) (off:=off) sx3
     obtain⟨uy,h2,o2⟩:=kk (w:=w) hag hsz bx (cs:=cy) (off:=off) sy3
     rw[sx1]at o1
     rw[sy1]at o2
     have h3:=jV E n f.type ta hch d (by omega) _ _ x.1 y.1 ux uy hxa hya o1 o2
     have h4:=ih tb (off+ta.size) hrest x.2 y.2 (by rw[sx2];exact hxb) (by rw[sy2];exact hyb)
     simp only[Op.eqFields,ne_eq,hnm,not_false_eq_true,if_true,Sem.run_bind,hoff,h1,h2,h3,Result.andThen_ok]
     show _=Result.ok (ta.beq x.1 y.1 && tb.beq x.2 y.2) w
     rcases Bool.eq_false_or_eq_true (ta.beq x.1 y.1) with hb | hb
     ·simp only[hb,Bool.not_true,Bool.false_eq_true,if_false,Bool.true_and]
      exact h4
     ·simp[hb]
   have hag:t0.agg=true:=by
    cases hl:fs.toList <;> rw[hl]at hfs <;> cases t0 <;> first | rfl | (simp[oK]at hfs;done)
   rw[hag]at hu hv
   have e1:u= .agg cx.toArray:=hu
   have e2:v= .agg cy.toArray:=hv
   subst e1 e2
   rw[run_equalIn_struct w d T _ _ hT' hst,hF]
   exact key fs.toList t0 0 hfs x y (by simpa using hx) (by simpa using hy)
  ·cases h
end
end Go.Ab
namespace Go.Ab
section
variable {P:Program} {C:Ctx} {g:Nat→ix} {β:Id→Option Pl} {s:AS} {a:Act} {w:World} {o:Oper}
theorem Bt{E:Env}{v:aC}{y c:Value}(h:VS E v y)(hc:v.eE=true)(ha:v.agg=false)(hV:∀cs,V E v cs→cs=[c]):y=c:=by
 have:=h.single hc ha
 simpa using hV _ this
theorem rr{E:Env}{y:Value}(h:VS E .kc y):y= .pointer none:=Bt h rfl rfl fun cs hv=>by simpa only[V]using hv
theorem rq{E:Env}{y:Value}(h:VS E .ka y):y= .nilFunc:=Bt h rfl rfl fun cs hv=>by simpa only[V]using hv
theorem A0{E:Env}{f:FuncId}{c:aC}{y:Value}(h:VS E (.fn f c) y):∃vs,y= .func (.func f) #[] vs.toArray∧VC E c vs:=by
 have h1:=h.single rfl rfl
 simp only[V]at h1
 obtain⟨vs,e,hc⟩:=h1
 exact⟨vs,by simpa using e,hc⟩
theorem fG{T:TypeId}{u v:Value}{b:Bool}(h:∀d,(Op.equalIn (d+1) T u v).run P w= .ok b w):(Op.equal T u v).run P w= .ok b w:=h 9999
theorem rJ{T:TypeId}{x y:aC}{u v:Value}{E:Env}(hx:VS E x u)(hy:VS E y v){b:Bool}(he:(lY P T x y).eval=some b):
  (Op.equal T u v).run P w= .ok b w∧u≠ .nilIface∧(iY u=false∨(iY v=true∧P.eqGuardType P.depth T=false))∧
   (∀op,binOp op T u v=(match op with | .eql=>do pure (.bool (←Op.equal T u v)) | .neq=>do pure (.bool (!(←Op.equal T u v))) | _=>binOp op T u v)):=by
 unfold lY at he
 split at he
 ·rename_i t x' t' y'
  obtain⟨y'',h1,h2⟩:=aw.1 he
  obtain⟨rfl,h1⟩:=fV (gg.1 h1)
  simp only at h1
  subst h1
  obtain⟨h3,h4⟩:=aE.1 h2
  obtain rfl:=ax.1 h4
  simp only[Bool.and_eq_true,Bool.or_eq_true,Bool.not_eq_true',decide_eq_true_eq]at h3
  obtain⟨h3,h5⟩:=h3
  obtain⟨cx,hVx,hOx⟩:=hx.eE rfl
  obtain⟨cy,hVy,hOy⟩:=hy.eE rfl
  simp only[V]at hVx hVy
  have hr:=jV (w:=w) E depth T t' h5 10000 (by decide) cx cy x' y' u v hVx hVy hOx hOy
  refine⟨hr,?_⟩
  rcases h3 with⟨hag,hgt⟩ | rfl
  ·have hOx':fe t'.agg cx u:=hOx
   have hOy':fe t'.agg cy v:=hOy
   rw[hag]at hOx' hOy'
   have e1:u= .agg cx.toArray:=hOx'
   have e2:v= .agg cy.toArray:=hOy'
   subst e1 e2
   exact⟨by simp,.inr ⟨rfl,hgt⟩,fun op=>by cases op <;> rfl⟩
  ·simp only[cT]at hVx hVy
   have e1:cx=[u]:=hOx
   have e2:cy=[v]:=hOy
   rw[hVx]at e1;rw[hVy]at e2
   simp only[List.cons.injEq,and_true]at e1 e2
   subst e1 e2
   exact⟨by simp,.inl rfl,fun op=>by cases op <;> rfl⟩
 ·obtain⟨h1,h2⟩:=aE.1 he
  obtain rfl:=ax.1 h2
  rw[gQ hx,gQ hy]
  unfold lY.isSl at h1
  split at h1 <;> try (cases h1;done)
  rename_i e hT
  exact⟨fG fun d=>by simp[Op.equalIn,run_underlying hT],by simp,.inl rfl,fun op=>by cases op <;> rfl⟩
 ·obtain⟨h1,h2⟩:=aE.1 he
  obtain⟨h3,h4⟩:=bF.1 h2
  obtain rfl:=ax.1 h4
  obtain⟨ad,cap,vs,rfl,_,hs,_⟩:=ko hx
  rw[gQ hy]
  have hs:=hs (by simpa using h3)
  obtain⟨ad',rfl⟩:=Option.isSome_iff_exists.1 hs
  unfold lY.isSl at h1
  split at h1 <;> try (cases h1;done)
  rename_i e hT
  exact⟨fG fun d=>by simp[Op.equalIn,run_underlying hT],by simp,.inl rfl,fun op=>by cases op <;> rfl⟩
 ·obtain⟨h1,h2⟩:=aE.1 he
  obtain⟨h3,h4⟩:=bF.1 h2
  obtain rfl:=ax.1 h4
  obtain⟨ad,cap,vs,rfl,_,hs,_⟩:=ko hy
  rw[gQ hx]
  have hs:=hs (by simpa using h3)
  obtain⟨ad',rfl⟩:=Option.isSome_iff_exists.1 hs
  unfold lY.isSl at h1
  split at h1 <;> try (cases h1;done)
  rename_i e hT
  exact⟨fG fun d=>by simp[Op.equalIn,run_underlying hT],by simp,.inl rfl,fun op=>by cases op <;> rfl⟩
 ·obtain⟨h1,h2⟩:=aE.1 he
  obtain⟨h3,h4⟩:=bF.1 h2
  obtain rfl:=ax.1 h4
  obtain⟨ad,cap,rfl,_,hs,_⟩:=j4 hx
  rw[gQ hy]
  have hs:=hs (by simpa using h3)
  obtain⟨ad',rfl⟩:=Option.isSome_iff_exists.1 hs
  unfold lY.isSl at h1
  split at h1 <;> try (cases h1;done)
  rename_i e hT
  exact⟨fG fun d=>by simp[Op.equalIn,run_underlying hT],by simp,.inl rfl,fun op=>by cases op <;> rfl⟩
 ·obtain⟨h1,h2⟩:=aE.1 he
  obtain⟨h3,h4⟩:=bF.1 h2
  obtain rfl:=ax.1 h4
  obtain⟨ad,cap,rfl,_,hs,_⟩:=j4 hy
  rw[gQ hx]
  have hs:=hs (by simpa using h3)
  obtain⟨ad',rfl⟩:=Option.isSome_iff_exists.1 hs
  unfold lY.isSl at h1
  split at h1 <;> try (cases h1;done)
  rename_i e hT
  exact⟨fG fun d=>by simp[Op.equalIn,run_underlying hT],by simp,.inl rfl,fun op=>by cases op <;> rfl⟩
 ·obtain⟨h1,h2⟩:=aE.1 he
  obtain rfl:=ax.1 h2
  rw[rr hx,rr hy]
  unfold lY.isPt at h1
  split at h1 <;> try (cases h1;done)
  rename_i e hT
  exact⟨fG fun d=>by simp[Op.equalIn,run_underlying hT],by simp,.inl rfl,fun op=>by cases op <;> rfl⟩
 ·obtain⟨h1,h2⟩:=aE.1 he
  obtain rfl:=ax.1 h2
  obtain⟨ad,rfl,_⟩:=kB hx
  rw[rr hy]
  unfold lY.isPt at h1
  split at h1 <;> try (cases h1;done)
  rename_i e hT
  exact⟨fG fun d=>by simp[Op.equalIn,run_underlying hT],by simp,.inl rfl,fun op=>by cases op <;> rfl⟩
 ·obtain⟨h1,h2⟩:=aE.1 he
  obtain rfl:=ax.1 h2
  obtain⟨ad,rfl,_⟩:=kB hy
  rw[rr hx]
  unfold lY.isPt at h1
  split at h1 <;> try (cases h1;done)
  rename_i e hT
  exact⟨fG fun d=>by simp[Op.equalIn,run_underlying hT],by simp,.inl rfl,fun op=>by cases op <;> rfl⟩
 ·obtain⟨h1,h2⟩:=aE.1 he
  obtain rfl:=ax.1 h2
  rw[rq hx,rq hy]
  unfold lY.isFn at h1
  split at h1 <;> try (cases h1;done)
  rename_i hT
  exact⟨fG fun d=>by simp[Op.equalIn,run_underlying hT],by simp,.inl rfl,fun op=>by cases op <;> rfl⟩
 ·obtain⟨h1,h2⟩:=aE.1 he
  obtain rfl:=ax.1 h2
  obtain⟨vs,rfl,_⟩:=A0 hx
  rw[rq hy]
  unfold lY.isFn at h1
  split at h1 <;> try (cases h1;done)
  rename_i hT
  exact⟨fG fun d=>by simp[Op.equalIn,run_underlying hT],by simp,.inl rfl,fun op=>by cases op <;> rfl⟩
 ·obtain⟨h1,h2⟩:=aE.1 he
  obtain rfl:=ax.1 h2
  obtain⟨vs,rfl,_⟩:=A0 hy
  rw[rq hx]
  unfold lY.isFn at h1
  split at h1 <;> try (cases h1;done)
  rename_i hT
  exact⟨fG fun d=>by simp[Op.equalIn,run_underlying hT],by simp,.inl rfl,fun op=>by cases op <;> rfl⟩
 ·simp only[ak]at he
theorem vW{op:BinOp}{T:TypeId}{x y:Operand}{u v:Value}(hu:iY u=true)(hv:iY v=true)(hm:P.eqGuardType P.depth T=false):(eqGuard op T x y u v).run P w= .ok () w:=by
 cases u <;> first | (simp[iY]at hu;done) | skip
 cases v <;> first | (simp[iY]at hv;done) | skip
 exact run_eqGuard_agg w op T x y _ _ hm
theorem xC(h:Inv C g β s a w){op:BinOp}{T U:TypeId}{x y:Operand}(ho:o.op= .binOp op T x y U){v:aC}(he:(C7 P T op (s.ev x) (s.ev y)).eval=some v):eZ P o a w (fQ C (s.put o.dst v)):=by
 have hx:=h.ev x
 have hy:=h.ev y
 have fin:∀z,(binOp op T (a.eval x) (a.eval y)).run P w= .ok z w→(eqGuard op T x y (a.eval x) (a.eval y)).run P w= .ok () w→VS (s.env w g β) v z→eZ P o a w (fQ C (s.put o.dst v)):=by
  intro z h1 h2 h3
  refine h.value h3 ?_
  simp[execOp,ho,h1,h2]
 unfold C7 at he
 split at he
 ·rename_i k n k' m hn hm
  rw[hn]at hx;rw[hm]at hy
  have e1:=kW hx
  have e2:=kW hy
  obtain⟨z,h1,h2⟩:=wc (P:=P) (w:=w) he T (s.env w g β)
  exact fin z (by rw[e1,e2];exact h1) (by rw[e1,e2];exact gV (by simp) rfl) h2
 ·rename_i n m hn hm
  rw[hn]at hx;rw[hm]at hy
  have e1:=mJ hx
  have e2:=mJ hy
  obtain⟨z,h1,h2⟩:=xj (P:=P) (w:=w) he T (s.env w g β)
  exact fin z (by rw[e1,e2];exact h1) (by rw[e1,e2];exact gV (by simp) rfl) h2
 ·have grd:(iY (a.eval x)=false∨(iY (a.eval y)=true∧P.eqGuardType P.depth T=false))→a.eval x≠ .nilIface→(eqGuard op T x y (a.eval x) (a.eval y)).run P w= .ok () w:=by
   intro hh hne
   rcases hh with hh | ⟨hh,hm⟩
   ·exact gV hne hh
   ·rcases Bool.eq_false_or_eq_true (iY (a.eval x)) with hx | hx
    ·exact vW hx hh hm
    ·exact gV hne hx
  split at he
  ·obtain⟨b,h1,h2⟩:=aw.1 he
   obtain rfl:=ax.1 h2
   obtain⟨q1,q2,q3,q4⟩:=rJ (w:=w) hx hy h1
   refine fin (.bool b) ?_ (grd q3 q2) (kG b)
   rw[q4 .eql]
   simp[q1]
  ·obtain⟨b,h1,h2⟩:=aw.1 he
   obtain rfl:=ax.1 h2
   obtain⟨q1,q2,q3,q4⟩:=rJ (w:=w) hx hy h1
   refine fin (.bool (!b)) ?_ (grd q3 q2) (kG (!b))
   rw[q4 .neq]
   simp[q1]
  ·simp only[ak]at he
theorem Ap(h:Inv C g β s a w){op:UnOp}{T:TypeId}{x:Operand}(ho:o.op= .unOp op T x){v:aC}(he:(EA op (s.ev x)).eval=some v):eZ P o a w (fQ C (s.put o.dst v)):=by
 have hx:=h.ev x
 unfold EA at he
 split at he
 ·rename_i b hb
  rw[hb]at hx
  obtain rfl:=ax.1 he
  exact h.value (kG _) (by simp[execOp,ho,rh hx,Op.unary])
 ·rename_i k n hb
  rw[hb]at hx
  obtain rfl:=ax.1 he
  exact h.value (gJ _ _) (by simp[execOp,ho,kW hx,Op.unary,Op.intArith])
 ·rename_i k n hb
  rw[hb]at hx
  obtain rfl:=ax.1 he
  refine h.value (gJ _ _) ?_
  simp only[execOp,ho,kW hx,Op.unary,Op.intBits]
  simp[ct]
 ·simp only[ak]at he
end
end Go.Ab
namespace Go.Ab
section
variable {P:Program} {C:Ctx} {g:Nat→ix} {β:Id→Option Pl} {s:AS} {a:Act} {w:World} {o:Oper}
theorem lU{E:Env}{v:aC}{y:Value}(h:VS E v y){n:Int}(he:(asInt v).eval=some n):∃k,y= .int k n:=by
 unfold asInt at he
 split at he
 ·rename_i k m
  obtain rfl:=ax.1 he
  exact⟨k,kW h⟩
 ·simp only[ak]at he
theorem qx{k:IntKind}{i:Int}{y:Nat}(code:BoundsCode)(h:0≤i∧i≤(y:Int)):(Instr.sliceBound (.int k i) y code).run P w= .ok i.toNat w:=
 run_sliceBound w k i y code h.1 h.2
theorem mj(h:Inv C g β s a w){n cap:Nat}(hn:n≤cap){lo hi:Option Operand}{r:Nat×Nat}(he:(bounds s n lo hi).eval=some r)(isS:Bool):
  (Instr.sliceBounds isS n cap (lo.map a.eval) (hi.map a.eval) none).run P w= .ok (r.1,r.2,cap) w∧r.1≤r.2∧r.2≤n:=by
 unfold bounds at he
 obtain⟨hh,h1,h2⟩:=aw.1 he
 obtain⟨ll,h3,h4⟩:=aw.1 h2
 obtain rfl:=ax.1 h4
 have hi1:hh≤n∧∀y,hi.map a.eval=some y→∃k i,y= .int k i∧0≤i∧i≤(n:Int)∧hh=i.toNat:=by
  cases hi with
  |none=>
   simp only at h1
   obtain rfl:=ax.1 h1
   exact⟨Nat.le_refl _,fun y hy=>by cases hy⟩
  |some x=>
   simp only at h1
   obtain⟨i,q1,q2⟩:=aw.1 h1
   obtain⟨q3,q4⟩:=bF.1 q2
   obtain rfl:=ax.1 q4
   simp only[decide_eq_true_eq]at q3
   obtain⟨k,hk⟩:=lU (h.ev x) q1
   refine⟨by omega,fun y hy=> ?_⟩
   simp only[Option.map_some,Option.some.injEq]at hy
   exact⟨k,i,by rw[←hy];exact hk,q3.1,q3.2,rfl⟩
 have hi0:hi.map a.eval=none→hh=n:=by
  intro hy
  cases hi with
  |none=>simp only at h1;exact(ax.1 h1).symm
  |some x=>cases hy
 have lo1:ll≤hh∧∀y,lo.map a.eval=some y→∃k i,y= .int k i∧0≤i∧i≤(hh:Int)∧ll=i.toNat:=by
  cases lo with
  |none=>
   simp only at h3
   obtain rfl:=ax.1 h3
   exact⟨Nat.zero_le _,fun y hy=>by cases hy⟩
  |some x=>
   simp only at h3
   obtain⟨i,q1,q2⟩:=aw.1 h3
   obtain⟨q3,q4⟩:=bF.1 q2
   obtain rfl:=ax.1 q4
   simp only[decide_eq_true_eq]at q3
   obtain⟨k,hk⟩:=lU (h.ev x) q1
   refine⟨by omega,fun y hy=> ?_⟩
   simp only[Option.map_some,Option.some.injEq]at hy
   exact⟨k,i,by rw[←hy];exact hk,q3.1,q3.2,rfl⟩
 have lo0:lo.map a.eval=none→ll=0:=by
  intro hy
  cases lo with
  |none=>simp only at h3;exact(ax.1 h3).symm
  |some x=>cases hy
 refine⟨?_,lo1.1,hi1.1⟩
 unfold Instr.sliceBounds
 cases hhi:hi.map a.eval with
 |none=>
  obtain rfl:=hi0 hhi
  cases hlo:lo.map a.eval with
  |none=>
   obtain rfl:=lo0 hlo
   rfl
  |some y=>
   obtain⟨k,i,rfl,q1,q2,rfl⟩:=lo1.2 y hlo
   simp only[Sem.run_bind,Sem.run_pure,Result.andThen_ok,qx _ ⟨q1,q2⟩]
 |some z=>
  obtain⟨k',i',rfl,p1,p2,rfl⟩:=hi1.2 z hhi
  have hb:∀code,(Instr.sliceBound (.int k' i') cap code).run P w= .ok i'.toNat w:=fun code=>qx code ⟨p1,by omega⟩
  cases hlo:lo.map a.eval with
  |none=>
   obtain rfl:=lo0 hlo
   simp only[Sem.run_bind,Sem.run_pure,Result.andThen_ok,hb]
  |some y=>
   obtain⟨k,i,rfl,q1,q2,rfl⟩:=lo1.2 y hlo
   simp only[Sem.run_bind,Sem.run_pure,Result.andThen_ok,hb,qx _ ⟨q1,q2⟩]
theorem hP{T:TypeId}{z:Nat}(h1:gr P T=some z)(h2:kE P T=none):∃e,P.underlying T=some (.slice e)∧P.cellsOf e=z∧0 < z:=by
 unfold gr at h1
 unfold kE at h2
 split at h1
 ·rename_i n e hT;rw[hT]at h2;cases h2
 ·rename_i e hT
  cases hc:P.cellsOf e with
  |zero=>rw[hc]at h1;cases h1
  |succ k=>
   rw[hc]at h1
   simp only[Option.some.injEq]at h1
   exact⟨e,hT,by omega,by omega⟩
 ·cases h1
theorem kJ{T:TypeId}{z n:Nat}(h1:gr P T=some z)(h2:kE P T=some n):∃e,P.underlying T=some (.array n e)∧P.cellsOf e=z∧0 < z:=by
 unfold gr at h1
 unfold kE at h2
 split at h1
 ·rename_i n e hT
  rw[hT]at h2
  simp only[Option.some.injEq]at h2
  subst h2
  cases hc:P.cellsOf e with
  |zero=>rw[hc]at h1;cases h1
  |succ k=>
   rw[hc]at h1
   simp only[Option.some.injEq]at h1
   exact⟨e,hT,by omega,by omega⟩
 ·rename_i e hT;rw[hT]at h2;cases h2
 ·cases h1
theorem jj{e:TypeId}{z:Nat}(h:P.cellsOf e=z)(hz:0 < z)(w:World):(sizeOf e).run P w= .ok z w:=by
 unfold Program.cellsOf at h
 cases hi:P.info? e with
 |none=>rw[hi]at h;simp at h;omega
 |some i=>rw[hi]at h;rw[run_sizeOf hi];simpa using h
theorem ym(h:Inv C g β s a w){T:TypeId}{x:Operand}{lo hi:Option Operand}(ho:o.op= .slice T x lo hi none){v:aC}(he:(oV P s T (s.ev x) lo hi).eval=some v):eZ P o a w (fQ C (s.put o.dst v)):=by
 have hx:=h.ev x
 have fin:∀z,(Instr.sliceAt T (a.eval x) (lo.map a.eval) (hi.map a.eval) none).run P w= .ok z w→VS (s.env w g β) v z→eZ P o a w (fQ C (s.put o.dst v)):=by
  intro z h1 h2
  exact h.value h2 (dR (f:=Instr.sliceAt T (a.eval x) (lo.map a.eval) (hi.map a.eval) none) (by simp only[execOp,ho,Option.map_none]) h1)
 have sl:∀(e:TypeId) (z:Nat) (ad:Option Addr) (len cap:Nat) (b:Nat×Nat),P.underlying T=some (.slice e)→P.cellsOf e=z→0 < z→a.eval x= .slice ad len cap→len≤cap→(bounds s len lo hi).eval=some b→
   (Instr.sliceAt T (a.eval x) (lo.map a.eval) (hi.map a.eval) none).run P w= .ok (.slice (if cap=b.1 then ad else ad.map (·.add (b.1*z))) (b.2 - b.1) (cap - b.1)) w∧b.1≤b.2∧b.2≤len:=by
  intro e z ad len cap b hT hz hpos hy hlc hb
  obtain⟨h1,h2,h3⟩:=mj (P:=P) h hlc hb true
  refine⟨?_,h2,h3⟩
  rw[hy]
  simp[Instr.sliceAt,Instr.slice,run_underlying hT,h1,jj hz hpos]
 have ar:∀(e:TypeId) (z n:Nat) (ad:Addr) (b:Nat×Nat),P.underlying T=some (.array n e)→P.cellsOf e=z→0 < z→a.eval x= .pointer (some ad)→(bounds s n lo hi).eval=some b→
   (Instr.sliceAt T (a.eval x) (lo.map a.eval) (hi.map a.eval) none).run P w= .ok (.slice (some (if n=b.1 then ad else ad.add (b.1*z))) (b.2 - b.1) (n - b.1)) w∧b.1≤b.2∧b.2≤n:=by
  intro e z n ad b hT hz hpos hy hb
  obtain⟨h1,h2,h3⟩:=mj (P:=P) h (Nat.le_refl n) hb false
  refine⟨?_,h2,h3⟩
  rw[hy]
  simp[Instr.sliceAt,Instr.sureAddr,run_underlying hT,h1,jj hz hpos]
 have cutR:∀(t:Ty) (z:Nat) (ad ad':Option Addr) (len' cap':Nat) (vs:List Value) (l:List t.den) (b:Nat×Nat),z=t.size→nf (s.env w g β) ad vs→bg (cT (s.env w g β) t) vs l→b.1≤b.2→b.2≤l.length→
   (∀bb off,ad=some ⟨bb,off,none⟩→b.1 < b.2→ad'=some ⟨bb,off+b.1*z,none⟩)→(b.1 < b.2→ad'.isSome=true)→len'=b.2 - b.1→len'≤cap'→VS (s.env w g β) (.d (.slice t) (cut l b.1 (b.2 - b.1))) (.slice ad' len' cap'):=by
  intro t z ad ad' len' cap' vs l b hz hr hc h1 h2 hadd hsome hlen hle
  subst hz hlen
  have hcl:(cut l b.1 (b.2 - b.1)).length=b.2 - b.1:=mn (by omega)
  refine⟨_,?_,rfl⟩
  simp only[V,cT]
  refine⟨ad',cap',(vs.drop (b.1*t.size)).take ((b.2 - b.1)*t.size),by rw[hcl],by omega,by rw[hcl];intro hp;exact hsome (by omega),?_,oF hc b.1 _⟩
  intro i v hi
  rw[List.getElem?_take]at hi
  split at hi
  ·rename_i hil
   rw[List.getElem?_drop]at hi
   obtain⟨bb,off,e,hh⟩:=hr _ v hi
   have hlt:b.1 < b.2:=by
    rcases Nat.lt_or_ge b.1 b.2 with h' | h'
    ·exact h'
    ·rw[Nat.sub_eq_zero_of_le h',Nat.zero_mul]at hil;omega
   exact⟨bb,_,hadd bb off e hlt,by rw[Nat.add_assoc];exact hh⟩
  ·cases hi
 unfold oV at he
 split at he
 ·rename_i st hst
  rw[hst]at hx
  have e1:=mJ hx
  obtain⟨h1,h2⟩:=aE.1 he
  obtain⟨b,h3,h4⟩:=aw.1 h2
  obtain rfl:=ax.1 h4
  split at h1 <;> try (cases h1;done)
  rename_i hT
  obtain⟨q1,q2,q3⟩:=mj (P:=P) h (Nat.le_refl _) h3 false
  refine fin (.string (st.extract b.1 b.2)) ?_ (uo _)
  rw[e1]
  simp[Instr.sliceAt,Instr.slice,run_underlying hT,q1]
 ·rename_i t l hl
  rw[hl]at hx
  obtain⟨ad,cap,vs,hy,hlc,hsome,hrow,hch⟩:=ko hx
  obtain⟨h1,h2⟩:=aE.1 he
  obtain⟨b,h3,h4⟩:=aw.1 h2
  obtain rfl:=ax.1 h4
  split at h1 <;> try (cases h1;done)
  rename_i z hz1 hz2
  obtain⟨e,hT,hz,hpos⟩:=hP hz1 hz2
  have hzt:z=t.size:=by simpa using h1
  obtain⟨q1,q2,q3⟩:=sl e z ad _ cap b hT hz hpos hy hlc h3
  refine fin _ q1 (cutR t z ad _ _ _ vs l b hzt hrow hch q2 q3 ?_ ?_ rfl (by omega))
  ·intro bb off e1 hlt
   rw[if_neg (by omega),e1]
   simp[Addr.add_lit]
  ·intro hlt
   rw[if_neg (by omega)]
   have:=hsome (by omega)
   cases ad <;> simp_all
 ·rename_i hl
  rw[hl]at hx
  have hy:=gQ hx
  obtain⟨h1,h2⟩:=aE.1 he
  obtain⟨b,h3,h4⟩:=aw.1 h2
  obtain rfl:=ax.1 h4
  split at h1 <;> try (cases h1;done)
  rename_i z hz1 hz2
  obtain⟨e,hT,hz,hpos⟩:=hP hz1 hz2
  obtain⟨q1,q2,q3⟩:=sl e z none 0 0 b hT hz hpos hy (Nat.le_refl _) h3
  have hb1:b.1=0:=by omega
  have hb2:b.2=0:=by omega
  refine fin _ q1 ?_
  rw[hb1,hb2]
  exact⟨_,by simp[V],rfl⟩
 ·rename_i id ver p c i len hl
  rw[hl]at hx
  obtain⟨ad,cap,hy,hlc,hsome,hbnd,hcur⟩:=j4 hx
  obtain⟨r,hr1,he⟩:=aw.1 he
  obtain⟨h1,h2⟩:=aE.1 he
  obtain⟨b,h3,h4⟩:=aw.1 h2
  obtain rfl:=ax.1 h4
  split at h1 <;> try (cases h1;done)
  rename_i z hz1 hz2
  obtain⟨e,hT,hz,hpos⟩:=hP hz1 hz2
  have hzt:z=r.2.1.size:=by simpa using h1
  obtain⟨q1,q2,q3⟩:=sl e z ad _ cap b hT hz hpos hy hlc h3
  refine fin _ q1 ⟨_,?_,rfl⟩
  simp only[V]
  refine⟨_,_,rfl,by omega,?_,hbnd,fun hc=> ?_⟩
  ·intro hlt
   rw[if_neg (by omega)]
   have:=hsome (by omega)
   cases ad <;> simp_all
  ·have hcur:=hcur hc
   cases hp:β id with
   |none=>
    have hp':(s.env w g β).β id=none:=hp
    rw[hp']at hcur ⊢
    simp only at hcur ⊢
    obtain⟨rfl,rfl,rfl⟩:=hcur
    refine⟨by simp,by omega,by omega⟩
   |some pl=>
    have hp':(s.env w g β).β id=some pl:=hp
    rw[hp']at hcur ⊢
    simp only at hcur ⊢
    refine⟨fun hh=> ?_,fun hpn hi0=> ?_⟩
    ·by_cases hcb:cap=b.1
     ·rw[if_pos hcb]
      have hb0:b.1=0:=by omega
      rw[hb0,Nat.zero_mul,Nat.add_zero]
      exact hcur.1 (.inr (by omega))
     ·rw[if_neg hcb,hcur.1 (by omega),←hzt]
      simp[Addr.add_lit]
    ·have:=hcur.2 hpn (by omega)
     omega
 ·rename_i id ver p n hl
  rw[hl]at hx
  obtain⟨ad,hy,hbnd,hcur⟩:=kB hx
  obtain⟨r,hr1,he⟩:=aw.1 he
  obtain⟨h1,h2⟩:=aE.1 he
  obtain⟨h5,h6⟩:=bF.1 h2
  obtain⟨b,h3,h4⟩:=aw.1 h6
  obtain rfl:=ax.1 h4
  split at h1 <;> try (cases h1;done)
  rename_i z m hz1 hz2
  obtain⟨e,hT,hz,hpos⟩:=kJ hz1 hz2
  have hzt:z=r.2.1.size:=by simpa using h1
  rw[hz2,Option.getD_some]at h3
  obtain⟨q1,q2,q3⟩:=ar e z m ad b hT hz hpos hy h3
  obtain⟨fr,c0,hent,_⟩:=qu rfl h.bN hr1
  obtain⟨pl,hp,had⟩:=hcur ⟨fr,c0,hent⟩
  refine fin _ q1 ⟨_,?_,rfl⟩
  simp only[V]
  refine⟨_,_,rfl,by omega,fun _=>rfl,hbnd,fun _=> ?_⟩
  rw[hp]
  simp only
  refine⟨fun hh=> ?_,fun hpn=>by simp at hpn⟩
  rw[had]
  by_cases hcb:m=b.1
  ·have hb0:b.1=0:=by omega
   rw[if_pos hcb,hb0,Nat.zero_mul,Nat.add_zero]
  ·rw[if_neg hcb,←hzt,Addr.add_lit]
 ·rename_i n t l hl
  rw[hl]at hx
  obtain⟨bb,off,vs,hy,hrow,hR⟩:=pN hx
  obtain⟨h1,h2⟩:=aE.1 he
  obtain⟨b,h3,h4⟩:=aw.1 h2
  obtain rfl:=ax.1 h4
  split at h1 <;> try (cases h1;done)
  rename_i z m hz1 hz2
  obtain⟨e,hT,hz,hpos⟩:=kJ hz1 hz2
  simp only[Bool.and_eq_true,beq_iff_eq]at h1
  obtain⟨hzt,rfl⟩:=h1
  obtain⟨q1,q2,q3⟩:=ar e z m _ b hT hz hpos hy h3
  simp only[cT]at hR
  obtain⟨hlen,hch⟩:=hR
  refine fin _ q1 (cutR t z (some ⟨bb,off,none⟩) _ _ _ vs l b hzt hrow hch q2 (by omega) ?_ (fun _=>rfl) rfl (by omega))
  intro bb' off' e1 hlt
  simp only[Option.some.injEq,Addr.mk.injEq,and_true]at e1
  obtain⟨rfl,rfl⟩:=e1
  rw[if_neg (by omega),Addr.add_lit]
 ·simp only[ak]at he
end
end Go.Ab
namespace Go.Ab
section
variable {P:Program} {C:Ctx} {g:Nat→ix} {β:Id→Option Pl} {s:AS} {a:Act} {w:World} {o:Oper}
theorem rV(h:Inv C g β s a w){T:TypeId}{x y:Operand}(ho:o.op= .indexAddr T x y){i:Int}(hi:(asInt (s.ev y)).eval=some i){v:aC}(he:(iX P s T (s.ev x) i).eval=some v):eZ P o a w (fQ C (s.put o.dst v)):=by
 have hx:=h.ev x
 obtain⟨k,hy⟩:=lU (h.ev y) hi
 have fin:∀z,(Instr.indexAt T (a.eval x) (a.eval y)).run P w= .ok z w→VS (s.env w g β) v z→eZ P o a w (fQ C (s.put o.dst v)):=by
  intro z h1 h2
  exact h.value h2 (dR (f:=Instr.indexAt T (a.eval x) (a.eval y)) (by simp only[execOp,ho]) h1)
 have sl:∀(e:TypeId) (z:Nat) (ad:Addr) (len cap:Nat),P.underlying T=some (.slice e)→P.cellsOf e=z→0 < z→a.eval x= .slice (some ad) len cap→0≤i∧i < (len:Int)→
   (Instr.indexAt T (a.eval x) (a.eval y)).run P w= .ok (.pointer (some (ad.add (i.toNat*z)))) w:=by
  intro e z ad len cap hT hz hpos hv hb
  rw[hv,hy]
  simp[Instr.indexAt,asIntOf,run_underlying hT,hb,jj hz hpos]
 have ar:∀(e:TypeId) (z n:Nat) (ad:Addr),P.underlying T=some (.array n e)→P.cellsOf e=z→0 < z→a.eval x= .pointer (some ad)→0≤i∧i < (n:Int)→
   (Instr.indexAt T (a.eval x) (a.eval y)).run P w= .ok (.pointer (some (ad.add (i.toNat*z)))) w:=by
  intro e z n ad hT hz hpos hv hb
  rw[hv,hy]
  simp[Instr.indexAt,Instr.sureAddr,asIntOf,run_underlying hT,hb,jj hz hpos]
 have elt:∀(t:Ty) (z:Nat) (bb off:Nat) (vs:List Value) (l:List t.den),z=t.size→nf (s.env w g β) (some ⟨bb,off,none⟩) vs→bg (cT (s.env w g β) t) vs l→0≤i∧i < (l.length:Int)→
   VS (s.env w g β) (.ej t (nth t l i.toNat)) (.pointer (some ⟨bb,off+i.toNat*z,none⟩)):=by
  intro t z bb off vs l hz hr hc hb
  subst hz
  have hlt:i.toNat < l.length:=by omega
  rw[sa hlt]
  obtain⟨hp,_⟩:=pM hc hlt
  refine⟨_,?_,rfl⟩
  simp only[V]
  refine⟨_,_,_,rfl,fun j v hj=> ?_,hp⟩
  rw[List.getElem?_take]at hj
  split at hj
  ·rw[List.getElem?_drop]at hj
   obtain⟨b',o',e,hh⟩:=hr _ v hj
   simp only[Option.some.injEq,Addr.mk.injEq,and_true]at e
   obtain⟨rfl,rfl⟩:=e
   exact⟨_,_,rfl,by rw[Nat.add_assoc];exact hh⟩
  ·cases hj
 unfold iX at he
 split at he
 ·rename_i t l hl
  rw[hl]at hx
  obtain⟨ad,cap,vs,hv,hlc,hsome,hrow,hch⟩:=ko hx
  obtain⟨h1,h2⟩:=aE.1 he
  obtain⟨h3,h4⟩:=bF.1 h2
  obtain rfl:=ax.1 h4
  simp only[decide_eq_true_eq]at h3
  split at h1 <;> try (cases h1;done)
  rename_i z hz1 hz2
  obtain⟨e,hT,hz,hpos⟩:=hP hz1 hz2
  have hzt:z=t.size:=by simpa using h1
  have hlen:=bg.length (fun c x hx=>cT.size hx) hch
  have hlt:i.toNat < l.length:=by omega
  have h0:0 < vs.length:=by rw[hlen];exact Nat.mul_pos (by omega) (by omega)
  obtain⟨bb,off,e1,_⟩:=hrow 0 vs[0] (by simp[h0])
  subst e1
  have:=sl e z _ _ cap hT hz hpos hv h3
  rw[Addr.add_lit]at this
  exact fin _ this (elt t z bb off vs l hzt hrow hch h3)
 ·rename_i n t l hl
  rw[hl]at hx
  obtain⟨bb,off,vs,hv,hrow,hR⟩:=pN hx
  obtain⟨h1,h2⟩:=aE.1 he
  obtain⟨h3,h4⟩:=bF.1 h2
  obtain rfl:=ax.1 h4
  simp only[decide_eq_true_eq]at h3
  split at h1 <;> try (cases h1;done)
  rename_i z m hz1 hz2
  obtain⟨e,hT,hz,hpos⟩:=kJ hz1 hz2
  simp only[Bool.and_eq_true,beq_iff_eq]at h1
  obtain⟨hzt,rfl⟩:=h1
  simp only[cT]at hR
  have:=ar e z m _ hT hz hpos hv h3
  rw[Addr.add_lit]at this
  exact fin _ this (elt t z bb off vs l hzt hrow hR.2 (by rw[hR.1];exact h3))
 ·rename_i id ver p c j len hl
  rw[hl]at hx
  obtain⟨ad,cap,hv,hlc,hsome,hbnd,hcur⟩:=j4 hx
  obtain⟨r,hr1,he⟩:=aw.1 he
  obtain⟨h1,h2⟩:=aE.1 he
  obtain⟨h3,h4⟩:=bF.1 h2
  obtain rfl:=ax.1 h4
  simp only[decide_eq_true_eq]at h3
  split at h1 <;> try (cases h1;done)
  rename_i z hz1 hz2
  obtain⟨e,hT,hz,hpos⟩:=hP hz1 hz2
  have hzt:z=r.2.1.size:=by simpa using h1
  have hs:=hsome (by omega)
  obtain⟨ad',rfl⟩:=Option.isSome_iff_exists.1 hs
  refine fin _ (sl e z ad' len cap hT hz hpos hv h3) ⟨_,?_,rfl⟩
  simp only[V]
  refine⟨_,rfl,hbnd,fun hc=> ?_⟩
  have hcur:=hcur hc
  cases hp:β id with
  |none=>
   have hp':(s.env w g β).β id=none:=hp
   rw[hp']at hcur
   exact absurd hcur.1 (by simp)
  |some pl=>
   have hp':(s.env w g β).β id=some pl:=hp
   rw[hp']at hcur
   have e1:=hcur.1 (.inl (by omega))
   simp only[Option.some.injEq]at e1
   exact⟨pl,hp,by rw[e1,Addr.add_lit,hzt]⟩
 ·rename_i id ver p n hl
  rw[hl]at hx
  obtain⟨ad,hv,hbnd,hcur⟩:=kB hx
  obtain⟨h1,h2⟩:=aE.1 he
  obtain⟨h3,h4⟩:=bF.1 h2
  obtain rfl:=ax.1 h4
  simp only[decide_eq_true_eq]at h3
  split at h1 <;> try (cases h1;done)
  rename_i z m hz1 hz2
  obtain⟨e,hT,hz,hpos⟩:=kJ hz1 hz2
  rw[hz2,Option.getD_some]at h3
  refine fin _ (ar e z m ad hT hz hpos hv h3) ⟨_,?_,rfl⟩
  simp only[V]
  refine⟨_,rfl,hbnd,fun hc=> ?_⟩
  obtain⟨pl,hp,had⟩:=hcur hc
  exact⟨pl,hp,by rw[had,Addr.add_lit,hz1,Option.getD_some]⟩
 ·simp only[ak]at he
theorem mR{T:TypeId}{f off:Nat}{ft:TypeId}(h:fieldInfo P T f=some (off,ft)):∃fs fd,P.underlying T=some (.struct fs)∧fs[f]? =some fd∧fd.offset=off∧fd.type=ft:=by
 unfold fieldInfo at h
 split at h
 ·rename_i fs hT
  split at h
  ·rename_i fd hf
   simp only[Option.some.injEq,Prod.mk.injEq]at h
   exact⟨fs,fd,hT,hf,h.1,h.2⟩
  ·cases h
 ·cases h
theorem pD{E:Env}:∀(x:aC) (f off:Nat) (v:aC) (cs:List Value),V E x cs→partOf x f=some (off,v)→V E v ((cs.drop off).take v.size)∧off+v.size≤cs.length:=by
 intro x f
 induction f generalizing x with
 |zero=>
  intro off v cs hx h
  cases x with
  |d t y=>
   cases t <;> simp only[partOf,reduceCtorEq]at h
   rename_i ta tb
   simp only[Option.some.injEq,Prod.mk.injEq]at h
   obtain⟨rfl,rfl⟩:=h
   simp only[V,cT]at hx ⊢
   obtain⟨ca,cb,rfl,ha,hb⟩:=hx
   have:=ha.size
   simp only[aC.size,List.drop_zero,List.length_append,Nat.zero_add]
   rw[List.take_left' this]
   exact⟨ha,by omega⟩
  |pr b c=>
   simp only[partOf,Option.some.injEq,Prod.mk.injEq]at h
   obtain⟨rfl,rfl⟩:=h
   simp only[V]at hx
   obtain⟨ca,cb,rfl,ha,hb⟩:=hx
   have:=ha.size
   simp only[List.drop_zero,List.length_append,Nat.zero_add]
   rw[List.take_left' this]
   exact⟨ha,by omega⟩
  |_=>simp only[partOf,reduceCtorEq]at h
 |succ f ih=>
  intro off v cs hx h
  have second:∀(ca cb:List Value) (n:Nat) (b:aC),cs=ca++cb→ca.length=n→V E b cb→(match partOf b f with | some (o,v)=>some (n+o,v) | none=>none)=some (off,v)→V E v ((cs.drop off).take v.size)∧off+v.size≤cs.length:=by
   intro ca cb n b e hl hb hh
   cases hp:partOf b f with
   |none=>rw[hp]at hh;cases hh
   |some r=>
    obtain⟨o',v'⟩:=r
    rw[hp]at hh
    simp only[Option.some.injEq,Prod.mk.injEq]at hh
    obtain⟨rfl,rfl⟩:=hh
    obtain⟨h1,h2⟩:=ih b o' v' cb hb hp
    subst e
    rw[←hl,List.drop_append,List.drop_of_length_le (by omega),List.nil_append,Nat.add_sub_cancel_left]
    exact⟨h1,by simp only[List.length_append];omega⟩
  cases x with
  |d t y=>
   cases t with
   |pair ta tb=>
    simp only[partOf]at h
    simp only[V,cT]at hx
    obtain⟨ca,cb,e,ha,hb⟩:=hx
    exact second ca cb ta.size (.d tb y.2) e ha.size (by simpa only[V]using hb) h
   |_=>simp only[partOf,reduceCtorEq]at h
  |pr b c=>
   simp only[partOf]at h
   simp only[V]at hx
   obtain⟨ca,cb,e,ha,hb⟩:=hx
   exact second ca cb b.size c e ha.size hb h
  |_=>simp only[partOf,reduceCtorEq]at h
theorem rL(h:Inv C g β s a w){T:TypeId}{x:Operand}{f:Nat}(ho:o.op= .fieldAddr T x f){v:aC}(he:(mu P T (s.ev x) f).eval=some v):eZ P o a w (fQ C (s.put o.dst v)):=by
 have hx:=h.ev x
 unfold mu at he
 split at he
 ·rename_i off ft hf
  obtain⟨fs,fd,hT,hfd,rfl,rfl⟩:=mR hf
  obtain⟨h1,h2⟩:=aE.1 he
  have hz:P.cellsOf fd.type≠0:=by simpa using h1
  have run:∀bb n,a.eval x= .pointer (some ⟨bb,n,none⟩)→(Instr.fieldAt T (a.eval x) f).run P w= .ok (.pointer (some ⟨bb,n+fd.offset,none⟩)) w:=by
   intro bb n hy
   rw[hy]
   simp[Instr.fieldAt,run_underlying hT,hfd,Instr.sureAddr,fieldPlace,jj (P:=P) (e:=fd.type) rfl (by omega),hz,Addr.add_lit]
  have runS:∀ad,a.eval x= .pointer (some ad)→(Instr.fieldAt T (a.eval x) f).run P w= .ok (.pointer (some (ad.add fd.offset))) w:=by
   intro ad hy
   rw[hy]
   simp[Instr.fieldAt,run_underlying hT,hfd,Instr.sureAddr,fieldPlace,jj (P:=P) (e:=fd.type) rfl (by omega),hz]
  have fin:∀z,(Instr.fieldAt T (a.eval x) f).run P w= .ok z w→VS (s.env w g β) v z→eZ P o a w (fQ C (s.put o.dst v)):=by
   intro z h1 h2
   exact h.value h2 (dR (f:=Instr.fieldAt T (a.eval x) f) (by simp only[execOp,ho]) h1)
  split at h2
  ·rename_i id ver p n hl
   rw[hl]at hx
   obtain rfl:=ax.1 h2
   obtain⟨ad,hy,hbnd,hcur⟩:=kB hx
   refine fin _ (runS ad hy) ⟨_,?_,rfl⟩
   simp only[V]
   refine⟨_,rfl,hbnd,fun hc=> ?_⟩
   obtain⟨pl,hp,had⟩:=hcur hc
   exact⟨pl,hp,by rw[had,Addr.add_lit]⟩
  ·rename_i t y hl
   rw[hl]at hx
   obtain⟨bb,off,vs,hy,hrow,hR⟩:=pN hx
   split at h2
   ·rename_i o' t' y' hp
    obtain⟨h3,h4⟩:=aE.1 h2
    obtain rfl:=ax.1 h4
    have h3:fd.offset=o':=by simpa using h3
    obtain⟨hV,hle⟩:=pD (.d t y) f o' (.d t' y') vs (by simpa only[V]using hR) hp
    refine fin _ (run bb off hy) ⟨_,?_,rfl⟩
    simp only[V]at hV ⊢
    refine⟨_,_,_,rfl,fun j u hj=> ?_,hV⟩
    rw[List.getElem?_take]at hj
    split at hj
    ·rw[List.getElem?_drop]at hj
     obtain⟨b',o'',e,hh⟩:=hrow _ u hj
     simp only[Option.some.injEq,Addr.mk.injEq,and_true]at e
     obtain⟨rfl,rfl⟩:=e
     exact⟨_,_,rfl,by rw[h3,Nat.add_assoc];exact hh⟩
    ·cases hj
   ·simp only[ak]at h2
  ·simp only[ak]at h2
 ·simp only[ak]at he
theorem sY{x:aC}{f:Nat}{r:Nat×aC}(h:partOf x f=some r):x.agg=true∧x.eE=true:=by
 cases x with
 |d t y=>cases t <;> cases f <;> simp[partOf]at h <;> exact⟨rfl,rfl⟩
 |pr b c=>exact⟨rfl,rfl⟩
 |_=>cases f <;> simp[partOf]at h
theorem nv{T:TypeId}{v:aC}(h:fits P T v=true):oP P T v.agg=true∧P.cellsOf T=v.size∧v.eE=true:=by
 unfold fits at h
 simp only[Bool.and_eq_true,beq_iff_eq]at h
 exact⟨h.2,h.1.2,h.1.1⟩
theorem xO(h:Inv C g β s a w){T:TypeId}{x:Operand}{f:Nat}(ho:o.op= .field T x f){v:aC}(he:(uI P T (s.ev x) f).eval=some v):eZ P o a w (fQ C (s.put o.dst v)):=by
 have hx:=h.ev x
 unfold uI at he
 split at he
 ·rename_i off ft o' v' hf hp
  obtain⟨fs,fd,hT,hfd,rfl,rfl⟩:=mR hf
  obtain⟨h1,h2⟩:=aE.1 he
  obtain rfl:=ax.1 h2
  simp only[Bool.and_eq_true,beq_iff_eq]at h1
  obtain⟨rfl,hfits⟩:=h1
  obtain⟨hag,hcel⟩:=sY hp
  obtain⟨cs,hV,hO⟩:=hx.eE hcel
  rw[hag]at hO
  have hy:a.eval x= .agg cs.toArray:=hO
  obtain⟨hVp,hle⟩:=pD _ _ _ _ cs hV hp
  obtain⟨q1,q2,q3⟩:=nv hfits
  obtain⟨y,hr,hOy⟩:=kk (w:=w) q1 q2 (fun hh=>aC.xe hh) hle
  refine h.value (VS.of hVp hOy) (dR (f:=Instr.field T (a.eval x) f) (by simp only[execOp,ho]) ?_)
  rw[hy]
  simp[Instr.field,run_underlying hT,hfd,asAgg,hr]
 ·simp only[ak]at he
theorem xT(h:Inv C g β s a w){T:TypeId}{x y:Operand}(ho:o.op= .index T x y){i:Int}(hi:(asInt (s.ev y)).eval=some i){v:aC}(he:(uP P T (s.ev x) i).eval=some v):eZ P o a w (fQ C (s.put o.dst v)):=by
 have hx:=h.ev x
 obtain⟨k,hy⟩:=lU (h.ev y) hi
 have fin:∀z,(Instr.index T (a.eval x) (a.eval y)).run P w= .ok z w→VS (s.env w g β) v z→eZ P o a w (fQ C (s.put o.dst v)):=by
  intro z h1 h2
  exact h.value h2 (dR (f:=Instr.index T (a.eval x) (a.eval y)) (by simp only[execOp,ho]) h1)
 unfold uP at he
 split at he
 ·rename_i n t l m e hl hT
  rw[hl]at hx
  obtain⟨h1,h2⟩:=aE.1 he
  obtain⟨h3,h4⟩:=bF.1 h2
  obtain rfl:=ax.1 h4
  simp only[Bool.and_eq_true,beq_iff_eq,decide_eq_true_eq]at h1 h3
  obtain⟨rfl,hfits⟩:=h1
  obtain⟨q1,q2,q3⟩:=nv hfits
  obtain⟨cs,hV,hO⟩:=hx.eE rfl
  have hyv:a.eval x= .agg cs.toArray:=hO
  simp only[V,cT]at hV
  obtain⟨hlen,hch⟩:=hV
  have hlt:i.toNat < l.length:=by omega
  obtain⟨hp,hle⟩:=pM hch hlt
  have q2':P.cellsOf e=t.size:=q2
  have q1':oP P e t.agg=true:=q1
  obtain⟨y',hr,hOy⟩:=kk (w:=w) q1' q2' km hle
  obtain⟨j,hj,_⟩:=kP q1'
  rw[←sa hlt]at hp
  refine fin y' ?_ (VS.of (by simpa only[V]using hp) hOy)
  rw[hyv,hy]
  have hsz:=run_sizeOf hj w
  rw[←gL hj,q2']at hsz
  simp[Instr.index,asIntOf,run_underlying hT,h3,hsz,hr]
 ·rename_i st hl hT
  rw[hl]at hx
  obtain⟨h3,h4⟩:=bF.1 he
  obtain rfl:=ax.1 h4
  simp only[decide_eq_true_eq]at h3
  have e1:=mJ hx
  have hlt:i.toNat < st.data.toList.length:=by
   have:st.size=st.data.toList.length:=by rw[Array.length_toList];rfl
   omega
  have hget:st[i.toNat]? =some (st.data.toList[i.toNat]):=by
   have hlt':i.toNat < st.size:=by omega
   rw[getElem?_pos st i.toNat hlt']
   rfl
  refine fin (.int .u8 ((st.data.toList.getD i.toNat 0).toNat:Int)) ?_ (gJ _ _)
  rw[e1,hy]
  simp[Instr.index,asIntOf,run_underlying hT,h3.1,hget,List.getD_eq_getElem?_getD,List.getElem?_eq_getElem hlt]
 ·simp only[ak]at he
theorem C3{E:Env}:∀(c:aC) (vs:List Value) (i:Nat) (v:aC),VC E c vs→c.list[i]? =some v→∃y,vs[i]? =some y∧VS E v y:=by
 intro c
 induction c with
 |cons x y _ ih=>
  intro vs i v hc hi
  simp only[VC]at hc
  obtain⟨u,vs',cs,rfl,hV,hO,hc⟩:=hc
  cases i with
  |zero=>
   simp only[aC.list,List.getElem?_cons_zero,Option.some.injEq]at hi
   subst hi
   exact⟨u,rfl,VS.of hV hO⟩
  |succ i=>
   simp only[aC.list,List.getElem?_cons_succ]at hi ⊢
   exact ih vs' i v hc hi
 |_=>intro vs i v hc hi;simp[aC.list]at hi
theorem uG(h:Inv C g β s a w){x:Operand}{i:Nat}(ho:o.op= .extract x i){v:aC}(he:(Out.opt ((s.ev x).list[i]?)).eval=some v):eZ P o a w (fQ C (s.put o.dst v)):=by
 have hx:=h.ev x
 have he:=gg.1 he
 cases hc:s.ev x with
 |cons p q=>
  rw[hc]at hx he
  obtain⟨vs,hy,hVC⟩:=hx
  obtain⟨y,hv,hVS⟩:=C3 _ vs i v hVC he
  refine h.value hVS (dR (f:=Instr.extract (a.eval x) i) (by simp only[execOp,ho]) ?_)
  rw[hy]
  simp[Instr.extract,hv]
 |_=>rw[hc]at he;simp[aC.list]at he
theorem yC(h:Inv C g β s a w):∀(l:List Operand),kT (iP s l)=true→VC (s.env w g β) (iP s l) (l.map a.eval)
 |[],_=>by simp[iP,VC]
 |x::xs,hc=>by
  simp only[iP,kT,Bool.and_eq_true]at hc
  obtain⟨cs,hV,hO⟩:=(h.ev x).eE hc.1
  simp only[iP,VC,List.map_cons]
  exact⟨_,_,cs,rfl,hV,hO,yC h xs hc.2⟩
theorem td(h:Inv C g β s a w){f:FuncId}{first caps:Array Operand}(ho:o.op= .makeFunc (.func f) first caps)(h1:first.isEmpty=true)(h2:kT (iP s caps.toList)=true):
  eZ P o a w (fQ C (s.put o.dst (.fn f (iP s caps.toList)))):=by
 have hf:first= #[]:=by simpa using h1
 refine h.value (x:= .func (.func f) #[] (caps.toList.map a.eval).toArray) ⟨_,?_,rfl⟩ (dR (f:=Instr.makeFunc (.func f) (first.map a.eval) (caps.map a.eval)) (by simp only[execOp,ho]) ?_)
 ·simp only[V]
  exact⟨_,rfl,yC h _ h2⟩
 ·subst hf
  have:caps.map a.eval=(caps.toList.map a.eval).toArray:=by apply Array.ext';simp
  simp[Instr.makeFunc,this]
theorem yr(h:Inv C g β s a w){T:TypeId}{x:Operand}(ho:o.op= .sliceToArrayPointer T x){s':AS}(he:(oX P s o.dst T (s.ev x)).eval=some s'):eZ P o a w (fQ C s'):=by
 have hx:=h.ev x
 unfold oX at he
 split at he
 ·rename_i n e hT
  split at he
  ·rename_i t ht
   obtain⟨h1,h2⟩:=aE.1 he
   obtain⟨l,h3,h4⟩:=aw.1 h2
   obtain⟨h5,h6⟩:=bF.1 h4
   obtain rfl:=ax.1 h6
   simp only[Bool.and_eq_true,Bool.not_eq_true',beq_iff_eq,beq_eq_false_iff_ne,decide_eq_true_eq]at h1 h5
   obtain⟨⟨hz,hn⟩,hz0⟩:=h1
   obtain⟨g1,i1,e1,t1,cs,hR,hO⟩:=lh h hx h3
   simp only[cT]at hR
   obtain⟨ad,cap,vs,rfl,hlc,hsome,hrow,hch⟩:=hR
   have hO': [Value.slice ad (List.length l) cap]=[a.eval x]:=hO
   have hy:a.eval x= .slice ad (List.length l) cap:=by simpa using hO'.symm
   have hlen:=bg.length (fun c x hx=>cT.size hx) hch
   have h0:0 < vs.length:=by rw[hlen];exact Nat.mul_pos (by omega) (by omega)
   obtain⟨bb,off,e2,_⟩:=hrow 0 vs[0] (by simp[h0])
   subst e2
   refine .inl ⟨.pointer (some ⟨bb,off,none⟩),w,?_,g1,β,i1.put o.dst ⟨_,?_,rfl⟩⟩
   ·refine dR (f:=Instr.arrayAt T (a.eval x)) (by simp only[execOp,ho]) ?_
    rw[hy]
    have:¬List.length l < n:=by omega
    simp[Instr.arrayAt,run_underlying hT,this]
   ·simp only[V]
    refine⟨bb,off,vs.take (n*t.size),rfl,fun j u hj=> ?_,?_⟩
    ·rw[List.getElem?_take]at hj
     split at hj
     ·exact hrow j u hj
     ·cases hj
    ·simp only[cT]
     exact⟨by simp;omega,bg.take (fun _ _ hx=>hx.size) n hch⟩
  ·simp only[ak]at he
 ·simp only[ak]at he
end
end Go.Ab
namespace Go.Ab
theorem rW{α:Type}{f:α→α→Bool}(hf:∀x y,f x y=true→x=y):∀ {xs ys:List α},g9 f xs ys=true→xs=ys
 |[],[],_=>rfl
 |x::xs,y::ys,h=>by
  simp only[g9,Bool.and_eq_true]at h
  rw[hf _ _ h.1,rW hf h.2]
 |[],_::_,h=>by simp[g9]at h
 |_::_,[],h=>by simp[g9]at h
theorem beq_eq:∀(t:Ty) (x y:t.den),t.comp=true→t.beq x y=true→x=y
 | .int _,x,y,_,h=>by simpa[Ty.beq]using h
 | .bool,x,y,_,h=>by simpa[Ty.beq]using h
 | .str,x,y,_,h=>by
  have h:(x:ByteArray).toList=(y:ByteArray).toList:=by simpa[Ty.beq]using h
  rw[Go.ByteArray.toList_eq,Go.ByteArray.toList_eq]at h
  exact ByteArray.ext (Array.toList_inj.1 h)
 | .slice _,_,_,h,_=>by simp[Ty.comp]at h
 | .unit,_,_,_,_=>rfl
 | .pair a b,x,y,hc,h=>by
  simp only[Ty.comp,Bool.and_eq_true]at hc
  simp only[Ty.beq,Bool.and_eq_true]at h
  exact Prod.ext (beq_eq a _ _ hc.1 h.1) (beq_eq b _ _ hc.2 h.2)
 | .arr _ t,x,y,hc,h=>rW (fun x y=>beq_eq t x y hc) h
def Plain(c:Value):Prop:=∀n,Instr.sameBits n c c=true
theorem cT.plain{E:Env}:∀ {t:Ty} {cs:List Value} {x:t.den},t.comp=true→cT E t cs x→∀c∈cs,Plain c
 | .int _,_,_,_,h,c,hc,n=>by simp only[cT]at h;rw[h,List.mem_singleton]at hc;subst hc;cases n <;> simp[Instr.sameBits]
 | .bool,_,_,_,h,c,hc,n=>by simp only[cT]at h;rw[h,List.mem_singleton]at hc;subst hc;cases n <;> simp[Instr.sameBits]
 | .str,_,_,_,h,c,hc,n=>by simp only[cT]at h;rw[h,List.mem_singleton]at hc;subst hc;cases n <;> exact(Go.MapKept.bytes_beq _ _).2 rfl
 | .slice _,_,_,hc,_,_,_,_=>by simp[Ty.comp]at hc
 | .unit,_,_,_,h,c,hc,_=>by simp only[cT]at h;rw[h]at hc;cases hc
 | .pair a b,_,_,hp,h,c,hc,n=>by
  simp only[Ty.comp,Bool.and_eq_true]at hp
  simp only[cT]at h
  obtain⟨ca,cb,rfl,ha,hb⟩:=h
  rcases List.mem_append.1 hc with hc | hc
  ·exact cT.plain hp.1 ha c hc n
  ·exact cT.plain hp.2 hb c hc n
 | .arr _ t,_,_,hp,h,c,hc,n=>by
  simp only[cT]at h
  exact bg.all (p:=Plain) (fun c x hx v hv=>cT.plain (t:=t) hp hx v hv) h.2 c hc n
theorem cT.Dd{E:Env}:∀ {t:Ty} {cs cs':List Value} {x:t.den},t.comp=true→cT E t cs x→cT E t cs' x→cs=cs'
 | .int _,_,_,_,_,h,h'=>by simp only[cT]at h h';rw[h,h']
 | .bool,_,_,_,_,h,h'=>by simp only[cT]at h h';rw[h,h']
 | .str,_,_,_,_,h,h'=>by simp only[cT]at h h';rw[h,h']
 | .slice _,_,_,_,hc,_,_=>by simp[Ty.comp]at hc
 | .unit,_,_,_,_,h,h'=>by simp only[cT]at h h';rw[h,h']
 | .pair a b,_,_,_,hp,h,h'=>by
  simp only[Ty.comp,Bool.and_eq_true]at hp
  simp only[cT]at h h'
  obtain⟨ca,cb,rfl,ha,hb⟩:=h
  obtain⟨ca',cb',rfl,ha',hb'⟩:=h'
  rw[cT.Dd hp.1 ha ha',cT.Dd hp.2 hb hb']
 | .arr _ t,cs,cs',x,hp,h,h'=>by
  simp only[cT]at h h'
  have key:∀(l:List t.den) (cs cs':List Value),bg (cT E t) cs l→bg (cT E t) cs' l→cs=cs':=by
   intro l
   induction l with
   |nil=>intro cs cs' h h';have h:cs=[]:=h;have h':cs'=[]:=h';rw[h,h']
   |cons x l ih=>
    intro cs cs' h h'
    obtain⟨c,r,rfl,hx,hr⟩:=h
    obtain⟨c',r',rfl,hx',hr'⟩:=h'
    rw[cT.Dd (t:=t) hp hx hx',ih _ _ hr hr']
  exact key _ _ _ h.2 h'.2
theorem lR.Dd{E:Env}{t:Ty}{v v':Value}{x:t.den}(hc:t.comp=true)(h:lR E t v x)(h':lR E t v' x):v=v':=by
 obtain⟨cs,h1,h2⟩:=h
 obtain⟨cs',h1',h2'⟩:=h'
 have e:=cT.Dd hc h1 h1'
 subst e
 unfold fe at h2 h2'
 cases ha:t.agg with
 |true=>rw[ha]at h2 h2';rw[h2,h2']
 |false=>
  rw[ha]at h2 h2'
  have h2:cs=[v]:=h2
  have h2':cs=[v']:=h2'
  rw[h2]at h2'
  simpa using h2'
theorem lR.same{E:Env}{t:Ty}{v:Value}{x:t.den}(hc:t.comp=true)(h:lR E t v x):Instr.sameBits 10000 v v=true:=by
 obtain⟨cs,h1,h2⟩:=h
 have hp:=cT.plain hc h1
 unfold fe at h2
 cases ha:t.agg with
 |true=>
  rw[ha]at h2
  have h2:v= .agg cs.toArray:=h2
  subst h2
  simp only[Instr.sameBits,beq_self_eq_true,Bool.true_and,List.all_eq_true]
  intro p hp'
  obtain⟨a,b⟩:=p
  have:∀(l:List Value),(a,b)∈l.zip l→a∈l∧a=b:=by
   intro l
   induction l with
   |nil=>intro h;simp at h
   |cons y l ih=>
    intro h
    simp only[List.zip_cons_cons,List.mem_cons,Prod.mk.injEq]at h
    rcases h with⟨rfl,rfl⟩ | h
    ·exact⟨List.mem_cons_self,rfl⟩
    ·exact⟨List.mem_cons_of_mem _ (ih h).1,(ih h).2⟩
  obtain⟨hm,rfl⟩:=this _ hp'
  exact hp a (by simpa using hm) _
 |false=>
  rw[ha]at h2
  have h2:cs=[v]:=h2
  subst h2
  exact hp v (by simp) _
theorem Ah{P:Program}{w:World}{E:Env}{t:Ty}{v:Value}{x:t.den}(hc:t.comp=true)(h:lR E t v x):(Instr.keyThatStays v v).run P w= .ok v w:=by
 unfold Instr.keyThatStays
 rw[if_pos (h.same hc)]
 rfl
section
variable {P:Program} {w:World} {E:Env}
theorem oJ:∀(n:Nat) (T:TypeId) (t:Ty),jd P n T t=true→t.comp=true
 | 0,T,t,h=>by simp[jd]at h
 |n+1,T,t,h=>by
  simp only[jd]at h
  split at h
  ·rfl
  ·rfl
  ·rfl
  ·rename_i m e m' t' hT
   simp only[Bool.and_eq_true]at h
   exact oJ n e t' h.2
  ·rename_i t0 _ _ fs hT
   simp only[Bool.and_eq_true]at h
   have key:∀(fl:List Field) (t:Ty) (off:Nat),oK P (jd P n) fl t off=true→t.comp=true:=by
    intro fl
    induction fl with
    |nil=>intro t off hc;cases t <;> first | rfl | (simp[oK]at hc;done)
    |cons f fl ih=>
     intro t off hc
     cases t <;> first | (simp[oK]at hc;done) | skip
     rename_i ta tb
     simp only[oK,Bool.and_eq_true]at hc
     simp only[Ty.comp,Bool.and_eq_true]
     exact⟨oJ n _ _ hc.1.2,ih tb _ hc.2⟩
   exact key _ _ _ h.2
  ·cases h
theorem hM(em:Bool):∀(n:Nat) (T:TypeId) (t:Ty),jd P n T t=true→∀(d:Nat),n≤d→∀(v:Value) (x:t.den),lR E t v x→(Instr.checkKey em d T v).run P w= .ok () w
 | 0,T,t,h,_,_,_,_,_=>by simp[jd]at h
 |n+1,T,t,h,0,hd,_,_,_=>by omega
 |n+1,T,t,h,d+1,hd,v,x,⟨cs,hx,hv⟩=>by
  simp only[jd]at h
  split at h
  ·rename_i hT
   simp only[cT]at hx
   have e1:cs=[v]:=hv
   rw[hx]at e1
   simp only[List.cons.injEq,and_true]at e1
   subst e1
   simp[Instr.checkKey,run_underlying hT]
  ·rename_i hT
   simp only[cT]at hx
   have e1:cs=[v]:=hv
   rw[hx]at e1
   simp only[List.cons.injEq,and_true]at e1
   subst e1
   simp[Instr.checkKey,run_underlying hT]
  ·rename_i hT
   simp only[cT]at hx
   have e1:cs=[v]:=hv
   rw[hx]at e1
   simp only[List.cons.injEq,and_true]at e1
   subst e1
   simp[Instr.checkKey,run_underlying hT]
  ·rename_i m e m' t' hT
   simp only[Bool.and_eq_true,beq_iff_eq]at h
   obtain⟨⟨⟨⟨rfl,hz0⟩,hsz⟩,hag⟩,hch⟩:=h
   simp only[cT]at hx
   obtain⟨hlx,hcx⟩:=hx
   have e1:v= .agg cs.toArray:=hv
   subst e1
   obtain⟨i,hi,hagg⟩:=kP hag
   have hsz':=hsz
   rw[gL hi]at hsz'
   simp only[Instr.checkKey,Sem.run_bind,run_underlying hT,Result.andThen_ok]
   simp only[Std.Legacy.Range.forIn_eq_forIn_range']
   have hm:([:m]:Std.Legacy.Range).size=m:=by simp[Std.Legacy.Range.size]
   rw[hm]
   have hzz:∀c z,cT E t' c z→c.length=t'.size:=fun c z hz=>hz.size
   have bx:t'.agg=false→t'.size=1:=km
   have key:∀(k:Nat) (x:List t'.den) (j:Nat),x.length=k→bg (cT E t') (cs.drop (j*t'.size)) x→
     (forIn (List.range' j k) () fun i __s=>(do
      let __do_lift ←sizeOf e
      let __do_lift ←part e cs.toArray (i*__do_lift)
      Instr.checkKey em d e __do_lift
      pure (ForInStep.yield ()):Sem (ForInStep Unit))).run P w= .ok () w:=by
    intro k
    induction k with
    |zero=>intro x j _ _;rfl
    |succ k ih=>
     intro x j hx hcx'
     cases x with
     |nil=>simp at hx
     |cons x0 xs=>
      have gx:=bg.get hzz hcx' 0 (by simp)
      simp only[Nat.zero_mul,List.drop_zero,List.getElem_cons_zero]at gx
      have lenx:((cs.drop (j*t'.size)).take t'.size).length=t'.size:=gx.size
      have hz1:t'.size≠0:=by simpa using hz0
      have hjx:j*t'.size+t'.size≤cs.length:=by simp only[List.length_take,List.length_drop]at lenx;omega
      obtain⟨ux,h1,o1⟩:=kk (w:=w) hag hsz bx (cs:=cs) (off:=j*t'.size) hjx
      have h3:=hM em n e t' hch d (by omega) ux x0 ⟨_,gx,o1⟩
      have nx:bg (cT E t') (cs.drop ((j+1)*t'.size)) xs:=by
       have:=bg.drop hzz 1 hcx'
       rw[List.drop_drop]at this
       simpa[Nat.add_mul]using this
      have:=ih xs (j+1) (by simpa using hx) nx
      rw[List.range'_succ,List.forIn_cons]
      simp only[Sem.run_bind,run_sizeOf hi,hsz',h1,h3,Result.andThen_ok,Sem.run_pure]
      exact this
   exact(congrArg (fun r:Result Unit=>r.andThen fun _ w'=>Sem.run P (pure ()) w') (key m x 0 hlx (by simpa using hcx))).trans rfl
  ·rename_i t0 _ _ fs hT
   simp only[Bool.and_eq_true,Bool.not_eq_true']at h
   obtain⟨hst,hfs⟩:=h
   have hag:t0.agg=true:=by
    cases hl:fs.toList <;> rw[hl]at hfs <;> cases t0 <;> first | rfl | (simp[oK]at hfs;done)
   rw[hag]at hv
   have e1:v= .agg cs.toArray:=hv
   subst e1
   have key:∀(fl:List Field) (t:Ty) (off:Nat),oK P (jd P n) fl t off=true→∀(x:t.den),cT E t (cs.drop off) x→
     (forIn fl () fun f __s=>(do
      if f.name≠ "_" then
       let __do_lift ←part f.type cs.toArray f.offset
       Instr.checkKey em d f.type __do_lift
       pure (ForInStep.yield ())
      else pure (ForInStep.yield ()):Sem (ForInStep Unit))).run P w= .ok () w:=by
    intro fl
    induction fl with
    |nil=>intro t off _ x _;rfl
    |cons f fl ih=>
     intro t off hc x hx
     cases t <;> first | (simp[oK]at hc;done) | skip
     rename_i ta tb
     simp only[oK,Bool.and_eq_true,Bool.not_eq_true',beq_iff_eq,beq_eq_false_iff_ne]at hc
     obtain⟨⟨⟨⟨⟨⟨hnm,hoff⟩,hz⟩,hsz⟩,hag⟩,hch⟩,hrest⟩:=hc
     simp only[cT]at hx
     obtain⟨xa,xb,ex,hxa,hxb⟩:=hx
     have bx:ta.agg=false→ta.size=1:=km
     have lx:xa.length=ta.size:=hxa.size
     have sx1:(cs.drop off).take ta.size=xa:=by rw[ex];exact List.take_left' lx
     have sx2:cs.drop (off+ta.size)=xb:=by rw[←List.drop_drop,ex];exact List.drop_left' lx
     have sx3:off+ta.size≤cs.length:=by
      have:=congrArg List.length ex
      simp only[List.length_drop,List.length_append]at this
      omega
     obtain⟨ux,h1,o1⟩:=kk (w:=w) hag hsz bx (cs:=cs) (off:=off) sx3
     rw[sx1]at o1
     have h3:=hM em n f.type ta hch d (by omega) ux x.1 ⟨_,hxa,o1⟩
     have h4:=ih tb (off+ta.size) hrest x.2 (by rw[sx2];exact hxb)
     rw[List.forIn_cons]
     simp only[ne_eq,hnm,not_false_eq_true,if_true,Sem.run_bind,hoff,h1,h3,Result.andThen_ok,Sem.run_pure]
     exact h4
   have:=key fs.toList t0 0 hfs x (by simpa using hx)
   simp only[Instr.checkKey,Sem.run_bind,run_underlying hT,Result.andThen_ok,Array.forIn_toList]at this ⊢
   exact(congrArg (fun r:Result Unit=>r.andThen fun _ w'=>Sem.run P (pure ()) w') this).trans rfl
  ·cases h
theorem pd{K:TypeId}{kt vt:Ty}(hK:jd P depth K kt=true){v:Value}{x:kt.den}(hx:lR E kt v x):∀(es:List MapEntry) (l:List (kt.den×vt.den)) (i:Nat),Alike (qU E kt vt) es l→
  ∃r,(Instr.findAsking K v es i).run P w= .ok r w∧match r with | none=>gD kt x l=none | some (j,u)=>∃n e,gD kt x l=some n∧j=i+n∧es[n]? =some e∧u=e.val
 |[],[],i,_=>⟨none,by simp[Instr.findAsking],rfl⟩
 |e::es,p::l,i,⟨he,hr⟩=>by
  have hx':=hx
  obtain⟨c1,r1,o1⟩:=hx'
  obtain⟨c2,r2,o2⟩:=he.1
  have heq:(Op.equal K v e.key).run P w= .ok (kt.beq x p.1) w:=jV E depth K kt hK 10000 (by decide) c1 c2 x p.1 v e.key r1 r2 o1 o2
  cases hb:kt.beq x p.1 with
  |true=>
   rw[hb]at heq
   refine⟨some (i,e.val),by simp[Instr.findAsking,heq],0,e,by simp[gD,hb],rfl,rfl,rfl⟩
  |false=>
   rw[hb]at heq
   obtain⟨r,h1,h2⟩:=pd hK hx es l (i+1) hr
   refine⟨r,by simp[Instr.findAsking,heq,h1],?_⟩
   cases r with
   |none=>simp only at h2 ⊢;simp[gD,hb,h2]
   |some u=>
    obtain⟨j,u⟩:=u
    obtain⟨n,e',g1,g2,g3,g4⟩:=h2
    exact⟨n+1,e',by simp[gD,hb,g1],by omega,by simpa using g3,g4⟩
 |[],_::_,_,h=>h.elim
 |_::_,[],_,h=>h.elim
theorem tQ{d:TypeDesc}{kt vt:Ty}{v:Value}{x:kt.den}(hd:∀u y,lR E kt u y→Instr.sameNow d v u=some (kt.beq x y)):∀(es:List MapEntry) (l:List (kt.den×vt.den)) (i:Nat),Alike (qU E kt vt) es l→
  ∃r,Instr.findNow d v es i=some r∧match r with | none=>gD kt x l=none | some (j,u)=>∃n e,gD kt x l=some n∧j=i+n∧es[n]? =some e∧u=e.val
 |[],[],i,_=>⟨none,rfl,rfl⟩
 |e::es,p::l,i,⟨he,hr⟩=>by
  have h0:=hd e.key p.1 he.1
  cases hb:kt.beq x p.1 with
  |true=>
   rw[hb]at h0
   exact⟨some (i,e.val),by simp[Instr.findNow,h0],0,e,by simp[gD,hb],rfl,rfl,rfl⟩
  |false=>
   rw[hb]at h0
   obtain⟨r,h1,h2⟩:=tQ hd es l (i+1) hr
   refine⟨r,by simp[Instr.findNow,h0,h1],?_⟩
   cases r with
   |none=>simp only at h2 ⊢;simp[gD,hb,h2]
   |some u=>
    obtain⟨j,u⟩:=u
    obtain⟨n,e',g1,g2,g3,g4⟩:=h2
    exact⟨n+1,e',by simp[gD,hb,g1],by omega,by simpa using g3,g4⟩
 |[],_::_,_,h=>h.elim
 |_::_,[],_,h=>h.elim
theorem oN{K:TypeId}{kt vt:Ty}(hK:jd P depth K kt=true){v:Value}{x:kt.den}(hx:lR E kt v x){es:List MapEntry}{l:List (kt.den×vt.den)}(h:Alike (qU E kt vt) es l):
  ∃r,(Instr.findKey K v es).run P w= .ok r w∧match r with | none=>gD kt x l=none | some (j,u)=>∃e,gD kt x l=some j∧es[j]? =some e∧u=e.val:=by
 have fin:∀r:Option (Nat×Value),(match r with | none=>gD kt x l=none | some (j,u)=>∃n e,gD kt x l=some n∧j=0+n∧es[n]? =some e∧u=e.val)→match r with | none=>gD kt x l=none | some (j,u)=>∃e,gD kt x l=some j∧es[j]? =some e∧u=e.val:=by
  intro r hr
  cases r with
  |none=>exact hr
  |some u=>
   obtain⟨j,u⟩:=u
   obtain⟨n,e,g1,g2,g3,g4⟩:=hr
   obtain rfl:j=n:=by omega
   exact⟨e,g1,g3,g4⟩
 have scalar:∀d,P.underlying K=some d→(∀u y,lR E kt u y→Instr.sameNow d v u=some (kt.beq x y))→∃r,(Instr.findKey K v es).run P w= .ok r w∧match r with | none=>gD kt x l=none | some (j,u)=>∃e,gD kt x l=some j∧es[j]? =some e∧u=e.val:=by
  intro d hd hs
  obtain⟨r,h1,h2⟩:=tQ hs es l 0 h
  exact⟨r,by simp[Instr.findKey,run_underlying hd,h1],fin r h2⟩
 have agg:∀d,P.underlying K=some d→(∀u y,lR E kt u y→Instr.sameNow d v u=none)→∃r,(Instr.findKey K v es).run P w= .ok r w∧match r with | none=>gD kt x l=none | some (j,u)=>∃e,gD kt x l=some j∧es[j]? =some e∧u=e.val:=by
  intro d hd hs
  cases es with
  |nil=>
   cases l with
   |nil=>exact⟨none,by simp[Instr.findKey,run_underlying hd,Instr.findNow],rfl⟩
   |cons _ _=>exact h.elim
  |cons e es=>
   cases l with
   |nil=>exact h.elim
   |cons p l=>
    have hn:Instr.findNow d v (e::es) 0=none:=by simp[Instr.findNow,hs e.key p.1 h.1.1]
    obtain⟨r,h1,h2⟩:=pd (w:=w) (vt:=vt) hK hx (e::es) (p::l) 0 h
    exact⟨r,by simp[Instr.findKey,run_underlying hd,hn,h1],fin r h2⟩
 have hK0:=hK
 unfold depth at hK0
 simp only[jd]at hK0
 obtain⟨cx,rx,ox⟩:=hx
 split at hK0
 ·rename_i k k' hT
  refine scalar _ hT fun u y ⟨cy,ry,oy⟩=> ?_
  simp only[cT]at rx ry
  have e1:cx=[v]:=ox
  have e2:cy=[u]:=oy
  rw[rx]at e1;rw[ry]at e2
  simp only[List.cons.injEq,and_true]at e1 e2
  subst e1 e2
  simp[Instr.sameNow,Ty.beq]
 ·rename_i hT
  refine scalar _ hT fun u y ⟨cy,ry,oy⟩=> ?_
  simp only[cT]at rx ry
  have e1:cx=[v]:=ox
  have e2:cy=[u]:=oy
  rw[rx]at e1;rw[ry]at e2
  simp only[List.cons.injEq,and_true]at e1 e2
  subst e1 e2
  simp[Instr.sameNow,Ty.beq]
 ·rename_i hT
  refine scalar _ hT fun u y ⟨cy,ry,oy⟩=> ?_
  simp only[cT]at rx ry
  have e1:cx=[v]:=ox
  have e2:cy=[u]:=oy
  rw[rx]at e1;rw[ry]at e2
  simp only[List.cons.injEq,and_true]at e1 e2
  subst e1 e2
  have hs:∀a b:ByteArray,(a==b)=(a.toList==b.toList):=fun a b=>by
   by_cases hab:a=b
   ·subst hab
    rw[(Go.MapKept.bytes_beq a a).2 rfl];simp
   ·have h1:(a==b)=false:=by
     cases h:(a==b) with
     |false=>rfl
     |true=>exact absurd ((Go.MapKept.bytes_beq a b).1 h) hab
    have h2:(a.toList==b.toList)=false:=by
     cases h:(a.toList==b.toList) with
     |false=>rfl
     |true=>exact absurd (beq_eq .str a b rfl h) hab
    rw[h1,h2]
  simp[Instr.sameNow,Ty.beq,hs]
 ·rename_i m e m' t' hT
  exact agg _ hT fun u y _=>by simp[Instr.sameNow]
 ·rename_i t0 _ _ fs hT
  exact agg _ hT fun u y _=>by simp[Instr.sameNow]
 ·cases hK0
end
section
variable {α β:Type} {R:α→β→Prop}
theorem Alike.get:∀ {xs:List α} {ys:List β} {i:Nat} {x:α},Alike R xs ys→xs[i]? =some x→∃y,ys[i]? =some y∧R x y
 |[],_,_,_,_,h=>by simp at h
 |_::_,[],_,_,h,_=>h.elim
 |x::xs,y::ys,0,z,⟨h1,_⟩,h=>by simp at h;subst h;exact⟨y,rfl,h1⟩
 |x::xs,y::ys,i+1,z,⟨_,h2⟩,h=>by simp at h;simpa using Alike.get h2 h
theorem Alike.set{x:α}{y:β}(hx:R x y):∀ {xs:List α} {ys:List β} (i:Nat),Alike R xs ys→Alike R (xs.set i x) (ys.set i y)
 |[],[],_,_=>trivial
 |[],_::_,_,h=>h.elim
 |_::_,[],_,h=>h.elim
 |_::_,_::_,0,⟨_,h2⟩=>⟨hx,h2⟩
 |_::_,_::_,i+1,⟨h1,h2⟩=>⟨h1,Alike.set hx i h2⟩
theorem Alike.push{x:α}{y:β}(hx:R x y):∀ {xs:List α} {ys:List β},Alike R xs ys→Alike R (xs++ [x]) (ys++ [y])
 |[],[],_=>⟨hx,trivial⟩
 |[],_::_,h=>h.elim
 |_::_,[],h=>h.elim
 |_::_,_::_,⟨h1,h2⟩=>⟨h1,Alike.push hx h2⟩
theorem Alike.erase:∀ {xs:List α} {ys:List β} (i:Nat),Alike R xs ys→Alike R (xs.eraseIdx i) (ys.eraseIdx i)
 |[],[],_,_=>by simp[Alike]
 |[],_::_,_,h=>h.elim
 |_::_,[],_,h=>h.elim
 |_::_,_::_,0,⟨_,h2⟩=>h2
 |_::_,_::_,i+1,⟨h1,h2⟩=>⟨h1,Alike.erase i h2⟩
end
theorem oT{E:Env}:∀(v:aC) (t:Ty) (x:t.den) (cs:List Value),V E v cs→(iA t v).eval=some x→cT E t cs x∧v.agg=t.agg∧v.eE=true
 | .d t' x',t,x,cs,hv,h=>by
  have h':(Out.opt (jF t' t x')).eval=some x:=by cases t <;> simpa only[iA]using h
  obtain⟨rfl,h'⟩:=fV (gg.1 h')
  simp only at h'
  subst h'
  simp only[V]at hv
  exact⟨hv,rfl,rfl⟩
 | .da,.slice t,x,cs,hv,h=>by
  simp only[iA,ax]at h
  subst h
  simp only[V]at hv
  simp only[cT]
  exact⟨⟨none,0,[],by simpa using hv,by simp,by simp,fun i v hh=>by simp at hh,rfl⟩,rfl,rfl⟩
 | .pr a b,.pair ta tb,x,cs,hv,h=>by
  simp only[iA]at h
  obtain⟨x1,h1,h2⟩:=aw.1 h
  obtain⟨x2,h3,h4⟩:=aw.1 h2
  obtain rfl:=ax.1 h4
  simp only[V]at hv
  obtain⟨ca,cb,rfl,ha,hb⟩:=hv
  simp only[cT]
  exact⟨⟨ca,cb,rfl,(oT a ta x1 ca ha h1).1,(oT b tb x2 cb hb h3).1⟩,rfl,rfl⟩
 | .da,.int _,_,_,_,h | .da,.bool,_,_,_,h | .da,.str,_,_,_,h | .da,.unit,_,_,_,h | .da,.pair _ _,_,_,_,h | .da,.arr _ _,_,_,_,h=>by simp only[iA,ak]at h
 | .pr _ _,.int _,_,_,_,h | .pr _ _,.bool,_,_,_,h | .pr _ _,.str,_,_,_,h | .pr _ _,.unit,_,_,_,h | .pr _ _,.slice _,_,_,_,h | .pr _ _,.arr _ _,_,_,_,h=>by simp only[iA,ak]at h
 | .undef,t,_,_,_,h | .gone,t,_,_,_,h | .kc,t,_,_,_,h | .ka,t,_,_,_,h | .lJ,t,_,_,_,h | .ptr ..,t,_,_,_,h | .ej ..,t,_,_,_,h | .bU ..,t,_,_,_,h | .fn ..,t,_,_,_,h
 | .cons ..,t,_,_,_,h | .nil,t,_,_,_,h | .vec ..,t,_,_,_,h | .sb _,t,_,_,_,h | .bx ..,t,_,_,_,h | .jt ..,t,_,_,_,h | .mp ..,t,_,_,_,h=>by cases t <;> simp only[iA,ak]at h
theorem tj{v:aC}{t:Ty}{x:t.den}(h:(iA t v).eval=some x):v.eE=true:=by
 cases v <;> first | rfl | (cases t <;> simp only[iA,ak]at h)
theorem mE{E:Env}{v:aC}{y:Value}(hv:VS E v y){t:Ty}{x:t.den}(h:(iA t v).eval=some x):lR E t y x:=by
 obtain⟨cs,h1,h2⟩:=hv.eE (tj h)
 obtain⟨h3,h4,_⟩:=oT v t x cs h1 h
 exact⟨cs,h3,by rw[←h4];exact h2⟩
theorem nG{P:Program}{T K V':TypeId}{kt vt:Ty}(h:mapOf P T=some (K,V',kt,vt)):P.underlying T=some (.map K V')∧jd P depth K kt=true∧vq P V' (.d vt vt.zero)=true:=by
 unfold mapOf at h
 split at h
 ·rename_i K0 V0 hT
  split at h
  ·split at h
   ·rename_i hc
    simp only[Option.some.injEq,Prod.mk.injEq]at h
    obtain⟨rfl,rfl,rfl,rfl⟩:=h
    rw[Bool.and_eq_true]at hc
    exact⟨hT,hc.1,hc.2⟩
   ·cases h
  ·cases h
 ·cases h
theorem vO{k v k' v':Ty}{l:List (k.den×v.den)}{l':List (k'.den×v'.den)}(h:xH k v k' v' l=some l'):∃(e1:k=k') (e2:v=v'),(e1▸e2▸l)=l':=by
 unfold xH at h
 split at h
 ·rename_i e;exact⟨e.1,e.2,by simpa using h⟩
 ·cases h
section
variable {P:Program} {C:Ctx} {g:Nat→ix} {β:Id→Option Pl} {s:AS} {a:Act} {w:World} {o:Oper}
theorem mA(h:Inv C g β s a w){id:Id}{ver:Nat}{kt vt:Ty}{l:List (kt.den×vt.den)}(ho:(s.jK id ver kt vt).eval=some l){y:Value}(hv:VS (s.env w g β) (.jt id ver) y):
  ∃fr pl es clock,s.ck id=some (.obj ver fr (.mp kt vt l))∧β id=some pl∧y= .map (some pl.b)∧w.heap[pl.b]? =some (.map es clock)∧g pl.b= .own (.id id) 0∧Alike (qU (s.env w g β) kt vt) es.toList l:=by
 unfold AS.jK at ho
 split at ho
 ·rename_i v fr k' v' l' hob
  obtain⟨hve,ho2⟩:=aE.1 ho
  have hve:v=ver:=by simpa using hve
  obtain⟨rfl,rfl,rfl⟩:=vO (gg.1 ho2)
  subst hve
  have hent:=eB hob
  obtain⟨pl,es,clock,h1,h2,h3,h4⟩:=h.bN id v fr _ hent
  have hs:=hv.single rfl rfl
  simp only[V]at hs
  obtain⟨b,hb,_,hc⟩:=hs
  obtain⟨pl',h5,h6⟩:=hc ⟨fr,_,hent⟩
  have h1:β id=some pl:=h1
  have h5:β id=some pl':=h5
  rw[h1]at h5
  obtain rfl:pl=pl':=by simpa using h5
  refine⟨fr,pl,es,clock,hent,h1,?_,h2,h3,h4⟩
  have hb:y= .map (some b):=by simpa using hb
  rw[hb,h6]
 ·simp only[ak]at ho
theorem uU(h:Inv C g β s a w){T:TypeId}(hop:o.op= .makeMap T none){s':AS}(he:(nF P s o.dst T).eval=some s'):eZ P o a w (fQ C s'):=by
 unfold nF at he
 split at he
 ·rename_i K V' kt vt q hm hd
  obtain⟨hq,he⟩:=aE.1 he
  obtain rfl:=ax.1 he
  have ht:=Trans.alloc w g (.map #[] 0) (.own (.id (.new q 0)) 0)
  obtain⟨h1,h2⟩:=h.uz hq (c:= .mp kt vt []) (p:=some ⟨w.heap.size,0⟩) ht (fun b hb=>⟨lT w _ hb,fv _ _ _ (by omega)⟩) (fun _=>
   ⟨⟨w.heap.size,0⟩,#[],0,iv _ _ _,lS w _,fa _ _ _,trivial⟩)
  refine .inl ⟨.map (some w.heap.size),w.alloc (.map #[] 0),?_,_,_,h1.put o.dst (v:= .jt (.new q 0) 0) ⟨[.map (some w.heap.size)],?_,rfl⟩⟩
  ·refine dR (f:=Instr.makeMap T none) (by simp only[execOp,hop];rfl) ?_
   simp[Instr.makeMap,run_newObj_alloc]
  ·simp only[V]
   exact⟨_,rfl,kM hq _ _ _ _,fun _=>⟨_,iv _ _ _,rfl⟩⟩
 ·simp only[ak]at he
theorem lR.vs{E:Env}{t:Ty}{v:Value}{x:t.den}(h:lR E t v x):VS E (.d t x) v:=by
 obtain⟨cs,h1,h2⟩:=h
 exact⟨cs,by simpa only[V]using h1,h2⟩
theorem wo(h:Inv C g β s a w){T:TypeId}{x i:Operand}{ok:Bool}(hop:o.op= .lookup T x i ok){v:aC}(he:(my P s T (s.ev x) (s.ev i) ok).eval=some v):eZ P o a w (fQ C (s.put o.dst v)):=by
 unfold my at he
 split at he
 ·rename_i K V' kt vt id ver hm hx
  obtain⟨l,h1,he⟩:=aw.1 he
  obtain⟨k,h2,he⟩:=aw.1 he
  obtain rfl:=ax.1 he
  obtain⟨hT,hK,hz⟩:=nG hm
  have hvx:=h.ev x
  rw[hx]at hvx
  obtain⟨fr,pl,es,clock,g1,g2,g3,g4,g5,g6⟩:=mA h h1 hvx
  have hk:=mE (h.ev i) h2
  have hck:=hM (P:=P) (w:=w) es.isEmpty depth K kt hK 10000 (by decide) _ _ hk
  obtain⟨r,hf,hr⟩:=oN (P:=P) (w:=w) hK hk g6
  obtain⟨iz,zv,z1,z2,z3,z4⟩:=jU hz (s.env w g β)
  have hzr:lR (s.env w g β) vt zv vt.zero:=⟨_,by simpa only[V]using z3,z4⟩
  have hzero:(zeroValue V').run P w= .ok zv w:=by simp[zeroValue,typeInfo,z1,z2]
  obtain⟨val,hrun,hval⟩:∃val:Value×Bool,(Instr.lookup T (a.eval x) (a.eval i) ok).run P w= .ok (if ok then .tuple #[val.1,.bool val.2] else val.1) w∧lR (s.env w g β) vt val.1 ((ow kt k l).getD vt.zero)∧val.2=(ow kt k l).isSome:=by
   cases r with
   |none=>
    simp only at hr
    have hg:ow kt k l=none:=by simp[ow,hr]
    refine⟨(zv,false),?_,by rw[hg];exact hzr,by rw[hg];rfl⟩
    simp[Instr.lookup,run_underlying hT,g3,Go.MapKept.run_getObj_map g4,hck,hf,hzero]
   |some u=>
    obtain⟨j,u⟩:=u
    obtain⟨e,m1,m2,rfl⟩:=hr
    obtain⟨p,m3,m4⟩:=g6.get m2
    have hg:ow kt k l=some p.2:=by simp[ow,m1,m3]
    refine⟨(e.val,true),?_,by rw[hg];exact m4.2,by rw[hg];rfl⟩
    simp[Instr.lookup,run_underlying hT,g3,Go.MapKept.run_getObj_map g4,hck,hf]
  refine h.value (x:=if ok then .tuple #[val.1,.bool val.2] else val.1) ?_ (dR (f:=Instr.lookup T (a.eval x) (a.eval i) ok) (by simp only[execOp,hop]) hrun)
  unfold CR
  cases ok with
  |true=>
   obtain⟨cs,c1,c2⟩:=hval.1
   refine⟨[val.1,.bool val.2],rfl,?_⟩
   simp only[VC]
   refine⟨_,_,cs,rfl,by simpa only[V]using c1,c2,_,_,[.bool val.2],rfl,?_,rfl,rfl⟩
   simp only[V,cT,hval.2]
  |false=>exact hval.1.vs
 ·simp only[ak]at he
theorem Inv.BD(h:Inv C g β s a w){id:Id}{ver:Nat}{fr:Bool}{kt vt:Ty}{l l':List (kt.den×vt.den)}{pl:Pl}{es es':Array MapEntry}{clock clock':Nat}(hent:s.ck id=some (.obj ver fr (.mp kt vt l)))(hp:β id=some pl)
  (hb:w.heap[pl.b]? =some (.map es clock)) (hg:g pl.b= .own (.id id) 0) (hr:Alike (qU (s.env w g β) kt vt) es'.toList l'):
  Inv C g β (s.bz id (.obj ver false (.mp kt vt l'))) a {w with heap:=w.heap.setIfInBounds pl.b (.map es' clock')}:=by
 have hlt:pl.b < w.heap.size:=(Array.getElem?_eq_some_iff.1 hb).1
 have hother:∀b',b'≠pl.b→({w with heap:=w.heap.setIfInBounds pl.b (.map es' clock')}:World).heap[b']? =w.heap[b']? :=fun b' hne=>by
  show(w.heap.setIfInBounds pl.b _)[b']? =_
  rw[Array.getElem?_setIfInBounds,if_neg (fun e=>hne e.symm)]
 have ht:Trans w {w with heap:=w.heap.setIfInBounds pl.b (.map es' clock')} g g:=by
  refine⟨rfl,rfl,rfl,by simp,fun b' _=> ?_⟩
  by_cases he:b'=pl.b
  ·subst he
   rw[hg]
   exact⟨.inr ⟨id,0,rfl,Nat.le_refl _⟩,fun _ _ hh=>by omega⟩
  ·rw[hother b' he]
   cases hgb:g b' with
   |free=>exact⟨rfl,rfl⟩
   |own o' k=>cases o' with
    |eQ=>exact⟨rfl,rfl⟩
    |id i'=>exact⟨.inr ⟨i',k,rfl,Nat.le_refl _⟩,fun off v _ hv=>by simpa only[World.cell?,hother b' he]using hv⟩
 have hle:cW (s.env w g β) ((s.bz id (.obj ver false (.mp kt vt l'))).env {w with heap:=w.heap.setIfInBounds pl.b (.map es' clock')} g β):=cW.bz hent (Nat.le_refl _) ht (fun _ _=>rfl) (fun _=>rfl)
 refine h.step (dK _ _ _) ht hle (gz.bz h.bN (by rw[hent];simp) hle (fun _ _=>rfl) (fun i ver fr c pl2 hi hs2 hp2=>⟨hother _ (h.apart hg hi hs2 hp2),rfl⟩) ?_)
 refine⟨pl,es',clock',hp,?_,hg,hr.mono fun _ _ he=>he.mono hle.mem⟩
 show(w.heap.setIfInBounds pl.b _)[pl.b]? =_
 rw[Array.getElem?_setIfInBounds,if_pos rfl,if_pos hlt]
theorem wz(h:Inv C g β s a w){T:TypeId}{m k x:Operand}(hop:o.op= .mapUpdate T m k x){s':AS}(he:(mB P s T (s.ev m) (s.ev k) (s.ev x)).eval=some s'):eZ P o a w (fQ C (s'.put o.dst .undef)):=by
 unfold mB at he
 split at he
 ·rename_i K V' kt vt id ver hm hx
  obtain⟨l,h1,he⟩:=aw.1 he
  obtain⟨kx,h2,he⟩:=aw.1 he
  obtain⟨vx,h3,he⟩:=aw.1 he
  obtain rfl:=ax.1 he
  obtain⟨hT,hK,_⟩:=nG hm
  have hvx:=h.ev m
  rw[hx]at hvx
  obtain⟨fr,pl,es,clock,g1,g2,g3,g4,g5,g6⟩:=mA h h1 hvx
  have hk:=mE (h.ev k) h2
  have hv:=mE (h.ev x) h3
  have hck:=hM (P:=P) (w:=w) false depth K kt hK 10000 (by decide) _ _ hk
  obtain⟨r,hf,hr⟩:=oN (P:=P) (w:=w) hK hk g6
  have hcomp:=oJ depth K kt hK
  have fin:∀(es':Array MapEntry) (clock':Nat),(Instr.mapUpdate T (a.eval m) (a.eval k) (a.eval x)).run P w= .ok () {w with heap:=w.heap.setIfInBounds pl.b (.map es' clock')}→Alike (qU (s.env w g β) kt vt) es'.toList (oz kt kx vx l)→
    eZ P o a w (fQ C ((s.bz id (.obj ver false (.mp kt vt (oz kt kx vx l)))).put o.dst .undef)):=fun es' clock' hrun hal=>
   .inr (.inl ⟨_,tC (f:=Instr.mapUpdate T (a.eval m) (a.eval k) (a.eval x)) (by simp only[execOp,hop]) hrun,g,β,(h.BD g1 g2 g4 g5 hal).put o.dst VS.undef⟩)
  cases r with
  |none=>
   simp only at hr
   refine fin (es.push {key:=a.eval k,val:=a.eval x,born:=clock}) (clock+1) ?_ ?_
   ·simp[Instr.mapUpdate,run_underlying hT,g3,Go.MapKept.run_getObj_map g4,hck,hf,Go.MapKept.run_setObj_map _ g4]
   ·simp only[oz,hr,Array.toList_push]
    exact g6.push ⟨hk,hv⟩
  |some u=>
   obtain⟨j,u⟩:=u
   obtain⟨e,m1,m2,rfl⟩:=hr
   obtain⟨p,m3,m4⟩:=g6.get m2
   have hbeq:kt.beq kx p.1=true:=by
    have:∀(l:List (kt.den×vt.den)) (j:Nat),gD kt kx l=some j→∀p,l[j]? =some p→kt.beq kx p.1=true:=by
     intro l
     induction l with
     |nil=>intro j hj;simp[gD]at hj
     |cons q l ih=>
      intro j hj p hp
      simp only[gD]at hj
      cases hb:kt.beq kx q.1 with
      |true=>
       rw[hb]at hj
       simp only[Option.some.injEq]at hj
       subst hj
       simp at hp
       subst hp
       exact hb
      |false=>
       rw[hb]at hj
       simp only[Option.map_eq_some_iff]at hj
       obtain⟨j',hj',rfl⟩:=hj
       exact ih j' hj' p (by simpa using hp)
    exact this l j m1 p m3
   have hxe:=beq_eq kt kx p.1 hcomp hbeq
   have hkey:e.key=a.eval k:=lR.Dd hcomp (hxe▸m4.1) hk
   have m2':es[j]? =some e:=by simpa using m2
   refine fin (es.modify j fun e=> {e with key:=a.eval k,val:=a.eval x}) clock ?_ ?_
   ·simp[Instr.mapUpdate,run_underlying hT,g3,Go.MapKept.run_getObj_map g4,hck,hf,m2',hkey,Ah hcomp hk,Go.MapKept.run_setObj_map _ g4]
   ·simp only[oz,m1,Array.toList_modify]
    rw[Go.ChangeMaps.modify_eq_set _ _ _ _ m2]
    exact Alike.set (R:=qU (s.env w g β) kt vt) ⟨hk,hv⟩ j g6
 ·simp only[ak]at he
end
end Go.Ab
namespace Go.Ab
section
variable {P:Program} {C:Ctx} {g:Nat→ix} {β:Id→Option Pl} {s:AS} {a:Act} {w:World} {o:Oper}
theorem lE{b:Builtin}{args:Array Operand}{ts:Array TypeId}{f:Sem Value}{x:Value}{w':World}(ho:o.op= .call {callee:= .builtin b,args,argTypes:=ts})
  (hb:∀ty cs xs,xs=args.map a.eval→builtin b ts ty cs xs=(do pure (.value (←f)))) (hf:f.run P w= .ok x w'):(execOp a.eval o).run P w= .ok (.value x) w':=by
 simp only[execOp,ho,resolve,Sem.run_bind,Sem.run_pure,Result.andThen_ok,invoke]
 rw[hb _ _ _ rfl,Sem.run_bind,hf]
 rfl
theorem Bd(h:Inv C g β s a w){c:Call}{x:Operand}{T:TypeId}(ho:o.op= .call c)(hc:c.callee= .builtin .len)(ha:c.args.toList=[x])(ht:c.argTypes.toList=[T]){v:aC}(he:(Co P T (s.ev x)).eval=some v):
  eZ P o a w (fQ C (s.put o.dst v)):=by
 obtain⟨cal,args,tys⟩:=c
 simp only at hc ha ht
 have ha':args= #[x]:=by apply Array.ext';simpa using ha
 have ht':tys= #[T]:=by apply Array.ext';simpa using ht
 subst hc ha' ht'
 have hx:=h.ev x
 have fin:∀z,(Builtin.len_ #[T] 0 #[a.eval x]).run P w= .ok z w→VS (s.env w g β) v z→eZ P o a w (fQ C (s.put o.dst v)):=by
  intro z h1 h2
  refine h.value h2 (lE ho (f:=Builtin.len_ #[T] 0 #[a.eval x]) (fun ty cs xs hxs=> ?_) h1)
  subst hxs
  have e1:Builtin.len_ #[T] 0 #[a.eval x]=Builtin.len_ #[T] ty #[a.eval x]:=rfl
  rw[e1]
  simp[builtin]
 unfold Co at he
 split at he
 ·rename_i st hT hl
  rw[hl]at hx
  obtain rfl:=ax.1 he
  refine fin (.int .i64 (st.size:Int)) ?_ (gJ _ _)
  rw[mJ hx]
  simp[Builtin.len_,run_underlying hT,goInt]
 ·rename_i e t l hT hl
  rw[hl]at hx
  obtain rfl:=ax.1 he
  obtain⟨ad,cap,vs,hy,_⟩:=ko hx
  refine fin (.int .i64 (l.length:Int)) ?_ (gJ _ _)
  rw[hy]
  simp[Builtin.len_,run_underlying hT,goInt]
 ·rename_i e hT hl
  rw[hl]at hx
  obtain rfl:=ax.1 he
  refine fin (.int .i64 0) ?_ (gJ _ _)
  rw[gQ hx]
  simp[Builtin.len_,run_underlying hT,goInt]
 ·rename_i e id ver p c i len hT hl
  rw[hl]at hx
  obtain rfl:=ax.1 he
  obtain⟨ad,cap,hy,_⟩:=j4 hx
  refine fin (.int .i64 (len:Int)) ?_ (gJ _ _)
  rw[hy]
  simp[Builtin.len_,run_underlying hT,goInt]
 ·rename_i n e hT
  obtain rfl:=ax.1 he
  refine fin (.int .i64 (n:Int)) ?_ (gJ _ _)
  simp[Builtin.len_,run_underlying hT,goInt]
 ·simp only[ak]at he
def Env.open(E:Env):Env:= {E with g:=fun _=> .free}
theorem Cv(E:Env):cW E E.open:=⟨⟨fun _ _ _ h=>⟨h.1,trivial⟩,fun _ _ _ h=>⟨rfl,h⟩⟩,fun _ _ h=>h,fun _ _ _ h=>⟨h,rfl⟩⟩
theorem yg(h:Inv C g β s a w){v:aC}{y:Value}(hv:VS (s.env w g β) v y){t:Ty}{x:t.den}(ht:(s.yf t v).eval=some x):
  ∃cs,cT (s.env w g β).open t cs x∧fe t.agg cs y:=by
 obtain⟨cs,hV,hO⟩:=hv.eE (lC ht)
 exact⟨cs,kp rfl h.bN (Cv _) v t x cs hV ht (fun id _ v fr c _ pl _ j x hx _=>⟨hx,trivial⟩),by rw[←sQ ht];exact hO⟩
theorem lv{E:Env}{k:IntKind}:∀ {vs:List Value} {l:List Int},bg (cT E (.int k)) vs l→vs=l.map (Value.int k)
 |vs,[],h=>h
 |_,x::xs,⟨c,cs',e,hx,hr⟩=>by
  have hx':c=[Value.int k x]:=by simpa only[cT]using hx
  rw[e,hx',lv hr]
  rfl
theorem j8{E:Env}{k:IntKind}:∀(l:List Int),bg (cT E (.int k)) (l.map (Value.int k)) l
 |[]=>rfl
 |x::xs=>⟨[.int k x],xs.map (Value.int k),rfl,by simp[cT],j8 xs⟩
theorem foldl_push(l:List Int):∀b:ByteArray,l.foldl (fun r n=>r.push (UInt8.ofNat n.toNat)) b=⟨b.data++(l.map fun n=>UInt8.ofNat n.toNat).toArray⟩:=by
 induction l with
 |nil=>intro b;simp
 |cons n l ih=>
  intro b
  rw[List.foldl_cons,ih]
  simp[ByteArray.push]
theorem wV{α:Type}(xs:Array α)(x:α)(f:α→α):(xs.push x).modify xs.size f=xs.push (f x):=by
 apply Array.ext_getElem?
 intro i
 rw[Array.getElem?_modify,Array.getElem?_push,Array.getElem?_push]
 by_cases h:i=xs.size
 ·subst h;simp
 ·have h':¬xs.size=i:=fun e=>h e.symm
  simp[h,h']
theorem uK(w:World)(c:Array Value)(e:TypeId)(n:Nat):(w.alloc (.cells c e)).freeze ⟨w.heap.size,n,none⟩ 1=w.alloc (.cells c e (n,n+1)):=by
 show({w with heap:=(w.heap.push (.cells c e)).modify w.heap.size _}:World)= {w with heap:=w.heap.push (.cells c e (n,n+1))}
 rw[wV]
 rfl
theorem vZ{w:World}{b:Nat}{c:Array Value}{e:TypeId}{n:Nat}(h:w.heap[b]? =some (.cells c e (n,n+1))):w.freeze ⟨b,n,none⟩ 1=w:=by
 unfold World.freeze
 rw[if_neg (by omega)]
 have:∀f:Obj→Obj,f (.cells c e (n,n+1))= .cells c e (n,n+1)→w.heap.modify b f=w.heap:=fun f hf=>by
  apply Array.ext_getElem?
  intro i
  rw[Array.getElem?_modify]
  split
  ·rename_i hi;subst hi;rw[h];simp[hf]
  ·rfl
 rw[this]
 simp
theorem pO(e:TypeId)(st:ByteArray)(w:World):∃cap:Nat,st.size≤cap∧∃arr:Array Value,(∀(j:Nat) (v:Value),((bk st).map (Value.int .u8))[j]? =some v→arr[j]? =some v)∧
  (Conv.stringToBytes e st).run P w= .ok (.slice (some ⟨w.heap.size,0,none⟩) st.size cap) (w.drew.alloc (.cells arr e (arr.size,arr.size+1))):=by
 refine⟨(Question.appendCap st.size 0 e).cut (w.tape w.drawn (.appendCap st.size 0 e)),by simp[Question.cut],
  (st.data.map fun b=>Value.int .u8 b.toNat)++Array.replicate ((Question.appendCap st.size 0 e).cut (w.tape w.drawn (.appendCap st.size 0 e)) - st.size) (.int .u8 0),?_,?_⟩
 ·intro j v hj
  have hl:j < st.data.size:=by
   have:=(List.getElem?_eq_some_iff.1 hj).1
   simpa[bk]using this
  rw[Array.getElem?_append,if_pos (by simpa using hl)]
  simpa[bk,hl]using hj
 ·have hs:∀(arr:Array Value),(markStringish ⟨w.heap.size,0,none⟩).run P (w.drew.alloc (.cells arr e))= .ok () (w.drew.alloc (.cells arr e (arr.size,arr.size+1))):=by
   intro arr
   have h1:(w.drew.alloc (.cells arr e)).shape? w.heap.size=some (e,arr.size):=by
    have h2:(w.drew.alloc (.cells arr e)).heap[w.heap.size]? =some (.cells arr e):=lS w.drew _
    simp only[World.shape?,h2]
   have h3:=uK w.drew arr e arr.size
   have h4:w.drew.heap.size=w.heap.size:=rfl
   rw[h4]at h3
   simp only[markStringish,Sem.run_bind,run_shape,h1,Result.andThen_ok,run_freeze,h3]
  simp[Conv.stringToBytes,Question.forced,newRow,hs]
theorem Inv.kill(h:Inv C g β s a w){id:Id}{v:Nat}{fr:Bool}{c:aC}(hs:s.ck id=some (.obj v fr c)){b:Nat}(hg:g b= .own (.id id) 0){w':World}(hos:w'.os=w.os)(htp:w'.tape=w.tape)(hout:w'.output=w.output)(hsz:w'.heap.size=w.heap.size)
  (hoth:∀b',b'≠b→w'.heap[b']? =w.heap[b']?):Inv C (iM g b .free) β (s.bz id .dead) a w':=by
 have ht:Trans w w' g (iM g b .free):=by
  refine⟨hos,htp,hout,by omega,fun b' hb'=> ?_⟩
  by_cases he:b'=b
  ·subst he
   rw[hg,fa]
   exact⟨.inl rfl,fun _ _ hh=>by omega⟩
  ·rw[fv _ _ _ he,hoth b' he]
   cases hgb:g b' with
   |free=>exact⟨rfl,rfl⟩
   |own o k=>cases o with
    |eQ=>exact⟨rfl,rfl⟩
    |id i=>exact⟨.inr ⟨i,k,rfl,Nat.le_refl _⟩,fun off v _ hv=>by simp only[World.cell?,hoth b' he]at hv ⊢;exact hv⟩
 have hself:=eS s id .dead (by rw[hs];simp)
 have hle:cW (s.env w g β) ((s.bz id .dead).env w' (iM g b .free) β):=by
  refine⟨Trans.mem ht,fun i ver hb=> ?_,fun i ver hb hc=> ?_⟩
  ·by_cases hi:i=id
   ·subst hi
    exact⟨by show(s.bz i .dead).ck i≠none;rw[hself];simp,fun v fr c hh=>by
     have hh:(s.bz i .dead).ck i=some (.obj v fr c):=hh
     rw[hself]at hh;cases hh⟩
   ·have:=dW s id i .dead hi
    obtain⟨h1,h2⟩:=hb
    exact⟨by show(s.bz id .dead).ck i≠none;rw[this];exact h1,fun v fr c hh=>h2 v fr c (this.symm.trans hh)⟩
  ·obtain⟨fr,c,hc⟩:=hc
   have hc:(s.bz id .dead).ck i=some (.obj ver fr c):=hc
   by_cases hi:i=id
   ·subst hi;rw[hself]at hc;cases hc
   ·rw[dW s id i .dead hi]at hc
    exact⟨⟨fr,c,hc⟩,rfl⟩
 refine h.step (dK _ _ _) ht hle fun i ver fr c hi=> ?_
 have hi:(s.bz id .dead).ck i=some (.obj ver fr c):=hi
 by_cases hid:i=id
 ·subst hid;rw[hself]at hi;cases hi
 ·rw[dW s id i .dead hid]at hi
  refine(h.bN i ver fr c hi).mono hle rfl fun pl hp=> ?_
  have hne:=h.apart hg hid hi (pl:=pl) hp
  exact⟨hoth pl.b hne,fv _ _ _ hne⟩
theorem xI(h:Inv C g β s a w){src dst:TypeId}{x:Operand}(ho:o.op= .convert src dst x){id:Id}{ver len:Nat}(hx:s.ev x= .bU id ver [] 0 0 len){s':AS}(he:(vQ P s o.dst src dst id ver len).eval=some s'):eZ P o a w (fQ C s'):=by
 unfold vQ at he
 split at he
 ·rename_i v e0 l e hob hD
  split at he
  ·rename_i hE
   obtain⟨h1,h2⟩:=aE.1 he
   obtain⟨h3,h4⟩:=bF.1 h2
   obtain rfl:=ax.1 h4
   simp only[Bool.and_eq_true,beq_iff_eq]at h1
   obtain⟨rfl,rfl⟩:=h1
   simp only[decide_eq_true_eq]at h3
   obtain⟨h5,h6⟩:=h3
   have hent:=eB hob
   have hv:=h.ev x
   rw[hx]at hv
   obtain⟨ad,cap,hy,hcap,_,_,hcur⟩:=j4 hv
   have hcur:=hcur ⟨false,_,hent⟩
   have hO:mh (s.env w g β) id false (.vec e0 (.int .u8) l):=h.bN id v false _ hent
   obtain⟨hz,hO⟩:=hO
   have hO:(match β id with
    |none=>l=[]
    |some pl=>∃cur k,w.heap[pl.b]? =some (.cells cur e0 (0,0))∧cur.size=pl.cap*(Ty.int .u8).size∧l.length≤pl.cap∧pl.cap≤maxLen∧g pl.b= .own (.id id) k∧
      k≤l.length*(Ty.int .u8).size∧(false=false→k=0)∧bg (cT (s.env w g β) (.int .u8)) (cur.toList.take (l.length*(Ty.int .u8).size)) l):=hO
   have hcur:(match β id with
    |some pl=>(0 < len∨0=0→ad=some ⟨pl.b,0,none⟩)∧(([]:List pa)=[]→0=0→cap=pl.cap)
    |none=>ad=none∧len=0∧cap=0):=hcur
   cases hp:β id with
   |none=>rw[hp]at hO;simp only at hO;subst hO;simp at h6;omega
   |some pl=>
    rw[hp]at hO hcur
    obtain⟨cur,k,q1,q2,q3,q4,q5,q6,q7,q8⟩:=hO
    have hk:=q7 rfl
    subst hk
    have had:=hcur.1 (.inr rfl)
    subst had
    have hb:pl.b < w.heap.size:=(Array.getElem?_eq_some_iff.1 q1).1
    have hfz:∃w',w.freeze ⟨pl.b,cur.size,none⟩ 1=w'∧w'.heap[pl.b]? =some (.cells cur e0 (cur.size,cur.size+1))∧w'.os=w.os∧w'.tape=w.tape∧w'.output=w.output∧w'.heap.size=w.heap.size∧∀b',b'≠pl.b→w'.heap[b']? =w.heap[b']? :=by
     refine⟨_,rfl,?_⟩
     unfold World.freeze
     rw[if_neg (by omega)]
     refine⟨?_,rfl,rfl,rfl,by simp,fun b' hb'=> ?_⟩
     ·simp only[Array.getElem?_modify,if_true,q1,Option.map_some]
      rfl
     ·simp only[Array.getElem?_modify]
      rw[if_neg (fun e=>hb' e.symm)]
    obtain⟨w',hw',f1,f2,f3,f4,f5,f6⟩:=hfz
    have hsh:w.shape? pl.b=some (e0,cur.size):=by simp only[World.shape?,q1]
    have hm:(markStringish ⟨pl.b,0,none⟩).run P w= .ok () w':=by
     simp only[markStringish,Sem.run_bind,run_shape,hsh,Result.andThen_ok,run_freeze,hw']
    have i1:=h.kill hent q5 f2 f3 f4 f5 f6
    refine .inl ⟨.slice (some ⟨pl.b,0,none⟩) len cap,w',dR (f:=convert src src (a.eval x)) (by simp only[execOp,ho]) ?_,_,β,i1.put o.dst ⟨_,?_,rfl⟩⟩
    ·rw[hy]
     simp[convert,run_underlying hD,run_underlying hE,hm]
    ·have hvs:=lv q8
     have hone:(Ty.int .u8).size=1:=rfl
     rw[hone,Nat.mul_one]at hvs
     simp only[V,cT]
     refine⟨_,cap,l.map (Value.int .u8),by rw[h6],by rw[←h6];exact hcap,fun _=>rfl,fun j vv hj=>⟨_,_,rfl,?_,?_⟩,j8 (E:=(s.bz id .dead).env w' (iM g pl.b .free) β) _⟩
     ·rw[Nat.zero_add]
      show w'.cell? ⟨pl.b,j,none⟩=some vv
      simp only[World.cell?,f1]
      rw[←hvs,List.getElem?_take]at hj
      split at hj
      ·simpa using hj
      ·cases hj
     ·show kf (iM g pl.b .free) pl.b (0+j)
      unfold kf
      rw[fa]
      trivial
  ·simp only[ak]at he
 ·simp only[ak]at he
theorem B8(h:Inv C g β s a w){src dst:TypeId}{x:Operand}(ho:o.op= .convert src dst x){l:List Int}(hl:s.ev x= .sb l){v:aC}(he:(AR P src dst l).eval=some v):eZ P o a w (fQ C (s.put o.dst v)):=by
 have hx:=h.ev x
 have fin:∀z,(convert src dst (a.eval x)).run P w= .ok z w→VS (s.env w g β) v z→eZ P o a w (fQ C (s.put o.dst v)):=by
  intro z h1 h2
  exact h.value h2 (dR (f:=convert src dst (a.eval x)) (by simp only[execOp,ho]) h1)
 unfold AR at he
 split at he
 ·rename_i e e' hD hS
  rw[hl]at hx
  split at he
  ·rename_i hE
   obtain⟨h1,h2⟩:=aE.1 he
   obtain rfl:=ax.1 h2
   have h1:src=dst:=by simpa using h1
   subst h1
   obtain⟨cs,hv,hO⟩:=hx
   simp only[V]at hv
   obtain⟨b,cap,arr,e2,hcs,hcap,hfr,hb,harr⟩:=hv
   have hO':cs=[a.eval x]:=hO
   rw[hcs]at hO'
   have hy:a.eval x= .slice (some ⟨b,0,none⟩) l.length cap:=by simpa using hO'.symm
   rw[hD]at hS
   obtain rfl:e=e':=by simpa using hS
   refine fin (.slice (some ⟨b,0,none⟩) l.length cap) ?_ ⟨_,?_,rfl⟩
   ·rw[hy]
    have hb:w.heap[b]? =some (.cells arr e2 (arr.size,arr.size+1)):=hb
    have hfz:=vZ hb
    have hsh:w.shape? b=some (e2,arr.size):=by simp only[World.shape?,hb]
    have hm:(markStringish ⟨b,0,none⟩).run P w= .ok () w:=by
     simp only[markStringish,Sem.run_bind,run_shape,hsh,Result.andThen_ok,run_freeze,hfz]
    simp[convert,run_underlying hD,run_underlying hE,hm]
   ·simp only[V,cT]
    refine⟨_,cap,l.map (Value.int .u8),rfl,hcap,fun _=>rfl,fun j v hj=>⟨_,_,rfl,?_,?_⟩,j8 (E:=s.env w g β) _⟩
    ·rw[Nat.zero_add]
     show w.cell? ⟨b,j,none⟩=some v
     have hb:w.heap[b]? =some (.cells arr e2 (arr.size,arr.size+1)):=hb
     simp only[World.cell?,hb]
     simpa using harr j v hj
    ·show kf g b (0+j)
     unfold kf
     have hfr:g b= .free:=hfr
     rw[hfr]
     trivial
  ·simp only[ak]at he
 ·simp only[ak]at he
theorem uC(h:Inv C g β s a w){obj:Bool}{src dst:TypeId}{x:Operand}(ho:o.op= .convert src dst x){v:aC}(he:(tx P s obj src dst (s.ev x)).eval=some v):eZ P o a w (fQ C (s.put o.dst v)):=by
 have hx:=h.ev x
 have fin:∀z,(convert src dst (a.eval x)).run P w= .ok z w→VS (s.env w g β) v z→eZ P o a w (fQ C (s.put o.dst v)):=by
  intro z h1 h2
  exact h.value h2 (dR (f:=convert src dst (a.eval x)) (by simp only[execOp,ho]) h1)
 unfold tx at he
 split at he
 ·rename_i l hl
  exact B8 h ho hl he
 rename_i hl0
 unfold AQ at he
 split at he
 ·rename_i k n k' d hl hD hS
  rw[hl]at hx
  obtain rfl:=ax.1 he
  refine fin (.int k' (k'.wrap n)) ?_ (gJ _ _)
  rw[kW hx]
  simp[convert,run_underlying hD,run_underlying hS,Conv.intToInt]
 ·rename_i st d hl hD hS
  rw[hl]at hx
  obtain rfl:=ax.1 he
  refine fin (.string st) ?_ (uo _)
  rw[mJ hx]
  simp[convert,run_underlying hD,run_underlying hS]
 ·rename_i st e d hl hD hS
  rw[hl]at hx
  split at he
  ·rename_i hE
   obtain⟨cap,hcap,arr,harr,hrun⟩:=pO (P:=P) e st w
   have i1:=(h.drew).nT (.cells arr e (arr.size,arr.size+1))
   have hlen:(bk st).length=st.size:=by simp only[bk,List.length_map,Array.length_toList];rfl
   have h2:=lS w.drew (.cells arr e (arr.size,arr.size+1))
   have hex:(execOp a.eval o).run P w= .ok (.value (.slice (some ⟨w.heap.size,0,none⟩) st.size cap)) (w.drew.alloc (.cells arr e (arr.size,arr.size+1))):=by
    refine dR (f:=convert src dst (a.eval x)) (by simp only[execOp,ho]) ?_
    rw[mJ hx]
    simp[convert,run_underlying hD,run_underlying hS,run_underlying hE,hrun]
   have hfree:iM g w.drew.heap.size .free w.heap.size= .free:=by
    rw[show w.drew.heap.size=w.heap.size from rfl,fa]
   cases obj with
   |false=>
    obtain rfl:=ax.1 he
    refine .inl ⟨_,_,hex,_,β,i1.put o.dst ⟨_,?_,rfl⟩⟩
    simp only[V,cT]
    refine⟨_,cap,(bk st).map (Value.int .u8),by rw[hlen],by omega,fun _=>rfl,fun j v hj=>⟨_,_,rfl,?_,?_⟩,j8 (E:=s.env (w.drew.alloc (.cells arr e (arr.size,arr.size+1))) (iM g w.drew.heap.size .free) β) _⟩
    ·have:=harr j v hj
     rw[Nat.zero_add]
     show(w.drew.alloc (.cells arr e (arr.size,arr.size+1))).cell? ⟨w.drew.heap.size,j,none⟩=some v
     simp only[World.cell?,h2]
     simpa using this
    ·show kf (iM g w.drew.heap.size .free) w.heap.size (0+j)
     unfold kf
     rw[hfree]
     trivial
   |true=>
    obtain rfl:=ax.1 he
    refine .inl ⟨_,_,hex,_,β,i1.put o.dst ⟨_,?_,rfl⟩⟩
    simp only[V]
    exact⟨w.heap.size,cap,arr,e,by rw[hlen],by omega,hfree,h2,harr⟩
  ·simp only[ak]at he
 ·rename_i e hD hS hne
  clear hne
  split at he
  ·rename_i hE
   obtain⟨l,h1,h2⟩:=aw.1 he
   obtain rfl:=ax.1 h2
   obtain⟨cs,hR,hO⟩:=yg h hx h1
   simp only[cT]at hR
   obtain⟨ad,cap,vs,rfl,hlc,hsome,hrow,hch⟩:=hR
   have hO': [Value.slice ad (List.length l) cap]=[a.eval x]:=hO
   have hy:a.eval x= .slice ad (List.length l) cap:=by simpa using hO'.symm
   refine fin (.string (gj l)) ?_ (uo _)
   rw[hy,run_convert_bytes_string w src dst e ad _ _ hS hE hD]
   have hvs:=lv (E:=(s.env w g β).open) (k:= .u8) (vs:=vs) (l:=l) hch
   cases ad with
   |none=>
    have hl0:l=[]:=by
     cases l with
     |nil=>rfl
     |cons _ _=>simp at hsome
    subst hl0
    rfl
   |some ad=>
    have hload:(loadCells ad (List.length l)).run P w= .ok (l.map (Value.int .u8)).toArray w:=by
     have:=run_loadCells_list (P:=P) w ad (l.map (Value.int .u8)) (fun j v hj=>by
      rw[←hvs]at hj
      obtain⟨bb,off,e1,hh⟩:=hrow j v hj
      simp only[Option.some.injEq]at e1
      subst e1
      rw[Addr.add_lit]
      exact hh.1)
     simpa using this
    rw[run_bytesToString w ad _ _ l hload,foldl_push]
    simp[gj]
  ·simp only[ak]at he
 ·simp only[ak]at he
end
end Go.Ab
namespace Go.Ab
section
variable {P:Program} {C:Ctx} {g:Nat→ix} {β:Id→Option Pl} {s:AS} {a:Act} {w:World} {o:Oper}
theorem tE(off:Nat):∀(vs:List Value) (k:Nat) (cells:Array Value),off+k+vs.length≤cells.size→
  ((vs.zipIdx k).foldl (fun cs (c,j)=>cs.setIfInBounds (off+j) c) cells).toList=dd cells.toList (off+k) vs
 |[],k,cells,_=>by simp[dd]
 |v::vs,k,cells,h=>by
  simp only[List.length_cons]at h
  rw[List.zipIdx_cons,List.foldl_cons,tE off vs (k+1) _ (by simpa using(by omega:off+(k+1)+vs.length≤cells.size))]
  rw[Array.toList_setIfInBounds]
  have:=list_seg_step cells.toList (off+k) v vs (by simp;omega)
  unfold dd
  simpa[Nat.add_assoc]using this
theorem tD{place:Nat→Option (Nat×Nat)}{cells:Array Value}{i off:Nat}{v:Value}{vs:List Value}{rest:List (Nat×Value)}(hp:place i=some (off,vs.length))(hv:v.cells=vs.toArray)(hl:off+vs.length≤cells.size):
  Instr.fill place cells ((i,v)::rest)=Instr.fill place (dd cells.toList off vs).toArray rest:=by
 have h1:v.cells.size=vs.length:=by rw[hv];simp
 have h2:¬(v.cells.size≠vs.length || off+v.cells.size > cells.size)=true:=by simp[h1];omega
 simp only[Instr.fill,hp]
 rw[if_neg h2]
 congr 1
 apply Array.ext'
 have:=tE off vs 0 cells (by omega)
 simp only[Nat.add_zero]at this
 rw[←this,hv]
 rw[←Array.foldl_toList]
 simp
theorem lM{E E':Env}(hs:E.s=s.ck)(ho:gz E)(he:cW E E'){t:Ty}(hev:∀x,VS E (s.ev x) (a.eval x)):
  ∀(ps:List (Nat×Operand)) (l:List t.den) (r:List t.den×List Id) (cells:Array Value),(fT t s ps l).eval=some r→DP E E' r.2→bg (cT E' t) cells.toList l→
   ∃cells',Instr.fill (fun i=>some (i*t.size,t.size)) cells (ps.map fun(i,x)=>(i,a.eval x))=some cells'∧bg (cT E' t) cells'.toList r.1
 |[],l,r,cells,h,_,hc=>by
  obtain rfl:=ax.1 h
  exact⟨cells,rfl,hc⟩
 | (i,x)::ps,l,r,cells,h,hf,hc=>by
  simp only[fT]at h
  obtain⟨h1,h2⟩:=aE.1 h
  obtain⟨y,h3,h4⟩:=aw.1 h2
  obtain⟨r',h5,h6⟩:=aw.1 h4
  obtain rfl:=ax.1 h6
  have hi:i < l.length:=by simpa using h1
  obtain⟨cs,hV,hO⟩:=(hev x).eE (lC h3)
  have hR:=kp hs ho he _ t y cs hV h3 (fun id hid=>hf id (by simp[hid]))
  have hcell:=hO.cells hV.one
  have hlen:=hc.length (fun _ _ hx=>cT.size hx)
  have hsz:=hR.size
  have hle:i*t.size+cs.length≤cells.size:=by
   have:=Nat.mul_le_mul_right t.size (show i+1≤l.length by omega)
   rw[Nat.add_mul,Nat.one_mul]at this
   simp at hlen
   omega
  have hset:=bg.set (fun _ _ hx=>cT.size hx) hc i hi hR
  obtain⟨cells',q1,q2⟩:=lM hs ho he hev ps (l.set i y) r' (dd cells.toList (i*t.size) cs).toArray h5 (fun id hid=>hf id (by simp[hid])) hset
  refine⟨cells',?_,q2⟩
  rw[List.map_cons,tD (by rw[hsz]) hcell hle]
  exact q1
theorem jx{E:Env}{t:Ty}{zc:Array Value}(hz:cT E t zc.toList t.zero):∀n:Nat,bg (cT E t) (madeCells zc (n*t.size)).toList (List.replicate n t.zero):=by
 have hsz:zc.size=t.size:=by have:=hz.size;simpa using this
 intro n
 induction n with
 |zero=>simp[madeCells,bg]
 |succ n ih=>
  have e:(madeCells zc ((n+1)*t.size)).toList=(madeCells zc (n*t.size)).toList++zc.toList:=by
   apply List.ext_getElem?
   intro j
   rw[Nat.add_mul,Nat.one_mul]
   simp only[madeCells,Array.toList_map,Array.toList_range,List.getElem?_map,List.getElem?_append,List.length_map,List.length_range]
   by_cases hj:j < n*t.size
   ·have hj':j < n*t.size+t.size:=by omega
    simp[hj,hj',hsz]
   ·by_cases hj':j < n*t.size+t.size
    ·have hlt:j - n*t.size < zc.size:=by omega
     have hm:j%t.size=j - n*t.size:=by
      have:j=(j - n*t.size)+t.size*n:=by rw[Nat.mul_comm t.size n];omega
      rw[this,Nat.add_mul_mod_self_left,Nat.mod_eq_of_lt (by omega)]
      rw[Nat.mul_comm t.size n];omega
     simp[hj,hj',hsz,hm]
     rw[getElem?_pos zc _ hlt,getElem!_pos zc _ hlt]
    ·have h1:¬j - n*t.size < zc.size:=by omega
     simp[hj,hj',h1]
  rw[e,List.replicate_succ']
  exact bg.append ih (bg.one hz)
theorem iF{nl:Bool}{T:TypeId}{e:TypeId}{t:Ty}{b:Nat}(h:mr P nl T=some (e,t,b)):
  P.underlying T=some (.slice e)∧0 < t.size∧∃i zv,P.info? e=some i∧i.size=t.size∧i.bytes=b∧i.zero=some zv∧∀E,cT E t zv.cells.toList t.zero:=by
 unfold mr at h
 split at h
 ·rename_i e' hT
  split at h
  ·rename_i t' ht
   split at h
   ·rename_i hg
    simp only[Option.some.injEq,Prod.mk.injEq]at h
    obtain⟨rfl,rfl,rfl⟩:=h
    simp only[Bool.and_eq_true,Bool.not_eq_true',beq_iff_eq,beq_eq_false_iff_ne]at hg
    obtain⟨⟨h1,h2⟩,h3⟩:=hg
    obtain⟨i,zv,hi,hz,_,_⟩:=jU h3 {w:=default,g:=fun _=> .free,β:=fun _=>none,s:=fun _=>none}
    refine⟨hT,by omega,i,zv,hi,by rw[←gL hi];exact h1,by simp[Program.bytesOf,hi],hz,fun E=> ?_⟩
    obtain⟨i',zv',hi',hz',hV,_⟩:=jU h3 E
    rw[hi]at hi'
    obtain rfl:i=i':=by simpa using hi'
    rw[hz]at hz'
    obtain rfl:zv=zv':=by simpa using hz'
    simpa only[V]using hV
   ·cases h
  ·cases h
 ·cases h
theorem lH{T:TypeId}{e:TypeId}{t:Ty}{b:Nat}(h:rj P T=some (e,t,b)):
  P.underlying T=some (.slice e)∧0 < t.size∧∃i zv,P.info? e=some i∧i.size=t.size∧i.bytes=b∧i.zero=some zv∧∀E,cT E t zv.cells.toList t.zero:=iF h
theorem s7{T:TypeId}{e:TypeId}{t:Ty}{b:Nat}(h:uE P T=some (e,t,b)):0 < t.size:=by
 unfold uE at h
 split at h
 ·exact(iF h).2.1
 ·exact(iF h).2.1
theorem Inv.uY(h:Inv C g β s a w){q:Nat}(hq:s.dO q=true){e:TypeId}{t:Ty}{l:List t.den}{cur:Array Value}{cap:Nat}(hz:0 < t.size)(hc:bg (cT (s.env w g β) t) (cur.toList.take (l.length*t.size)) l)
  (hs:cur.size=cap*t.size) (hl:l.length≤cap) (hm:cap≤maxLen):
  ∃g' β',Inv C g' β' (s.born q [.obj 0 false (.vec e t l)]) a (w.alloc (.cells cur e))∧
   VS ((s.born q [.obj 0 false (.vec e t l)]).env (w.alloc (.cells cur e)) g' β') (.bU (.new q 0) 0 [] 0 0 l.length) (.slice (some ⟨w.heap.size,0,none⟩) l.length cap):=by
 have ht:=Trans.alloc w g (.cells cur e) (.own (.id (.new q 0)) 0)
 obtain⟨h1,h2⟩:=h.uz hq (c:= .vec e t l) (p:=some ⟨w.heap.size,cap⟩) ht (fun b hb=>⟨lT w _ hb,fv _ _ _ (by omega)⟩) (fun he=>by
  refine⟨hz,?_⟩
  show(match o3 β (.new q 0) (some ⟨w.heap.size,cap⟩) (.new q 0) with
   |none=>l=[]
   |some pl=>_)
  rw[iv]
  exact⟨cur,0,lS w _,hs,hl,hm,fa _ _ _,Nat.zero_le _,fun _=>rfl,hc.mono fun _ _ hx=>hx.mono he.mem⟩)
 refine⟨_,_,h1,_,?_,rfl⟩
 simp only[V]
 refine⟨_,_,rfl,hl,fun _=>rfl,kM hq _ _ _ _,fun _=> ?_⟩
 show(match o3 β (.new q 0) (some ⟨w.heap.size,cap⟩) (.new q 0) with
   |some pl=>_
   |none=>_)
 rw[iv]
 exact⟨fun _=>rfl,fun _ _=>rfl⟩
theorem Inv.Bk(h:Inv C g β s a w){q:Nat}(hq:s.dO q=true){e:TypeId}{t:Ty}(hz:0 < t.size):
  ∃β',Inv C g β' (s.born q [.obj 0 false (.vec e t [])]) a w∧cW (s.env w g β) ((s.born q [.obj 0 false (.vec e t [])]).env w g β')∧
   VS ((s.born q [.obj 0 false (.vec e t [])]).env w g β') (.bU (.new q 0) 0 [] 0 0 0) (.slice none 0 0):=by
 have ht:=Trans.refl w g
 obtain⟨h1,h2⟩:=h.uz hq (c:= .vec e t []) (p:=none) ht (fun b hb=>⟨rfl,rfl⟩) (fun he=>by
  refine⟨hz,?_⟩
  show(match o3 β (.new q 0) none (.new q 0) with
   |none=>([]:List t.den)=[]
   |some pl=>_)
  rw[iv])
 refine⟨_,h1,h2,_,?_,rfl⟩
 simp only[V]
 refine⟨_,_,rfl,Nat.le_refl _,fun hh=>by omega,kM hq _ _ _ _,fun _=> ?_⟩
 simp[AS.env]
theorem qn(parts:Array (Nat×Operand)):(parts.map fun(i,x)=>(i,a.eval x)).toList=parts.toList.map fun(i,x)=>(i,a.eval x):=by simp
theorem qV(h:Inv C g β s a w){T:TypeId}{n:Nat}{parts:Array (Nat×Operand)}{nl obj:Bool}(ho:o.op= .buildSlice T n parts){s':AS}(he:(gI P s nl obj o.dst T n parts.toList).eval=some s'):eZ P o a w (fQ C s'):=by
 unfold gI at he
 split at he
 ·rename_i e t b q hel hd
  obtain⟨hT,hz,i,zv,hi,his,hib,hzv,hzr⟩:=iF hel
  obtain⟨h1,h2⟩:=aE.1 he
  obtain⟨r,h3,h4⟩:=aw.1 h2
  simp only[decide_eq_true_eq]at h1
  obtain⟨g1,i1,e1,t1,f1⟩:=fy r.2 h
  have hzc:zv.cells.size=t.size:=by have:=(hzr (s.env w g β)).size;simpa using this
  obtain⟨cells',hfill,hch⟩:=lM (a:=a) rfl h.bN e1 h.ev parts.toList _ r (madeCells zv.cells (n*t.size)) h3 f1 (jx (hzr _) n)
  have hlr:r.1.length=n:=by
   have:∀(ps:List (Nat×Operand)) (l:List t.den) (r:List t.den×List Id),(fT t s ps l).eval=some r→r.1.length=l.length:=by
    intro ps
    induction ps with
    |nil=>intro l r hh;obtain rfl:=ax.1 hh;rfl
    |cons p ps ih=>
     intro l r hh
     obtain⟨i,x⟩:=p
     simp only[fT]at hh
     obtain⟨_,h2⟩:=aE.1 hh
     obtain⟨y,h3,h4⟩:=aw.1 h2
     obtain⟨r',h5,h6⟩:=aw.1 h4
     obtain rfl:=ax.1 h6
     have:=ih _ _ h5
     simpa using this
   rw[this _ _ _ h3]
   simp
  have hcl:=hch.length (fun _ _ hx=>cT.size hx)
  have hrun:(execOp a.eval o).run P w= .ok (.value (.slice (some ⟨w.heap.size,0,none⟩) n n)) (w.alloc (.cells cells' e)):=by
   refine dR (f:=Instr.buildSlice T n (parts.map fun(i,x)=>(i,a.eval x))) (by simp only[execOp,ho]) ?_
   have hbig:¬n*t.size > 2^24:=by omega
   have hfill':Instr.fill (fun i=>some (i*t.size,t.size)) ((Array.range (n*t.size)).map (fun x=>(zv.cells)[x%zv.cells.size]!)) (parts.map fun(i,x)=>(i,a.eval x)).toList=some cells':=by
    rw[qn];exact hfill
   by_cases hn:n*t.size=0
   ·have hn0:n=0:=by
     rcases Nat.mul_eq_zero.1 hn with h' | h'
     ·exact h'
     ·omega
    subst hn0
    simp only[Nat.zero_mul]at hfill' hbig
    have h0:Array.range 0= #[]:=rfl
    rw[h0,Array.map_empty]at hfill'
    simp at hfill'
    simp[Instr.buildSlice,run_underlying hT,run_sizeOf hi,his,newRow,h0,hfill']
   ·simp[Instr.buildSlice,run_underlying hT,run_sizeOf hi,his,newRow,hn,hbig,zeroValue,typeInfo,hi,hzv]
    simp at hfill'
    simp[hfill']
  cases obj with
  |true=>
   simp only at h4
   obtain⟨hq,h5⟩:=aE.1 h4
   obtain rfl:=ax.1 h5
   rw[←jS r.2]at hq
   have hfull:cells'.toList.take (r.1.length*t.size)=cells'.toList:=List.take_of_length_le (by omega)
   obtain⟨g2,β2,i2,hv2⟩:=i1.uY hq (e:=e) (l:=r.1) (cur:=cells') (cap:=n) hz (by rw[hfull];exact hch) (by simp at hcl;rw[hcl,hlr]) (by omega) (by
    have:n≤n*t.size:=Nat.le_mul_of_pos_right n hz
    unfold maxLen;omega)
   refine .inl ⟨_,_,hrun,g2,β2,?_⟩
   rw[hd]
   rw[hlr]at hv2 ⊢
   exact i2.put (some q) hv2
  |false=>
   simp only at h4
   obtain rfl:=ax.1 h4
   have i2:=i1.nT (.cells cells' e)
   refine .inl ⟨_,_,hrun,iM g1 w.heap.size .free,β,?_⟩
   rw[hd]
   refine i2.put (some q) ⟨[.slice (some ⟨w.heap.size,0,none⟩) n n],?_,rfl⟩
   simp only[V,cT]
   refine⟨_,n,cells'.toList,by rw[hlr],by omega,fun _=>rfl,fun j v hj=>⟨_,_,rfl,?_,?_⟩,hch.mono fun _ _ hx=>hx.mono (Trans.mem (E:=(s.bj r.2).env w g1 β) (E':=(s.bj r.2).env (w.alloc (.cells cells' e)) (iM g1 w.heap.size .free) β) (Trans.alloc w g1 (.cells cells' e) .free))⟩
   ·show(w.alloc (.cells cells' e)).cell? ⟨w.heap.size,0+j,none⟩=some v
    rw[World.cell?_alloc_new,Nat.zero_add];simpa using hj
   ·show kf (iM g1 w.heap.size .free) w.heap.size (0+j)
    unfold kf;rw[fa];trivial
 ·simp only[ak]at he
theorem r0(h:Inv C g β s a w){T:TypeId}{x y:Operand}(ho:o.op= .makeSlice T x y){len cap:Int}(hx:(asInt (s.ev x)).eval=some len)(hy:(asInt (s.ev y)).eval=some cap){s':AS}
  (he:(ja P s o.dst T len cap).eval=some s'):eZ P o a w (fQ C s'):=by
 obtain⟨k,hx⟩:=lU (h.ev x) hx
 obtain⟨k',hy⟩:=lU (h.ev y) hy
 unfold ja at he
 split at he
 ·rename_i e t b q hel hd
  obtain⟨hT,hz,i,zv,hi,his,hib,hzv,hzr⟩:=lH hel
  obtain⟨hq,h2⟩:=aE.1 he
  obtain⟨h3,h4⟩:=bF.1 h2
  obtain rfl:=ax.1 h4
  simp only[Bool.and_eq_true,decide_eq_true_eq,du]at h3
  obtain⟨⟨h5,h6⟩,h7,h8⟩:=h3
  have hbytes:(i.bytes:Int)*cap≤281474976710656:=by
   rw[hib]
   have:((cap.toNat*b:Nat):Int)≤140737488355328:=by omega
   rw[Int.natCast_mul,show((cap.toNat:Nat):Int)=cap by omega,Int.mul_comm]at this
   omega
  have hr:=run_make (P:=P) w T e i zv hT hi hzv k k' len cap h5 h6 hbytes (by omega)
  rw[his]at hr
  have hzc:zv.cells.size=t.size:=by have:=(hzr (s.env w g β)).size;simpa using this
  have hall:=jx (hzr (s.env w g β)) cap.toNat
  have htk:=bg.take (fun _ _ hx=>cT.size hx) len.toNat hall
  rw[List.take_replicate,Nat.min_eq_left (by omega)]at htk
  obtain⟨g2,β2,i2,hv2⟩:=h.uY hq (e:=e) (l:=List.replicate len.toNat t.zero) (cur:=madeCells zv.cells (cap.toNat*t.size)) (cap:=cap.toNat) hz (by rw[List.length_replicate];exact htk) (size_madeCells _ _) (by rw[List.length_replicate];omega) (by unfold maxLen;omega)
  rw[List.length_replicate]at hv2
  refine .inl ⟨_,_,dR (f:=Instr.makeSlice T (a.eval x) (a.eval y)) (by simp only[execOp,ho]) (by rw[hx,hy];exact hr),g2,β2,?_⟩
  rw[hd]
  exact i2.put (some q) hv2
 ·simp only[ak]at he
end
end Go.Ab
