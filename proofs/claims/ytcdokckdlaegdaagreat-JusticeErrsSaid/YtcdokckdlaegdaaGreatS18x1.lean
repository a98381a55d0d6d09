/-
  Made short by a program of mine (wip/tools/mini.py).
-/
import Derived.WalkKit
import Derived.KernelRfl
import Derived.MapKept
import Derived.ChangeMaps3
set_option linter.unusedVariables false
set_option linter.unusedSimpArgs false
namespace Go.Ab
inductive Ty where
 |int (k:IntKind) | bool | str | slice (t:Ty) | unit | pair (a b:Ty) | arr (n:Nat) (t:Ty)
 |gv (t:Ty)
 deriving DecidableEq,Inhabited
@[reducible] def Ty.den:Ty→Type
 | .int _=>Int
 | .bool=>Bool
 | .str=>ByteArray
 | .slice t=>List t.den
 | .unit=>Unit
 | .pair a b=>a.den×b.den
 | .arr _ t=>List t.den
 | .gv t=>Option (List t.den)
def Ty.size:Ty→Nat
 | .unit=>0
 | .pair a b=>a.size+b.size
 | .arr n t=>n*t.size
 | .int _ | .bool | .str | .slice _ | .gv _=>1
def Ty.agg:Ty→Bool
 | .unit | .pair _ _ | .arr _ _=>true
 | .int _ | .bool | .str | .slice _ | .gv _=>false
def Ty.zero:(t:Ty)→t.den
 | .int _=>(0:Int)
 | .bool=>false
 | .str=>ByteArray.empty
 | .slice _=> []
 | .unit=>()
 | .pair a b=>(a.zero,b.zero)
 | .arr n t=>List.replicate n t.zero
 | .gv _=>none
def Ty.comp:Ty→Bool
 | .slice _ | .gv _=>false
 | .pair a b=>a.comp && b.comp
 | .arr _ t=>t.comp
 | .int _ | .bool | .str | .unit=>true
def iH{α:Type}(f:α→α→Bool):List α→List α→Bool
 |[],[]=>true
 |x::xs,y::ys=>f x y && iH f xs ys
 |_,_=>false
def Ty.beq:(t:Ty)→t.den→t.den→Bool
 | .int _,x,y=>(x:Int)==y
 | .bool,x,y=>(x:Bool)==y
 | .str,x,y=>(x:ByteArray).toList==(y:ByteArray).toList
 | .slice t,x,y=>iH t.beq x y
 | .unit,_,_=>true
 | .pair a b,x,y=>a.beq x.1 y.1 && b.beq x.2 y.2
 | .arr _ t,x,y=>iH t.beq x y
 | .gv t,x,y=>iH t.beq (x.getD []) (y.getD [])
def kZ(t t':Ty)(x:t.den):Option t'.den:=if h:t=t' then some (h▸x) else none
def vZ:(a b:Ty)→Option (a.den→b.den)
 | .gv t,.slice t'=>if h:t=t' then some fun o=>cast (congrArg (fun t:Ty=>List t.den) h) (o.getD []) else none
 | .slice t,.gv t'=>if h:t=t' then some fun l=>some (cast (congrArg (fun t:Ty=>List t.den) h) l) else none
 | .pair a b,.pair c d=>match vZ a c,vZ b d with
  |some f,some k=>some fun x=>(f x.1,k x.2)
  |_,_=>none
 | .slice a,.slice b=>match vZ a b with
  |some f=>some (List.map f)
  |none=>none
 |a,b=>if h:a=b then some (cast (congrArg Ty.den h)) else none
def IN(a b:Ty)(x:a.den):b.den:=match vZ a b with | some f=>f x | none=>b.zero
def o8(t t':Ty)(x:t.den):Option t'.den:=
 match kZ t t' x with
 |some y=>some y
 |none=>match vZ t t' with
  |some f=>some (f x)
  |none=>none
def nth(t:Ty)(l:List t.den)(i:Nat):t.den:=l.getD i t.zero
inductive Id where
 |dH (k:Nat)
 |new (site j:Nat)
 deriving DecidableEq,Inhabited
inductive qo where
 |fst | snd
 |idx (i:Nat)
 |arr
inductive az where
 |undef
 |gone
 |dP | lk | l6 | nU
 |d (t:Ty) (x:t.den)
 |pr (a b:az)
 |ptr (id:Id) (ver:Nat) (p:List qo) (n:Nat)
 |eI (t:Ty) (x:t.den)
 |cT (id:Id) (ver:Nat) (p:List qo) (c i len:Nat)
 |fn (f:FuncId) (caps:az)
 |cons (a b:az)
 |nil
 |vec (e:TypeId) (t:Ty) (l:List t.den)
 |sb (l:List Int)
 |bx (e:TypeId) (z:Nat) (c:az)
 |kL (id:Id) (ver:Nat)
 |mp (k v:Ty) (l:List (k.den×v.den))
 |kF (q:Id) (ver:Nat) (k v:Ty) (rest:List (k.den×v.den)) (cur:Option (k.den×v.den))
inductive eL where
 |dead
 |obj (ver:Nat) (fr:Bool) (c:az)
structure AS where
 cS:List az
 dd:List eL
 news:List (List eL)
def bu(n:Nat)(l:List az):List az:=List.replicate n .undef++l
def cw(n:Nat)(l:List (List eL)):List (List eL):=List.replicate n []++l
inductive Out(α:Type):Type 1 where
 |ok (a:α)
 |fail
 |ko (c:Bool) (r:Out α)
 |get {β:Type} (x:Option β) (f:β→Out α)
 |br (c:Bool) (a b:Out α)
def Out.eval{α:Type}:Out α→Option α
 | .ok a=>some a
 | .fail=>none
 | .ko c r=>match c with | true=>r.eval | false=>none
 | .get x f=>match x with | some y=>(f y).eval | none=>none
 | .br c a b=>match c with | true=>a.eval | false=>b.eval
def aC{α:Type}(c:Bool)(x y:Option α):Option α:=match c with | true=>x | false=>y
def ab{α β:Type}(x:Option α)(f:α→Option β):Option β:=match x with | some a=>f a | none=>none
def Out.run{α R:Type}:Out α→(α→Option R)→Option R
 | .ok a,k=>k a
 | .fail,_=>none
 | .ko c r,k=>aC c (r.run k) none
 | .get x f,k=>ab x fun y=>(f y).run k
 | .br c a b,k=>aC c (a.run k) (b.run k)
def Out.bind{α β:Type}:Out α→(α→Out β)→Out β
 | .ok a,f=>f a
 | .fail,_=> .fail
 | .ko c r,f=> .ko c (r.bind f)
 | .get x g,f=> .get x fun y=>(g y).bind f
 | .br c a b,f=> .br c (a.bind f) (b.bind f)
def Out.opt{α:Type}:Option α→Out α
 |some a=> .ok a
 |none=> .fail
def Out.guard{α:Type}(c:Bool)(r:Out α):Out α:=match c with | true=>r | false=> .fail
def az.size:az→Nat
 | .d t _=>t.size
 | .pr a b=>a.size+b.size
 |_=>1
def az.agg:az→Bool
 | .d t _=>t.agg
 | .pr _ _=>true
 |_=>false
def az.fa:az→Bool
 | .undef | .cons _ _ | .nil | .vec .. | .bx .. | .mp .. | .kF .. =>false
 |_=>true
def az.strip:az→az
 | .bx _ _ c=>c
 |c=>c
def az.wrap:az→az→az
 | .bx e z _,c=> .bx e z c
 |_,c=>c
def ru:az→az→az
 | .d a x,.d b y=> .d (.pair a b) (x,y)
 |a,b=> .pr a b
def ofConst:Value→az
 | .bool b=> .d .bool b
 | .int k n=> .d (.int k) n
 | .string s=> .d .str s
 | .slice none 0 0=> .dP
 | .pointer none=> .lk
 | .nilFunc=> .l6
 | .map none=> .nU
 |_=> .undef
def AS.slot(s:AS)(i:Nat):az:=s.cS.getD i .undef
def AS.ev(s:AS):Operand→az
 | .tmp t=>s.slot t
 | .const v=>ofConst v
 | .func f=> .fn f .nil
 | .global _=> .undef
def AS.put(s:AS)(dst:Option Tmp)(v:az):AS:=
 match dst with
 |some t=> {s with cS:=s.cS.set t v}
 |none=>s
def AS.cl(s:AS):Id→Option eL
 | .dH k=>s.dd[k]?
 | .new i j=>(s.news.getD i [])[j]?
def AS.bf(s:AS)(id:Id)(e:eL):AS:=
 match id with
 | .dH k=> {s with dd:=s.dd.set k e}
 | .new i j=> {s with news:=s.news.set i ((s.news.getD i []).set j e)}
def AS.ef(s:AS)(i:Nat):Bool:=match s.news[i]? with | some []=>true | _=>false
def AS.born(s:AS)(i:Nat)(es:List eL):AS:= {s with news:=s.news.set i es}
def AS.obj(s:AS)(id:Id):Option (Nat×Bool×az):=
 match s.cl id with
 |some (.obj v f c)=>some (v,f,c)
 |_=>none
def xo(P:Program)(nl:Bool):Nat→TypeId→Option Ty
 | 0,_=>none
 |n+1,T=>
  match P.underlying T with
  |some (.int k)=>some (.int k)
  |some .bool=>some .bool
  |some .string=>some .str
  |some (.slice e)=>match xo P false n e with | some t=>some (match nl with | true=> .gv t | false=> .slice t) | none=>none
  |some (.array k e)=>match xo P nl n e with | some t=>some (.arr k t) | none=>none
  |some (.struct fs)=>fs.toList.foldr (fun f acc=>match xo P nl n f.type,acc with | some a,some b=>some (.pair a b) | _,_=>none) (some .unit)
  |_=>none
def Al(P:Program):Nat→TypeId→Option Ty:=xo P false
def zeroOf(P:Program):Nat→TypeId→Option az
 | 0,_=>none
 |n+1,T=>
  match P.underlying T with
  |some (.int k)=>some (.d (.int k) (0:Int))
  |some .bool=>some (.d .bool false)
  |some .string=>some (.d .str ByteArray.empty)
  |some (.slice _)=>some .dP
  |some (.pointer _)=>some .lk
  |some (.map _ _)=>some .nU
  |some (.func _ _ _)=>some .l6
  |some (.array k e)=>match Al P n e with | some t=>some (.d (.arr k t) (List.replicate k t.zero)) | none=>none
  |some (.struct fs)=>fs.toList.foldr (fun f acc=>match zeroOf P n f.type,acc with | some a,some b=>some (ru a b) | _,_=>none) (some (.d .unit ()))
  |_=>none
def depth:Nat:=12
def fits(P:Program)(T:TypeId)(v:az):Bool:=
 v.fa && (P.cellsOf T==v.size) &&
 (match P.underlying T with | some (.struct _)=>v.agg | some (.array _ _)=>v.agg | some _=> !v.agg | none=>false)
def iR:Nat→List qo
 | 0=> [.fst]
 |n+1=> .snd::iR n
def loc:az→List qo→Out (Nat×az)
 |c,[]=> .ok (0,c)
 |c,.arr::p=>loc c p
 | .pr a _,.fst::p=>loc a p
 | .pr a b,.snd::p=>(loc b p).bind fun(n,v)=> .ok (a.size+n,v)
 | .d (.pair a _) x,.fst::p=>loc (.d a x.1) p
 | .d (.pair a b) x,.snd::p=>(loc (.d b x.2) p).bind fun(n,v)=> .ok (a.size+n,v)
 | .d (.arr _ t) l,.idx i::p=> .ko (decide (i < (l:List t.den).length)) ((loc (.d t (nth t l i)) p).bind fun(n,v)=> .ok (i*t.size+n,v))
 | .vec _ t l,.idx i::p=> .ko (decide (i < l.length)) ((loc (.d t (nth t l i)) p).bind fun(n,v)=> .ok (i*t.size+n,v))
 |_,_::_=> .fail
def nI:az→List qo→az→Out az
 |c,.arr::p,v=>nI c p v
 | .vec ..,[],_=> .fail
 | .mp ..,[],_=> .fail
 | .kF ..,[],_=> .fail
 |c,[],v=> .guard (v.fa && (c.size==v.size)) (.ok v)
 | .pr a b,.fst::p,v=>(nI a p v).bind fun a'=> .ok (ru a' b)
 | .pr a b,.snd::p,v=>(nI b p v).bind fun b'=> .ok (ru a b')
 | .d (.pair a b) x,.fst::p,v=>(nI (.d a x.1) p v).bind fun a'=> .ok (ru a' (.d b x.2))
 | .d (.pair a b) x,.snd::p,v=>(nI (.d b x.2) p v).bind fun b'=> .ok (ru (.d a x.1) b')
 | .d (.arr n t) l,.idx i::p,v=> .ko (decide (i < (l:List t.den).length)) ((nI (.d t (nth t l i)) p v).bind fun
   | .d t' y=>(Out.opt (kZ t' t y)).bind fun y=> .ok (.d (.arr n t) ((l:List t.den).set i y))
   |_=> .fail)
 | .vec e t l,.idx i::p,v=> .ko (decide (i < l.length)) ((nI (.d t (nth t l i)) p v).bind fun
   | .d t' y=>(Out.opt (kZ t' t y)).bind fun y=> .ok (.vec e t (l.set i y))
   |_=> .fail)
 |_,_::_,_=> .fail
def AS.row(s:AS)(id:Id)(ver:Nat)(p:List qo):Out (Nat×(t:Ty)×List t.den):=
 match s.obj id with
 |some (v,_,c)=> .guard (v==ver) ((loc c.strip p).bind fun
  | (n,.d (.arr _ t) l)=> .ok (n,⟨t,l⟩)
  | (n,.vec _ t l)=> .ok (n,⟨t,l⟩)
  |_=> .fail)
 |none=> .fail
def cut{α:Type}(l:List α)(i len:Nat):List α:=(l.drop i).take len
def AS.gN(s:AS):(t:Ty)→az→Out t.den
 |t,.d t' x=>Out.opt (o8 t' t x)
 | .slice _,.dP=> .ok []
 | .gv _,.dP=> .ok none
 | .slice t,.cT id ver p c i len=>(s.row id ver p).bind fun r=> .ko (decide (r.1+i*r.2.1.size=c∧i+len≤r.2.2.length)) (Out.opt (o8 (.slice r.2.1) (.slice t) (cut r.2.2 i len)))
 | .gv t,.cT id ver p c i len=>(s.row id ver p).bind fun r=> .ko (decide (r.1+i*r.2.1.size=c∧i+len≤r.2.2.length)) (Out.opt (o8 (.slice r.2.1) (.gv t) (cut r.2.2 i len)))
 | .pair a b,.pr x y=>(s.gN a x).bind fun x=>(s.gN b y).bind fun y=> .ok (x,y)
 |_,_=> .fail
def az.shared:az→List Id
 | .cT id _ _ _ _ _=> [id]
 | .pr a b=>a.shared++b.shared
 |_=> []
def AS.freeze(s:AS)(id:Id):AS:=
 match s.cl id with
 |some (.obj v _ c)=>s.bf id (.obj v true c)
 |_=>s
def AS.bq(s:AS):List Id→AS
 |[]=>s
 |id::ids=>(s.freeze id).bq ids
end Go.Ab
namespace Go.Ab
def DW{α:Type}(f:α→List Value→Option (List Value)):List α→List Value→Option (List Value)
 |[],cs=>some cs
 |x::xs,cs=>match f x cs with | some r=>DW f xs r | none=>none
def nw:(t:Ty)→t.den→List Value→Option (List Value)
 | .int k,x,.int k' n::r=>match decide (k=k'),decide (n=(x:Int)) with | true,true=>some r | _,_=>none
 | .bool,x,.bool b::r=>match decide (b=(x:Bool)) with | true=>some r | false=>none
 | .str,x,.string s::r=>match decide (s=(x:ByteArray)) with | true=>some r | false=>none
 | .slice _,[],.slice none 0 0::r=>some r
 | .gv _,none,.slice none 0 0::r=>some r
 | .unit,_,r=>some r
 | .pair a b,x,r=>match nw a x.1 r with | some r'=>nw b x.2 r' | none=>none
 | .arr n t,l,r=>match decide ((l:List t.den).length=n) with | true=>DW (nw t) l r | false=>none
 |_,_,_=>none
def tK:az→List Value→Option (List Value)
 | .d t x,r=>nw t x r
 | .dP,.slice none 0 0::r=>some r
 | .lk,.pointer none::r=>some r
 | .l6,.nilFunc::r=>some r
 | .nU,.map none::r=>some r
 | .pr a b,r=>match tK a r with | some r'=>tK b r' | none=>none
 |_,_=>none
def j9:Value→Bool | .agg _=>true | _=>false
def yu(P:Program)(T:TypeId)(z:az):Bool:=
 match P.info? T with
 |some i=>match i.zero with
  |some zv=>(match tK z zv.cells.toList with | some []=>true | _=>false) && (j9 zv==z.agg)
  |none=>false
 |none=>false
structure aT where
 val:az
 dd:List eL
 news:List eL
structure Entry where
 params:List (Option Ty)
 X:Type
 run:List az→List eL→Option X
 out:List az→List eL→X→aT
 sp:X→Out X:= .ok
 GD:∀x y,(sp x).eval=some y→y=x:=by exact fun x y h=>(Option.some.inj h).symm
abbrev dX:=FuncId→List az→Option Entry
def az.ids:az→List Id
 | .ptr id _ _ _=> [id]
 | .cT id _ _ _ _ _=> [id]
 | .pr a b=>a.ids++b.ids
 | .cons a b=>a.ids++b.ids
 | .fn _ c=>c.ids
 | .bx _ _ c=>c.ids
 | .kL id _=> [id]
 | .kF id _ _ _ _ _=> [id]
 |_=> []
def eL.ids:eL→List Id
 | .obj _ _ c=>c.ids
 | .dead=> []
def AS.reach(s:AS):Nat→List Id→List Id→List Id
 | 0,_,acc=>acc
 |_+1,[],acc=>acc
 |n+1,id::todo,acc=>if acc.contains id then s.reach n todo acc else s.reach n (((s.cl id).getD .dead).ids++todo) (acc++ [id])
def idxOf(id:Id):List Id→Option Nat
 |[]=>none
 |x::xs=>if x=id then some 0 else(idxOf id xs).map (· +1)
def az.ir(ρ:Id→Nat→Option (Id×Nat)):az→az
 | .ptr id ver p n=>match ρ id ver with | some r=> .ptr r.1 r.2 p n | none=> .gone
 | .cT id ver p c i len=>match ρ id ver with | some r=> .cT r.1 r.2 p c i len | none=> .gone
 | .pr a b=> .pr (a.ir ρ) (b.ir ρ)
 | .cons a b=> .cons (a.ir ρ) (b.ir ρ)
 | .fn f c=> .fn f (c.ir ρ)
 | .bx e z c=> .bx e z (c.ir ρ)
 | .kL id ver=>match ρ id ver with | some r=> .kL r.1 r.2 | none=> .gone
 | .kF id _ k v rest cur=> .kF id 0 k v rest cur
 |v=>v
def AS.mi(s:AS)(ids:List Id)(id:Id)(ver:Nat):Option (Id×Nat):=
 match idxOf id ids,s.obj id with
 |some k,some (v,_,_)=>if v=ver then some (.dH k,0) else none
 |_,_=>none
def AS.ji(s:AS)(ids:List Id)(id:Id):eL:=
 match s.cl id with
 |some (.obj _ fr c)=> .obj 0 fr (c.ir (s.mi ids))
 |_=> .dead
def AS.nq(s:AS)(id:Id):Nat:=match s.obj id with | some (v,_,_)=>v | none=>0
def Ge(ids:List Id)(dst:Nat):Id→Id
 | .dH k=>ids.getD k (.dH 0)
 | .new _ j=> .new dst j
def AS.lp(s:AS)(ids:List Id)(dst:Nat):Id→Nat→Option (Id×Nat)
 | .dH k,v=>match ids[k]? with | some id=>some (id,s.nq id+v) | none=>none
 | .new _ j,v=>some (.new dst j,v)
def AS.jY(s:AS)(ids:List Id)(dst:Nat)(ver:Nat):eL→eL
 | .obj v fr c=> .obj (ver+v) fr (c.ir (s.lp ids dst))
 | .dead=> .dead
def AS.conv(s:AS):List (Option Ty)→List az→Out (List az×List Id)
 |[],[]=> .ok ([],[])
 |some t::ps,v::vs=>(s.gN t v).bind fun x=>(s.conv ps vs).bind fun r=> .ok (.d t x::r.1,v.shared++r.2)
 |none::ps,v::vs=>(s.conv ps vs).bind fun r=> .ok (v::r.1,r.2)
 |_,_=> .fail
def AS.gT(s0:AS)(all:List Id)(dst:Nat)(s:AS):List Id→List eL→AS
 |id::ids,e::es=>AS.gT s0 all dst (s.bf id (s0.jY all dst (s0.nq id) e)) ids es
 |_,_=>s
def az.list:az→List az
 | .cons a b=>a::b.list
 |_=> []
def AS.made(s:AS)(ids:List Id)(t:Nat):List eL→AS
 |[]=>s
 |e::es=>s.born t ((e::es).map (s.jY ids t 0))
def AS.back(s:AS)(ids:List Id)(dst:Option Tmp)(g:aT):Out AS:=
 match dst with
 |some t=> .guard ((g.dd.length==ids.length) && (g.news.isEmpty || s.ef t))
   (.ok ((AS.gT s ids t (s.made ids t g.news) ids g.dd).put dst (g.val.ir (s.lp ids t))))
 |none=> .guard ((g.dd.length==ids.length) && g.news.isEmpty) (.ok (AS.gT s ids 0 s ids g.dd))
def AS.B2(s:AS)(vs:List az):List Id:=s.reach 64 (vs.flatMap az.ids) []
def AS.uV(s:AS)(id:Id):Bool:=match s.obj id with | some (_,true,.mp ..)=>false | _=>true
def AS.enter(s:AS)(en:Entry)(dst:Option Tmp)(ids:List Id)(vs:List az):Out AS:=
 .guard (ids.all fun id=>(s.obj id).isSome && s.uV id)
  (.get (en.run (vs.map (az.ir (s.mi ids))) (ids.map (s.ji ids))) fun x=>(en.sp x).bind fun x=>s.back ids dst (en.out (vs.map (az.ir (s.mi ids))) (ids.map (s.ji ids)) x))
def AS.call(s:AS)(en:Entry)(dst:Option Tmp)(vs:List az):Out AS:=
 (s.conv en.params vs).bind fun r=>(s.bq r.2).enter en dst ((s.bq r.2).B2 r.1) r.1
def ct(op:BinOp)(k:IntKind)(x y:Int):Int:=
 match op with
 | .and=>k.wrap ((BitVec.ofInt k.bits x &&& BitVec.ofInt k.bits y).toNat)
 | .or=>k.wrap ((BitVec.ofInt k.bits x ||| BitVec.ofInt k.bits y).toNat)
 | .xor=>k.wrap ((BitVec.ofInt k.bits x^^^BitVec.ofInt k.bits y).toNat)
 |_=>k.wrap ((BitVec.ofInt k.bits x &&& ~~~BitVec.ofInt k.bits y).toNat)
def Ea(op:BinOp)(k:IntKind)(x:Int)(k':IntKind)(y:Int):Out az:=
 match op with
 | .shl=> .ko (decide (0≤y)) (.ok (.d (.int k) (k.wrap (x*2^(min y.toNat k.bits)))))
 | .shr=> .ko (decide (0≤y)) (.ok (.d (.int k) (x.fdiv (2^(min y.toNat k.bits)))))
 |_=> .guard (decide (k=k')) (match op with
  | .add=> .ok (.d (.int k) (k.wrap (x+y)))
  | .sub=> .ok (.d (.int k) (k.wrap (x - y)))
  | .mul=> .ok (.d (.int k) (k.wrap (x*y)))
  | .quo=> .ko (!(decide (y=0))) (.ok (.d (.int k) (k.wrap (x.tdiv y))))
  | .rem=> .ko (!(decide (y=0))) (.ok (.d (.int k) (x.tmod y)))
  | .eql=> .ok (.d .bool (x==y))
  | .neq=> .ok (.d .bool (x !=y))
  | .lss=> .ok (.d .bool (decide (x < y)))
  | .leq=> .ok (.d .bool (decide (x≤y)))
  | .gtr=> .ok (.d .bool (decide (x > y)))
  | .geq=> .ok (.d .bool (decide (x≥y)))
  |op=> .ok (.d (.int k) (ct op k x y)))
def E0(op:BinOp)(x y:ByteArray):Out az:=
 match op with
 | .add=> .ko (decide (((x.size+y.size:Nat):Int)≤IntKind.i64.max)) (.ok (.d .str (x++y)))
 | .eql=> .ok (.d .bool (x.toList==y.toList))
 | .neq=> .ok (.d .bool (!(x.toList==y.toList)))
 | .lss=> .ok (.d .bool (Op.bytesLess x.toList y.toList))
 | .geq=> .ok (.d .bool (!(Op.bytesLess x.toList y.toList)))
 |_=> .fail
def qC(P:Program)(T:TypeId)(b:Bool):Bool:=
 match P.underlying T with | some (.struct _)=>b | some (.array _ _)=>b | some _=> !b | none=>false
def qv(P:Program)(ko:TypeId→Ty→Bool):List Field→Ty→Nat→Bool
 |[],.unit,_=>true
 |f::fs,.pair a b,off=> !(f.name== "_") && (f.offset==off) && !(a.size==0) && (P.cellsOf f.type==a.size) && qC P f.type a.agg && ko f.type a && qv P ko fs b (off+a.size)
 |_,_,_=>false
def ke(P:Program):Nat→TypeId→Ty→Bool
 | 0,_,_=>false
 |n+1,T,t=>match P.underlying T,t with
  |some (.int _),.int _=>true
  |some .bool,.bool=>true
  |some .string,.str=>true
  |some (.array m e),.arr m' t'=>(m==m') && !(t'.size==0) && (P.cellsOf e==t'.size) && qC P e t'.agg && ke P n e t'
  |some (.struct fs),t=> !P.stoodInHeld T && qv P (ke P n) fs.toList t 0
  |_,_=>false
def nQ(P:Program)(T:TypeId):az→az→Out Bool
 | .d t x,.d t' y=>(Out.opt (kZ t' t y)).bind fun y=> .guard ((t.agg && !P.eqGuardType P.depth T || decide (t= .bool)) && ke P depth T t) (.ok (t.beq x y))
 | .dP,.dP=> .guard (isSl P T) (.ok true)
 | .d (.slice t) l,.dP=> .guard (isSl P T) (.ko (decide (0 < (l:List t.den).length)) (.ok false))
 | .dP,.d (.slice t) l=> .guard (isSl P T) (.ko (decide (0 < (l:List t.den).length)) (.ok false))
 | .cT _ _ _ _ _ len,.dP=> .guard (isSl P T) (.ko (decide (0 < len)) (.ok false))
 | .dP,.cT _ _ _ _ _ len=> .guard (isSl P T) (.ko (decide (0 < len)) (.ok false))
 | .lk,.lk=> .guard (isPt P T) (.ok true)
 | .ptr ..,.lk=> .guard (isPt P T) (.ok false)
 | .lk,.ptr .. => .guard (isPt P T) (.ok false)
 | .l6,.l6=> .guard (isFn P T) (.ok true)
 | .fn ..,.l6=> .guard (isFn P T) (.ok false)
 | .l6,.fn .. => .guard (isFn P T) (.ok false)
 |_,_=> .fail
where
 isSl (P:Program) (T:TypeId):Bool:=match P.underlying T with | some (.slice _)=>true | _=>false
 isPt (P:Program) (T:TypeId):Bool:=match P.underlying T with | some (.pointer _)=>true | _=>false
 isFn (P:Program) (T:TypeId):Bool:=match P.underlying T with | some (.func _ _ _)=>true | _=>false
def GO(P:Program)(T:TypeId)(op:BinOp)(x y:az):Out az:=
 match x,y with
 | .d (.int k) a,.d (.int k') b=>Ea op k a k' b
 | .d .str a,.d .str b=>E0 op a b
 |x,y=>match op with
  | .eql=>(nQ P T x y).bind fun b=> .ok (.d .bool b)
  | .neq=>(nQ P T x y).bind fun b=> .ok (.d .bool (!b))
  |_=> .fail
def IJ(op:UnOp)(x:az):Out az:=
 match op,x with
 | .not,.d .bool b=> .ok (.d .bool (!b))
 | .neg,.d (.int k) n=> .ok (.d (.int k) (k.wrap (0 - n)))
 | .xor,.d (.int k) n=> .ok (.d (.int k) (ct .xor k (if k.signed then -1 else k.max) n))
 |_,_=> .fail
def bA(s:ByteArray):List Int:=s.data.toList.map fun b=>(b.toNat:Int)
def gD(l:List Int):ByteArray:=⟨(l.map fun n=>UInt8.ofNat n.toNat).toArray⟩
def AS.Bb(s:AS)(t:Ty)(v:az):Out t.den:=s.gN t v
def DR(P:Program)(s:AS)(obj:Bool)(src dst:TypeId)(x:az):Out az:=
 match x,P.underlying dst,P.underlying src with
 | .d (.int _) n,some (.int k),some _=> .ok (.d (.int k) (k.wrap n))
 | .d .str a,some .string,some _=> .ok (.d .str a)
 | .d .str a,some (.slice e),some _=>match P.underlying e with
  |some (.int .u8)=>match obj with | true=> .ok (.sb (bA a)) | false=> .ok (.d (.slice (.int .u8)) (bA a))
  |_=> .fail
 |x,some .string,some (.slice e)=>match P.underlying e with
  |some (.int .u8)=>(s.Bb (.slice (.int .u8)) x).bind fun l=> .ok (.d .str (gD l))
  |_=> .fail
 |_,_,_=> .fail
def DS(P:Program)(src dst:TypeId)(l:List Int):Out az:=
 match P.underlying dst,P.underlying src with
 |some (.slice e),some (.slice _)=>match P.underlying e with
  |some (.int .u8)=> .guard (src==dst) (.ok (.d (.slice (.int .u8)) l))
  |_=> .fail
 |_,_=> .fail
def wO(P:Program)(s:AS)(obj:Bool)(src dst:TypeId)(x:az):Out az:=
 match x with
 | .sb l=>DS P src dst l
 |x=>DR P s obj src dst x
def yR(P:Program)(s:AS)(d:Option Tmp)(src dst:TypeId)(id:Id)(ver len:Nat):Out AS:=
 match s.obj id,P.underlying dst with
 |some (v,false,.vec _ (.int .u8) l),some (.slice e)=>match P.underlying e with
  |some (.int .u8)=> .guard ((v==ver) && (src==dst)) (.ko (decide (0 < len∧len=(l:List Int).length)) (.ok ((s.bf id .dead).put d (.d (.slice (.int .u8)) l))))
  |_=> .fail
 |_,_=> .fail
def wP(P:Program)(s:AS)(src dst:TypeId)(id:Id)(ver:Nat):Out az:=
 match s.obj id with
 |some (v,_,.bx e 0 c)=>match P.underlying src,P.underlying dst with
  |some (.pointer t),some .unsafePointer=> .guard ((v==ver) && !(P.cellsOf t==0) && !(c.size==0)) (.ok (.ptr id ver [] 0))
  |some .unsafePointer,some (.pointer u)=> .guard ((v==ver) && !(P.cellsOf u==0) && liesAt P P.depth e (c.size / P.cellsOf e) 0 u 1) (.ok (.ptr id ver [] 0))
  |_,_=> .fail
 |_=> .fail
def Im(P:Program)(T:TypeId):Bool:=match P.underlying T with | some (.pointer u)=>(P.info? u).isSome | _=>false
def HQ(P:Program)(s:AS)(T:TypeId)(op:BinOp)(i:Id)(v:Nat)(j:Id)(w:Nat):Out az:=
 match s.obj i with
 |some (v',_,_)=> .guard (decide (i=j) && (v==w) && (v==v') && Im P T) (match op with | .eql=> .ok (.d .bool true) | .neq=> .ok (.d .bool false) | _=> .fail)
 |none=> .fail
def Ag(P:Program)(s:AS)(d:Option Tmp)(T:TypeId)(id:Id)(ver:Nat)(n:Int):Out AS:=
 match s.obj id,P.underlying T with
 |some (v,false,.vec e (.int .u8) l),some (.pointer u)=> .guard ((v==ver) && (u==e) && (P.cellsOf e==1))
   (.ko (decide (0 < n∧n≤((l:List Int).length:Int))) (.ok ((s.bf id .dead).put d (.d .str (gD ((l:List Int).take n.toNat))))))
 |_,_=> .fail
def asInt:az→Out Int
 | .d (.int _) n=> .ok n
 |_=> .fail
def bounds(s:AS)(n:Nat)(lo hi:Option Operand):Out (Nat×Nat):=
 (match hi with
  |some h=>(asInt (s.ev h)).bind fun h=> .ko (decide (0≤h∧h≤(n:Int))) (.ok h.toNat)
  |none=> .ok n).bind fun h=>
 (match lo with
  |some l=>(asInt (s.ev l)).bind fun l=> .ko (decide (0≤l∧l≤(h:Int))) (.ok l.toNat)
  |none=> .ok 0).bind fun l=> .ok (l,h)
def ij(P:Program)(T:TypeId):Option Nat:=
 match P.underlying T with
 |some (.array _ e)=>match P.cellsOf e with | 0=>none | z+1=>some (z+1)
 |some (.slice e)=>match P.cellsOf e with | 0=>none | z+1=>some (z+1)
 |_=>none
def mf(P:Program)(T:TypeId):Option Nat:=
 match P.underlying T with
 |some (.array n _)=>some n
 |_=>none
def qI(P:Program)(s:AS)(T:TypeId)(x:az)(lo hi:Option Operand):Out az:=
 match x with
 | .d .str a=> .guard (match P.underlying T with | some .string=>true | _=>false) ((bounds s a.size lo hi).bind fun b=> .ok (.d .str (a.extract b.1 b.2)))
 | .d (.slice t) l=> .guard (match ij P T,mf P T with | some z,none=>z==t.size | _,_=>false)
   ((bounds s (l:List t.den).length lo hi).bind fun b=> .ok (.d (.slice t) (cut l b.1 (b.2 - b.1))))
 | .dP=> .guard (match ij P T,mf P T with | some _,none=>true | _,_=>false) ((bounds s 0 lo hi).bind fun _=> .ok .dP)
 | .cT id ver p c i len=>(s.row id ver p).bind fun r=> .guard (match ij P T,mf P T with | some z,none=>z==r.2.1.size | _,_=>false)
   ((bounds s len lo hi).bind fun b=> .ok (.cT id ver p (c+b.1*r.2.1.size) (i+b.1) (b.2 - b.1)))
 | .ptr id ver p n=>(s.row id ver p).bind fun r=> .guard (match ij P T,mf P T with | some z,some _=>z==r.2.1.size | _,_=>false)
   (.ko (decide (mf P T=some r.2.2.length∧r.1=n)) ((bounds s ((mf P T).getD 0) lo hi).bind fun b=> .ok (.cT id ver (p++ [.arr]) (n+b.1*r.2.1.size) b.1 (b.2 - b.1))))
 | .eI (.arr n t) l=> .guard (match ij P T,mf P T with | some z,some m=>(z==t.size) && (m==n) | _,_=>false)
   ((bounds s n lo hi).bind fun b=> .ok (.d (.slice t) (cut l b.1 (b.2 - b.1))))
 |_=> .fail
def j8(P:Program)(s:AS)(T:TypeId)(x:az)(i:Int):Out az:=
 match x with
 | .d (.slice t) l=> .guard (match ij P T,mf P T with | some z,none=>z==t.size | _,_=>false)
   (.ko (decide (0≤i∧i < ((l:List t.den).length:Int))) (.ok (.eI t (nth t l i.toNat))))
 | .eI (.arr n t) l=> .guard (match ij P T,mf P T with | some z,some m=>(z==t.size) && (m==n) | _,_=>false)
   (.ko (decide (0≤i∧i < (n:Int))) (.ok (.eI t (nth t l i.toNat))))
 | .cT id ver p c j len=>(s.row id ver p).bind fun r=> .guard (match ij P T,mf P T with | some z,none=>z==r.2.1.size | _,_=>false)
   (.ko (decide (0≤i∧i < (len:Int))) (.ok (.ptr id ver (p++ [.idx (j+i.toNat)]) (c+i.toNat*r.2.1.size))))
 | .ptr id ver p n=> .guard (match ij P T,mf P T with | some _,some _=>true | _,_=>false)
   (.ko (decide (0≤i∧i < (((mf P T).getD 0:Nat):Int))) (.ok (.ptr id ver (p++ [.idx i.toNat]) (n+i.toNat*(ij P T).getD 0))))
 |_=> .fail
def fieldInfo(P:Program)(T:TypeId)(f:Nat):Option (Nat×TypeId):=
 match P.underlying T with
 |some (.struct fs)=>match fs[f]? with | some x=>some (x.offset,x.type) | none=>none
 |_=>none
def partOf:az→Nat→Option (Nat×az)
 | .d (.pair a _) x,0=>some (0,.d a x.1)
 | .d (.pair a b) x,n+1=>match partOf (.d b x.2) n with | some (o,v)=>some (a.size+o,v) | none=>none
 | .pr a _,0=>some (0,a)
 | .pr a b,n+1=>match partOf b n with | some (o,v)=>some (a.size+o,v) | none=>none
 |_,_=>none
def oo(P:Program)(T:TypeId)(x:az)(f:Nat):Out az:=
 match fieldInfo P T f with
 |some (o,ft)=> .guard (!(P.cellsOf ft==0)) (match x with
  | .ptr id ver p n=> .ok (.ptr id ver (p++iR f) (n+o))
  | .eI t x=>match partOf (.d t x) f with
   |some (o',.d t' y)=> .guard (o==o') (.ok (.eI t' y))
   |_=> .fail
  |_=> .fail)
 |none=> .fail
def xH(P:Program)(T:TypeId)(x:az)(f:Nat):Out az:=
 match fieldInfo P T f,partOf x f with
 |some (o,ft),some (o',v)=> .guard ((o==o') && fits P ft v) (.ok v)
 |_,_=> .fail
def xO(P:Program)(T:TypeId)(x:az)(i:Int):Out az:=
 match x,P.underlying T with
 | .d (.arr n t) l,some (.array m e)=> .guard ((n==m) && fits P e (.d t t.zero)) (.ko (decide (0≤i∧i < (n:Int))) (.ok (.d t (nth t l i.toNat))))
 | .d .str a,some .string=> .ko (decide (0≤i∧i < (a.size:Int))) (.ok (.d (.int .u8) ((a.data.toList.getD i.toNat 0).toNat:Int)))
 |_,_=> .fail
def Ho:az→Out az
 | .d (.gv t) l=> .ko (l:Option (List t.den)).isNone (.ok .dP)
 |v=> .ok v
def rp(P:Program)(s:AS)(T:TypeId)(x:az):Out az:=
 match x with
 | .ptr id ver p n=>match s.obj id with
  |some (v,_,c)=> .guard (v==ver) ((loc c.strip p).bind fun r=> .guard (fits P T r.2) (.ko (decide (r.1=n)) (Ho r.2)))
  |none=> .fail
 | .eI t y=> .guard (fits P T (.d t y)) (.ok (.d t y))
 |_=> .fail
def pD(P:Program)(s:AS)(T:TypeId)(x v:az):Out AS:=
 match x with
 | .ptr id ver p n=>match s.obj id with
  |some (ve,fr,c)=> .guard ((ve==ver) && !fr && fits P T v) ((loc c.strip p).bind fun r=> .guard (fits P T r.2) (.ko (decide (r.1=n)) ((nI c.strip p v).bind fun c'=> .ok (s.bf id (.obj ve fr (c.wrap c'))))))
  |none=> .fail
 |_=> .fail
def FN(P:Program)(T:TypeId)(x:az):Out az:=
 match P.underlying T,x with
 |some .string,.d .str a=> .ok (.d (.int .i64) (a.size:Int))
 |some (.slice _),.d (.slice t) l=> .ok (.d (.int .i64) ((l:List t.den).length:Int))
 |some (.slice _),.dP=> .ok (.d (.int .i64) (0:Int))
 |some (.slice _),.cT _ _ _ _ _ len=> .ok (.d (.int .i64) (len:Int))
 |some (.array n _),_=> .ok (.d (.int .i64) (n:Int))
 |_,_=> .fail
def pq(P:Program)(s:AS)(t:Ty)(X:TypeId)(x:az):Out (List t.den):=
 match x with
 | .d .str a=>match P.underlying X with
  |some .string=>Out.opt (kZ (.slice (.int .u8)) (.slice t) (bA a))
  |_=> .fail
 |x=>match P.underlying X with
  |some (.slice _)=>s.Bb (.slice t) x
  |_=> .fail
def dK(n b:Nat):Bool:=decide (n*b≤140737488355328∧n≤9223372036854775807)
def om(P:Program)(nl:Bool)(T:TypeId):Option (TypeId×Ty×Nat):=
 match P.underlying T with
 |some (.slice e)=>match xo P nl depth e with
  |some t=>match(P.cellsOf e==t.size) && !(t.size==0) && yu P e (.d t t.zero) with | true=>some (e,t,P.bytesOf e) | false=>none
  |none=>none
 |_=>none
def tV(P:Program)(T:TypeId):Option (TypeId×Ty×Nat):=om P false T
def xE(P:Program)(T:TypeId):Option (TypeId×Ty×Nat):=
 match Nat.ble 100000 T with
 |true=>om P true (T - 100000)
 |false=>om P false T
def y4(P:Program)(s:AS)(dst:Option Tmp)(T X:TypeId)(n:Int):Out AS:=
 match tV P T,dst,P.underlying X with
 |some (e,t,b),some q,some (.int _)=> .guard (s.ef q) (.ko (decide (0 < n) && dK n.toNat b)
   (.ok ((s.born q [.obj 0 false (.vec e t (List.replicate n.toNat t.zero))]).put dst (.cT (.new q 0) 0 [] 0 0 n.toNat))))
 |_,_,_=> .fail
def C2(mx:Bool):List az→Out az
 |[.d (.int k) x,.d (.int k') y]=> .guard (decide (k=k')) (.ok (.d (.int k) (match mx with | true=>(if x < y then y else x) | false=>(if y < x then y else x))))
 |_=> .fail
def mm(P:Program)(s:AS)(nl dt:Bool)(dst:Option Tmp)(T X:TypeId)(x y:az):Out AS:=
 match om P nl T,dst with
 |some (e,t,b),some q=>(pq P s t X y).bind fun m=>
  match x with
  | .dP=>match dt with
   |true=> .ko (dK m.length b && decide (0 < m.length)) (.ok (s.put dst (.d (.gv t) (some m))))
   |false=> .guard (s.ef q) (.ko (dK m.length b) (.ok ((s.born q [.obj 0 false (.vec e t m)]).put dst (.cT (.new q 0) 0 [] 0 0 m.length))))
  | .cT id ver [] 0 0 len=>match s.obj id with
   |some (v,fr,.vec e' t' l)=> .guard ((v==ver) && (e==e')) ((Out.opt (kZ (.slice t') (.slice t) l)).bind fun l=>
     .ko (decide (len≤l.length)) <| .ko ((!fr) || decide (len=l.length)) (.ko (dK (len+m.length) b)
      (.ok ((s.bf id (.obj (v+1) fr (.vec e t (l.take len++m)))).put dst (.cT id (v+1) [] 0 0 (len+m.length))))))
   |_=> .fail
  |_=> .fail
 |_,_=> .fail
def uB(P:Program)(s:AS)(dst:Option Tmp)(T X:TypeId)(x y:az):Out AS:=
 match tV P T,x with
 |some (_,t,_),.cT id ver [.arr] 0 0 len=>(pq P s t X y).bind fun m=>match s.obj id with
  |some (ve,false,.d (.arr n t') l)=> .guard ((ve==ver) && (len==n)) ((Out.opt (kZ (.slice t') (.slice t) l)).bind fun l=> .ko (decide (m.length≤n))
    (.ok ((s.bf id (.obj ve false (.d (.arr n t) (m++(l:List t.den).drop m.length)))).put dst (.d (.int .i64) (m.length:Int)))))
  |_=> .fail
 |_,_=> .fail
def gS(t:Ty)(s:AS):List (Nat×Operand)→List t.den→Out (List t.den×List Id)
 |[],l=> .ok (l,[])
 | (i,x)::ps,l=> .guard (decide (i < l.length)) ((s.gN t (s.ev x)).bind fun y=>(gS t s ps (l.set i y)).bind fun r=> .ok (r.1,(s.ev x).shared++r.2))
def jx(P:Program)(fs:Array Field)(s:AS):List (Nat×Operand)→az→Out az
 |[],v=> .ok v
 | (i,x)::ps,v=>match fs[i]?,partOf v i with
  |some f,some (o,dH)=> .guard ((f.offset==o) && fits P f.type dH && fits P f.type (s.ev x)) ((nI v (iR i) (s.ev x)).bind fun v'=>jx P fs s ps v')
  |_,_=> .fail
def o7(P:Program)(s:AS)(dst:Option Tmp)(T:TypeId)(parts:List (Nat×Operand)):Out AS:=
 match P.underlying T with
 |some (.struct fs)=>match zeroOf P depth T with
  |some z=> .guard (yu P T z && z.agg && fs.toList.all fun f=>(P.info? f.type).isSome)
    ((jx P fs s parts z).bind fun v=> .ok (s.put dst v))
  |none=> .fail
 |some (.array n e)=>match Al P depth e with
  |some t=> .guard ((P.cellsOf e==t.size) && yu P T (.d (.arr n t) (List.replicate n t.zero))) ((gS t s parts (List.replicate n t.zero)).bind fun r=> .ok ((s.bq r.2).put dst (.d (.arr n t) r.1)))
  |none=> .fail
 |_=> .fail
def iB(P:Program)(s:AS)(nl obj:Bool)(dst:Option Tmp)(T:TypeId)(n:Nat)(parts:List (Nat×Operand)):Out AS:=
 match om P nl T,dst with
 |some (e,t,_),some q=> .guard (decide (n*t.size≤16777216)) ((gS t s parts (List.replicate n t.zero)).bind fun r=>
   match obj with
   |true=> .guard (s.ef q) (.ok (((s.bq r.2).born q [.obj 0 false (.vec e t r.1)]).put dst (.cT (.new q 0) 0 [] 0 0 r.1.length)))
   |false=> .ok ((s.bq r.2).put dst (.d (.slice t) r.1)))
 |_,_=> .fail
def kb(P:Program)(s:AS)(dst:Option Tmp)(T:TypeId)(len cap:Int):Out AS:=
 match tV P T,dst with
 |some (e,t,b),some q=> .guard (s.ef q) (.ko (decide (0≤len∧len≤cap) && dK cap.toNat b)
   (.ok ((s.born q [.obj 0 false (.vec e t (List.replicate len.toNat t.zero))]).put dst (.cT (.new q 0) 0 [] 0 0 len.toNat))))
 |_,_=> .fail
def F0(P:Program)(T:TypeId):Bool:=
 match P.underlying T with
 |some (.struct fs)=>fs.toList.any fun f=>match P.underlying f.type with | some (.pointer u)=>decide (u=T) | _=>false
 |_=>false
def boxed(P:Program)(T:TypeId)(z:az):az:=match F0 P T with | true=> .bx T 0 z | false=>z
def yL(P:Program)(s:AS)(obj:Bool)(dst:Option Tmp)(T:TypeId)(v:az):Out AS:=
 match dst with
 |some q=>match obj with
  |true=> .guard (s.ef q && fits P T v) (.ok ((s.born q [.obj 0 false v]).put dst (.ptr (.new q 0) 0 [] 0)))
  |false=>match Al P depth T with
   |some t=> .guard (fits P T (.d t t.zero)) ((s.gN t v).bind fun x=> .ok ((s.bq v.shared).put dst (.eI t x)))
   |none=> .fail
 |none=> .fail
def qL(P:Program)(s:AS)(dst:Option Tmp)(T:TypeId)(x:az):Out AS:=
 match P.underlying T with
 |some (.array n e)=>match Al P depth e with
  |some t=> .guard ((P.cellsOf e==t.size) && !(n==0) && !(t.size==0)) ((s.gN (.slice t) x).bind fun l=> .ko (decide (n≤(l:List t.den).length)) (.ok ((s.bq x.shared).put dst (.eI (.arr n t) (l.take n)))))
  |none=> .fail
 |_=> .fail
def jX(s:AS):List Operand→az
 |[]=> .nil
 |x::xs=> .cons (s.ev x) (jX s xs)
def mG:az→Bool
 | .cons a b=>a.fa && mG b
 | .nil=>true
 |_=>false
def Ca(c a b:az):Out az:=
 match c with
 | .d .bool c=>match a,b with
  | .d .bool x,.d .bool y=> .ok (.d .bool (bif c then x else y))
  |a,b=> .br c (.ok a) (.ok b)
 |_=> .fail
def isObj(bZ:List Nat):Option Tmp→Bool
 |some q=>bZ.any fun x=>decide (x=q)
 |none=>false
def CU(bZ:List Nat)(dst:Option Tmp):Bool:=isObj bZ (dst.map (· +100000))
def FL(bZ:List Nat)(dst:Option Tmp):Bool:=isObj bZ (dst.map (· +200000))
def jE:(t:Ty)→az→Out t.den
 |t,.d t' x=>Out.opt (kZ t' t x)
 | .slice _,.dP=> .ok []
 | .pair a b,.pr x y=>(jE a x).bind fun x=>(jE b y).bind fun y=> .ok (x,y)
 |_,_=> .fail
def mapOf(P:Program)(T:TypeId):Option (TypeId×TypeId×Ty×Ty):=
 match P.underlying T with
 |some (.map K V)=>match Al P depth K,Al P depth V with
  |some kt,some vt=>match ke P depth K kt && yu P V (.d vt vt.zero) with | true=>some (K,V,kt,vt) | false=>none
  |_,_=>none
 |_=>none
def gE{β:Type}(kt:Ty)(x:kt.den):List (kt.den×β)→Option Nat
 |[]=>none
 |p::l=>match kt.beq x p.1 with | true=>some 0 | false=>(gE kt x l).map (· +1)
def ki{β:Type}(kt:Ty)(x:kt.den)(l:List (kt.den×β)):Option β:=(gE kt x l).bind fun i=>(l[i]?).map (·.2)
def kK{β:Type}(kt:Ty)(x:kt.den)(v:β)(l:List (kt.den×β)):List (kt.den×β):=
 match gE kt x l with | some i=>l.set i (x,v) | none=>l++ [(x,v)]
def nT{β:Type}(kt:Ty)(x:kt.den)(l:List (kt.den×β)):List (kt.den×β):=
 match gE kt x l with | some i=>l.eraseIdx i | none=>l
def AF(k v k' v':Ty)(l:List (k.den×v.den)):Option (List (k'.den×v'.den)):=if h:k=k'∧v=v' then some (h.1▸h.2▸l) else none
def AS.kI(s:AS)(id:Id)(ver:Nat)(kt vt:Ty):Out (List (kt.den×vt.den)):=
 match s.obj id with
 |some (v,_,.mp k' v' l)=> .guard (v==ver) (Out.opt (AF k' v' kt vt l))
 |_=> .fail
def AS.kT(s:AS)(id:Id):Bool:=match s.obj id with | some (_,fr,_)=> !fr | none=>false
def Gt(vt:Ty)(ok:Bool)(r:Option vt.den):az:=
 match ok with
 |true=> .cons (.d vt (r.getD vt.zero)) (.cons (.d .bool r.isSome) .nil)
 |false=> .d vt (r.getD vt.zero)
def po(P:Program)(s:AS)(dst:Option Tmp)(T:TypeId):Out AS:=
 match mapOf P T,dst with
 |some (_,_,kt,vt),some q=> .guard (s.ef q) (.ok ((s.born q [.obj 0 false (.mp kt vt [])]).put dst (.kL (.new q 0) 0)))
 |_,_=> .fail
def ov(P:Program)(s:AS)(T:TypeId)(m k:az)(ok:Bool):Out az:=
 match mapOf P T,m with
 |some (_,_,kt,vt),.kL id ver=>(s.kI id ver kt vt).bind fun l=>(jE kt k).bind fun k=> .ok (Gt vt ok (ki kt k l))
 |_,_=> .fail
def oA(P:Program)(s:AS)(T:TypeId)(m k v:az):Out AS:=
 match mapOf P T,m with
 |some (_,_,kt,vt),.kL id ver=>(s.kI id ver kt vt).bind fun l=>(jE kt k).bind fun k=>(jE vt v).bind fun v=> .guard (s.kT id) (.ok (s.bf id (.obj ver false (.mp kt vt (kK kt k v l)))))
 |_,_=> .fail
def oz(P:Program)(s:AS)(T:TypeId)(m k:az):Out AS:=
 match mapOf P T,m with
 |some (_,_,kt,vt),.kL id ver=>(s.kI id ver kt vt).bind fun l=>(jE kt k).bind fun k=> .guard (s.kT id) (.ok (s.bf id (.obj ver false (.mp kt vt (nT kt k l)))))
 |_,_=> .fail
def AS.zk(s:AS)(id:Id)(ver:Nat):Bool:=match s.obj id with | some (v,true,.mp ..)=>v==ver | _=>false
def eL.Ee(q:Id):eL→Bool
 | .obj _ _ (.kF q' ver _ _ _ _)=>decide (q'=q) && !(ver==0)
 |_=>false
def AS.vl(s:AS)(q:Id):Bool:=s.dd.any (eL.Ee q) || s.news.any fun es=>es.any (eL.Ee q)
def yd(kt vt:Ty)(l:List (kt.den×vt.den))(j:Nat):kt.den×vt.den:=l.getD j (kt.zero,vt.zero)
def Bg(P:Program)(s:AS)(dst:Option Tmp)(T:TypeId)(m:az):Out AS:=
 match mapOf P T,m,dst with
 |some (_,_,kt,vt),.kL id ver,some q=>(s.kI id ver kt vt).bind fun l=> .guard (s.kT id && s.ef q)
   (.ok (((s.bf id (.obj ver true (.mp kt vt l))).born q [.obj 0 false (.kF id (ver+1) kt vt l none)]).put dst (.ptr (.new q 0) 0 [] 0)))
 |_,_,_=> .fail
structure Cp where
 i:Id
 v:Nat
 fr:Bool
 q:Id
 vr:Nat
 kt:Ty
 vt:Ty
 rest:List (kt.den×vt.den)
 cur:Option (kt.den×vt.den)
def AS.Ed(s:AS)(x:az):Option Cp:=
 match x with
 | .ptr i ver [] 0=>match s.obj i with
  |some (v,fr,.kF q (vr+1) kt vt rest cur)=>match v==ver,s.zk q vr with
   |true,true=>some ⟨i,v,fr,q,vr,kt,vt,rest,cur⟩
   |_,_=>none
  |_=>none
 |_=>none
def AN(s:AS)(x:az):Out az:=
 match s.Ed x with
 |some ⟨_,_,_,_,_,kt,vt,_,some c⟩=> .ok (.cons (.d kt c.1) (.cons (.d vt c.2) .nil))
 |_=> .fail
def AS.drawn(s:AS)(t:Cp)(dst:Option Tmp)(j:Nat):AS:=
 (s.bf t.i (.obj t.v t.fr (.kF t.q (t.vr+1) t.kt t.vt (t.rest.eraseIdx j) (some (yd t.kt t.vt t.rest j))))).put dst
  (.cons (.d .bool true) (.cons (.d t.kt (yd t.kt t.vt t.rest j).1) (.cons (.d t.vt (yd t.kt t.vt t.rest j).2) .nil)))
def AS.unlock(s:AS)(id:Id):AS:=match s.obj id with | some (v,_,c)=>s.bf id (.obj v false c) | none=>s
def AS.FV(s:AS)(t:Cp)(dst:Option Tmp):Option AS:=
 match(s.bf t.i (.obj t.v t.fr (.kF t.q 0 t.kt t.vt [] none))).vl t.q with
 |false=>some (((s.bf t.i (.obj t.v t.fr (.kF t.q 0 t.kt t.vt [] none))).unlock t.q).put dst (.cons (.d .bool false) .nil))
 |true=>none
open Classical in
noncomputable def IP{R:Type}(n:Nat)(k:Nat→Option R):Option R:=if h:∃r,0 < n∧∀j,j < n→k j=some r then some h.choose else none
open Classical in
noncomputable def GS{X R:Type}(S:X→Prop)(k:X→Option R):Option R:=if h:∃r,(∃x,S x)∧∀x,S x→k x=some r then some h.choose else none
noncomputable def Es{R:Type}(s:AS)(dst:Option Tmp)(t:Cp)(k:AS→Option R):Option R:=
 aC (decide (0 < t.rest.length)) (IP t.rest.length fun j=>k (s.drawn t dst j)) (match s.FV t dst with | some s'=>k s' | none=>none)
def jM(P:Program)(Γ:dX)(bZ:List Nat)(o:Oper)(s:AS):Out AS:=
 match o.op with
 | .move x=> .ok (s.put o.dst (s.ev x))
 | .assign x=> .ok (s.put o.dst (s.ev x))
 | .pick c a b=>(Ca (s.ev c) (s.ev a) (s.ev b)).bind fun v=> .ok (s.put o.dst v)
 | .alloc T=>match zeroOf P depth T,o.dst with
  |some z,some q=> .guard (s.ef q && yu P T z) (.ok ((s.born q [.obj 0 false (boxed P T z)]).put o.dst (.ptr (.new q 0) 0 [] 0)))
  |_,_=> .fail
 | .box T x=>yL P s (isObj bZ o.dst) o.dst T (s.ev x)
 | .build T parts=>o7 P s o.dst T parts.toList
 | .buildSlice T n parts=>iB P s (CU bZ o.dst) (isObj bZ o.dst) o.dst T n parts.toList
 | .load T x=>(rp P s T (s.ev x)).bind fun v=> .ok (s.put o.dst v)
 | .store T x v=>(pD P s T (s.ev x) (s.ev v)).bind fun s'=> .ok (s'.put o.dst .undef)
 | .nilCheck x=>match s.ev x with
  | .ptr id v p n=> .ok (s.put o.dst (.ptr id v p n))
  | .eI t y=> .ok (s.put o.dst (.eI t y))
  | .fn f c=> .ok (s.put o.dst (.fn f c))
  |_=> .fail
 | .binOp op T x y _=>match s.ev x,s.ev y with
  | .ptr i v [] 0,.ptr j w [] 0=>(HQ P s T op i v j w).bind fun v=> .ok (s.put o.dst v)
  |_,_=>(GO P T op (s.ev x) (s.ev y)).bind fun v=> .ok (s.put o.dst v)
 | .unOp op _ x=>(IJ op (s.ev x)).bind fun v=> .ok (s.put o.dst v)
 | .convert src dst x=>match src==dst,s.ev x with
  |true,.cT id ver [] 0 0 len=>yR P s o.dst src dst id ver len
  |_,.ptr id ver [] 0=>(wP P s src dst id ver).bind fun v=> .ok (s.put o.dst v)
  |_,_=>(wO P s (isObj bZ o.dst) src dst (s.ev x)).bind fun v=> .ok (s.put o.dst v)
 | .sliceToArrayPointer T x=>qL P s o.dst T (s.ev x)
 | .makeFunc (.func f) first caps=> .guard (first.isEmpty && mG (jX s caps.toList)) (.ok (s.put o.dst (.fn f (jX s caps.toList))))
 | .makeSlice T l c=>(asInt (s.ev l)).bind fun l=>(asInt (s.ev c)).bind fun c=>kb P s o.dst T l c
 | .slice T x lo hi none=>(qI P s T (s.ev x) lo hi).bind fun v=> .ok (s.put o.dst v)
 | .fieldAddr T x f=>(oo P T (s.ev x) f).bind fun v=> .ok (s.put o.dst v)
 | .field T x f=>(xH P T (s.ev x) f).bind fun v=> .ok (s.put o.dst v)
 | .indexAddr T x i=>(asInt (s.ev i)).bind fun i=>(j8 P s T (s.ev x) i).bind fun v=> .ok (s.put o.dst v)
 | .index T x i=>(asInt (s.ev i)).bind fun i=>(xO P T (s.ev x) i).bind fun v=> .ok (s.put o.dst v)
 | .extract x i=>(Out.opt ((s.ev x).list[i]?)).bind fun v=> .ok (s.put o.dst v)
 | .makeMap T none=>po P s o.dst T
 | .lookup T x i ok=>(ov P s T (s.ev x) (s.ev i) ok).bind fun v=> .ok (s.put o.dst v)
 | .mapUpdate T m k x=>(oA P s T (s.ev m) (s.ev k) (s.ev x)).bind fun s'=> .ok (s'.put o.dst .undef)
 | .call c=>match c.callee with
  | .builtin .delete=>match c.args.toList,c.argTypes.toList with
   |[m,k],[T,_]=>(oz P s T (s.ev m) (s.ev k)).bind fun s'=> .ok (s'.put o.dst .nil)
   |_,_=> .fail
  | .builtin .copy=>match c.args.toList,c.argTypes.toList with
   |[x,y],[T,X]=>uB P s o.dst T X (s.ev x) (s.ev y)
   |_,_=> .fail
  | .builtin .len=>match c.args.toList,c.argTypes.toList with
   |[x],[T]=>(FN P T (s.ev x)).bind fun v=> .ok (s.put o.dst v)
   |_,_=> .fail
  | .builtin .append=>match c.args.toList,c.argTypes.toList with
   |[x,y],[T,X]=>match s.ev x,s.ev y with
    | .dP,.d (.int _) n=>y4 P s o.dst T X n
    |_,_=>mm P s (CU bZ o.dst) (FL bZ o.dst) o.dst T X (s.ev x) (s.ev y)
   |_,_=> .fail
  | .builtin .cap=>match c.args.toList,c.argTypes.toList with
   |[x],[T]=>match s.ev x,P.underlying T with
    | .dP,some (.slice _)=> .ok (s.put o.dst (.d (.int .i64) (0:Int)))
    |_,_=> .fail
   |_,_=> .fail
  | .builtin .max=>(C2 true (c.args.toList.map s.ev)).bind fun v=> .ok (s.put o.dst v)
  | .builtin .min=>(C2 false (c.args.toList.map s.ev)).bind fun v=> .ok (s.put o.dst v)
  | .builtin .unsafeSliceData=>match c.args.toList with
   |[x]=>match s.ev x with
    | .cT id ver [] 0 0 len=> .ko (decide (0 < len)) (.ok (s.put o.dst (.ptr id ver [.idx 0] 0)))
    |_=> .fail
   |_=> .fail
  | .builtin .unsafeString=>match c.args.toList,c.argTypes.toList with
   |[x,y],[T,_]=>match s.ev x,s.ev y with
    | .ptr id ver [.idx 0] 0,.d (.int .i64) n=>Ag P s o.dst T id ver n
    |_,_=> .fail
   |_,_=> .fail
  | .value f=>match s.ev f with
   | .fn f caps=>match Γ f (c.args.toList.map s.ev++caps.list) with
    |some en=>s.call en o.dst (c.args.toList.map s.ev++caps.list)
    |none=> .fail
   |_=> .fail
  |_=> .fail
 |_=> .fail
def uf(xs:Array Operand):List Nat:=xs.toList.filterMap fun | .tmp t=>some t | _=>none
def sA(ops:Array Oper)(o:Oper):List Nat:=
 match o.guard with
 |some (j,_)=>match(ops[j]?).bind (·.dst) with | some t=> [t] | none=> []
 |none=> []
def Hb{R:Type}(P:Program)(Γ:dX)(bZ:List Nat)(ops:Array Oper)(o:Oper)(s:AS)(k:AS→Option R):Option R:=
 match o.guard with
 |none=>(jM P Γ bZ o s).run k
 |some (j,want)=>match(ops[j]?).bind (·.dst) with
  |some q=>match s.slot q with
   | .d .bool b=>match want with
    |true=>aC b ((jM P Γ bZ o (s.put (some q) (.d .bool true))).run k) (k ((s.put (some q) (.d .bool false)).put o.dst .nil))
    |false=>aC b (k ((s.put (some q) (.d .bool true)).put o.dst .nil)) ((jM P Γ bZ o (s.put (some q) (.d .bool false))).run k)
   | .nil=>k (s.put o.dst .nil)
   |_=>none
  |none=>none
def vd(s:AS)(x y:Operand):Option Nat:=
 match s.ev x,s.ev y with
 | .d (.slice t) l,.dP=>some (l:List t.den).length
 | .dP,.d (.slice t) l=>some (l:List t.den).length
 | .cT _ _ _ _ _ len,.dP=>some len
 | .dP,.cT _ _ _ _ _ len=>some len
 |_,_=>none
open Classical in
noncomputable def nd{R:Type}(x y:Option R):Option R:=if x=y then x else none
noncomputable def FG{R:Type}(P:Program)(Γ:dX)(bZ:List Nat)(ops:Array Oper)(o:Oper)(s:AS)(k:AS→Option R):Option R:=
 match o.guard,o.op with
 |none,.binOp .eql T x y _=>match vd s x y,nQ.isSl P T with
  |some n,true=>aC (decide (0 < n)) (k (s.put o.dst (.d .bool false))) (nd (k (s.put o.dst (.d .bool true))) (k (s.put o.dst (.d .bool false))))
  |_,_=>Hb P Γ bZ ops o s k
 |none,.binOp .neq T x y _=>match vd s x y,nQ.isSl P T with
  |some n,true=>aC (decide (0 < n)) (k (s.put o.dst (.d .bool true))) (nd (k (s.put o.dst (.d .bool true))) (k (s.put o.dst (.d .bool false))))
  |_,_=>Hb P Γ bZ ops o s k
 |none,.range T m=>(Bg P s o.dst T (s.ev m)).run k
 |none,.entry x=>((AN s (s.ev x)).bind fun v=> .ok (s.put o.dst v)).run k
 |none,.next x false=>match s.Ed (s.ev x) with
  |some t=>Es s o.dst t k
  |none=>none
 |_,_=>Hb P Γ bZ ops o s k
noncomputable def seen{α R:Type}(l:List α):(List α→R)→R:=List.rec (motive:=fun _=>(List α→R)→R) (fun k=>k []) (fun x _ ih k=>ih fun l'=>k (x::l')) l
theorem rP{α R:Type}:∀(l:List α) (k:List α→R),seen l k=k l
 |[],_=>rfl
 |_::l,k=>rP l _
noncomputable def AS.seen{R:Type}(s:AS)(k:AS→R):R:=Go.Ab.seen s.cS fun l=>k ⟨l,s.dd,s.news⟩
theorem AS.rP{R:Type}(s:AS)(k:AS→R):s.seen k=k s:=Go.Ab.rP _ _
noncomputable def FH{R:Type}(P:Program)(Γ:dX)(bZ:List Nat)(ops:Array Oper):List Oper→AS→(AS→Option R)→Option R
 |[],s,k=>k s
 |o::l,s,k=>FG P Γ bZ ops o s fun s'=>s'.seen fun s'=>FH P Γ bZ ops l s' k
def xy(acc:List Nat)(o:Oper):Nat:=(o.after.toList.filter (Region.binds .any)).foldr (fun e m=>Nat.lor (Nat.lor (Nat.pow 2 e.on) (acc.getD e.on 0)) m) 0
def yG(ops:List Oper):List Nat:=ops.foldl (fun acc o=>acc++ [xy acc o]) []
structure oV where
 dst:Option Tmp
 cS:List Nat
 rs:List Id
 ws:List Id
def w4:Op→Bool
 | .move _=>true
 |_=>false
def zE(s:AS)(o:Oper):List Id:=match w4 o.op with | true=> [] | false=>(uf o.op.operands).flatMap fun i=>(s.slot i).ids
def lC:List (Option Ty)→List az→List Id
 |none::ps,v::vs=>v.ids++lC ps vs
 |some _::ps,_::vs=>lC ps vs
 |_,_=> []
def writes(Γ:dX)(s:AS)(o:Oper):List Id:=
 match o.op with
 | .store _ x _=>(s.ev x).ids
 | .mapUpdate _ m _ _=>(s.ev m).ids
 | .convert src dst x=>match src==dst with | true=>(s.ev x).ids | false=> []
 | .call c=>match c.callee with
  | .builtin .append=>match c.args.toList with | x::_=>(s.ev x).ids | []=> []
  | .builtin .delete=>match c.args.toList with | x::_=>(s.ev x).ids | []=> []
  | .builtin .copy=>match c.args.toList with | x::_=>(s.ev x).ids | []=> []
  | .builtin .unsafeString=>match c.args.toList with | x::_=>(s.ev x).ids | []=> []
  | .value F=>match s.ev F with
   | .fn f caps=>match Γ f (c.args.toList.map s.ev++caps.list) with
    |some en=>s.reach 64 (lC en.params (c.args.toList.map s.ev++caps.list)) []
    |none=> []
   |_=> []
  |_=> []
 |_=> []
def fS(Γ:dX)(ops:Array Oper)(s:AS)(o:Oper):oV:=
 {dst:=o.dst,cS:=uf o.op.operands++sA ops o,rs:=zE s o++writes Γ s o,ws:=writes Γ s o}
def meets(xs ys:List Id):Bool:=xs.any fun x=>ys.any fun y=>decide (x=y)
def oV.Ic(f g:oV):Bool:=
 match f.dst with
 |some t=>(g.cS.any fun x=>decide (x=t)) || decide (g.dst=some t)
 |none=>false
def vE(d:Option Tmp)(ids:List Id):Bool:=
 match d with
 |some q=>ids.any fun x=>match x with | .new i _=>decide (i=q) | .dH _=>false
 |none=>false
def oV.indep(f g:oV):Bool:= !f.Ic g && !g.Ic f && !meets f.ws g.rs && !meets g.ws f.rs && !vE f.dst g.rs && !vE g.dst f.rs
noncomputable def wV{R:Type}(P:Program)(Γ:dX)(bZ:List Nat)(ops:Array Oper)(anc:List Nat):Nat→List Oper→List (Nat×oV)→AS→(AS→Option R)→Option R
 |_,[],_,s,k=>k s
 |i,o::l,fs,s,k=>
  match fs.all fun x=>(anc.getD i 0).testBit x.1 || x.2.indep (fS Γ ops s o) with
  |true=>Hb P Γ bZ ops o s fun s'=>s'.seen fun s'=>wV P Γ bZ ops anc (i+1) l ((i,fS Γ ops s o)::fs) s' k
  |false=>none
def xD(ops:List Oper):Bool:=ops.zipIdx.all fun x=>x.1.after.toList.all fun e=> !Region.binds .any e || decide (e.on < x.2)
structure Ft where
 j:Nat
 p:List qo
 q:Nat
 T:TypeId
structure Iz where
 j:Nat
 p:List qo
 t:Ty
structure iY where
 bt:List Nat:=[]
 sites:List Nat:=[]
 BT:List Id:=[]
 data:List (Nat×Ty):=[]
 kc:List Ft:=[]
 yT:List Iz:=[]
 Jo:List Nat:=[]
 H0:List Id:=[]
 Jx:List Nat:=[]
 JN:List Nat:=[]
structure cf where
 X:Type
 run:AS→Option X
 out:X→Out (Exit×AS)
 set:Option (AS→X→Prop):=none
structure oW where
 an:iY
 X:Type
 Gh:Exit→AS→Option X
 out:X→Out (Exit×AS)
 ok:∀e s x,Gh e s=some x→(out x).eval=some (e,s)
structure ej where
 bZ:List Nat:=[]
 loops:Nat→iY:=fun _=> {}
 outs:Nat→Bool→iY:=fun _ _=> {}
 gk:Nat→Option cf:=fun _=>none
 kc:List Ft:=[]
 trim:List Nat:=[]
 res:List (Option Ty):=[]
 yT:List Iz:=[]
 Gk:Nat→Option oW:=fun _=>none
 Gl:Nat→Option oW:=fun _=>none
def eg:Code→Nat
 | .region id _ _=>id
 | .seq a _=>eg a
 | .block _ b=>eg b
 | .loop b=>eg b
 | .scope b=>eg b
 |_=>0
def gY(bt:List Nat):Nat→List az→List az
 |_,[]=> []
 |i,v::vs=>(match bt.any (fun x=>decide (x=i)) with | true=>v | false=> .undef)::gY bt (i+1) vs
def iS(bt:List Nat):Nat→List (List eL)→List (List eL)
 |_,[]=> []
 |i,v::vs=>(match bt.any (fun x=>decide (x=i)) with | true=>v | false=> [])::iS bt (i+1) vs
def az.head:az→Option (Id×Nat)
 | .cT id ver [] 0 0 _=>some (id,ver)
 | .ptr id ver [] 0=>some (id,ver)
 |_=>none
def rG(es:List eL)(b q:Nat)(i:Id)(ver:Nat):Option (Id×Nat):=
 match i with
 | .dH k=>some (.dH k,ver)
 | .new x j=>match decide (x=b) with
  |true=>(match es[j]? with | some (.obj v _ _)=>(match ver==v with | true=>some (.new q j,0) | false=>none) | _=>none)
  |false=>(match decide (x=q) with | true=>none | false=>some (.new x j,ver))
def eL.FW(ρ:Id→Nat→Option (Id×Nat)):eL→eL
 | .obj _ fr c=> .obj 0 fr (c.ir ρ)
 | .dead=> .dead
def az.Ht(ρ:Id→Nat→Option (Id×Nat))(kp:Id→Bool):az→az
 | .kF q ver k v rest cur=>match kp q with | true=> .kF q ver k v rest cur | false=> .kF q 0 k v rest cur
 |c=>c.ir ρ
def eL.wu(ρ:Id→Nat→Option (Id×Nat))(kp:Id→Bool):eL→eL
 | .obj v fr c=> .obj v fr (c.Ht ρ kp)
 | .dead=> .dead
def pT(b q:Nat):Id→Bool | .dH _=>true | .new x _=> !decide (x=b) && !decide (x=q)
def AS.pz(s:AS)(b q:Nat)(es:List eL):AS:=
 {cS:=s.cS.map (az.ir (rG es b q)),dd:=s.dd.map (eL.wu (rG es b q) (pT b q)),
  news:=((s.news.map fun es'=>es'.map (eL.wu (rG es b q) (pT b q))).set b []).set q (es.map (eL.FW (rG es b q)))}
def AS.at(s:AS)(j:Nat):List qo→Out az
 |[]=> .ok (s.slot j)
 |p=>match s.slot j with
  | .ptr id ver p0 _=>match s.obj id with
   |some (v,_,c)=> .guard (v==ver) ((loc c.strip (p0++p)).bind fun r=> .ok r.2)
   |none=> .fail
  |_=> .fail
def AS.putAt(s:AS)(j:Nat)(v:az):List qo→Out AS
 |[]=> .ok (s.put (some j) v)
 |p=>match s.slot j with
  | .ptr id _ p0 _=>match s.obj id with
   |some (ver,fr,c)=>match c.strip with
    | .vec .. => .fail
    |c1=>(nI c1 (p0++p) v).bind fun c'=> .ok (s.bf id (.obj ver fr (c.wrap c')))
   |none=> .fail
  |_=> .fail
def AS.still(s:AS):List Nat→AS
 |[]=>s
 |q::l=>(match s.obj (.new q 0) with | some (v,fr,.kF i ver k t r _)=>s.bf (.new q 0) (.obj v fr (.kF i ver k t r none)) | _=>s).still l
def EF(α:Type):Setoid (List α):=⟨List.Perm,List.Perm.refl,List.Perm.symm,List.Perm.trans⟩
noncomputable def AE{α:Type}(l:List α):List α:=(Quotient.exists_rep (Quotient.mk (EF α) l)).choose
noncomputable def AS.canon(s:AS):List Id→AS
 |[]=>s
 |id::l=>(match s.obj id with | some (v,fr,.mp k t r)=>s.bf id (.obj v fr (.mp k t (AE r))) | _=>s).canon l
def uC(s:AS):List Iz→Out AS
 |[]=> .ok s
 |o::l=>match o.p,s.slot o.j with
  |_::_,.lk=>uC s l
  |_,_=>(s.at o.j o.p).bind fun u=>(s.gN o.t u).bind fun x=>((s.bq u.shared).putAt o.j (.d o.t x) o.p).bind fun s'=>uC s' l
def sr:(t:Ty)→t.den→Out az
 | .gv t,x=> .ko (x:Option (List t.den)).isNone (.ok .dP)
 | .pair a b,x=>(sr a x.1).bind fun u=>(sr b x.2).bind fun v=> .ok (ru u v)
 |t,x=> .ok (.d t x)
def CQ(s:AS):List Nat→Out AS
 |[]=> .ok s
 |j::l=>match s.slot j with
  | .ptr id ver (.idx k::p) n=>match s.obj id with
   |some (v,false,.vec e t r)=> .guard (v==ver) (.ko (decide (k < r.length)) ((sr t (nth t r k)).bind fun u=>
     CQ ((s.bf id (.obj v false (.bx e t.size (.pr (.d (.arr k t) (r.take k)) (.pr u (.d (.arr (r.drop (k+1)).length t) (r.drop (k+1)))))))).put (some j) (.ptr id ver (.snd:: .fst::p) n)) l))
   |_=> .fail
  | .ptr _ _ (.snd::_) _=>CQ s l
  |_=> .fail
def Fb(s:AS):List Nat→Out AS
 |[]=> .ok s
 |j::l=>match s.slot j with
  | .ptr id ver (.snd:: .fst::p) n=>match s.obj id with
   |some (v,false,.bx e z (.pr (.d (.arr k t) l1) (.pr u (.d (.arr _ t') l2))))=> .guard ((v==ver) && (z==t.size) && !(z==0) && !(u.shared.any fun i=>decide (i=id)))
     ((Out.opt (kZ (.slice t') (.slice t) l2)).bind fun l2=>(s.gN t u).bind fun x=>
      Fb (((s.bq u.shared).bf id (.obj v false (.vec e t (l1++x::l2)))).put (some j) (.ptr id ver (.idx k::p) n)) l)
   |_=> .fail
  |_=> .fail
def nk(P:Program)(s:AS):List Ft→Out AS
 |[]=> .ok s
 |o::l=>match o.p,s.slot o.j with
  |_::_,.lk=>nk P s l
  |_,_=>(s.at o.j o.p).bind fun u=>match u with
  | .dP=>match xE P o.T,s.ef o.q with
   |some (e,t,_),true=>((s.born o.q [.obj 0 false (.vec e t [])]).putAt o.j (.cT (.new o.q 0) 0 [] 0 0 0) o.p).bind fun s'=>nk P s' l
   |_,_=> .fail
  |u=>match u.head with
   |some (.new b j,ver)=>match s.obj (.new b j),decide (o.q < s.news.length) with
    |some (v,_,_),true=>match v==ver with
     |true=>nk P (s.pz b o.q (s.news.getD b [])) l
     |false=> .fail
    |_,_=> .fail
   |_=> .fail
def Aj(s:AS):List Nat→Out AS
 |[]=> .ok s
 |j::l=>match s.slot j with
  | .cT id ver [] 0 0 len=>match s.obj id with
   |some (v,false,.vec e t r)=>match v==ver with
    |true=> .ko (decide (len≤r.length)) (Aj (s.bf id (.obj v false (.vec e t (r.take len)))) l)
    |false=> .fail
   |_=> .fail
  |_=> .fail
def asData(s:AS):List (Nat×Ty)→Out AS
 |[]=> .ok s
 | (j,t)::l=>(s.gN t (s.slot j)).bind fun x=>asData ((s.bq (s.slot j).shared).put (some j) (.d t x)) l
def az.there(s:AS):az→Bool
 | .ptr id _ _ _=>(s.obj id).isSome
 | .cT id _ _ _ _ _=>(s.obj id).isSome
 | .pr a b=>a.there s && b.there s
 | .cons a b=>a.there s && b.there s
 | .fn _ c=>c.there s
 | .bx _ _ c=>c.there s
 | .kL id _=>(s.obj id).isSome
 | .kF .. =>false
 |_=>true
def eL.there(s:AS):eL→Bool
 | .obj _ _ (.kF id _ _ _ _ _)=>(s.obj id).isSome
 | .obj _ _ c=>c.there s
 | .dead=>true
def rk(an:iY)(s:AS):AS:= {cS:=gY an.bt 0 s.cS,dd:=s.dd,news:=iS an.sites 0 s.news}
def AS.yE(s:AS):Bool:=(s.cS.all (az.there s)) && (s.dd.all (eL.there s)) && (s.news.all fun es=>es.all (eL.there s))
noncomputable def norm(P:Program)(an:iY)(s:AS):Out AS:=
 (Fb (((s.bq an.BT).still an.Jo).canon an.H0) an.JN).bind fun s=>(uC s an.yT).bind fun s=>(asData s an.data).bind fun s=> .guard (rk an s).yE ((CQ (rk an s) an.Jx).bind fun s=>nk P s an.kc)
def tp{R:Type}(nrm:AS→Out AS)(nrmX:Exit→AS→Out AS)(body:AS→(Exit→AS→Option R)→Option R):Nat→AS→(Exit→AS→Option R)→Option R
 | 0,_,_=>none
 |n+1,s,k=>body s fun e s'=>match e with
  | .normal=>(nrm s').run fun s1=>tp nrm nrmX body n s1 k
  |e=>(nrmX e s').run (k e)
def za:Exit→Bool | .ret=>true | _=>false
noncomputable def Ff{R:Type}(le:cf)(s:AS)(k:Exit→AS→Option R):Option R:=
 match le.set with
 |none=>ab (le.run s) fun x=>(le.out x).run fun r=>k r.1 r.2
 |some S=>GS (S s) fun x=>(le.out x).run fun r=>k r.1 r.2
noncomputable def sG{R:Type}(P:Program)(j:Option oW)(run: {R:Type}→(Exit→AS→Option R)→Option R)(k:Exit→AS→Option R):Option R:=
 match j with
 |none=>run k
 |some j=>ab (run fun e s=>(norm P j.an s).run (j.Gh e)) fun x=>(j.out x).run fun r=>k r.1 r.2
noncomputable def ev(P:Program)(Γ:dX)(an:ej)(N:Nat):Code→ {R:Type}→AS→(Exit→AS→Option R)→Option R
 | .skip,_,s,k=>k .normal s
 | .region id ops draw,_,s,k=>sG P (an.Gk id) (fun k=>match draw with
  |true=>(match xD ops.toList with
   |true=>wV P Γ an.bZ ops (yG ops.toList) 0 ops.toList [] s fun s'=>k .normal s'
   |false=>none)
  |false=>FH P Γ an.bZ ops ops.toList s fun s'=>k .normal s') k
 | .seq a b,_,s,k=>sG P (an.Gl (eg b)) (fun k=>ev P Γ an N a s k) fun e s'=>match e with | .normal=>ev P Γ an N b s' k | e=>k e s'
 | .cond c x y,_,s,k=>match s.ev c with
  | .d .bool b=>aC b (ev P Γ an N x s k) (ev P Γ an N y s k)
  |_=>none
 | .block id b,_,s,k=>ev P Γ an N b s fun e s'=>match e with | .exit i=>(match decide (i=id) with | true=>k .normal s' | false=>k (.exit i) s') | e=>k e s'
 | .loop b,_,s,k=>(norm P (an.loops (eg b)) s).run fun s1=>match an.gk (eg b) with
  |some le=>Ff le s1 k
  |none=>tp (norm P (an.loops (eg b))) (fun e=>norm P (an.outs (eg b) (za e))) (ev P Γ an N b) N s1 k
 | .scope b,_,s,k=>ev P Γ an N b s fun e s'=>match e with | .goto _=>none | e=>k e s'
 | .label _,_,s,k=>k .normal s
 | .exit id,_,s,k=>k (.exit id) s
 | .ret,_,s,k=>k .ret s
 |_,_,_,_=>none
def vo(P:Program)(s:AS):ResultVar→Out az
 | .tmp t=> .ok (s.slot t)
 | .cell a T=>rp P s T (s.slot a)
def vn(P:Program)(s:AS)(r:ResultVar):Option Ty→Out (AS×az)
 |none=>(vo P s r).bind fun v=> .ok (s,v)
 |some t=>(vo P s r).bind fun v=>(s.gN t v).bind fun x=> .ok (s.bq v.shared,.d t x)
def rJ(P:Program)(s:AS):List ResultVar→List (Option Ty)→Out (AS×az)
 |[],_=> .ok (s,.nil)
 |r::rs,ts=>(vn P s r (ts.headD none)).bind fun x=> .guard x.2.fa ((rJ P x.1 rs ts.tail).bind fun y=> .ok (y.1,.cons x.2 y.2))
def yh(P:Program)(fn:Func)(ts:List (Option Ty))(s:AS):Out (AS×az):=
 match fn.results.toList with
 |[r]=>vn P s r (ts.headD none)
 |rs=>rJ P s rs ts
def iJ:Code→List Code
 | .seq a b=>iJ a++iJ b
 | .cond _ a b=>iJ a++iJ b
 | .block _ b=>iJ b
 | .scope b=>iJ b
 | .loop b=>b::iJ b
 |_=> []
def j6(fn:Func)(i:Nat):Code:=match fn.body with | some c=>(iJ c).getD i .skip | none=> .skip
noncomputable def sL(P:Program)(Γ:dX)(an:ej)(N:Nat)(fn:Func)(i:Nat){R:Type}(s:AS)(kn:AS→Option R)(kx:Exit→AS→Option R):Option R:=
 ev P Γ an N (j6 fn i) s fun e s'=>match e with
  | .normal=>(norm P (an.loops (eg (j6 fn i))) s').run kn
  |e=>(norm P (an.outs (eg (j6 fn i)) (za e)) s').run (kx e)
noncomputable def zm(P:Program)(Γ:dX)(an:ej)(N:Nat)(fn:Func)(i:Nat){R:Type}(n:Nat)(s:AS)(k:Exit→AS→Option R):Option R:=
 tp (norm P (an.loops (eg (j6 fn i)))) (fun e=>norm P (an.outs (eg (j6 fn i)) (za e))) (ev P Γ an N (j6 fn i)) n s k
def Id.Gj:Id→Bool | .new _ _=>true | .dH _=>false
def AS.sx(s:AS)(v:az):List Id:=(s.reach 64 (v.ids++s.dd.flatMap eL.ids) []).filter Id.Gj
def qx(ids:List Id):Id→Nat→Option (Id×Nat)
 | .dH k,v=>some (.dH k,v)
 |id,v=>match idxOf id ids with | some j=>some (.new 0 j,v) | none=>none
def eL.fin(ids:List Id):eL→eL
 | .obj v fr c=> .obj v fr (c.ir (qx ids))
 | .dead=> .dead
def AS.Gc(s:AS)(ids:List Id)(v:az):aT:=
 {val:=v.ir (qx ids),dd:=s.dd.map (eL.fin ids),news:=ids.map fun id=>((s.cl id).getD .dead).fin ids}
def AS.fin(s:AS)(v:az):aT:=s.Gc (s.sx v) v
def start(fn:Func)(args:List az)(dd:List eL):AS:=
 {cS:=args++List.replicate (fn.ntmps - args.length) .undef,dd,news:=List.replicate fn.ntmps []}
def EM(fn:Func):List Nat:=fn.results.toList.map fun r=>match r with | .tmp t=>t | .cell a _=>a
def AS.drop(s:AS)(ks:List Nat):AS:= {cS:=gY ks 0 s.cS,dd:=s.dd,news:=s.news}
def finish(P:Program)(an:ej)(fn:Func)(s:AS):Out aT:=
 (uC s an.yT).bind fun s=>(nk P (s.drop (EM fn)) an.kc).bind fun s=>(Aj s an.trim).bind fun s=>(yh P fn an.res s).bind fun r=> .ok (r.1.fin r.2)
noncomputable def Fv(P:Program)(Γ:dX)(an:ej)(N:Nat)(fn:Func)(args:List az)(dd:List eL){R:Type}(k:aT→Option R):Option R:=
 match fn.body with
 |some c=>ev P Γ an N c (start fn args dd) fun e s=>match e with
  | .normal=>(finish P an fn s).run k
  | .ret=>(finish P an fn s).run k
  |_=>none
 |none=>none
end Go.Ab
namespace Go.Ab
inductive IA where
 |fu
 |id (i:Id)
inductive jt where
 |free
 |own (o:IA) (k:Nat)
structure Pl where
 b:Nat
 cap:Nat
structure Env where
 w:World
 g:Nat→jt
 β:Id→Option Pl
 s:Id→Option eL
def lN(g:Nat→jt)(b off:Nat):Prop:=match g b with | .free=>True | .own _ k=>off < k
def Env.has(E:Env)(b off:Nat)(v:Value):Prop:=E.w.cell? ⟨b,off,none⟩=some v∧lN E.g b off
def bp{α:Type}(R:List Value→α→Prop):List Value→List α→Prop
 |cs,[]=>cs=[]
 |cs,x::xs=>∃c cs',cs=c++cs'∧R c x∧bp R cs' xs
def oX(E:Env)(a:Option Addr)(vs:List Value):Prop:=
 ∀i v,vs[i]? =some v→∃b off,a=some ⟨b,off,none⟩∧E.has b (off+i) v
def du(E:Env):(t:Ty)→List Value→t.den→Prop
 | .int k,cs,x=>cs=[.int k x]
 | .bool,cs,x=>cs=[.bool x]
 | .str,cs,x=>cs=[.string x]
 | .slice t,cs,l=>∃a cap vs,cs=[.slice a (l:List t.den).length cap]∧(l:List t.den).length≤cap∧(0 < (l:List t.den).length→a.isSome=true)∧oX E a vs∧bp (du E t) vs l
 | .unit,cs,_=>cs=[]
 | .pair a b,cs,x=>∃ca cb,cs=ca++cb∧du E a ca x.1∧du E b cb x.2
 | .arr n t,cs,l=>(l:List t.den).length=n∧bp (du E t) cs l
 | .gv t,cs,x=>((x:Option (List t.den))=none→cs=[.slice none 0 0])∧∀l:List t.den,(x:Option (List t.den))=some l→
   ∃a cap vs,cs=[.slice a l.length cap]∧l.length≤cap∧(0 < l.length→a.isSome=true)∧oX E a vs∧bp (du E t) vs l
section
variable {α:Type} {R R':List Value→α→Prop} {z:Nat}
theorem bp.mono(h:∀c x,R c x→R' c x):∀ {cs:List Value} {l:List α},bp R cs l→bp R' cs l
 |_,[],hc=>hc
 |_,_::_,⟨c,cs',e,hx,hr⟩=>⟨c,cs',e,h _ _ hx,bp.mono h hr⟩
theorem bp.length(h:∀c x,R c x→c.length=z):∀ {cs:List Value} {l:List α},bp R cs l→cs.length=l.length*z
 |cs,[],hc=>by
  have:cs=[]:=hc
  simp[this]
 |_,x::xs,⟨c,cs',e,hx,hr⟩=>by
  rw[e,List.length_append,h c x hx,bp.length h hr,List.length_cons,Nat.add_mul,Nat.one_mul,Nat.add_comm]
theorem bp.all{p:Value→Prop}(h:∀c x,R c x→∀v∈c,p v):∀ {cs:List Value} {l:List α},bp R cs l→∀v∈cs,p v
 |cs,[],hc,v,hv=>by
  have:cs=[]:=hc
  simp[this]at hv
 |_,_::_,⟨c,cs',e,hx,hr⟩,v,hv=>by
  rw[e]at hv
  rcases List.mem_append.1 hv with hv | hv
  ·exact h _ _ hx v hv
  ·exact bp.all h hr v hv
theorem bp.append:∀ {cs:List Value} {l:List α} {cs':List Value} {l':List α},bp R cs l→bp R cs' l'→bp R (cs++cs') (l++l')
 |cs,[],_,_,hc,h'=>by
  have:cs=[]:=hc
  simpa[this]using h'
 |_,x::xs,_,_,⟨c,cs1,e,hx,hr⟩,h'=>⟨c,cs1++_,by rw[e,List.append_assoc],hx,bp.append hr h'⟩
theorem bp.take(h:∀c x,R c x→c.length=z):∀ {cs:List Value} {l:List α} (n:Nat),bp R cs l→bp R (cs.take (n*z)) (l.take n)
 |cs,[],n,hc=>by
  have:cs=[]:=hc
  simp[this,bp]
 |_,x::xs,0,_=>by simp[bp]
 |_,x::xs,n+1,⟨c,cs',e,hx,hr⟩=>by
  refine⟨c,cs'.take (n*z),?_,hx,bp.take h n hr⟩
  rw[e,List.take_append,h c x hx,Nat.add_mul,Nat.one_mul,List.take_of_length_le (by rw[h c x hx];omega),Nat.add_sub_cancel]
theorem bp.drop(h:∀c x,R c x→c.length=z):∀ {cs:List Value} {l:List α} (n:Nat),bp R cs l→bp R (cs.drop (n*z)) (l.drop n)
 |cs,[],n,hc=>by
  have:cs=[]:=hc
  simp[this,bp]
 |_,x::xs,0,hc=>by simpa using hc
 |_,x::xs,n+1,⟨c,cs',e,hx,hr⟩=>by
  rw[e,List.drop_append,h c x hx,Nat.add_mul,Nat.one_mul,List.drop_of_length_le (by rw[h c x hx];omega),Nat.add_sub_cancel]
  simpa using bp.drop h n hr
theorem bp.get(h:∀c x,R c x→c.length=z){cs:List Value}{l:List α}(hc:bp R cs l)(i:Nat)(hi:i < l.length):R ((cs.drop (i*z)).take z) l[i]:=by
 have h1:=bp.take h 1 (bp.drop h i hc)
 rw[List.drop_eq_getElem_cons hi]at h1
 simp only[Nat.one_mul,List.take_succ_cons,List.take_zero]at h1
 obtain⟨c,cs',e,hx,hr⟩:=h1
 have:cs'=[]:=hr
 rw[e,this,List.append_nil]
 exact hx
theorem bp.set(h:∀c x,R c x→c.length=z){cs:List Value}{l:List α}(hc:bp R cs l)(i:Nat)(hi:i < l.length){c:List Value}{x:α}(hx:R c x):
  bp R (cs.take (i*z)++c++cs.drop (i*z+c.length)) (l.set i x):=by
 rw[List.set_eq_take_append_cons_drop,if_pos hi,h c x hx]
 have h1:=bp.take h i hc
 have h2:=bp.drop h (i+1) hc
 rw[Nat.add_mul,Nat.one_mul]at h2
 have h3:bp R (c++cs.drop (i*z+z)) (x::l.drop (i+1)):=⟨c,_,rfl,hx,h2⟩
 rw[List.append_assoc]
 exact bp.append h1 h3
theorem bp.one{c:List Value}{x:α}(h:R c x):bp R c [x]:=⟨c,[],by simp,h,rfl⟩
end
theorem du.size{E:Env}:∀ {t:Ty} {cs:List Value} {x:t.den},du E t cs x→cs.length=t.size
 | .int _,_,_,h=>by simp only[du]at h;simp[h,Ty.size]
 | .bool,_,_,h=>by simp only[du]at h;simp[h,Ty.size]
 | .str,_,_,h=>by simp only[du]at h;simp[h,Ty.size]
 | .slice t,_,_,h=>by simp only[du]at h;obtain⟨a,cap,vs,rfl,_⟩:=h;simp[Ty.size]
 | .unit,_,_,h=>by simp only[du]at h;simp[h,Ty.size]
 | .pair a b,_,_,h=>by
  simp only[du]at h
  obtain⟨ca,cb,rfl,ha,hb⟩:=h
  simp[Ty.size,du.size ha,du.size hb]
 | .arr n t,_,_,h=>by
  simp only[du]at h
  rw[bp.length (fun c x hx=>du.size hx) h.2,h.1,Ty.size]
 | .gv t,_,x,h=>by
  simp only[du]at h
  obtain⟨h1,h2⟩:=h
  cases hx:(x:Option (List t.den)) with
  |none=>rw[h1 hx];rfl
  |some l=>obtain⟨a,cap,vs,rfl,_⟩:=h2 l hx;rfl
theorem du.one{E:Env}:∀ {t:Ty} {cs:List Value} {x:t.den},du E t cs x→∀c∈cs,c.oneCell'=true
 | .int _,_,_,h=>by simp only[du]at h;simp[h,Value.oneCell']
 | .bool,_,_,h=>by simp only[du]at h;simp[h,Value.oneCell']
 | .str,_,_,h=>by simp only[du]at h;simp[h,Value.oneCell']
 | .slice t,_,_,h=>by simp only[du]at h;obtain⟨a,cap,vs,rfl,_⟩:=h;simp[Value.oneCell']
 | .unit,_,_,h=>by simp only[du]at h;simp[h]
 | .pair a b,_,_,h=>by
  simp only[du]at h
  obtain⟨ca,cb,rfl,ha,hb⟩:=h
  intro c hc
  rcases List.mem_append.1 hc with hc | hc
  ·exact du.one ha c hc
  ·exact du.one hb c hc
 | .arr n t,_,_,h=>by
  simp only[du]at h
  exact bp.all (fun c x hx=>du.one hx) h.2
 | .gv t,_,x,h=>by
  simp only[du]at h
  obtain⟨h1,h2⟩:=h
  cases hx:(x:Option (List t.den)) with
  |none=>rw[h1 hx];simp[Value.oneCell']
  |some l=>obtain⟨a,cap,vs,rfl,_⟩:=h2 l hx;simp[Value.oneCell']
structure lG(E E':Env):Prop where
 has:∀b off v,E.has b off v→E'.has b off v
 fz:∀b ob,E.g b= .free→E.w.heap[b]? =some ob→E'.g b= .free∧E'.w.heap[b]? =some ob
theorem lG.refl(E:Env):lG E E:=⟨fun _ _ _ h=>h,fun _ _ h h'=>⟨h,h'⟩⟩
theorem lG.trans{E E' E'':Env}(h:lG E E')(h':lG E' E''):lG E E'':=⟨fun b o v x=>h'.has b o v (h.has b o v x),fun b ob h1 h2=>let⟨h3,h4⟩:=h.fz b ob h1 h2;h'.fz b ob h3 h4⟩
theorem oX.mono{E E':Env}(h:lG E E'){a:Option Addr}{vs:List Value}(hr:oX E a vs):oX E' a vs:=
 fun i v hv=>let⟨b,off,ha,hh⟩:=hr i v hv;⟨b,off,ha,h.has _ _ _ hh⟩
theorem du.mono{E E':Env}(hm:lG E E'):∀ {t:Ty} {cs:List Value} {x:t.den},du E t cs x→du E' t cs x
 | .int _,_,_,h=>by simpa only[du]using h
 | .bool,_,_,h=>by simpa only[du]using h
 | .str,_,_,h=>by simpa only[du]using h
 | .slice t,_,_,h=>by
  simp only[du]at h ⊢
  obtain⟨a,cap,vs,e,hl,hs,hr,hc⟩:=h
  exact⟨a,cap,vs,e,hl,hs,hr.mono hm,hc.mono fun c x hx=>du.mono hm hx⟩
 | .unit,_,_,h=>by simpa only[du]using h
 | .pair a b,_,_,h=>by
  simp only[du]at h ⊢
  obtain⟨ca,cb,e,ha,hb⟩:=h
  exact⟨ca,cb,e,du.mono hm ha,du.mono hm hb⟩
 | .arr n t,_,_,h=>by
  simp only[du]at h ⊢
  exact⟨h.1,h.2.mono fun c x hx=>du.mono hm hx⟩
 | .gv t,_,_,h=>by
  simp only[du]at h ⊢
  refine⟨h.1,fun l hx=> ?_⟩
  obtain⟨a,cap,vs,e,hl,hs,hr,hc⟩:=h.2 l hx
  exact⟨a,cap,vs,e,hl,hs,hr.mono hm,hc.mono fun c x hx=>du.mono hm hx⟩
def Env.cur(E:Env)(id:Id)(ver:Nat):Prop:=∃fr c,E.s id=some (.obj ver fr c)
def Env.pZ(E:Env)(id:Id)(ver:Nat):Prop:=E.s id≠none∧∀v fr c,E.s id=some (.obj v fr c)→ver≤v
def fP(agg:Bool)(cs:List Value)(v:Value):Prop:=match agg with | true=>v= .agg cs.toArray | false=>cs=[v]
mutual
def V(E:Env):az→List Value→Prop
 | .undef,_=>False
 | .gone,cs=>∃v,cs=[v]∧v.oneCell'=true
 | .dP,cs=>cs=[.slice none 0 0]
 | .lk,cs=>cs=[.pointer none]
 | .l6,cs=>cs=[.nilFunc]
 | .nU,cs=>cs=[.map none]
 | .sb l,cs=>∃(b cap:Nat) (arr:Array Value) (e:TypeId),cs=[.slice (some ⟨b,0,none⟩) l.length cap]∧l.length≤cap∧E.g b= .free∧E.w.heap[b]? =some (.cells arr e (arr.size,arr.size+1))∧∀(j:Nat) (v:Value),(l.map (Value.int .u8))[j]? =some v→arr[j]? =some v
 | .d t x,cs=>du E t cs x
 | .pr a b,cs=>∃ca cb,cs=ca++cb∧V E a ca∧V E b cb
 | .ptr id ver _ n,cs=>∃a,cs=[.pointer (some a)]∧E.pZ id ver∧(E.cur id ver→∃pl,E.β id=some pl∧a=⟨pl.b,n,none⟩)
 | .eI t x,cs=>∃b off vs,cs=[.pointer (some ⟨b,off,none⟩)]∧oX E (some ⟨b,off,none⟩) vs∧du E t vs x
 | .cT id ver p c i len,cs=>∃a cap,cs=[.slice a len cap]∧len≤cap∧(0 < len→a.isSome=true)∧E.pZ id ver∧
   (E.cur id ver→match E.β id with
    |some pl=>(0 < len∨i=0→a=some ⟨pl.b,c,none⟩)∧(p=[]→i=0→cap=pl.cap)
    |none=>a=none∧len=0∧cap=0)
 | .fn f c,cs=>∃vs,cs=[.func (.func f) #[] vs.toArray]∧VC E c vs
 | .cons _ _,_=>False
 | .nil,_=>False
 | .vec ..,_=>False
 | .bx ..,_=>False
 | .kL id ver,cs=>∃b,cs=[.map (some b)]∧E.pZ id ver∧(E.cur id ver→∃pl,E.β id=some pl∧b=pl.b)
 | .mp ..,_ | .kF ..,_=>False
def VC(E:Env):az→List Value→Prop
 | .nil,vs=>vs=[]
 | .cons a b,vs=>∃v vs' cs,vs=v::vs'∧V E a cs∧fP a.agg cs v∧VC E b vs'
 |_,_=>False
end
structure cW(E E':Env):Prop where
 mem:lG E E'
 pZ:∀id ver,E.pZ id ver→E'.pZ id ver
 cur:∀id ver,E.pZ id ver→E'.cur id ver→E.cur id ver∧E'.β id=E.β id
theorem cW.refl(E:Env):cW E E:=⟨lG.refl E,fun _ _ h=>h,fun _ _ _ h=>⟨h,rfl⟩⟩
theorem cW.trans{E E' E'':Env}(h:cW E E')(h':cW E' E''):cW E E'':=
 ⟨h.mem.trans h'.mem,fun id v b=>h'.pZ id v (h.pZ id v b),fun id v b c=>
  let⟨c1,e1⟩:=h'.cur id v (h.pZ id v b) c
  let⟨c2,e2⟩:=h.cur id v b c1
  ⟨c2,e1.trans e2⟩⟩
mutual
theorem V.mono{E E':Env}(h:cW E E'):∀ {a:az} {cs:List Value},V E a cs→V E' a cs
 | .undef,_,hv=>by simp only[V]at hv
 | .gone,_,hv=>by simpa only[V]using hv
 | .dP,_,hv=>by simpa only[V]using hv
 | .lk,_,hv=>by simpa only[V]using hv
 | .l6,_,hv=>by simpa only[V]using hv
 | .nU,_,hv=>by simpa only[V]using hv
 | .sb l,_,hv=>by
  simp only[V]at hv ⊢
  obtain⟨b,cap,arr,e,h1,h2,h3,h4,h5⟩:=hv
  obtain⟨h6,h7⟩:=h.mem.fz b _ h3 h4
  exact⟨b,cap,arr,e,h1,h2,h6,h7,h5⟩
 | .d t x,_,hv=>by simp only[V]at hv ⊢;exact hv.mono h.mem
 | .pr a b,_,hv=>by
  simp only[V]at hv ⊢
  obtain⟨ca,cb,e,ha,hb⟩:=hv
  exact⟨ca,cb,e,V.mono h ha,V.mono h hb⟩
 | .ptr id ver p n,_,hv=>by
  simp only[V]at hv ⊢
  obtain⟨a,e,hb,hc⟩:=hv
  refine⟨a,e,h.pZ _ _ hb,fun c=> ?_⟩
  obtain⟨c1,e1⟩:=h.cur _ _ hb c
  rw[e1];exact hc c1
 | .eI t x,_,hv=>by
  simp only[V]at hv ⊢
  obtain⟨b,off,vs,e,hr,hx⟩:=hv
  exact⟨b,off,vs,e,hr.mono h.mem,hx.mono h.mem⟩
 | .cT id ver p c i len,_,hv=>by
  simp only[V]at hv ⊢
  obtain⟨a,cap,e,hl,hs,hb,hc⟩:=hv
  refine⟨a,cap,e,hl,hs,h.pZ _ _ hb,fun c=> ?_⟩
  obtain⟨c1,e1⟩:=h.cur _ _ hb c
  rw[e1];exact hc c1
 | .fn f c,_,hv=>by
  simp only[V]at hv ⊢
  obtain⟨vs,e,hc⟩:=hv
  exact⟨vs,e,VC.mono h hc⟩
 | .cons _ _,_,hv=>by simp only[V]at hv
 | .nil,_,hv=>by simp only[V]at hv
 | .vec ..,_,hv=>by simp only[V]at hv
 | .bx ..,_,hv=>by simp only[V]at hv
 | .kL id ver,_,hv=>by
  simp only[V]at hv ⊢
  obtain⟨b,e,hb,hc⟩:=hv
  refine⟨b,e,h.pZ _ _ hb,fun c=> ?_⟩
  obtain⟨c1,e1⟩:=h.cur _ _ hb c
  rw[e1];exact hc c1
 | .mp ..,_,hv | .kF ..,_,hv=>by simp only[V]at hv
theorem VC.mono{E E':Env}(h:cW E E'):∀ {a:az} {vs:List Value},VC E a vs→VC E' a vs
 | .nil,_,hv=>by simpa only[VC]using hv
 | .cons a b,_,hv=>by
  simp only[VC]at hv ⊢
  obtain⟨v,vs',cs,e,ha,ho,hb⟩:=hv
  exact⟨v,vs',cs,e,V.mono h ha,ho,VC.mono h hb⟩
 | .undef,_,hv=>by simp only[VC]at hv
 | .gone,_,hv=>by simp only[VC]at hv
 | .dP,_,hv=>by simp only[VC]at hv
 | .lk,_,hv=>by simp only[VC]at hv
 | .l6,_,hv=>by simp only[VC]at hv
 | .nU,_,hv=>by simp only[VC]at hv
 | .sb _,_,hv=>by simp only[VC]at hv
 | .d t x,_,hv=>by simp only[VC]at hv
 | .pr a b,_,hv=>by simp only[VC]at hv
 | .ptr ..,_,hv=>by simp only[VC]at hv
 | .eI ..,_,hv=>by simp only[VC]at hv
 | .cT ..,_,hv=>by simp only[VC]at hv
 | .fn ..,_,hv=>by simp only[VC]at hv
 | .vec ..,_,hv=>by simp only[VC]at hv
 | .bx ..,_,hv=>by simp only[VC]at hv
 | .kL ..,_,hv=>by simp only[VC]at hv
 | .mp ..,_,hv | .kF ..,_,hv=>by simp only[VC]at hv
end
theorem V.size{E:Env}:∀ {a:az} {cs:List Value},V E a cs→cs.length=a.size
 | .undef,_,hv=>by simp only[V]at hv
 | .gone,_,hv=>by simp only[V]at hv;obtain⟨v,rfl,_⟩:=hv;rfl
 | .dP,_,hv=>by simp only[V]at hv;rw[hv];rfl
 | .lk,_,hv=>by simp only[V]at hv;rw[hv];rfl
 | .l6,_,hv=>by simp only[V]at hv;rw[hv];rfl
 | .nU,_,hv=>by simp only[V]at hv;rw[hv];rfl
 | .sb _,_,hv=>by simp only[V]at hv;obtain⟨_,_,_,_,rfl,_⟩:=hv;rfl
 | .d t x,_,hv=>by simp only[V]at hv;exact hv.size
 | .pr a b,_,hv=>by
  simp only[V]at hv
  obtain⟨ca,cb,rfl,ha,hb⟩:=hv
  simp[az.size,V.size ha,V.size hb]
 | .ptr ..,_,hv=>by simp only[V]at hv;obtain⟨a,rfl,_⟩:=hv;rfl
 | .eI ..,_,hv=>by simp only[V]at hv;obtain⟨_,_,_,rfl,_⟩:=hv;rfl
 | .cT ..,_,hv=>by simp only[V]at hv;obtain⟨_,_,rfl,_⟩:=hv;rfl
 | .fn ..,_,hv=>by simp only[V]at hv;obtain⟨_,rfl,_⟩:=hv;rfl
 | .cons _ _,_,hv=>by simp only[V]at hv
 | .nil,_,hv=>by simp only[V]at hv
 | .vec ..,_,hv=>by simp only[V]at hv
 | .bx ..,_,hv=>by simp only[V]at hv
 | .kL ..,_,hv=>by simp only[V]at hv;obtain⟨_,rfl,_⟩:=hv;rfl
 | .mp ..,_,hv | .kF ..,_,hv=>by simp only[V]at hv
theorem V.one{E:Env}:∀ {a:az} {cs:List Value},V E a cs→∀c∈cs,c.oneCell'=true
 | .undef,_,hv=>by simp only[V]at hv
 | .gone,_,hv=>by simp only[V]at hv;obtain⟨v,rfl,h⟩:=hv;simp[h]
 | .dP,_,hv=>by simp only[V]at hv;rw[hv];simp[Value.oneCell']
 | .lk,_,hv=>by simp only[V]at hv;rw[hv];simp[Value.oneCell']
 | .l6,_,hv=>by simp only[V]at hv;rw[hv];simp[Value.oneCell']
 | .nU,_,hv=>by simp only[V]at hv;rw[hv];simp[Value.oneCell']
 | .sb _,_,hv=>by simp only[V]at hv;obtain⟨_,_,_,_,rfl,_⟩:=hv;simp[Value.oneCell']
 | .d t x,_,hv=>by simp only[V]at hv;exact hv.one
 | .pr a b,_,hv=>by
  simp only[V]at hv
  obtain⟨ca,cb,rfl,ha,hb⟩:=hv
  intro c hc
  rcases List.mem_append.1 hc with hc | hc
  ·exact V.one ha c hc
  ·exact V.one hb c hc
 | .ptr ..,_,hv=>by simp only[V]at hv;obtain⟨a,rfl,_⟩:=hv;simp[Value.oneCell']
 | .eI ..,_,hv=>by simp only[V]at hv;obtain⟨_,_,_,rfl,_⟩:=hv;simp[Value.oneCell']
 | .cT ..,_,hv=>by simp only[V]at hv;obtain⟨_,_,rfl,_⟩:=hv;simp[Value.oneCell']
 | .fn ..,_,hv=>by simp only[V]at hv;obtain⟨_,rfl,_⟩:=hv;simp[Value.oneCell']
 | .cons _ _,_,hv=>by simp only[V]at hv
 | .nil,_,hv=>by simp only[V]at hv
 | .vec ..,_,hv=>by simp only[V]at hv
 | .bx ..,_,hv=>by simp only[V]at hv
 | .kL ..,_,hv=>by simp only[V]at hv;obtain⟨_,rfl,_⟩:=hv;simp[Value.oneCell']
 | .mp ..,_,hv | .kF ..,_,hv=>by simp only[V]at hv
theorem az.zY:∀ {v:az},v.agg=false→v.size=1
 | .d (.int _) _,_ | .d .bool _,_ | .d .str _,_ | .d (.slice _) _,_ | .d (.gv _) _,_=>rfl
 | .d .unit _,h | .d (.pair _ _) _,h | .d (.arr _ _) _,h=>by simp[az.agg,Ty.agg]at h
 | .pr _ _,h=>by simp[az.agg]at h
 | .undef,_ | .gone,_ | .dP,_ | .lk,_ | .l6,_ | .nU,_ | .ptr ..,_ | .eI ..,_ | .cT ..,_ | .fn ..,_ | .cons ..,_ | .nil,_ | .vec ..,_ | .sb _,_ | .bx ..,_ | .kL ..,_ | .mp ..,_ | .kF ..,_=>rfl
def VS(E:Env):az→Value→Prop
 | .undef,_=>True
 | .cons a b,v=>∃vs,v= .tuple vs.toArray∧VC E (.cons a b) vs
 | .nil,v=>v= .tuple #[]
 |a,v=>∃cs,V E a cs∧fP a.agg cs v
theorem VS.mono{E E':Env}(h:cW E E'):∀ {a:az} {v:Value},VS E a v→VS E' a v:=by
 intro a v hv
 cases a <;> first
  |trivial
  |exact hv
  | (obtain⟨cs,h1,h2⟩:=hv;exact⟨cs,V.mono h h1,h2⟩)
  | (obtain⟨vs,e,hc⟩:=hv;exact⟨vs,e,VC.mono h hc⟩)
theorem VS.undef{E:Env}{v:Value}:VS E .undef v:=trivial
theorem VS.of{E:Env}{a:az}{cs:List Value}{v:Value}(h:V E a cs)(ho:fP a.agg cs v):VS E a v:=by
 cases a <;> first
  | (simp only[V]at h;done)
  |exact⟨cs,h,ho⟩
theorem VS.fa{E:Env}{a:az}{v:Value}(h:VS E a v)(hc:a.fa=true):∃cs,V E a cs∧fP a.agg cs v:=by
 cases a <;> first
  | (simp[az.fa]at hc;done)
  |exact h
theorem VS.single{E:Env}{a:az}{v:Value}(h:VS E a v)(hc:a.fa=true)(ha:a.agg=false):V E a [v]:=by
 obtain⟨cs,hv,ho⟩:=h.fa hc
 rw[ha]at ho
 have:cs=[v]:=ho
 rw[←this];exact hv
theorem fP.cells{agg:Bool}{cs:List Value}{v:Value}(h:fP agg cs v)(h1:∀c∈cs,c.oneCell'=true):v.cells=cs.toArray:=by
 cases agg with
 |true=>have:v= .agg cs.toArray:=h;rw[this];rfl
 |false=>
  have e:cs=[v]:=h
  have:=h1 v (by simp[e])
  rw[e]
  cases v <;> first | rfl | (simp[Value.oneCell']at this;done)
end Go.Ab
namespace Go.Ab
section
variable {α β:Type}
theorem ao{a b:α}:(Out.ok a).eval=some b↔a=b:=by simp[Out.eval]
theorem ai{b:α}:(Out.fail:Out α).eval=some b↔False:=by simp[Out.eval]
theorem bT{c:Bool}{r:Out α}{b:α}:(Out.ko c r).eval=some b↔c=true∧r.eval=some b:=by cases c <;> simp[Out.eval]
theorem aA{c:Bool}{r:Out α}{b:α}:(Out.guard c r).eval=some b↔c=true∧r.eval=some b:=by cases c <;> simp[Out.guard,Out.eval]
theorem uG{x:Option β}{f:β→Out α}{b:α}:(Out.get x f).eval=some b↔∃y,x=some y∧(f y).eval=some b:=by
 cases x <;> simp[Out.eval]
theorem gZ{x:Option α}{b:α}:(Out.opt x).eval=some b↔x=some b:=by cases x <;> simp[Out.opt,Out.eval]
theorem xF(o:Out α)(f:α→Out β):(o.bind f).eval=o.eval.bind fun a=>(f a).eval:=by
 induction o with
 |ok a=>rfl
 |fail=>rfl
 |ko c r ih=>cases c <;> simp[Out.bind,Out.eval,ih]
 |get x g ih=>cases x <;> simp[Out.bind,Out.eval,ih]
 |br c x y ih1 ih2=>cases c <;> simp[Out.bind,Out.eval,ih1,ih2]
theorem al{o:Out α}{f:α→Out β}{b:β}:(o.bind f).eval=some b↔∃a,o.eval=some a∧(f a).eval=some b:=by
 rw[xF];simp[Option.bind_eq_some_iff]
theorem run_eq{R:Type}(o:Out α)(k:α→Option R):o.run k=o.eval.bind k:=by
 induction o with
 |ok a=>rfl
 |fail=>rfl
 |ko c r ih=>cases c <;> simp[Out.run,Out.eval,aC,ih]
 |get x g ih=>cases x <;> simp[Out.run,Out.eval,ab,ih]
 |br c x y ih1 ih2=>cases c <;> simp[Out.run,Out.eval,aC,ih1,ih2]
theorem iw{R:Type}{o:Out α}{k:α→Option R}{r:R}:o.run k=some r↔∃a,o.eval=some a∧k a=some r:=by
 rw[run_eq];simp[Option.bind_eq_some_iff]
end
theorem gU{t t':Ty}{x:t.den}{y:t'.den}(h:kZ t t' x=some y):∃e:t=t',e▸x=y:=by
 unfold kZ at h
 split at h
 ·rename_i e;exact⟨e,by simpa using h⟩
 ·cases h
theorem bp.map{α β:Type}{R:List Value→α→Prop}{R':List Value→β→Prop}{f:α→β}(h:∀c x,R c x→R' c (f x)):∀ {cs:List Value} {l:List α},bp R cs l→bp R' cs (l.map f)
 |_,[],hc=>hc
 |_,x::xs,⟨c,cs',e,hx,hr⟩=>⟨c,cs',e,h c x hx,bp.map h hr⟩
theorem du.IN{E:Env}:∀(a b:Ty) (f:a.den→b.den),vZ a b=some f→∀(cs:List Value) (x:a.den),du E a cs x→du E b cs (f x):=by
 intro a b
 induction a,b using vZ.induct with
 |case1 t=>
  intro f hf cs x hx
  unfold vZ at hf
  rw[dif_pos rfl]at hf
  obtain rfl:=Option.some.inj hf
  simp only[du]at hx
  obtain⟨h1,h2⟩:=hx
  show du E (.slice t) cs ((x:Option (List t.den)).getD [])
  simp only[du]
  cases hx:(x:Option (List t.den)) with
  |none=>exact⟨none,0,[],h1 hx,Nat.le_refl _,fun h=>absurd h (Nat.lt_irrefl 0),fun i v hh=>by simp at hh,rfl⟩
  |some l=>exact h2 l hx
 |case2 t t' hne=>
  intro f hf
  unfold vZ at hf
  rw[dif_neg hne]at hf
  cases hf
 |case3 t=>
  intro f hf cs x hx
  unfold vZ at hf
  rw[dif_pos rfl]at hf
  obtain rfl:=Option.some.inj hf
  simp only[du]at hx ⊢
  refine⟨fun h=>(by cases h),fun l hl=> ?_⟩
  obtain rfl:x=l:=Option.some.inj hl
  exact hx
 |case4 t t' hne=>
  intro f hf
  unfold vZ at hf
  rw[dif_neg hne]at hf
  cases hf
 |case5 a b c d f g h1 h2 ih1 ih2=>
  intro k hk cs x hx
  unfold vZ at hk
  rw[h2,h1]at hk
  obtain rfl:=Option.some.inj hk
  simp only[du]at hx ⊢
  obtain⟨ca,cb,e,ha,hb⟩:=hx
  exact⟨ca,cb,e,ih1 f h2 ca x.1 ha,ih2 g h1 cb x.2 hb⟩
 |case6 a b c d hn ih1 ih2=>
  intro p hp
  unfold vZ at hp
  split at hp
  ·rename_i f k h1 h2
   exact(hn _ _ h1 h2).elim
  ·cases hp
 |case7 a b f h1 ih=>
  intro k hk cs x hx
  unfold vZ at hk
  rw[h1]at hk
  obtain rfl:=Option.some.inj hk
  simp only[du]at hx ⊢
  obtain⟨ad,cap,vs,e,hl,hs,hr,hc⟩:=hx
  rw[List.length_map]
  exact⟨ad,cap,vs,e,hl,hs,hr,hc.map fun c x hx=>ih f h1 c x hx⟩
 |case8 a b h1 ih=>
  intro p hp
  unfold vZ at hp
  rw[h1]at hp
  cases hp
 |case9 a h1 h2 h3 h4=>
  intro f hf cs x hx
  rw[vZ.eq_5 _ _ h1 h2 h3 h4,dif_pos rfl]at hf
  obtain rfl:=Option.some.inj hf
  exact hx
 |case10 a b h1 h2 h3 h4 hne=>
  intro f hf
  rw[vZ.eq_5 _ _ h1 h2 h3 h4,dif_neg hne]at hf
  cases hf
theorem FD{t t':Ty}{f:t.den→t'.den}(hp:vZ t t'=some f):t.agg=t'.agg:=by
 unfold vZ at hp
 split at hp
 ·rfl
 ·rfl
 ·rfl
 ·rfl
 ·split at hp
  ·rename_i e;rw[e]
  ·cases hp
theorem wM{t t':Ty}{x:t.den}{y:t'.den}(h:o8 t t' x=some y):t.agg=t'.agg:=by
 unfold o8 at h
 split at h
 ·rename_i z hz
  obtain⟨e,_⟩:=gU hz
  rw[e]
 ·split at h
  ·rename_i f hf
   exact FD hf
  ·cases h
theorem od{E:Env}{t t':Ty}{x:t.den}{y:t'.den}(h:o8 t t' x=some y){cs:List Value}(hx:du E t cs x):du E t' cs y:=by
 unfold o8 at h
 split at h
 ·rename_i z hz
  obtain⟨e,hz⟩:=gU hz
  subst e
  obtain rfl:=Option.some.inj h
  simp only at hz
  rw[←hz]
  exact hx
 ·split at h
  ·rename_i f hf
   obtain rfl:=Option.some.inj h
   exact du.IN _ _ f hf cs x hx
  ·cases h
theorem CK{E:Env}{t t':Ty}{x:List t.den}{y:List t'.den}(h:o8 (.slice t) (.slice t') x=some y):y.length=x.length∧∀vs,bp (du E t) vs x→bp (du E t') vs y:=by
 unfold o8 at h
 split at h
 ·rename_i z hz
  obtain⟨e,hz⟩:=gU hz
  have e':t=t':=by simpa using e
  subst e'
  obtain rfl:=Option.some.inj h
  simp only at hz
  subst hz
  exact⟨rfl,fun _ h=>h⟩
 ·split at h
  ·rename_i p hp
   obtain rfl:=Option.some.inj h
   unfold vZ at hp
   cases hd:vZ t t' with
   |none=>rw[hd]at hp;cases hp
   |some q=>
    rw[hd]at hp
    obtain rfl:=Option.some.inj hp
    exact⟨List.length_map _,fun vs hc=>hc.map fun c x hx=>du.IN _ _ q hd c x hx⟩
  ·cases h
def VO(E:Env):az→List Value→Prop
 | .vec _ t l,cs=>bp (du E t) cs l
 |a,cs=>V E a cs
theorem VO.of{E:Env}{a:az}{cs:List Value}(h:V E a cs):VO E a cs:=by
 cases a <;> first | exact h | (simp only[V]at h)
def az.gA:az→Bool | .vec .. =>true | .mp .. =>true | .kF .. =>true | _=>false
theorem VO.to{E:Env}{a:az}{cs:List Value}(h:VO E a cs)(hn:a.gA=false):V E a cs:=by
 cases a <;> first | exact h | (simp[az.gA]at hn)
theorem VO.mono{E E':Env}(h:cW E E'){a:az}{cs:List Value}(hv:VO E a cs):VO E' a cs:=by
 cases a <;> first | exact V.mono h hv | exact bp.mono (fun _ _ hx=>hx.mono h.mem) hv
theorem vf{t:Ty}{l:List t.den}{i:Nat}(h:i < l.length):nth t l i=l[i]:=by
 unfold nth;simp[h]
theorem vi{α:Type}(cs:List α)(n m k j:Nat)(h:k+j≤m):(((cs.drop n).take m).drop k).take j=(cs.drop (n+k)).take j:=by
 rw[List.drop_take,List.take_take,List.drop_drop]
 congr 1
 omega
theorem rL{E:Env}{t:Ty}{cs:List Value}{l:List t.den}(h:bp (du E t) cs l){i:Nat}(hi:i < l.length):
  du E t ((cs.drop (i*t.size)).take t.size) l[i]∧i*t.size+t.size≤cs.length:=by
 have hz:∀c x,du E t c x→c.length=t.size:=fun c x hx=>hx.size
 refine⟨h.get hz i hi,?_⟩
 rw[h.length hz,←Nat.succ_mul]
 exact Nat.mul_le_mul_right _ hi
theorem kg{E:Env}:∀(p:List qo) (c:az) (cs:List Value) (n:Nat) (v:az),VO E c cs→(loc c p).eval=some (n,v)→
  (n=0∧v=c)∨(V E v ((cs.drop n).take v.size)∧n+v.size≤cs.length)
 |[],c,cs,n,v,hc,h=>by
  left
  simp only[loc,ao,Prod.mk.injEq]at h
  exact⟨h.1.symm,h.2.symm⟩
 |st::p,c,cs,n,v,hc,h=>by
  by_cases hst:st= .arr
  ·subst hst
   have h':(loc c p).eval=some (n,v):=by cases c <;> simpa only[loc]using h
   exact kg p c cs n v hc h'
  right
  have whole:∀(c':az) (cs':List Value) (n':Nat) (v':az),V E c' cs'→(loc c' p).eval=some (n',v')→V E v' ((cs'.drop n').take v'.size)∧n'+v'.size≤cs'.length:=by
   intro c' cs' n' v' hc' hl
   rcases kg p c' cs' n' v' (VO.of hc') hl with⟨rfl,rfl⟩ | hh
   ·have:=hc'.size
    rw[List.drop_zero,List.take_of_length_le (by omega)]
    exact⟨hc',by omega⟩
   ·exact hh
  have second:∀(a b:az) (ca cb:List Value),cs=ca++cb→ca.length=a.size→V E b cb→((loc b p).bind fun(n,v)=>Out.ok (a.size+n,v)).eval=some (n,v)→
    V E v ((cs.drop n).take v.size)∧n+v.size≤cs.length:=by
   intro a b ca cb e hl hb hh
   obtain⟨⟨n',v'⟩,h1,h2⟩:=al.1 hh
   simp only[ao,Prod.mk.injEq]at h2
   obtain⟨rfl,rfl⟩:=h2
   obtain⟨h3,h4⟩:=whole b cb n' v' hb h1
   subst e
   rw[←hl,List.drop_append,List.drop_of_length_le (by omega),List.nil_append,Nat.add_sub_cancel_left]
   exact⟨h3,by simp only[List.length_append];omega⟩
  have elem:∀(t:Ty) (l:List t.den) (i:Nat),bp (du E t) cs l→(Out.ko (decide (i < l.length)) ((loc (.d t (nth t l i)) p).bind fun(n,v)=>Out.ok (i*t.size+n,v))).eval=some (n,v)→
    V E v ((cs.drop n).take v.size)∧n+v.size≤cs.length:=by
   intro t l i hch hh
   obtain⟨hi,hh⟩:=bT.1 hh
   have hi:i < l.length:=by simpa using hi
   obtain⟨⟨n',v'⟩,h1,h2⟩:=al.1 hh
   simp only[ao,Prod.mk.injEq]at h2
   obtain⟨rfl,rfl⟩:=h2
   obtain⟨hp,hle⟩:=rL hch hi
   rw[vf hi]at h1
   have hv:V E (.d t l[i]) ((cs.drop (i*t.size)).take t.size):=by simpa only[V]using hp
   obtain⟨h3,h4⟩:=whole _ _ n' v' hv h1
   have hlen:((cs.drop (i*t.size)).take t.size).length=t.size:=hp.size
   rw[vi _ _ _ _ _ (by omega)]at h3
   exact⟨h3,by omega⟩
  cases c with
  |pr a b=>
   simp only[VO,V]at hc
   obtain⟨ca,cb,e,ha,hb⟩:=hc
   cases st with
   |arr=>exact absurd rfl hst
   |fst=>
    simp only[loc]at h
    obtain⟨h3,h4⟩:=whole a ca n v ha h
    subst e
    refine⟨?_,by simp only[List.length_append];omega⟩
    rw[List.drop_append,List.take_append,List.length_drop,Nat.sub_eq_zero_of_le (by omega:v.size≤ca.length - n),List.take_zero,List.append_nil]
    exact h3
   |snd=>simp only[loc]at h;exact second a b ca cb e ha.size hb h
   |idx i=>simp only[loc,ai]at h
  |d t x=>
   simp only[VO,V]at hc
   cases t with
   |pair ta tb=>
    simp only[du]at hc
    obtain⟨ca,cb,e,ha,hb⟩:=hc
    cases st with
    |arr=>exact absurd rfl hst
    |fst=>
     simp only[loc]at h
     obtain⟨h3,h4⟩:=whole (.d ta x.1) ca n v (by simpa only[V]using ha) h
     subst e
     refine⟨?_,by simp only[List.length_append];omega⟩
     rw[List.drop_append,List.take_append,List.length_drop,Nat.sub_eq_zero_of_le (by omega:v.size≤ca.length - n),List.take_zero,List.append_nil]
     exact h3
    |snd=>simp only[loc]at h;exact second (.d ta x.1) (.d tb x.2) ca cb e ha.size (by simpa only[V]using hb) h
    |idx i=>simp only[loc,ai]at h
   |arr m t=>
    simp only[du]at hc
    cases st with
    |arr=>exact absurd rfl hst
    |idx i=>simp only[loc]at h;exact elem t x i hc.2 h
    |fst=>simp only[loc,ai]at h
    |snd=>simp only[loc,ai]at h
   |_=>cases st <;> first | exact absurd rfl hst | (simp only[loc,ai]at h)
  |vec e t l=>
   simp only[VO]at hc
   cases st with
   |arr=>exact absurd rfl hst
   |idx i=>simp only[loc]at h;exact elem t l i hc h
   |fst=>simp only[loc,ai]at h
   |snd=>simp only[loc,ai]at h
  |_=>cases st <;> first | exact absurd rfl hst | (simp only[loc,ai]at h)
theorem As{E:Env}{a b:az}{ca cb:List Value}(ha:V E a ca)(hb:V E b cb):V E (ru a b) (ca++cb):=by
 have gen:V E (.pr a b) (ca++cb):=by simp only[V];exact⟨ca,cb,rfl,ha,hb⟩
 unfold ru
 split
 ·simp only[V]at ha hb ⊢
  simp only[du]
  exact⟨ca,cb,rfl,ha,hb⟩
 ·exact gen
theorem tt(a b:az):(ru a b).gA=false:=by unfold ru;split <;> rfl
def dF(cs:List Value)(n:Nat)(vs:List Value):List Value:=cs.take n++vs++cs.drop (n+vs.length)
theorem Bo{cs vs:List Value}(h:cs.length=vs.length):dF cs 0 vs=vs:=by
 simp[dF,List.drop_of_length_le (by omega:cs.length≤vs.length)]
theorem nm{ca cb vs:List Value}{n:Nat}(h:n+vs.length≤ca.length):dF (ca++cb) n vs=dF ca n vs++cb:=by
 unfold dF
 rw[List.take_append,List.drop_append,Nat.sub_eq_zero_of_le (by omega:n≤ca.length),List.take_zero,List.append_nil,Nat.sub_eq_zero_of_le h,List.drop_zero]
 simp only[List.append_assoc]
theorem rV{ca cb vs:List Value}{n:Nat}:dF (ca++cb) (ca.length+n) vs=ca++dF cb n vs:=by
 unfold dF
 rw[List.take_append,List.take_of_length_le (by omega),Nat.add_sub_cancel_left,List.drop_append,List.drop_of_length_le (by omega),List.nil_append]
 simp only[List.append_assoc]
 congr 4
 omega
theorem Bp{cs vs:List Value}{i z n:Nat}(hz:i+z≤cs.length)(h:n+vs.length≤z):
  dF cs (i+n) vs=cs.take i++dF ((cs.drop i).take z) n vs++cs.drop (i+z):=by
 have e:cs=cs.take i++((cs.drop i).take z++cs.drop (i+z)):=by
  rw[←List.drop_drop,List.take_append_drop,List.take_append_drop]
 have hl:(cs.take i).length=i:=by simp;omega
 have hm:((cs.drop i).take z).length=z:=by simp;omega
 conv=>lhs;rw[e,show i+n=(cs.take i).length+n by rw[hl]]
 rw[rV,nm (by omega)]
 simp only[List.append_assoc]
theorem gW{cs vs:List Value}{n:Nat}(h:n+vs.length≤cs.length):(dF cs n vs).length=cs.length:=by
 simp[dF];omega
def iv:az→az→Prop
 | .vec e t l,.vec e' t' l'=>e'=e∧t'=t∧l'.length=l.length
 | .vec ..,_=>False
 |_,.vec .. =>False
 | .mp ..,_ | .kF ..,_=>False
 |_,.mp .. | _,.kF .. =>False
 |_,_=>True
theorem iv.kM{a b:az}(h:iv a b)(ha:a.gA=false):b.gA=false:=by
 cases b <;> first
  |rfl
  | (cases a <;> first | (simp[az.gA]at ha;done) | exact h.elim)
theorem iv.of{a b:az}(ha:a.gA=false)(hb:b.gA=false):iv a b:=by
 cases a <;> first
  | (simp[az.gA]at ha;done)
  | (cases b <;> first | trivial | (simp[az.gA]at hb;done))
theorem V.kM{E:Env}{a:az}{cs:List Value}(h:V E a cs):a.gA=false:=by
 cases a <;> first | rfl | (simp only[V]at h)
theorem jy{E:Env}:∀(p:List qo) (c:az) (cs:List Value) (n:Nat) (o v c':az) (vs:List Value),VO E c cs→(loc c p).eval=some (n,o)→V E v vs→
  (nI c p v).eval=some c'→n+vs.length≤cs.length∧VO E c' (dF cs n vs)∧
   iv c c'
 |[],c,cs,n,o,v,c',vs,hc,hl,hv,h=>by
  simp only[loc,ao,Prod.mk.injEq]at hl
  obtain⟨rfl,rfl⟩:=hl
  have main:∀(hnv:c.gA=false),(Out.guard (v.fa && (c.size==v.size)) (.ok v)).eval=some c'→0+vs.length≤cs.length∧VO E c' (dF cs 0 vs)∧
   iv c c':=by
   intro hnv hg
   obtain⟨h1,h2⟩:=aA.1 hg
   obtain rfl:=ao.1 h2
   simp only[Bool.and_eq_true,beq_iff_eq]at h1
   have e1:=(hc.to hnv).size
   have e2:=hv.size
   refine⟨by omega,?_,?_⟩
   ·rw[Bo (by omega)];exact VO.of hv
   ·exact iv.of hnv hv.kM
  cases c with
  |vec e t l=>simp only[nI,ai]at h
  |mp k v l=>simp only[nI,ai]at h
  |kF q ver k v rest cur=>simp only[nI,ai]at h
  |_=>exact main rfl (by simpa only[nI]using h)
 |st::p,c,cs,n,o,v,c',vs,hc,hl,hv,h=>by
  by_cases hst:st= .arr
  ·subst hst
   have hl':(loc c p).eval=some (n,o):=by cases c <;> simpa only[loc]using hl
   have h':(nI c p v).eval=some c':=by cases c <;> simpa only[nI]using h
   exact jy p c cs n o v c' vs hc hl' hv h'
  have left:∀(a b:az) (ca cb:List Value),cs=ca++cb→V E a ca→V E b cb→(loc a p).eval=some (n,o)→((nI a p v).bind fun a'=>Out.ok (ru a' b)).eval=some c'→
    n+vs.length≤cs.length∧VO E c' (dF cs n vs)∧c'.gA=false:=by
   intro a b ca cb e ha hb hl hh
   obtain⟨a',h1,h2⟩:=al.1 hh
   obtain rfl:=ao.1 h2
   obtain⟨h3,h4,h5⟩:=jy p a ca n o v a' vs (VO.of ha) hl hv h1
   subst e
   refine⟨by simp only[List.length_append];omega,?_,tt _ _⟩
   rw[nm h3]
   have hav:a'.gA=false:=h5.kM ha.kM
   exact VO.of (As (h4.to hav) hb)
  have right:∀(a b:az) (ca cb:List Value),cs=ca++cb→ca.length=a.size→V E a ca→V E b cb→((loc b p).bind fun(n,v)=>Out.ok (a.size+n,v)).eval=some (n,o)→
    ((nI b p v).bind fun b'=>Out.ok (ru a b')).eval=some c'→n+vs.length≤cs.length∧VO E c' (dF cs n vs)∧c'.gA=false:=by
   intro a b ca cb e hal ha hb hl hh
   obtain⟨⟨n',v'⟩,h1,h2⟩:=al.1 hl
   simp only[ao,Prod.mk.injEq]at h2
   obtain⟨rfl,rfl⟩:=h2
   obtain⟨b',h3,h4⟩:=al.1 hh
   obtain rfl:=ao.1 h4
   obtain⟨h5,h6,h7⟩:=jy p b cb n' v' v b' vs (VO.of hb) h1 hv h3
   subst e
   refine⟨by simp only[List.length_append];omega,?_,tt _ _⟩
   rw[←hal,rV]
   have hav:b'.gA=false:=h7.kM hb.kM
   exact VO.of (As ha (h6.to hav))
  have elem:∀(t:Ty) (l:List t.den) (i:Nat) (mk:List t.den→az),bp (du E t) cs l→(Out.ko (decide (i < l.length)) ((loc (.d t (nth t l i)) p).bind fun(n,v)=>Out.ok (i*t.size+n,v))).eval=some (n,o)→
    (Out.ko (decide (i < l.length)) ((nI (.d t (nth t l i)) p v).bind fun
     | .d t' y=>(Out.opt (kZ t' t y)).bind fun y=> .ok (mk (l.set i y))
     |_=> .fail)).eval=some c'→
    n+vs.length≤cs.length∧∃l',c'=mk l'∧l'.length=l.length∧bp (du E t) (dF cs n vs) l':=by
   intro t l i mk hch hl hh
   obtain⟨hi,hl⟩:=bT.1 hl
   have hi:i < l.length:=by simpa using hi
   obtain⟨⟨n',v'⟩,h1,h2⟩:=al.1 hl
   simp only[ao,Prod.mk.injEq]at h2
   obtain⟨rfl,rfl⟩:=h2
   obtain⟨_,hh⟩:=bT.1 hh
   obtain⟨w,h3,h4⟩:=al.1 hh
   obtain⟨hp,hle⟩:=rL hch hi
   rw[vf hi]at h1 h3
   have hvp:V E (.d t l[i]) ((cs.drop (i*t.size)).take t.size):=by simpa only[V]using hp
   have hlen:((cs.drop (i*t.size)).take t.size).length=t.size:=hp.size
   obtain⟨h5,h6,h7⟩:=jy p _ _ n' v' v w vs (VO.of hvp) h1 hv h3
   cases w with
   |d t' y=>
    simp only at h4
    obtain⟨y',h8,h9⟩:=al.1 h4
    obtain⟨rfl,h8⟩:=gU (gZ.1 h8)
    simp only at h8
    subst h8
    obtain rfl:=ao.1 h9
    refine⟨by omega,_,rfl,by simp,?_⟩
    have hy:du E t' (dF ((cs.drop (i*t'.size)).take t'.size) n' vs) y:=by simpa only[VO,V]using h6
    have:=bp.set (fun c x hx=>du.size hx) hch i hi hy
    rw[Bp (by omega:i*t'.size+t'.size≤cs.length) (by omega)]
    rwa[hy.size]at this
   |_=>simp only[ai]at h4
  cases c with
  |pr a b=>
   simp only[VO,V]at hc
   obtain⟨ca,cb,e,ha,hb⟩:=hc
   cases st with
   |arr=>exact absurd rfl hst
   |fst=>
    simp only[loc]at hl;simp only[nI]at h
    obtain⟨r1,r2,r3⟩:=left a b ca cb e ha hb hl h
    exact⟨r1,r2,iv.of rfl r3⟩
   |snd=>
    simp only[loc]at hl;simp only[nI]at h
    obtain⟨r1,r2,r3⟩:=right a b ca cb e ha.size ha hb hl h
    exact⟨r1,r2,iv.of rfl r3⟩
   |idx i=>simp only[loc,ai]at hl
  |d t x=>
   simp only[VO,V]at hc
   cases t with
   |pair ta tb=>
    simp only[du]at hc
    obtain⟨ca,cb,e,ha,hb⟩:=hc
    have ha':V E (.d ta x.1) ca:=by simpa only[V]using ha
    have hb':V E (.d tb x.2) cb:=by simpa only[V]using hb
    cases st with
    |arr=>exact absurd rfl hst
    |fst=>
     simp only[loc]at hl;simp only[nI]at h
     obtain⟨r1,r2,r3⟩:=left _ _ ca cb e ha' hb' hl h
     exact⟨r1,r2,iv.of rfl r3⟩
    |snd=>
     simp only[loc]at hl;simp only[nI]at h
     obtain⟨r1,r2,r3⟩:=right (.d ta x.1) (.d tb x.2) ca cb e ha.size ha' hb' hl h
     exact⟨r1,r2,iv.of rfl r3⟩
    |idx i=>simp only[loc,ai]at hl
   |arr m t=>
    simp only[du]at hc
    cases st with
    |arr=>exact absurd rfl hst
    |idx i=>
     simp only[loc]at hl;simp only[nI]at h
     obtain⟨r1,l',e,r2,r3⟩:=elem t x i (fun l=> .d (.arr m t) l) hc.2 hl h
     subst e
     refine⟨r1,?_,trivial⟩
     simp only[VO,V,du]
     exact⟨by rw[r2];exact hc.1,r3⟩
    |fst=>simp only[loc,ai]at hl
    |snd=>simp only[loc,ai]at hl
   |_=>cases st <;> first | exact absurd rfl hst | (simp only[loc,ai]at hl)
  |vec e t l=>
   simp only[VO]at hc
   cases st with
   |arr=>exact absurd rfl hst
   |idx i=>
    simp only[loc]at hl;simp only[nI]at h
    obtain⟨r1,l',e',r2,r3⟩:=elem t l i (fun l=> .vec e t l) hc hl h
    subst e'
    exact⟨r1,by simpa only[VO]using r3,rfl,rfl,r2⟩
   |fst=>simp only[loc,ai]at hl
   |snd=>simp only[loc,ai]at hl
  |_=>cases st <;> first | exact absurd rfl hst | (simp only[loc,ai]at hl)
end Go.Ab
namespace Go.Ab
def IM(E:Env)(id:Id)(fr:Bool)(e:TypeId)(t:Ty)(l:List t.den):Prop:=
 0 < t.size∧match E.β id with
  |none=>l=[]
  |some pl=>∃cur k,E.w.heap[pl.b]? =some (.cells cur e (0,0))∧cur.size=pl.cap*t.size∧l.length≤pl.cap∧pl.cap≤maxLen∧E.g pl.b= .own (.id id) k∧
    k≤l.length*t.size∧(fr=false→k=0)∧bp (du E t) (cur.toList.take (l.length*t.size)) l
def az.o6:az→Pl→Nat→TypeId→Prop
 | .bx e' 0 _,_,_,e=>e=e'
 | .bx e' (z+1) c,pl,n,e=>e=e'∧n=pl.cap*(z+1)∧pl.cap≤maxLen∧c.size≤n
 |_,_,_,_=>True
def az.l5:az→Nat→Nat
 | .bx _ (_+1) c,_=>c.size
 |_,n=>n
def az.wa:az→Bool | .bx .. =>true | _=>false
theorem V.mL{E:Env}{a:az}{cs:List Value}(h:V E a cs):a.wa=false:=by
 cases a <;> first | rfl | (simp only[V]at h)
theorem s8{c:az}(h:c.wa=false):c.strip=c:=by
 cases c <;> first | rfl | (simp[az.wa]at h)
theorem sm{c:az}(h:c.wa=false)(pl:Pl)(n:Nat)(e:TypeId):c.o6 pl n e:=by
 cases c <;> first | trivial | (simp[az.wa]at h)
theorem uu{c:az}(h:c.wa=false)(n:Nat):c.l5 n=n:=by
 cases c <;> first | rfl | (simp[az.wa]at h)
theorem qK(c:az){c':az}(h:c'.wa=false):(c.wrap c').strip=c':=by
 cases c <;> first | rfl | exact s8 h
theorem qq{c c':az}{pl:Pl}{n:Nat}{e:TypeId}(hc:c.o6 pl n e)(h:c'.wa=false)(hs:c'.size=c.strip.size):(c.wrap c').o6 pl n e:=by
 cases c with
 |bx e' z c=>cases z with
  |zero=>exact hc
  |succ z=>exact⟨hc.1,hc.2.1,hc.2.2.1,by rw[hs];exact hc.2.2.2⟩
 |_=>exact sm h pl n e
theorem sk{c c':az}{n:Nat}(h:c'.wa=false)(hs:c'.size=c.strip.size):(c.wrap c').l5 n=c.l5 n:=by
 cases c with
 |bx e' z c=>cases z with
  |zero=>rfl
  |succ z=>exact hs
 |_=>exact uu h n
theorem tT{c:az}{pl:Pl}{n:Nat}{e:TypeId}(h:c.o6 pl n e):c.l5 n≤n:=by
 cases c with
 |bx e' z c=>cases z with
  |zero=>exact Nat.le_refl _
  |succ z=>exact h.2.2.2
 |_=>exact Nat.le_refl _
def Az(id:Id)(fr:Bool):jt:=match fr with | true=> .free | false=> .own (.id id) 0
def si(E:Env)(id:Id)(fr:Bool)(c:az):Prop:=
 ∃pl cur e,E.β id=some pl∧E.w.heap[pl.b]? =some (.cells cur e (0,0))∧E.g pl.b=Az id fr∧c.o6 pl cur.size e∧V E c.strip (cur.toList.take (c.l5 cur.size))
def Alike{α β:Type}(R:α→β→Prop):List α→List β→Prop
 |[],[]=>True
 |x::xs,y::ys=>R x y∧Alike R xs ys
 |_,_=>False
theorem Alike.mono{α β:Type}{R R':α→β→Prop}(h:∀x y,R x y→R' x y):∀ {xs:List α} {ys:List β},Alike R xs ys→Alike R' xs ys
 |[],[],_=>trivial
 |_::_,_::_,⟨h1,h2⟩=>⟨h _ _ h1,Alike.mono h h2⟩
 |[],_::_,h=>h.elim
 |_::_,[],h=>h.elim
def nM(E:Env)(t:Ty)(v:Value)(x:t.den):Prop:=∃cs,du E t cs x∧fP t.agg cs v
def nY(E:Env)(kt vt:Ty)(e:MapEntry)(x:kt.den×vt.den):Prop:=nM E kt e.key x.1∧nM E vt e.val x.2
theorem nY.mono{E E':Env}(h:lG E E'){kt vt:Ty}{e:MapEntry}{x:kt.den×vt.den}(he:nY E kt vt e x):nY E' kt vt e x:=
 let⟨⟨c1,a1,b1⟩,c2,a2,b2⟩:=he
 ⟨⟨c1,a1.mono h,b1⟩,c2,a2.mono h,b2⟩
def xt(E:Env)(kt vt:Ty)(es:List MapEntry)(l:List (kt.den×vt.den)):Prop:=∃l',Alike (nY E kt vt) es l'∧l'.Perm l
theorem xt.mono{E E':Env}(h:lG E E'){kt vt:Ty}{es:List MapEntry}{l:List (kt.den×vt.den)}(hm:xt E kt vt es l):xt E' kt vt es l:=
 let⟨l',h1,h2⟩:=hm
 ⟨l',h1.mono fun _ _ he=>he.mono h,h2⟩
def je(es:List MapEntry)(clock:Nat):Prop:=(es.map (·.born)).Nodup∧∀e∈es,e.born < clock
theorem je.nil(n:Nat):je [] n:=⟨List.nodup_nil,fun _ h=>(by cases h)⟩
theorem je.push{es:List MapEntry}{clock:Nat}(h:je es clock){e:MapEntry}(he:e.born=clock):je (es++ [e]) (clock+1):=by
 refine⟨?_,fun x hx=> ?_⟩
 ·rw[List.map_append,List.nodup_append]
  refine⟨h.1,by simp,fun a ha b hb=> ?_⟩
  obtain⟨x,hx,rfl⟩:=List.mem_map.1 ha
  have:=h.2 x hx
  simp only[List.map_cons,List.map_nil,List.mem_singleton]at hb
  omega
 ·rcases List.mem_append.1 hx with hx | hx
  ·have:=h.2 x hx;omega
  ·rw[List.mem_singleton]at hx;subst hx;omega
theorem je.erase{es:List MapEntry}{clock:Nat}(h:je es clock)(j:Nat):je (es.eraseIdx j) clock:=
 ⟨h.1.sublist ((List.eraseIdx_sublist es j).map _),fun x hx=>h.2 x ((List.eraseIdx_sublist es j).subset hx)⟩
theorem je.set{es:List MapEntry}{clock:Nat}(h:je es clock){j:Nat}{e x:MapEntry}(hj:es[j]? =some e)(hx:x.born=e.born):je (es.set j x) clock:=by
 have hlt:=(List.getElem?_eq_some_iff.1 hj).1
 have hje:=(List.getElem?_eq_some_iff.1 hj).2
 have e1:(es.set j x).map (·.born)=es.map (·.born):=by
  rw[List.map_set,hx,←hje]
  have:es[j].born=(es.map (·.born))[j]'(by simpa using hlt):=by simp
  rw[this,List.set_getElem_self]
 refine⟨by rw[e1];exact h.1,fun y hy=> ?_⟩
 rcases List.mem_or_eq_of_mem_set hy with hy | hy
 ·exact h.2 y hy
 ·rw[hy,hx,←hje]
  exact h.2 _ (List.getElem_mem hlt)
def IK(E:Env)(id:Id)(kt vt:Ty)(l:List (kt.den×vt.den)):Prop:=
 ∃pl es clock,E.β id=some pl∧E.w.heap[pl.b]? =some (.map es clock)∧E.g pl.b= .own (.id id) 0∧(xt E kt vt es.toList l∧(l.map (·.1)).Nodup)∧je es.toList clock
def HL(E:Env)(i q:Id)(ver:Nat)(kt vt:Ty)(rest:List (kt.den×vt.den))(cur:Option (kt.den×vt.den)):Prop:=
 ∃pl mb since seen c0,E.β i=some pl∧E.w.heap[pl.b]? =some (.mapIter (some mb) since seen c0)∧E.g pl.b= .own (.id i) 0∧∀vr,ver=vr+1→E.pZ q vr∧
  (E.cur q vr→(∃k v l,E.s q=some (.obj vr true (.mp k v l)))∧∃plq es clock,E.β q=some plq∧plq.b=mb∧E.w.heap[plq.b]? =some (.map es clock)∧E.g plq.b= .own (.id q) 0∧
   (∀x∈es.toList,x.born < since)∧(since≤c0∧since≤clock)∧(es.toList.map (·.born)).Nodup∧xt E kt vt (es.toList.filter fun e=> !seen.contains e.born) rest∧
   ∀x,cur=some x→∃(e:MapEntry) (seen':Array Nat),e∈es.toList∧seen=seen'.push e.born∧c0=clock∧nY E kt vt e x)
def lZ(E:Env)(id:Id)(fr:Bool):az→Prop
 | .vec e t l=>IM E id fr e t l
 | .mp kt vt l=>IK E id kt vt l
 | .kF q ver kt vt rest cur=>HL E id q ver kt vt rest cur
 |c=>si E id fr c
theorem lZ.box{E:Env}{id:Id}{fr:Bool}{c:az}(h:lZ E id fr c)(hn:c.gA=false):si E id fr c:=by
 cases c <;> first | exact h | (simp[az.gA]at hn)
theorem si.obj{E:Env}{id:Id}{fr:Bool}{c:az}(h:si E id fr c):lZ E id fr c:=by
 cases c <;> first | exact h | (obtain⟨_,_,_,_,_,_,_,hv⟩:=h;simp only[az.strip,V]at hv)
def hP(E:Env):Prop:=∀id ver fr c,E.s id=some (.obj ver fr c)→lZ E id fr c
structure Trans(w w':World)(g g':Nat→jt):Prop where
 os:w'.os=w.os
 tape:w'.tape=w.tape
 output:w'.output=w.output∧w.drawn≤w'.drawn
 size:w.heap.size≤w'.heap.size
 Cy:∀b,b < w.heap.size→match g b with
  | .free=>g' b= .free∧w'.heap[b]? =w.heap[b]?
  | .own .fu k=>g' b= .own .fu k∧w'.heap[b]? =w.heap[b]?
  | .own (.id _) k=>(g' b= .free∨∃i k',g' b= .own (.id i) k'∧k≤k')∧∀off v,off < k→w.cell? ⟨b,off,none⟩=some v→w'.cell? ⟨b,off,none⟩=some v
theorem Trans.refl(w:World)(g:Nat→jt):Trans w w g g:=
 ⟨rfl,rfl,⟨rfl,Nat.le_refl _⟩,Nat.le_refl _,fun b _=>by
  cases g b with
  |free=>exact⟨rfl,rfl⟩
  |own o k=>cases o with
   |fu=>exact⟨rfl,rfl⟩
   |id i=>exact⟨.inr ⟨i,k,rfl,Nat.le_refl _⟩,fun _ _ _ h=>h⟩⟩
theorem Trans.trans{w w' w'':World}{g g' g'':Nat→jt}(h:Trans w w' g g')(h':Trans w' w'' g' g''):Trans w w'' g g'':=by
 refine⟨h'.os.trans h.os,h'.tape.trans h.tape,⟨h'.output.1.trans h.output.1,Nat.le_trans h.output.2 h'.output.2⟩,Nat.le_trans h.size h'.size,fun b hb=> ?_⟩
 have h1:=h.Cy b hb
 have h2:=h'.Cy b (Nat.lt_of_lt_of_le hb h.size)
 cases hg:g b with
 |free=>
  rw[hg]at h1;simp only at h1 ⊢
  rw[h1.1]at h2;simp only at h2
  exact⟨h2.1,h2.2.trans h1.2⟩
 |own o k=>
  cases o with
  |fu=>
   rw[hg]at h1;simp only at h1 ⊢
   rw[h1.1]at h2;simp only at h2
   exact⟨h2.1,h2.2.trans h1.2⟩
  |id i=>
   rw[hg]at h1;simp only at h1 ⊢
   obtain⟨h1g,h1c⟩:=h1
   rcases h1g with h1g | ⟨i',k',h1g,hk⟩
   ·rw[h1g]at h2;simp only at h2
    exact⟨.inl h2.1,fun off v ho hv=>by
     have:=h1c off v ho hv
     simpa only[World.cell?,h2.2]using this⟩
   ·rw[h1g]at h2;simp only at h2
    refine⟨?_,fun off v ho hv=>h2.2 off v (by omega) (h1c off v ho hv)⟩
    rcases h2.1 with h2g | ⟨i'',k'',h2g,hk'⟩
    ·exact .inl h2g
    ·exact .inr ⟨i'',k'',h2g,by omega⟩
theorem Trans.mem{E E':Env}(h:Trans E.w E'.w E.g E'.g):lG E E':=by
 refine⟨?_,fun b ob hf ho=>by
  have h1:=h.Cy b (Array.getElem?_eq_some_iff.1 ho).1
  rw[hf]at h1
  exact⟨h1.1,h1.2.trans ho⟩⟩
 intro b off v ⟨hc,ho⟩
 have hb:b < E.w.heap.size:=World.block_lt_of_cell? _ _ hc
 have h1:=h.Cy b hb
 unfold Env.has lN at*
 cases hg:E.g b with
 |free=>
  rw[hg]at h1;simp only at h1
  refine⟨?_,by rw[h1.1];trivial⟩
  simpa only[World.cell?,h1.2]using hc
 |own o k=>
  rw[hg]at ho;simp only at ho
  cases o with
  |fu=>
   rw[hg]at h1;simp only at h1
   refine⟨?_,by rw[h1.1];exact ho⟩
   simpa only[World.cell?,h1.2]using hc
  |id i=>
   rw[hg]at h1;simp only at h1
   refine⟨h1.2 off v ho hc,?_⟩
   rcases h1.1 with h2 | ⟨i',k',h2,hk⟩
   ·rw[h2];trivial
   ·rw[h2];show off < k';omega
theorem lZ.Gv{E E':Env}(h:cW E E'){id:Id}{fr:Bool}{c:az}(ho:lZ E id fr c)(hβ:E'.β id=E.β id)
    (hb:∀pl,E.β id=some pl→E'.w.heap[pl.b]? =E.w.heap[pl.b]? ∧E'.g pl.b=E.g pl.b)
    (hq:∀q ver k v l,(∃kt vt rest cu,c= .kF q (ver+1) kt vt rest cu)→E.s q=some (.obj ver true (.mp k v l))→E'.cur q ver→(∃k v l,E'.s q=some (.obj ver true (.mp k v l)))∧∀pl,E.β q=some pl→E'.w.heap[pl.b]? =E.w.heap[pl.b]? ∧E'.g pl.b=E.g pl.b):lZ E' id fr c:=by
  by_cases hn:c.gA=false
  · obtain⟨pl,cur,e,h1,h2,h3,h5,h4⟩:=ho.box hn
    obtain⟨b1,b2⟩:=hb pl h1
    exact si.obj ⟨pl,cur,e,by rw[hβ,h1],by rw[b1,h2],by rw[b2,h3],h5,h4.mono h⟩
  · cases c <;> first
      | (exact absurd rfl hn)
      | (obtain⟨pl,es,clock,h1,h2,h3,h4⟩:=ho
         obtain⟨b1,b2⟩:=hb pl h1
         exact⟨pl,es,clock,by rw[hβ,h1],by rw[b1,h2],by rw[b2,h3],⟨h4.1.1.mono h.mem,h4.1.2⟩,h4.2⟩)
      | (obtain⟨pl,mb,since,seen,c0,h1,h2,h3,hv⟩:=ho
         obtain⟨b1,b2⟩:=hb pl h1
         refine⟨pl,mb,since,seen,c0,by rw[hβ,h1],by rw[b1,h2],by rw[b2,h3],fun vr hvr=> ?_⟩
         obtain⟨h4,h5⟩:=hv vr hvr
         refine⟨h.pZ _ _ h4,fun hc=> ?_⟩
         obtain⟨c1,e1⟩:=h.cur _ _ h4 hc
         obtain⟨⟨k,v,l,hk⟩,plq,es,clock,g1,g2,g3,g4,g5,g6,g7,g8,g9⟩:=h5 c1
         obtain⟨q1,q2⟩:=hq _ _ _ _ _ ⟨_,_,_,_,by rw[hvr]⟩ hk hc
         obtain⟨q3,q4⟩:=q2 plq g1
         exact⟨q1,plq,es,clock,by rw[e1,g1],g2,by rw[q3,g3],by rw[q4,g4],g5,g6,g7,g8.mono h.mem,fun x hx=>
           let⟨e,se,a1,a2,a3,a4⟩:=g9 x hx
           ⟨e,se,a1,a2,a3,a4.mono h.mem⟩⟩)
      |skip
    rename_i e t l
    obtain⟨hz,ho⟩:=ho
    refine⟨hz,?_⟩
    rw[hβ]
    cases hp:E.β id with
    |none=>rw[hp]at ho;exact ho
    |some pl=>
      rw[hp]at ho
      simp only at ho ⊢
      obtain⟨b1,b2⟩:=hb pl hp
      obtain⟨cur,k,h1,h2,h3,h4,h5,h6,h7,h8⟩:=ho
      exact⟨cur,k,by rw[b1,h1],h2,h3,h4,by rw[b2,h5],h6,h7,h8.mono fun c x hx=>hx.mono h.mem⟩
theorem lZ.mono{E E':Env}(h:cW E E'){id:Id}{fr:Bool}{c:az}(ho:lZ E id fr c)(hβ:E'.β id=E.β id)
  (hb:∀pl,E.β id=some pl→E'.w.heap[pl.b]? =E.w.heap[pl.b]? ∧E'.g pl.b=E.g pl.b)
  (hq:∀q ver k v l,E.s q=some (.obj ver true (.mp k v l))→E'.cur q ver→(∃k v l,E'.s q=some (.obj ver true (.mp k v l)))∧∀pl,E.β q=some pl→E'.w.heap[pl.b]? =E.w.heap[pl.b]? ∧E'.g pl.b=E.g pl.b):lZ E' id fr c:=
 ho.Gv h hβ hb fun q ver k v l _=>hq q ver k v l
def AS.env(s:AS)(w:World)(g:Nat→jt)(β:Id→Option Pl):Env:= {w,g,β,s:=s.cl}
structure Ctx where
 E:Env
structure Inv(C:Ctx)(g:Nat→jt)(β:Id→Option Pl)(s:AS)(a:Act)(w:World):Prop where
 defers:a.defers=[]
 size:a.tmps.size=s.cS.length
 cS:∀i,VS (s.env w g β) (s.slot i) (a.tmps.getD i undef)
 bZ:hP (s.env w g β)
 trans:Trans C.E.w w C.E.g g
 le:cW C.E (s.env w g β)
def gH(C:Ctx)(s:AS)(a:Act)(w:World):Prop:=∃g β,Inv C g β s a w
theorem vF(s:AS)(d:Nat)(v:az)(i:Nat):(s.put (some d) v).slot i=if i=d∧d < s.cS.length then v else s.slot i:=by
 simp only[AS.put,AS.slot,List.getD_eq_getElem?_getD,List.getElem?_set]
 by_cases h:d=i
 ·subst h
  by_cases hl:d < s.cS.length
  ·simp[hl]
  ·simp[hl]
 ·simp[h,Ne.symm h]
@[simp] theorem pN(s:AS)(d:Option Tmp)(v:az):(s.put d v).cl=s.cl:=by
 cases d <;> rfl
@[simp] theorem BQ(s:AS)(d:Option Tmp)(v:az)(w:World)(g:Nat→jt)(β:Id→Option Pl):(s.put d v).env w g β=s.env w g β:=by
 simp[AS.env]
theorem E5(a:Act)(d:Nat)(v:Value)(i:Nat):(a.put (some d) v).tmps.getD i undef=if i=d∧d < a.tmps.size then v else a.tmps.getD i undef:=by
 simp only[Act.put,Array.getD_eq_getD_getElem?,Array.getElem?_setIfInBounds]
 by_cases h:d=i
 ·subst h
  by_cases hl:d < a.tmps.size
  ·simp[hl]
  ·simp[hl]
 ·simp[h,Ne.symm h]
theorem Inv.put{C:Ctx}{g:Nat→jt}{β:Id→Option Pl}{s:AS}{a:Act}{w:World}(h:Inv C g β s a w)(d:Option Tmp){v:az}{x:Value}(hv:VS (s.env w g β) v x):
  Inv C g β (s.put d v) (a.put d x) w:=by
 cases d with
 |none=>exact h
 |some d=>
  refine⟨by simpa[Act.put]using h.defers,by simpa[Act.put,AS.put]using h.size,fun i=> ?_,by simpa using h.bZ,h.trans,by simpa using h.le⟩
  rw[BQ,vF,E5,h.size]
  split
  ·exact hv
  ·exact h.cS i
theorem Inv.step{C:Ctx}{g g':Nat→jt}{β β':Id→Option Pl}{s s':AS}{a:Act}{w w':World}(h:Inv C g β s a w)(hs:s'.cS=s.cS)
  (ht:Trans w w' g g') (he:cW (s.env w g β) (s'.env w' g' β')) (ho:hP (s'.env w' g' β')):Inv C g' β' s' a w':=
 ⟨h.defers,by rw[hs];exact h.size,fun i=>by
  have:s'.slot i=s.slot i:=by simp[AS.slot,hs]
  rw[this]
  exact(h.cS i).mono he,ho,h.trans.trans ht,h.le.trans he⟩
theorem DB{E:Env}(v:Value):VS E (ofConst v) v:=by
 cases v with
 |bool b=>exact⟨_,by simp[ofConst,V,du],rfl⟩
 |int k n=>exact⟨_,by simp[ofConst,V,du],rfl⟩
 |string s=>exact⟨_,by simp[ofConst,V,du],rfl⟩
 |slice a l c=>cases a with
  |none=>
   cases l with
   |zero=>cases c with
    |zero=>exact⟨_,by simp[ofConst,V],rfl⟩
    |succ _=>trivial
   |succ _=>trivial
  |some _=>trivial
 |pointer a=>cases a with
  |none=>exact⟨_,by simp[ofConst,V],rfl⟩
  |some _=>trivial
 |map r=>cases r with
  |none=>exact⟨_,by simp[ofConst,V],rfl⟩
  |some _=>trivial
 |nilFunc=>exact⟨_,by simp[ofConst,V],rfl⟩
 |_=>trivial
theorem Inv.ev{C:Ctx}{g:Nat→jt}{β:Id→Option Pl}{s:AS}{a:Act}{w:World}(h:Inv C g β s a w)(x:Operand):VS (s.env w g β) (s.ev x) (a.eval x):=by
 cases x with
 |tmp t=>exact h.cS t
 |const v=>exact DB v
 |func f=>exact⟨_,by simp only[AS.ev,V];exact⟨[],rfl,by simp[VC]⟩,rfl⟩
 |global _=>trivial
theorem eH(s:AS)(id:Id)(e:eL)(h:s.cl id≠none):(s.bf id e).cl id=some e:=by
 cases id with
 |dH k=>
  simp only[AS.cl,AS.bf]at*
  have hk:k < s.dd.length:=by
   rcases Nat.lt_or_ge k s.dd.length with h' | h'
   ·exact h'
   ·exact absurd (List.getElem?_eq_none h') h
  simp[hk]
 |new i j=>
  simp only[AS.cl,AS.bf]at*
  have hj:j < (s.news.getD i []).length:=by
   rcases Nat.lt_or_ge j (s.news.getD i []).length with h' | h'
   ·exact h'
   ·exact absurd (List.getElem?_eq_none h') h
  have hi:i < s.news.length:=by
   rcases Nat.lt_or_ge i s.news.length with h' | h'
   ·exact h'
   ·simp[List.getElem?_eq_none h']at hj
  have:((s.news.set i ((s.news.getD i []).set j e)).getD i [])=(s.news.getD i []).set j e:=by
   simp[List.getD_eq_getElem?_getD,hi]
  rw[this]
  simp only[List.getElem?_set,hj,if_true]
theorem cU(s:AS)(id id':Id)(e:eL)(h:id'≠id):(s.bf id e).cl id'=s.cl id':=by
 cases id with
 |dH k=>
  cases id' with
  |dH k'=>
   simp only[AS.cl,AS.bf]
   rw[List.getElem?_set_ne (fun e=>h (by rw[e]))]
  |new i j=>rfl
 |new i j=>
  cases id' with
  |dH k'=>rfl
  |new i' j'=>
   simp only[AS.cl,AS.bf]
   by_cases hi:i'=i
   ·subst hi
    have hj:j≠j':=fun e=>h (by rw[e])
    by_cases hl:i' < s.news.length
    ·have:((s.news.set i' ((s.news.getD i' []).set j e)).getD i' [])=(s.news.getD i' []).set j e:=by
      simp[List.getD_eq_getElem?_getD,hl]
     rw[this,List.getElem?_set_ne hj]
    ·rw[List.set_eq_of_length_le (by omega)]
   ·have:(s.news.set i ((s.news.getD i []).set j e)).getD i' []=s.news.getD i' []:=by
     simp only[List.getD_eq_getElem?_getD]
     rw[List.getElem?_set_ne (Ne.symm hi)]
    rw[this]
@[simp] theorem dC(s:AS)(id:Id)(e:eL):(s.bf id e).cS=s.cS:=by cases id <;> rfl
@[simp] theorem HD(s:AS)(i:Nat)(es:List eL):(s.born i es).cS=s.cS:=rfl
theorem ez{s:AS}{id:Id}{v:Nat}{fr:Bool}{c:az}(h:s.obj id=some (v,fr,c)):s.cl id=some (.obj v fr c):=by
 unfold AS.obj at h
 split at h
 ·rename_i h';simp at h;obtain⟨rfl,rfl,rfl⟩:=h;exact h'
 ·cases h
theorem cW.bf{s:AS}{w w':World}{g g':Nat→jt}{β β':Id→Option Pl}{id:Id}{v v':Nat}{fr fr':Bool}{c c':az}(hs:s.cl id=some (.obj v fr c))(hv:v≤v')
  (ht:Trans w w' g g') (hβ:∀i,i≠id→β' i=β i) (hβ':v'=v→β' id=β id):cW (s.env w g β) ((s.bf id (.obj v' fr' c')).env w' g' β'):=by
 have hself:=eH s id (.obj v' fr' c') (by rw[hs];simp)
 refine⟨Trans.mem ht,fun i ver hb=> ?_,fun i ver hb hc=> ?_⟩
 ·by_cases hi:i=id
  ·subst hi
   obtain⟨_,h2⟩:=hb
   refine⟨by show(s.bf i (.obj v' fr' c')).cl i≠none;rw[hself];simp,fun v'' fr'' c'' he=> ?_⟩
   have he':(s.bf i (.obj v' fr' c')).cl i=some (.obj v'' fr'' c''):=he
   rw[hself]at he'
   simp only[Option.some.injEq,eL.obj.injEq]at he'
   have:=h2 v fr c hs
   omega
  ·have:=cU s id i (.obj v' fr' c') hi
   obtain⟨h1,h2⟩:=hb
   exact⟨by show(s.bf id (.obj v' fr' c')).cl i≠none;rw[this];exact h1,fun v'' fr'' c'' he=>h2 v'' fr'' c'' (this.symm.trans he)⟩
 ·obtain⟨fr'',c'',hc⟩:=hc
  by_cases hi:i=id
  ·subst hi
   have hc':(s.bf i (.obj v' fr' c')).cl i=some (.obj ver fr'' c''):=hc
   rw[hself]at hc'
   simp only[Option.some.injEq,eL.obj.injEq]at hc'
   have h2:=hb.2 v fr c hs
   have e:v'=v:=by omega
   refine⟨⟨fr,c,?_⟩,hβ' e⟩
   rw[←hc'.1,e];exact hs
  ·have hc':(s.bf id (.obj v' fr' c')).cl i=some (.obj ver fr'' c''):=hc
   rw[cU s id i _ hi]at hc'
   exact⟨⟨fr'',c'',hc'⟩,hβ i hi⟩
theorem hP.bf{s:AS}{w w':World}{g g':Nat→jt}{β β':Id→Option Pl}{id:Id}{v':Nat}{fr':Bool}{c':az}(h:hP (s.env w g β))(hne:s.cl id≠none)
  (he:cW (s.env w g β) ((s.bf id (.obj v' fr' c')).env w' g' β')) (hβ:∀i,i≠id→β' i=β i)
  (hb:∀i ver fr c pl,i≠id→s.cl i=some (.obj ver fr c)→β i=some pl→w'.heap[pl.b]? =w.heap[pl.b]? ∧g' pl.b=g pl.b)
  (ho:lZ ((s.bf id (.obj v' fr' c')).env w' g' β') id fr' c')
  (hlk:∀ver k v l,s.cl id=some (.obj ver true (.mp k v l))→v'=ver∧fr'=true∧(∃k v l,c'= .mp k v l)∧∀pl,β id=some pl→w'.heap[pl.b]? =w.heap[pl.b]? ∧g' pl.b=g pl.b):hP ((s.bf id (.obj v' fr' c')).env w' g' β'):=by
 intro i ver fr c hi
 by_cases hid:i=id
 ·subst hid
  have hi':(s.bf i (.obj v' fr' c')).cl i=some (.obj ver fr c):=hi
  rw[eH s i _ hne]at hi'
  simp only[Option.some.injEq,eL.obj.injEq]at hi'
  obtain⟨rfl,rfl,rfl⟩:=hi'
  exact ho
 ·have hi':(s.bf id (.obj v' fr' c')).cl i=some (.obj ver fr c):=hi
  rw[cU s id i _ hid]at hi'
  refine(h i ver fr c hi').mono he (hβ i hid) (fun pl hp=>hb i ver fr c pl hid hi' hp) fun q vq k v l hq hc=> ?_
  have hq:s.cl q=some (.obj vq true (.mp k v l)):=hq
  by_cases hqd:q=id
  ·subst hqd
   obtain⟨rfl,rfl,⟨k',v',l',rfl⟩,hbl⟩:=hlk _ _ _ _ hq
   exact⟨⟨k',v',l',eH s q _ hne⟩,hbl⟩
  ·exact⟨⟨k,v,l,by show(s.bf id _).cl q=_;rw[cU s id q _ hqd];exact hq⟩,fun pl hp=>hb q vq true _ pl hqd hq hp⟩
theorem xU{s:AS}{w:World}{g:Nat→jt}{β:Id→Option Pl}{id:Id}{v:Nat}{fr:Bool}{c:az}(hs:s.cl id=some (.obj v fr c)):
  ∀ver k v1 l,s.cl id=some (.obj ver true (.mp k v1 l))→v=ver∧true=true∧(∃k v l,c= .mp k v l)∧∀pl,β id=some pl→w.heap[pl.b]? =w.heap[pl.b]? ∧g pl.b=g pl.b:=fun ver k v1 l hl=>by
 rw[hs]at hl
 cases hl
 exact⟨rfl,rfl,⟨_,_,_,rfl⟩,fun _ _=>⟨rfl,rfl⟩⟩
theorem jv{s:AS}{id:Id}{v:Nat}{fr:Bool}{c:az}(hs:s.cl id=some (.obj v fr c))(hc:∀k v1 l,c≠ .mp k v1 l){Q:Nat→Prop}:
  ∀ver k v1 l,s.cl id=some (.obj ver true (.mp k v1 l))→Q ver:=fun ver k v1 l hl=>by
 rw[hs]at hl
 cases hl
 exact absurd rfl (hc _ _ _)
theorem tY{s:AS}{id:Id}{v:Nat}{c:az}(hs:s.cl id=some (.obj v false c)){Q:Nat→Prop}:
  ∀ver k v1 l,s.cl id=some (.obj ver true (.mp k v1 l))→Q ver:=fun ver k v1 l hl=>by
 rw[hs]at hl
 cases hl
theorem pI{s:AS}{id:Id}{v:Nat}{fr:Bool}{c:az}(hs:s.cl id=some (.obj v fr c))(h:s.kT id=true):fr=false:=by
 have e:s.obj id=some (v,fr,c):=by simp[AS.obj,hs]
 unfold AS.kT at h
 rw[e]at h
 simpa using h
theorem lZ.label{E:Env}{id:Id}{fr:Bool}{c:az}(h:lZ E id fr c){pl:Pl}(hp:E.β id=some pl):
    pl.b < E.w.heap.size∧((∃k,E.g pl.b= .own (.id id) k)∨(fr=true∧E.g pl.b= .free)):=by
  by_cases hn:c.gA=false
  · obtain⟨pl',cur,e,h1,h2,h3,h4⟩:=h.box hn
    rw[hp]at h1
    obtain rfl:pl=pl':=by simpa using h1
    refine⟨(Array.getElem?_eq_some_iff.1 h2).1,?_⟩
    cases fr with
    |true=>exact .inr ⟨rfl,h3⟩
    |false=>exact .inl ⟨0,h3⟩
  · cases c <;> first
      | (exact absurd rfl hn)
      | (obtain⟨pl',es,clock,h1,h2,h3,_⟩:=h
         rw[hp]at h1
         obtain rfl:pl=pl':=by simpa using h1
         exact⟨(Array.getElem?_eq_some_iff.1 h2).1,.inl ⟨0,h3⟩⟩)
      | (obtain⟨pl',mb,since,seen,c0,h1,h2,h3,_⟩:=h
         rw[hp]at h1
         obtain rfl:pl=pl':=by simpa using h1
         exact⟨(Array.getElem?_eq_some_iff.1 h2).1,.inl ⟨0,h3⟩⟩)
      |skip
    obtain⟨_,h⟩:=h
    rw[hp]at h
    obtain⟨cur,k,h1,_,_,_,h5,_⟩:=h
    exact⟨(Array.getElem?_eq_some_iff.1 h1).1,.inl ⟨k,h5⟩⟩
def jH{α:Type}(f:Nat→α)(b:Nat)(x:α):Nat→α:=fun b'=>if b'=b then x else f b'
@[simp] theorem fD{α:Type}(f:Nat→α)(b:Nat)(x:α):jH f b x b=x:=by simp[jH]
theorem fA{α:Type}(f:Nat→α)(b:Nat)(x:α){b':Nat}(h:b'≠b):jH f b x b'=f b':=by simp[jH,h]
def uP:az→Nat→Prop
 | .vec _ t l,j=>j < l.length*t.size
 |_,_=>True
theorem uP.of{c:az}(h:c.gA=false)(j:Nat):uP c j:=by
 cases c <;> first | trivial | (simp[az.gA]at h)
theorem DO{w:World}{b:Nat}{es:Array MapEntry}{clock:Nat}(h:w.heap[b]? =some (.map es clock))(j:Nat):w.cell? ⟨b,j,none⟩=none:=by
 simp[World.cell?,h]
theorem xK{C:Ctx}{g:Nat→jt}{β:Id→Option Pl}{s:AS}{a:Act}{w:World}(h:Inv C g β s a w)(id:Id):
    ∃g',Inv C g' β (s.freeze id) a w∧cW (s.env w g β) ((s.freeze id).env w g' β)∧Trans w w g g'∧
      (∀v fr c,s.cl id=some (.obj v fr c)→∀pl,β id=some pl→∀j x,w.cell? ⟨pl.b,j,none⟩=some x→
        uP c j→lN g' pl.b j):=by
  unfold AS.freeze
  cases hs:s.cl id with
  |none=>exact⟨g,h,cW.refl _,Trans.refl _ _,fun _ _ _ hh=>by cases hh⟩
  |some e=>
    cases e with
    |dead=>exact⟨g,h,cW.refl _,Trans.refl _ _,fun _ _ _ hh=>by cases hh⟩
    |obj v fr c=>
      simp only
      have hob:lZ (s.env w g β) id fr c:=h.bZ id v fr c hs
      cases hp:β id with
      |none=>
        have ht:=Trans.refl w g
        have he:cW (s.env w g β) ((s.bf id (.obj v true c)).env w g β):=cW.bf hs (Nat.le_refl _) ht (fun _ _=>rfl) (fun _=>rfl)
        refine⟨g,h.step (dC _ _ _) ht he ?_,he,ht,fun _ _ _ _ pl hpl=>by cases hpl⟩
        refine hP.bf h.bZ (by rw[hs];simp) he (fun _ _=>rfl) (fun _ _ _ _ _ _ _ _=>⟨rfl,rfl⟩) ?_ (xU hs)
        by_cases hn:c.gA=false
        · obtain⟨pl,_,_,h1,_⟩:=hob.box hn
          have h1':β id=some pl:=h1
          rw[hp]at h1';cases h1'
        · cases c <;> first
            | (exact absurd rfl hn)
            | (obtain⟨pl,_,_,h1,_⟩:=hob
               have h1':β id=some pl:=h1
               rw[hp]at h1';cases h1')
            | (obtain⟨pl,_,_,_,_,h1,_⟩:=hob
               have h1':β id=some pl:=h1
               rw[hp]at h1';cases h1')
            |skip
          obtain⟨hz,ho⟩:=hob
          have ho':(match β id with
            |none=>_
            |some pl=>_):=ho
          refine⟨hz,?_⟩
          show(match β id with
            |none=>_
            |some pl=>_)
          rw[hp]at ho' ⊢
          exact ho'
      |some pl=>
        have hlab:=hob.label (pl:=pl) hp
        by_cases hn:c.gA=false
        · obtain⟨pl',cur,e,h1,h2,h3,h5,h4⟩:=hob.box hn
          have h1':β id=some pl':=h1
          rw[hp]at h1'
          obtain rfl:pl=pl':=by simpa using h1'
          have h3':g pl.b=Az id fr:=h3
          have ht:Trans w w g (jH g pl.b .free):=by
            refine⟨rfl,rfl,⟨rfl,Nat.le_refl _⟩,Nat.le_refl _,fun b hb=> ?_⟩
            by_cases hbe:b=pl.b
            · subst hbe
              rw[h3',fD]
              cases fr with
              |true=>exact⟨rfl,rfl⟩
              |false=>exact⟨.inl rfl,fun _ _ _ hh=>hh⟩
            · rw[fA _ _ _ hbe]
              exact(Trans.refl w g).Cy b hb
          have he:cW (s.env w g β) ((s.bf id (.obj v true c)).env w (jH g pl.b .free) β):=cW.bf hs (Nat.le_refl _) ht (fun _ _=>rfl) (fun _=>rfl)
          refine⟨jH g pl.b .free,h.step (dC _ _ _) ht he ?_,he,ht,?_⟩
          · refine hP.bf h.bZ (by rw[hs];simp) he (fun _ _=>rfl) (fun i ver fr' c' pl' hi hent hpl=>⟨rfl,?_⟩) ?_ (jv hs fun k v1 l e=>by rw[e]at hn;simp[az.gA]at hn)
            · by_cases hbe:pl'.b=pl.b
              · rw[hbe,fD]
                have hl:=(h.bZ i ver fr' c' hent).label (pl:=pl') hpl
                have hl2:(∃k,g pl'.b= .own (.id i) k)∨(fr'=true∧g pl'.b= .free):=hl.2
                rw[hbe,h3']at hl2
                cases fr with
                |true=>exact h3'.symm▸rfl
                |false=>
                  exfalso
                  rcases hl2 with⟨k,hk⟩ | ⟨_,hk⟩
                  · simp only[Az,jt.own.injEq,IA.id.injEq]at hk
                    exact hi hk.1.symm
                  · cases hk
              · rw[fA _ _ _ hbe]
            · exact si.obj ⟨pl,cur,e,hp,h2,fD _ _ _,h5,V.mono he h4⟩
          · intro v1 fr1 c1 hh pl1 hpl1 j x hx hj
            obtain rfl:pl=pl1:=by simpa using hpl1
            unfold lN;rw[fD];trivial
        · cases c <;> first | (exact absurd rfl hn) | skip
          rotate_left
          rotate_left
          · rename_i q vq kt vt rest cu
            have ht:=Trans.refl w g
            have he:cW (s.env w g β) ((s.bf id (.obj v true (.kF q vq kt vt rest cu))).env w g β):=cW.bf hs (Nat.le_refl _) ht (fun _ _=>rfl) (fun _=>rfl)
            have hob':=hob
            obtain⟨pl',mb,since,seen,c0,h1,h2,_⟩:=hob
            have h1':β id=some pl':=h1
            rw[hp]at h1'
            obtain rfl:pl=pl':=by simpa using h1'
            refine⟨g,h.step (dC _ _ _) ht he ?_,he,ht,fun _ _ _ _ pl1 hpl1 j x hx _=> ?_⟩
            · refine hP.bf h.bZ (by rw[hs];simp) he (fun _ _=>rfl) (fun _ _ _ _ _ _ _ _=>⟨rfl,rfl⟩) ?_ (xU hs)
              exact lZ.mono he (fr:=true) hob' rfl (fun _ _=>⟨rfl,rfl⟩) fun q2 v2 k2 v3 l2 hq2 _=>⟨⟨k2,v3,l2,by
                have hq2:s.cl q2=some (.obj v2 true (.mp k2 v3 l2)):=hq2
                have hne:q2≠id:=fun e=>by rw[e,hs]at hq2;cases hq2
                show(s.bf id _).cl q2=_
                rw[cU s id q2 _ hne];exact hq2⟩,fun _ _=>⟨rfl,rfl⟩⟩
            · obtain rfl:pl=pl1:=by simpa using hpl1
              have h2:w.heap[pl.b]? =some (.mapIter (some mb) since seen c0):=h2
              simp[World.cell?,h2]at hx
          rotate_left
          · obtain⟨pl',es,clock,h1,h2,h3,h4⟩:=hob
            have h1':β id=some pl':=h1
            rw[hp]at h1'
            obtain rfl:pl=pl':=by simpa using h1'
            have ht:=Trans.refl w g
            rename_i kt vt l
            have he:cW (s.env w g β) ((s.bf id (.obj v true (.mp kt vt l))).env w g β):=cW.bf hs (Nat.le_refl _) ht (fun _ _=>rfl) (fun _=>rfl)
            refine⟨g,h.step (dC _ _ _) ht he ?_,he,ht,fun _ _ _ _ pl1 hpl1 j x hx _=> ?_⟩
            · exact hP.bf h.bZ (by rw[hs];simp) he (fun _ _=>rfl) (fun _ _ _ _ _ _ _ _=>⟨rfl,rfl⟩) ⟨pl,es,clock,hp,h2,h3,⟨h4.1.1.mono he.mem,h4.1.2⟩,h4.2⟩ (xU hs)
            · obtain rfl:pl=pl1:=by simpa using hpl1
              have h2:w.heap[pl.b]? =some (.map es clock):=h2
              rw[DO h2]at hx
              cases hx
          rename_i e t l
          obtain⟨hz,ho⟩:=hob
          have ho':(match β id with
            |none=>l=[]
            |some pl=>∃cur k,w.heap[pl.b]? =some (.cells cur e (0,0))∧cur.size=pl.cap*t.size∧l.length≤pl.cap∧pl.cap≤maxLen∧g pl.b= .own (.id id) k∧
                k≤l.length*t.size∧(fr=false→k=0)∧bp (du (s.env w g β) t) (cur.toList.take (l.length*t.size)) l):=ho
          rw[hp]at ho'
          obtain⟨cur,k,h1,h2,h3,h4,h5,h6,h7,h8⟩:=ho'
          have ht:Trans w w g (jH g pl.b (.own (.id id) (l.length*t.size))):=by
            refine⟨rfl,rfl,⟨rfl,Nat.le_refl _⟩,Nat.le_refl _,fun b hb=> ?_⟩
            by_cases hbe:b=pl.b
            · subst hbe
              rw[h5,fD]
              exact⟨.inr ⟨id,_,rfl,h6⟩,fun _ _ _ hh=>hh⟩
            · rw[fA _ _ _ hbe]
              exact(Trans.refl w g).Cy b hb
          have he:cW (s.env w g β) ((s.bf id (.obj v true (.vec e t l))).env w (jH g pl.b (.own (.id id) (l.length*t.size))) β):=cW.bf hs (Nat.le_refl _) ht (fun _ _=>rfl) (fun _=>rfl)
          refine⟨_,h.step (dC _ _ _) ht he ?_,he,ht,?_⟩
          · refine hP.bf h.bZ (by rw[hs];simp) he (fun _ _=>rfl) (fun i ver fr' c' pl' hi hent hpl=>⟨rfl,?_⟩) ?_ (jv hs fun k v1 l e=>by cases e)
            · by_cases hbe:pl'.b=pl.b
              · exfalso
                have hl:=(h.bZ i ver fr' c' hent).label (pl:=pl') hpl
                have hl2:(∃k,g pl'.b= .own (.id i) k)∨(fr'=true∧g pl'.b= .free):=hl.2
                rw[hbe,h5]at hl2
                rcases hl2 with⟨k,hk⟩ | ⟨_,hk⟩
                · simp only[jt.own.injEq,IA.id.injEq]at hk
                  exact hi hk.1.symm
                · cases hk
              · rw[fA _ _ _ hbe]
            · refine⟨hz,?_⟩
              show(match β id with
                |none=>l=[]
                |some pl=>_)
              rw[hp]
              exact⟨cur,_,h1,h2,h3,h4,fD _ _ _,Nat.le_refl _,(by intro hh;cases hh),h8.mono fun c x hx=>hx.mono he.mem⟩
          · intro v1 fr1 c1 hh pl1 hpl1 j x hx hj
            obtain rfl:pl=pl1:=by simpa using hpl1
            simp only[Option.some.injEq,eL.obj.injEq]at hh
            obtain⟨_,_,rfl⟩:=hh
            unfold lN;rw[fD];exact hj
end Go.Ab
namespace Go.Ab
def HT(E E':Env)(ids:List Id):Prop:=
 ∀id∈ids,∀v fr c,E.s id=some (.obj v fr c)→∀pl,E.β id=some pl→∀j x,E.w.cell? ⟨pl.b,j,none⟩=some x→
  uP c j→E'.has pl.b j x
theorem uE{s:AS}{id i:Id}{v:Nat}{fr:Bool}{c:az}(h:s.cl i=some (.obj v fr c)):∃fr',(s.freeze id).cl i=some (.obj v fr' c):=by
 unfold AS.freeze
 by_cases hi:i=id
 ·subst hi
  rw[h]
  exact⟨true,eH s i _ (by rw[h];simp)⟩
 ·split
  ·exact⟨fr,by rw[cU s id i _ hi];exact h⟩
  ·exact⟨fr,h⟩
theorem gq{C:Ctx}{β:Id→Option Pl}{a:Act}{w:World}:∀(ids:List Id) {g:Nat→jt} {s:AS},Inv C g β s a w→
  ∃g',Inv C g' β (s.bq ids) a w∧cW (s.env w g β) ((s.bq ids).env w g' β)∧Trans w w g g'∧HT (s.env w g β) ((s.bq ids).env w g' β) ids
 |[],g,s,h=>⟨g,h,cW.refl _,Trans.refl _ _,fun _ hi=>by cases hi⟩
 |id::ids,g,s,h=>by
  obtain⟨g1,h1,e1,t1,f1⟩:=xK h id
  obtain⟨g2,h2,e2,t2,f2⟩:=gq ids h1
  refine⟨g2,h2,e1.trans e2,t1.trans t2,fun i hi v fr c hs pl hp j x hx hj=> ?_⟩
  rcases List.mem_cons.1 hi with rfl | hi
  ·exact e2.mem.has _ _ _ ⟨hx,f1 v fr c hs pl hp j x hx hj⟩
  ·obtain⟨fr',hs'⟩:=uE (id:=id) hs
   exact f2 i hi v fr' c hs' pl hp j x hx hj
theorem yk(s:AS)(id:Id):(s.freeze id).cS=s.cS:=by unfold AS.freeze;split <;> simp
theorem iN:∀(ids:List Id) (s:AS),(s.bq ids).cS=s.cS
 |[],_=>rfl
 |id::ids,s=>by rw[AS.bq,iN ids,yk]
theorem zy(s:AS)(id:Id)(q:Nat):(s.freeze id).ef q=s.ef q:=by
 unfold AS.freeze
 split
 ·rename_i v b c h
  cases id with
  |dH k=>rfl
  |new i j=>
   simp only[AS.bf,AS.ef]
   by_cases hq:i=q
   ·subst hq
    simp only[AS.cl]at h
    by_cases hl:i < s.news.length
    ·rw[List.getElem?_set_self hl,List.getElem?_eq_getElem hl]
     rw[List.getD_eq_getElem?_getD,List.getElem?_eq_getElem hl]at h ⊢
     simp only[Option.getD_some]at h ⊢
     cases hh:s.news[i]with
     |nil=>rw[hh]at h;simp at h
     |cons x xs=>cases j <;> simp[List.set]
    ·rw[List.set_eq_of_length_le (by omega)]
   ·rw[List.getElem?_set_ne hq]
 ·rfl
theorem lv:∀(ids:List Id) (s:AS) (q:Nat),(s.bq ids).ef q=s.ef q
 |[],_,_=>rfl
 |id::ids,s,q=>by rw[AS.bq,lv ids,zy]
theorem u5{e:TypeId}{t:Ty}:∀ {p:List qo} {n:Nat} {v:az},(loc (.vec e t []) p).eval=some (n,v)→n=0∧v= .vec e t []
 |[],n,v,h=>by
  simp only[loc,ao,Prod.mk.injEq]at h
  exact⟨h.1.symm,h.2.symm⟩
 | .arr::p,n,v,h=>by
  simp only[loc]at h
  exact u5 h
 | .idx i::p,n,v,h=>by simp[loc,bT]at h
 | .fst::p,n,v,h=>by simp only[loc,ai]at h
 | .snd::p,n,v,h=>by simp only[loc,ai]at h
theorem xV{k t:Ty}{l:List (k.den×t.den)}:∀ {p:List qo} {n:Nat} {v:az},(loc (.mp k t l) p).eval=some (n,v)→n=0∧v= .mp k t l
 |[],n,v,h=>by
  simp only[loc,ao,Prod.mk.injEq]at h
  exact⟨h.1.symm,h.2.symm⟩
 | .arr::p,n,v,h=>by
  simp only[loc]at h
  exact xV h
 | .idx i::p,n,v,h=>by simp only[loc,ai]at h
 | .fst::p,n,v,h=>by simp only[loc,ai]at h
 | .snd::p,n,v,h=>by simp only[loc,ai]at h
theorem ua{q:Id}{ver:Nat}{k t:Ty}{l:List (k.den×t.den)}{cu:Option (k.den×t.den)}:∀ {p:List qo} {n:Nat} {v:az},(loc (.kF q ver k t l cu) p).eval=some (n,v)→n=0∧v= .kF q ver k t l cu
 |[],n,v,h=>by
  simp only[loc,ao,Prod.mk.injEq]at h
  exact⟨h.1.symm,h.2.symm⟩
 | .arr::p,n,v,h=>by
  simp only[loc]at h
  exact ua h
 | .idx i::p,n,v,h=>by simp only[loc,ai]at h
 | .fst::p,n,v,h=>by simp only[loc,ai]at h
 | .snd::p,n,v,h=>by simp only[loc,ai]at h
theorem sW{E:Env}{s:AS}(hs:E.s=s.cl)(ho:hP E){id:Id}{ver:Nat}{p:List qo}{n:Nat}{t:Ty}{l:List t.den}(h:(s.row id ver p).eval=some (n,⟨t,l⟩)):
    ∃fr c,E.s id=some (.obj ver fr c)∧((E.β id=none∧l=[]∧n=0)∨∃pl cur e,E.β id=some pl∧E.w.heap[pl.b]? =some (.cells cur e (0,0))∧n+l.length*t.size≤cur.size∧
      bp (du E t) ((cur.toList.drop n).take (l.length*t.size)) l∧
      ∀j,j < n+l.length*t.size→uP c j):=by
  unfold AS.row at h
  cases hob:s.obj id with
  |none=>rw[hob]at h;simp only[ai]at h
  |some r=>
    obtain⟨v,fr,c⟩:=r
    rw[hob]at h
    obtain⟨h1,h2⟩:=aA.1 h
    obtain⟨⟨n',v'⟩,h3,h4⟩:=al.1 h2
    have hv:v=ver:=by simpa using h1
    subst hv
    have hent:E.s id=some (.obj v fr c):=by rw[hs];exact ez hob
    refine⟨fr,c,hent,?_⟩
    have hO:=ho id v fr c hent
    have harr:∀(pl:Pl) (cur:Array Value) (e:TypeId) (m:Nat) (t':Ty) (l':List t'.den) (n':Nat),E.β id=some pl→E.w.heap[pl.b]? =some (.cells cur e (0,0))→c.gA=false→
        V E (.d (.arr m t') l') ((cur.toList.drop n').take (az.d (.arr m t') l').size)→n'+(az.d (.arr m t') l').size≤cur.toList.length→(Out.ok (n',(⟨t',l'⟩:(t:Ty)×List t.den))).eval=some (n,⟨t,l⟩)→
        ∃pl cur e,E.β id=some pl∧E.w.heap[pl.b]? =some (.cells cur e (0,0))∧n+l.length*t.size≤cur.size∧bp (du E t) ((cur.toList.drop n).take (l.length*t.size)) l∧
          ∀j,j < n+l.length*t.size→uP c j:=by
      intro pl cur e m t' l' n' hp hh hn hv hl he
      simp only[ao,Prod.mk.injEq]at he
      obtain⟨rfl,he⟩:=he
      obtain⟨rfl,he⟩:=he
      simp only[V,du]at hv
      obtain⟨hv1,hv2⟩:=hv
      have hsz:∀(t:Ty) (l:List t.den),l.length=m→(az.d (.arr m t) l).size=l.length*t.size:=fun t l hh=>by simp[az.size,Ty.size,hh]
      rw[hsz _ _ hv1]at hv2 hl
      exact⟨pl,cur,e,hp,hh,by simpa using hl,hv2,fun j _=>uP.of hn j⟩
    by_cases hn:c.gA=false
    · right
      obtain⟨pl,cur,e,hp,hh,hg,hk,hV⟩:=hO.box hn
      have hN:=tT hk
      generalize c.l5 cur.size=N at hN hV
      have hNl:(cur.toList.take N).length=N:=by rw[List.length_take,Array.length_toList];omega
      obtain⟨u,hu⟩:∃u,c.strip=u:=⟨_,rfl⟩
      rw[hu]at hV h3
      have hcut:∀m k:Nat,m+k≤(cur.toList.take N).length→((cur.toList.take N).drop m).take k=(cur.toList.drop m).take k∧m+k≤cur.toList.length:=fun m k hmk=>by
        rw[hNl]at hmk
        refine⟨?_,by rw[Array.length_toList];omega⟩
        rw[List.drop_take,List.take_take,Nat.min_eq_left (by omega)]
      rcases kg p u (cur.toList.take N) n' v' (VO.of hV) h3 with⟨rfl,rfl⟩ | ⟨hV',hle⟩
      · cases v' with
        |d t' x=>cases t' with
          |arr m t'=>
            have hs:=hV.size
            have hc:=hcut 0 (az.d (.arr m t') x).size (by omega)
            refine harr pl cur e m t' x 0 hp hh hn ?_ hc.2 (by simpa only using h4)
            rw[←hc.1,List.drop_zero,List.take_of_length_le (by omega)]
            exact hV
          |_=>simp only[ai]at h4
        |vec=>simp only[V]at hV
        |_=>simp only[ai]at h4
      · cases v' with
        |d t' x=>cases t' with
          |arr m t'=>
            have hc:=hcut _ _ hle
            exact harr pl cur e m t' x n' hp hh hn (by rw[←hc.1];exact hV') hc.2 (by simpa only using h4)
          |_=>simp only[ai]at h4
        |vec=>simp only[V]at hV'
        |_=>simp only[ai]at h4
    · cases c <;> first
        | (exact absurd rfl hn)
        | (obtain⟨rfl,rfl⟩:=xV h3
           simp only[ai]at h4)
        | (obtain⟨rfl,rfl⟩:=ua h3
           simp only[ai]at h4)
        |skip
      rename_i e t0 l0
      obtain⟨hz,hO⟩:=hO
      cases hp:E.β id with
      |none=>
        rw[hp]at hO
        have hl0:l0=[]:=hO
        subst hl0
        obtain⟨rfl,rfl⟩:=u5 h3
        simp only[ao,Prod.mk.injEq]at h4
        obtain⟨rfl,he⟩:=h4
        obtain⟨rfl,he⟩:=he
        exact .inl ⟨rfl,rfl,rfl⟩
      |some pl=>
        rw[hp]at hO
        obtain⟨cur,k,q1,q2,q3,q4,q5,q6,q7,q8⟩:=hO
        right
        have hlen:(cur.toList.take (l0.length*t0.size)).length=l0.length*t0.size:=bp.length (fun c x hx=>du.size hx) q8
        have hsize:l0.length*t0.size≤cur.size:=by rw[q2];exact Nat.mul_le_mul_right _ q3
        rcases kg (E:=E) p (.vec e t0 l0) (cur.toList.take (l0.length*t0.size)) n' v' q8 h3 with⟨rfl,rfl⟩ | ⟨hV',hle⟩
        · simp only[ao,Prod.mk.injEq]at h4
          obtain⟨rfl,he⟩:=h4
          obtain⟨rfl,he⟩:=he
          exact⟨pl,cur,e,rfl,q1,by omega,by simpa using q8,fun j hj=>by show j < l.length*t.size;omega⟩
        · have hle':=hle
          rw[hlen]at hle'
          rw[List.drop_take,List.take_take,Nat.min_eq_left (by omega)]at hV'
          cases v' with
          |d t' x=>cases t' with
            |arr m t'=>
              simp only[ao,Prod.mk.injEq]at h4
              obtain⟨rfl,he⟩:=h4
              obtain⟨rfl,he⟩:=he
              simp only[V,du]at hV'
              obtain⟨hv1,hv2⟩:=hV'
              have hsz:∀(t:Ty) (l:List t.den),l.length=m→(az.d (.arr m t) l).size=l.length*t.size:=fun t l hh=>by simp[az.size,Ty.size,hh]
              rw[hsz _ _ hv1]at hv2 hle'
              refine⟨pl,cur,e,rfl,q1,by omega,hv2,fun j hj=> ?_⟩
              show j < l0.length*t0.size
              omega
            |_=>simp only[ai]at h4
          |vec=>simp only[V]at hV'
          |_=>simp only[ai]at h4
theorem qs{E:Env}{t:Ty}{cs:List Value}{l:List t.den}(h:bp (du E t) cs l)(i len:Nat):bp (du E t) ((cs.drop (i*t.size)).take (len*t.size)) (cut l i len):=
 bp.take (fun _ _ hx=>hx.size) len (bp.drop (fun _ _ hx=>hx.size) i h)
theorem oe{α:Type}{l:List α}{i len:Nat}(h:i+len≤l.length):(cut l i len).length=len:=by
 simp[cut];omega
theorem z9{E E':Env}{s:AS}(hs:E.s=s.cl)(ho:hP E)(he:cW E E'){id:Id}{ver c i len n:Nat}{p:List qo}{t':Ty}{l:List t'.den}{cs:List Value}
  (h1:(s.row id ver p).eval=some (n,⟨t',l⟩)) (h3:decide (n+i*t'.size=c∧i+len≤l.length)=true) (hv:V E (.cT id ver p c i len) cs) (hf:HT E E' (az.cT id ver p c i len).shared):du E' (.slice t') cs (cut l i len):=by
 simp only[decide_eq_true_eq]at h3
 obtain⟨hc,hlen⟩:=h3
 obtain⟨fr,c0,hent,hrow⟩:=sW hs ho h1
 simp only[V]at hv
 obtain⟨a,cap,hcs,hle,hsome,hb,hcur⟩:=hv
 have hcur:=hcur ⟨fr,c0,hent⟩
 have hxl:(cut l i len).length=len:=oe hlen
 simp only[du]
 refine⟨a,cap,?_⟩
 rcases hrow with⟨hp,hl,_⟩ | ⟨pl,cur,e,hp,hh,hsz,hch,hbound⟩
 ·rw[hp]at hcur
  simp only at hcur
  obtain⟨rfl,rfl,rfl⟩:=hcur
  refine⟨[],?_,by omega,by omega,fun _ _ hh=>by simp at hh,?_⟩
  ·rw[hxl];exact hcs
  ·have:cut l i 0=[]:=by simp[cut]
   rw[this];rfl
 ·rw[hp]at hcur
  simp only at hcur
  refine⟨((((cur.toList.drop n).take (l.length*t'.size)).drop (i*t'.size)).take (len*t'.size)),by rw[hxl];exact hcs,by omega,by rw[hxl];exact hsome,?_,(qs hch i len).mono fun _ _ hx=>hx.mono he.mem⟩
  have hmul:(i+len)*t'.size≤l.length*t'.size:=Nat.mul_le_mul_right _ hlen
  rw[Nat.add_mul]at hmul
  rw[vi _ _ _ _ _ hmul]
  intro j v hj
  rw[List.getElem?_take]at hj
  split at hj
  ·rename_i hjl
   rw[List.getElem?_drop,hc]at hj
   have hlp:0 < len:=by
    rcases Nat.eq_zero_or_pos len with h0 | h0
    ·subst h0;simp at hjl
    ·exact h0
   refine⟨pl.b,c,hcur.1 (.inl hlp),?_⟩
   refine hf id (by simp[az.shared]) ver fr c0 hent pl hp (c+j) v ?_ (hbound _ (by omega))
   rw[cell_of_row E.w pl.b (c+j) cur e (0,0) hh]
   simpa using hj
  ·cases hj
theorem lW{E E':Env}{s:AS}(hs:E.s=s.cl)(ho:hP E)(he:cW E E'):∀(v:az) (t:Ty) (x:t.den) (cs:List Value),V E v cs→(s.gN t v).eval=some x→HT E E' v.shared→du E' t cs x
 | .d t' x',t,x,cs,hv,h,_=>by
  have h':(Out.opt (o8 t' t x')).eval=some x:=by cases t <;> simpa only[AS.gN]using h
  simp only[V]at hv
  exact od (gZ.1 h') (hv.mono he.mem)
 | .dP,.slice t,x,cs,hv,h,_=>by
  simp only[AS.gN,ao]at h
  subst h
  simp only[V]at hv
  simp only[du]
  exact⟨none,0,[],by simpa using hv,by simp,by simp,fun i v hh=>by simp at hh,rfl⟩
 | .dP,.gv t,x,cs,hv,h,_=>by
  simp only[AS.gN,ao]at h
  subst h
  simp only[V]at hv
  simp only[du]
  exact⟨fun _=>hv,fun l hl=>(by cases hl)⟩
 | .cT id ver p c i len,.gv t,x,cs,hv,h,hf=>by
  simp only[AS.gN]at h
  obtain⟨⟨n,t',l⟩,h1,h2⟩:=al.1 h
  obtain⟨h3,h4⟩:=bT.1 h2
  exact od (gZ.1 h4) (z9 hs ho he h1 h3 hv hf)
 | .cT id ver p c i len,.slice t,x,cs,hv,h,hf=>by
  simp only[AS.gN]at h
  obtain⟨⟨n,t',l⟩,h1,h2⟩:=al.1 h
  obtain⟨h3,h4⟩:=bT.1 h2
  exact od (gZ.1 h4) (z9 hs ho he h1 h3 hv hf)
 | .pr a b,.pair ta tb,x,cs,hv,h,hf=>by
  simp only[AS.gN]at h
  obtain⟨x1,h1,h2⟩:=al.1 h
  obtain⟨x2,h3,h4⟩:=al.1 h2
  obtain rfl:=ao.1 h4
  simp only[V]at hv
  obtain⟨ca,cb,e,ha,hb⟩:=hv
  simp only[du]
  exact⟨ca,cb,e,lW hs ho he a ta x1 ca ha h1 (fun i hi=>hf i (by simp[az.shared,hi])),lW hs ho he b tb x2 cb hb h3 (fun i hi=>hf i (by simp[az.shared,hi]))⟩
 | .dP,.int _,_,_,_,h,_ | .dP,.bool,_,_,_,h,_ | .dP,.str,_,_,_,h,_ | .dP,.unit,_,_,_,h,_ | .dP,.pair _ _,_,_,_,h,_ | .dP,.arr _ _,_,_,_,h,_=>by simp only[AS.gN,ai]at h
 | .cT ..,.int _,_,_,_,h,_ | .cT ..,.bool,_,_,_,h,_ | .cT ..,.str,_,_,_,h,_ | .cT ..,.unit,_,_,_,h,_ | .cT ..,.pair _ _,_,_,_,h,_ | .cT ..,.arr _ _,_,_,_,h,_=>by simp only[AS.gN,ai]at h
 | .pr _ _,.int _,_,_,_,h,_ | .pr _ _,.bool,_,_,_,h,_ | .pr _ _,.str,_,_,_,h,_ | .pr _ _,.unit,_,_,_,h,_ | .pr _ _,.slice _,_,_,_,h,_ | .pr _ _,.arr _ _,_,_,_,h,_ | .pr _ _,.gv _,_,_,_,h,_=>by simp only[AS.gN,ai]at h
 | .undef,t,_,_,_,h,_=>by cases t <;> simp only[AS.gN,ai]at h
 | .gone,t,_,_,_,h,_=>by cases t <;> simp only[AS.gN,ai]at h
 | .lk,t,_,_,_,h,_=>by cases t <;> simp only[AS.gN,ai]at h
 | .l6,t,_,_,_,h,_=>by cases t <;> simp only[AS.gN,ai]at h
 | .nU,t,_,_,_,h,_=>by cases t <;> simp only[AS.gN,ai]at h
 | .sb _,t,_,_,_,h,_=>by cases t <;> simp only[AS.gN,ai]at h
 | .ptr ..,t,_,_,_,h,_=>by cases t <;> simp only[AS.gN,ai]at h
 | .eI ..,t,_,_,_,h,_=>by cases t <;> simp only[AS.gN,ai]at h
 | .fn ..,t,_,_,_,h,_=>by cases t <;> simp only[AS.gN,ai]at h
 | .cons ..,t,_,_,_,h,_=>by cases t <;> simp only[AS.gN,ai]at h
 | .nil,t,_,_,_,h,_=>by cases t <;> simp only[AS.gN,ai]at h
 | .vec ..,t,_,_,_,h,_=>by cases t <;> simp only[AS.gN,ai]at h
 | .bx ..,t,_,_,_,h,_ | .kL ..,t,_,_,_,h,_ | .mp ..,t,_,_,_,h,_ | .kF ..,t,_,_,_,h,_=>by cases t <;> simp only[AS.gN,ai]at h
theorem np{s:AS}{t:Ty}{v:az}{x:t.den}(h:(s.gN t v).eval=some x):v.fa=true:=by
 cases v <;> first
  |rfl
  | (cases t <;> simp only[AS.gN,ai]at h)
theorem vM{s:AS}{t:Ty}{v:az}{x:t.den}(h:(s.gN t v).eval=some x):v.agg=t.agg:=by
 cases v with
 |d t' x'=>
  have h':(Out.opt (o8 t' t x')).eval=some x:=by cases t <;> simpa only[AS.gN]using h
  exact wM (gZ.1 h')
 |_=>cases t <;> first | rfl | (simp only[AS.gN,ai]at h)
theorem mV{C:Ctx}{g:Nat→jt}{β:Id→Option Pl}{s:AS}{a:Act}{w:World}(h:Inv C g β s a w){v:az}{y:Value}(hv:VS (s.env w g β) v y){t:Ty}{x:t.den}(ht:(s.gN t v).eval=some x):
  ∃g',Inv C g' β (s.bq v.shared) a w∧cW (s.env w g β) ((s.bq v.shared).env w g' β)∧Trans w w g g'∧
   ∃cs,du ((s.bq v.shared).env w g' β) t cs x∧fP t.agg cs y:=by
 obtain⟨g',h1,h2,h3,h4⟩:=gq v.shared h
 obtain⟨cs,hV,hO⟩:=hv.fa (np ht)
 exact⟨g',h1,h2,h3,cs,lW rfl h.bZ h2 v t x cs hV ht h4,by rw[←vM ht];exact hO⟩
theorem uD{α:Type}{R:List Value→α→Prop}{f:α→List Value→Option (List Value)}(hf:∀x cs r,f x cs=some r→∃c,cs=c++r∧R c x):
  ∀(l:List α) (cs r:List Value),DW f l cs=some r→∃c,cs=c++r∧bp R c l
 |[],cs,r,h=>by
  simp only[DW,Option.some.injEq]at h
  exact⟨[],by simp[h],rfl⟩
 |x::xs,cs,r,h=>by
  simp only[DW]at h
  cases hx:f x cs with
  |none=>rw[hx]at h;cases h
  |some r1=>
   rw[hx]at h
   obtain⟨c1,e1,h1⟩:=hf x cs r1 hx
   obtain⟨c2,e2,h2⟩:=uD hf xs r1 r h
   exact⟨c1++c2,by rw[e1,e2,List.append_assoc],c1,c2,rfl,h1,h2⟩
theorem oh(E:Env):∀(t:Ty) (x:t.den) (cs r:List Value),nw t x cs=some r→∃c,cs=c++r∧du E t c x
 | .int k,x,cs,r,h=>by
  cases cs with
  |nil=>simp[nw]at h
  |cons v r'=>
   cases v <;> simp only[nw]at h <;> try (cases h;done)
   rename_i k' n
   split at h
   ·rename_i h1 h2
    simp at h1 h2 h
    subst h1 h2 h
    exact⟨[.int k n],rfl,by simp[du]⟩
   ·cases h
 | .bool,x,cs,r,h=>by
  cases cs with
  |nil=>simp[nw]at h
  |cons v r'=>
   cases v <;> simp only[nw]at h <;> try (cases h;done)
   rename_i b
   split at h
   ·rename_i h1
    simp at h1 h
    subst h1 h
    exact⟨[.bool b],rfl,by simp[du]⟩
   ·cases h
 | .str,x,cs,r,h=>by
  cases cs with
  |nil=>simp[nw]at h
  |cons v r'=>
   cases v <;> simp only[nw]at h <;> try (cases h;done)
   rename_i b
   split at h
   ·rename_i h1
    simp at h1 h
    subst h1 h
    exact⟨[.string b],rfl,by simp[du]⟩
   ·cases h
 | .slice t,x,cs,r,h=>by
  cases x with
  |cons _ _=>simp[nw]at h
  |nil=>
   cases cs with
   |nil=>simp[nw]at h
   |cons v r'=>
    unfold nw at h
    split at h <;> try (cases h;done)
    all_goals simp_all
    exact⟨[.slice none 0 0],rfl,by simp only[du];exact⟨none,0,[],rfl,by simp,by simp,fun i v hh=>by simp at hh,rfl⟩⟩
 | .gv t,x,cs,r,h=>by
  cases x with
  |some _=>simp[nw]at h
  |none=>
   cases cs with
   |nil=>simp[nw]at h
   |cons v r'=>
    unfold nw at h
    split at h <;> try (cases h;done)
    all_goals simp_all
    exact⟨[.slice none 0 0],rfl,by simp[du]⟩
 | .unit,x,cs,r,h=>by
  simp only[nw,Option.some.injEq]at h
  exact⟨[],by simp[h],by simp[du]⟩
 | .pair a b,x,cs,r,h=>by
  simp only[nw]at h
  cases hx:nw a x.1 cs with
  |none=>rw[hx]at h;cases h
  |some r1=>
   rw[hx]at h
   obtain⟨c1,e1,h1⟩:=oh E a x.1 cs r1 hx
   obtain⟨c2,e2,h2⟩:=oh E b x.2 r1 r h
   exact⟨c1++c2,by rw[e1,e2,List.append_assoc],by simp only[du];exact⟨c1,c2,rfl,h1,h2⟩⟩
 | .arr n t,x,cs,r,h=>by
  simp only[nw]at h
  split at h
  ·rename_i h1
   obtain⟨c,e,hc⟩:=uD (fun x cs r hh=>oh E t x cs r hh) _ _ _ h
   exact⟨c,e,by simp only[du];exact⟨by simpa using h1,hc⟩⟩
  ·cases h
theorem AK(E:Env):∀(a:az) (cs r:List Value),tK a cs=some r→∃c,cs=c++r∧V E a c:=by
 intro a
 induction a with
 |d t x=>
  intro cs r h
  simp only[tK]at h
  obtain⟨c,e,hc⟩:=oh E t x cs r h
  exact⟨c,e,by simpa only[V]using hc⟩
 |pr a b iha ihb=>
  intro cs r h
  simp only[tK]at h
  cases hx:tK a cs with
  |none=>rw[hx]at h;cases h
  |some r1=>
   rw[hx]at h
   obtain⟨c1,e1,h1⟩:=iha cs r1 hx
   obtain⟨c2,e2,h2⟩:=ihb r1 r h
   exact⟨c1++c2,by rw[e1,e2,List.append_assoc],by simp only[V];exact⟨c1,c2,rfl,h1,h2⟩⟩
 |dP=>intro cs r h;unfold tK at h;split at h <;> simp_all <;> exact⟨[.slice none 0 0],rfl,by simp[V]⟩
 |lk=>intro cs r h;unfold tK at h;split at h <;> simp_all <;> exact⟨[.pointer none],rfl,by simp[V]⟩
 |l6=>intro cs r h;unfold tK at h;split at h <;> simp_all <;> exact⟨[.nilFunc],rfl,by simp[V]⟩
 |nU=>intro cs r h;unfold tK at h;split at h <;> simp_all <;> exact⟨[.map none],rfl,by simp[V]⟩
 |_=>intro cs r h;simp[tK]at h
theorem lz{P:Program}{T:TypeId}{z:az}(h:yu P T z=true)(E:Env):
  ∃i zv,P.info? T=some i∧i.zero=some zv∧V E z zv.cells.toList∧fP z.agg zv.cells.toList zv:=by
 unfold yu at h
 split at h <;> try (cases h;done)
 rename_i i hi
 split at h <;> try (cases h;done)
 rename_i zv hz
 simp only[Bool.and_eq_true,beq_iff_eq]at h
 obtain⟨h1,h2⟩:=h
 split at h1 <;> try (cases h1;done)
 rename_i he
 obtain⟨c,e,hV⟩:=AK E z _ _ he
 rw[List.append_nil]at e
 rw[←e]at hV
 refine⟨i,zv,hi,hz,hV,?_⟩
 cases hagg:z.agg with
 |true=>
  rw[hagg]at h2
  cases zv <;> simp[j9]at h2
  simp[fP,Value.cells]
 |false=>
  rw[hagg]at h2
  cases zv <;> first | (simp[j9]at h2;done) | simp[fP,Value.cells]
end Go.Ab
namespace Go.Ab
def fy(P:Program)(o:Oper)(a:Act)(w:World)(K:Act→World→Prop):Prop:=
 (∃x w',(execOp a.eval o).run P w= .ok (.value x) w'∧K (a.put o.dst x) w')∨
 (∃w',(execOp a.eval o).run P w= .ok .skip w'∧K (a.put o.dst undef) w')∨
 (∃f args w',(execOp a.eval o).run P w= .ok (.enter f args) w'∧Calls P f args w' fun e w''=>∃x,e= .returned x∧K (a.put o.dst x) w'')
theorem fy.wp{P:Program}{o:Oper}{a:Act}{w:World}{K:Act→World→Prop}{Q:Exit→Act→World→Prop}(h:fy P o a w K):o.wp P a w K Q:=by
 unfold Oper.wp
 rcases h with⟨x,w',hr,hk⟩ | ⟨w',hr,hk⟩ | ⟨f,args,w',hr,hk⟩
 ·rw[hr,Oper.upon_value];exact hk
 ·rw[hr,Oper.upon_skip];exact hk
 ·rw[hr,Oper.upon_enter]
  refine hk.mono fun e w'' ⟨x,he,hx⟩=> ?_
  subst he
  exact hx
theorem fy.mono{P:Program}{o:Oper}{a:Act}{w:World}{K K':Act→World→Prop}(h:fy P o a w K)(hk:∀a w,K a w→K' a w):fy P o a w K':=by
 rcases h with⟨x,w',hr,h⟩ | ⟨w',hr,h⟩ | ⟨f,args,w',hr,h⟩
 ·exact .inl ⟨x,w',hr,hk _ _ h⟩
 ·exact .inr (.inl ⟨w',hr,hk _ _ h⟩)
 ·exact .inr (.inr ⟨f,args,w',hr,h.mono fun e w'' ⟨x,he,hx⟩=>⟨x,he,hk _ _ hx⟩⟩)
section
variable {P:Program} {C:Ctx} {g:Nat→jt} {β:Id→Option Pl} {s:AS} {a:Act} {w:World} {o:Oper}
theorem Inv.value(h:Inv C g β s a w){v:az}{x:Value}(hv:VS (s.env w g β) v x)(hr:(execOp a.eval o).run P w= .ok (.value x) w):fy P o a w (gH C (s.put o.dst v)):=
 .inl ⟨x,w,hr,g,β,h.put o.dst hv⟩
theorem eb{f:Sem Value}{x:Value}{w':World}(he:execOp a.eval o=(do pure (.value (←f))))(hf:f.run P w= .ok x w'):(execOp a.eval o).run P w= .ok (.value x) w':=by
 rw[he,Sem.run_bind,hf];rfl
theorem wQ{f:Sem Unit}{w':World}(he:execOp a.eval o=(do f;pure .skip))(hf:f.run P w= .ok () w'):(execOp a.eval o).run P w= .ok .skip w':=by
 rw[he,Sem.run_bind,hf];rfl
theorem nC{E:Env}{k:IntKind}{n:Int}{y:Value}(h:VS E (.d (.int k) n) y):y= .int k n:=by
 obtain⟨cs,hv,ho⟩:=h
 simp only[V,du]at hv
 have ho':cs=[y]:=ho
 rw[hv]at ho'
 simpa using ho'.symm
theorem tS{E:Env}{b:Bool}{y:Value}(h:VS E (.d .bool b) y):y= .bool b:=by
 obtain⟨cs,hv,ho⟩:=h
 simp only[V,du]at hv
 have ho':cs=[y]:=ho
 rw[hv]at ho'
 simpa using ho'.symm
theorem pE{E:Env}{b:ByteArray}{y:Value}(h:VS E (.d .str b) y):y= .string b:=by
 obtain⟨cs,hv,ho⟩:=h
 simp only[V,du]at hv
 have ho':cs=[y]:=ho
 rw[hv]at ho'
 simpa using ho'.symm
theorem iD{E:Env}(k:IntKind)(n:Int):VS E (.d (.int k) n) (.int k n):=⟨[.int k n],by simp[V,du],rfl⟩
theorem mj{E:Env}(b:Bool):VS E (.d .bool b) (.bool b):=⟨[.bool b],by simp[V,du],rfl⟩
theorem xu{E:Env}(b:ByteArray):VS E (.d .str b) (.string b):=⟨[.string b],by simp[V,du],rfl⟩
theorem BW{T:TypeId}{d:TypeDesc}(h:P.underlying T=some d):∃i,P.info? T=some i:=by
 unfold Program.underlying at h
 split at h
 ·rename_i h';exact⟨_,h'⟩
 ·rename_i i _ h';exact⟨_,h'⟩
 ·cases h
theorem run_sizeOf{T:TypeId}{i:TypeInfo}(h:P.info? T=some i)(w:World):(sizeOf T).run P w= .ok i.size w:=by
 simp[sizeOf,typeInfo,h]
theorem iF{T:TypeId}{i:TypeInfo}(h:P.info? T=some i):P.cellsOf T=i.size:=by simp[Program.cellsOf,h]
theorem j5{T:TypeId}{v:az}(h:fits P T v=true):v.fa=true∧∃i,P.info? T=some i∧i.size=v.size∧∀w,(isAgg T).run P w= .ok v.agg w:=by
 unfold fits at h
 simp only[Bool.and_eq_true,beq_iff_eq]at h
 obtain⟨⟨h1,h2⟩,h3⟩:=h
 cases hu:P.underlying T with
 |none=>rw[hu]at h3;cases h3
 |some d=>
  obtain⟨i,hi⟩:=BW hu
  refine⟨h1,i,hi,by rw[iF hi]at h2;exact h2,fun w=> ?_⟩
  rw[hu]at h3
  unfold isAgg
  rw[Sem.run_bind,run_underlying hu w]
  cases d <;> simp at h3 <;> simp[h3]
theorem pA{T:TypeId}{v:az}(hf:fits P T v=true){b off:Nat}{cs:List Value}(hl:cs.length=v.size)(hc:∀j x,cs[j]? =some x→w.cell? ⟨b,off+j,none⟩=some x):
  ∃y,(loadVar T ⟨b,off,none⟩).run P w= .ok y w∧fP v.agg cs y:=by
 obtain⟨_,i,hi,hs,hagg⟩:=j5 hf
 unfold loadVar
 rw[Sem.run_bind,hagg w]
 simp only[Result.andThen_ok]
 have hcell:∀j x,cs[j]? =some x→w.cell? ((⟨b,off,none⟩:Addr).add j)=some x:=fun j x hj=>by
  rw[Addr.add_lit];exact hc j x hj
 cases ha:v.agg with
 |true=>
  refine⟨.agg cs.toArray,?_,rfl⟩
  simp only[if_true,Sem.run_bind,run_sizeOf hi,Result.andThen_ok,hs,←hl,run_loadCells_list w _ cs hcell]
  rfl
 |false=>
  have h1:v.size=1:=az.zY ha
  obtain⟨y,rfl⟩:∃y,cs=[y]:=by
   match cs,hl with
   |[y],_=>exact⟨y,rfl⟩
   |[],hh=>simp[h1]at hh
   |_::_::_,hh=>simp[h1]at hh
  refine⟨y,?_,rfl⟩
  have:=hc 0 y rfl
  rw[Nat.add_zero]at this
  simp[this]
theorem oM{T:TypeId}{v:az}{E:Env}(hf:fits P T v=true){cs:List Value}{y:Value}(hV:V E v cs)(ho:fP v.agg cs y){b off:Nat}{cur:Array Value}{e:TypeId}
  (hh:w.heap[b]? =some (.cells cur e (0,0))) (hle:off+cs.length≤cur.size):
  (storeVar T ⟨b,off,none⟩ y).run P w= .ok () (w.setRow b (dF cur.toList off cs).toArray):=by
 obtain⟨_,i,hi,hs,_⟩:=j5 hf
 have hcs:y.cells=cs.toArray:=ho.cells hV.one
 have hl:=hV.size
 have hst:=run_storeCells_at P b off e cs 0 cur w hh (by simpa using hle) hV.one
 simp only[Nat.add_zero]at hst
 unfold storeVar
 simp only[hcs,Sem.run_bind,run_sizeOf hi,Result.andThen_ok,List.size_toArray,hl,hs,ne_eq,not_true_eq_false,if_false]
 simpa[dF]using hst
theorem lH(w:World)(ob:Obj){b:Nat}(h:b < w.heap.size):(w.alloc ob).heap[b]? =w.heap[b]? :=by
 show(w.heap.push ob)[b]? =w.heap[b]?
 rw[Array.getElem?_push,if_neg (Nat.ne_of_lt h)]
theorem mD(w:World)(ob:Obj):(w.alloc ob).heap[w.heap.size]? =some ob:=by
 show(w.heap.push ob)[w.heap.size]? =some ob
 simp
theorem Trans.alloc(w:World)(g:Nat→jt)(ob:Obj)(l:jt):Trans w (w.alloc ob) g (jH g w.heap.size l):=by
 refine⟨rfl,rfl,⟨rfl,Nat.le_refl _⟩,by simp,fun b hb=> ?_⟩
 rw[fA _ _ _ (by omega),lH w ob hb]
 cases g b with
 |free=>exact⟨rfl,rfl⟩
 |own o k=>cases o with
  |fu=>exact⟨rfl,rfl⟩
  |id i=>exact⟨.inr ⟨i,k,rfl,Nat.le_refl _⟩,fun off v _ hv=>by rw[World.cell?_alloc_lt w ob _ hb];exact hv⟩
theorem Trans.drew(w:World)(g:Nat→jt):Trans w w.drew g g:=Trans.refl w g |> fun h=>⟨h.os,h.tape,⟨h.output.1,Nat.le_succ _⟩,h.size,h.Cy⟩
theorem hP.same{w':World}{g':Nat→jt}(h:hP (s.env w g β))(he:cW (s.env w g β) (s.env w' g' β))
  (hb:∀i ver fr c pl,s.cl i=some (.obj ver fr c)→β i=some pl→w'.heap[pl.b]? =w.heap[pl.b]? ∧g' pl.b=g pl.b):hP (s.env w' g' β):=
 fun i ver fr c hi=>(h i ver fr c hi).mono he rfl (fun pl hp=>hb i ver fr c pl hi hp) fun q vq k v l hq _=>⟨⟨k,v,l,hq⟩,fun pl hp=>hb q vq true _ pl hq hp⟩
theorem cW.same{w':World}{g':Nat→jt}(ht:Trans w w' g g'):cW (s.env w g β) (s.env w' g' β):=
 ⟨Trans.mem ht,fun _ _ h=>h,fun _ _ _ h=>⟨h,rfl⟩⟩
theorem Inv.pL(h:Inv C g β s a w)(ob:Obj):Inv C (jH g w.heap.size .free) β s a (w.alloc ob):=by
 have ht:=Trans.alloc w g ob .free
 have he:cW (s.env w g β) (s.env (w.alloc ob) (jH g w.heap.size .free) β):=cW.same ht
 refine h.step rfl ht he (hP.same h.bZ he fun i ver fr c pl hi hp=> ?_)
 have hl:=((h.bZ i ver fr c hi).label (pl:=pl) hp).1
 have hl':pl.b < w.heap.size:=hl
 exact⟨lH w ob hl',fA _ _ _ (by omega)⟩
theorem Inv.drew(h:Inv C g β s a w):Inv C g β s a w.drew:=by
 have ht:=Trans.drew w g
 have he:cW (s.env w g β) (s.env w.drew g β):=cW.same ht
 exact h.step rfl ht he (hP.same h.bZ he fun _ _ _ _ _ _ _=>⟨rfl,rfl⟩)
theorem hH{q:Nat}(h:s.ef q=true):(∀j,s.cl (.new q j)=none)∧q < s.news.length:=by
 unfold AS.ef at h
 split at h
 ·rename_i hn
  refine⟨fun j=> ?_,(List.getElem?_eq_some_iff.1 hn).1⟩
  simp[AS.cl,List.getD_eq_getElem?_getD,hn]
 ·cases h
theorem mu{q:Nat}(hq:q < s.news.length)(es:List eL)(j:Nat):(s.born q es).cl (.new q j)=es[j]? :=by
 simp[AS.cl,AS.born,List.getD_eq_getElem?_getD,hq]
theorem gI{q:Nat}(es:List eL){id:Id}(h:∀j,id≠ .new q j):(s.born q es).cl id=s.cl id:=by
 cases id with
 |dH k=>rfl
 |new i j=>
  have:i≠q:=fun e=>h j (by rw[e])
  simp only[AS.cl,AS.born,List.getD_eq_getElem?_getD]
  rw[List.getElem?_set_ne (Ne.symm this)]
def qh(β:Id→Option Pl)(id:Id)(p:Option Pl):Id→Option Pl:=fun i=>if i=id then p else β i
@[simp] theorem ix(β:Id→Option Pl)(id:Id)(p:Option Pl):qh β id p id=p:=by simp[qh]
theorem mW(β:Id→Option Pl)(id:Id)(p:Option Pl){i:Id}(h:i≠id):qh β id p i=β i:=by simp[qh,h]
theorem Inv.ur(h:Inv C g β s a w){q:Nat}(hq:s.ef q=true){w':World}{g':Nat→jt}{c:az}{p:Option Pl}(ht:Trans w w' g g')
  (hb:∀b,b < w.heap.size→w'.heap[b]? =w.heap[b]? ∧g' b=g b)
  (ho:cW (s.env w g β) ((s.born q [.obj 0 false c]).env w' g' (qh β (.new q 0) p))→lZ ((s.born q [.obj 0 false c]).env w' g' (qh β (.new q 0) p)) (.new q 0) false c):
  Inv C g' (qh β (.new q 0) p) (s.born q [.obj 0 false c]) a w'∧cW (s.env w g β) ((s.born q [.obj 0 false c]).env w' g' (qh β (.new q 0) p)):=by
 obtain⟨hv,hl⟩:=hH hq
 have hne:∀id,s.cl id≠none→∀j,id≠ .new q j:=fun id hid j e=>hid (by rw[e];exact hv j)
 have he:cW (s.env w g β) ((s.born q [.obj 0 false c]).env w' g' (qh β (.new q 0) p)):=by
  refine⟨Trans.mem ht,fun id ver hbd=> ?_,fun id ver hbd hc=> ?_⟩
  ·have hid:=hne id hbd.1
   have e:=gI (s:=s) [.obj 0 false c] hid
   exact⟨by show(s.born q _).cl id≠none;rw[e];exact hbd.1,fun v fr c' hh=>hbd.2 v fr c' (e.symm.trans hh)⟩
  ·have hid:=hne id hbd.1
   have e:=gI (s:=s) [.obj 0 false c] hid
   obtain⟨fr,c',hc⟩:=hc
   exact⟨⟨fr,c',e.symm.trans hc⟩,mW _ _ _ (hid 0)⟩
 refine⟨h.step rfl ht he fun id ver fr c' hid=> ?_,he⟩
 have hid':(s.born q [.obj 0 false c]).cl id=some (.obj ver fr c'):=hid
 by_cases hi:∃j,id= .new q j
 ·obtain⟨j,rfl⟩:=hi
  rw[mu hl]at hid'
  cases j with
  |zero=>
   simp only[List.getElem?_cons_zero,Option.some.injEq,eL.obj.injEq]at hid'
   obtain⟨rfl,rfl,rfl⟩:=hid'
   exact ho he
  |succ j=>simp at hid'
 ·have hi':∀j,id≠ .new q j:=fun j e=>hi ⟨j,e⟩
  rw[gI _ hi']at hid'
  refine(h.bZ id ver fr c' hid').mono he (mW _ _ _ (hi' 0)) (fun pl hp=> ?_) fun q2 vq k v l hq2 _=> ?_
  ·exact hb pl.b ((h.bZ id ver fr c' hid').label (pl:=pl) hp).1
  ·have hq3:s.cl q2=some (.obj vq true (.mp k v l)):=hq2
   refine⟨⟨k,v,l,by show(s.born q _).cl q2=_;rw[gI _ (hne q2 (by rw[hq3];simp))];exact hq3⟩,fun pl hp=>hb pl.b ((h.bZ q2 vq true _ hq3).label (pl:=pl) hp).1⟩
theorem kB{q:Nat}(hq:s.ef q=true)(c:az)(w':World)(g':Nat→jt)(β':Id→Option Pl):((s.born q [.obj 0 false c]).env w' g' β').pZ (.new q 0) 0:=by
 have e:=mu (s:=s) (hH hq).2 [.obj 0 false c] 0
 refine⟨by show(s.born q [.obj 0 false c]).cl (.new q 0)≠none;rw[e];simp,fun v fr c' _=>Nat.zero_le _⟩
theorem Inv.B6(h:Inv C g β s a w){q:Nat}(hq:s.ef q=true){v:az}{cs:List Value}{e:TypeId}(hk:∀pl n,v.o6 pl n e)(hN:∀n,v.l5 n=n)(hv:V (s.env w g β) v.strip cs):
  ∃g' β',Inv C g' β' (s.born q [.obj 0 false v]) a (w.alloc (.cells cs.toArray e))∧
   VS ((s.born q [.obj 0 false v]).env (w.alloc (.cells cs.toArray e)) g' β') (.ptr (.new q 0) 0 [] 0) (.pointer (some ⟨w.heap.size,0,none⟩)):=by
 have ht:=Trans.alloc w g (.cells cs.toArray e) (.own (.id (.new q 0)) 0)
 obtain⟨h1,h2⟩:=h.ur hq (c:=v) (p:=some ⟨w.heap.size,0⟩) ht (fun b hb=>⟨lH w _ hb,fA _ _ _ (by omega)⟩) (fun he=>
  si.obj ⟨⟨w.heap.size,0⟩,cs.toArray,e,ix _ _ _,mD w _,fD _ _ _,hk _ _,by rw[hN,show cs.toArray.toList.take cs.toArray.size=cs by simp];exact hv.mono he⟩)
 refine⟨_,_,h1,?_⟩
 refine⟨[.pointer (some ⟨w.heap.size,0,none⟩)],?_,rfl⟩
 simp only[V]
 exact⟨_,rfl,kB hq _ _ _ _,fun _=>⟨_,ix _ _ _,rfl⟩⟩
theorem Inv.Hm(h:Inv C g β s a w){q:Nat}(hq:s.ef q=true){v:az}{cs:List Value}(hv:V (s.env w g β) v cs)(e:TypeId):
  ∃g' β',Inv C g' β' (s.born q [.obj 0 false v]) a (w.alloc (.cells cs.toArray e))∧
   VS ((s.born q [.obj 0 false v]).env (w.alloc (.cells cs.toArray e)) g' β') (.ptr (.new q 0) 0 [] 0) (.pointer (some ⟨w.heap.size,0,none⟩)):=
 h.B6 hq (fun pl n=>sm hv.mL pl n e) (fun n=>uu hv.mL n) (by rw[s8 hv.mL];exact hv)
theorem DK(P:Program)(T:TypeId){z:az}{E:Env}{cs:List Value}(hv:V E z cs):(∀pl n,(boxed P T z).o6 pl n T)∧(∀n,(boxed P T z).l5 n=n)∧V E (boxed P T z).strip cs:=by
 unfold boxed
 split
 ·exact⟨fun _ _=>rfl,fun _=>rfl,hv⟩
 ·exact⟨fun pl n=>sm hv.mL pl n T,fun n=>uu hv.mL n,by rw[s8 hv.mL];exact hv⟩
theorem Inv.FQ(h:Inv C g β s a w){t:Ty}{x:t.den}{cs:List Value}(hv:du (s.env w g β) t cs x)(e:TypeId):
  ∃g',Inv C g' β s a (w.alloc (.cells cs.toArray e))∧cW (s.env w g β) (s.env (w.alloc (.cells cs.toArray e)) g' β)∧
   VS (s.env (w.alloc (.cells cs.toArray e)) g' β) (.eI t x) (.pointer (some ⟨w.heap.size,0,none⟩)):=by
 have ht:=Trans.alloc w g (.cells cs.toArray e) .free
 have he:cW (s.env w g β) (s.env (w.alloc (.cells cs.toArray e)) (jH g w.heap.size .free) β):=cW.same ht
 refine⟨_,h.pL _,he,[.pointer (some ⟨w.heap.size,0,none⟩)],?_,rfl⟩
 simp only[V]
 refine⟨w.heap.size,0,cs,rfl,fun i v hi=>⟨_,_,rfl,?_,?_⟩,hv.mono he.mem⟩
 ·show(w.alloc (.cells cs.toArray e)).cell? ⟨w.heap.size,0+i,none⟩=some v
  rw[World.cell?_alloc_new,Nat.zero_add];simpa using hi
 ·show lN (jH g w.heap.size .free) w.heap.size (0+i)
  unfold lN;rw[fD];trivial
theorem vz(T:TypeId)(y:Value)(w:World):(newVar T y).run P w= .ok ⟨w.heap.size,0,none⟩ (w.alloc (.cells y.cells T)):=by
 simp[newVar,newRow]
theorem Au(h:Inv C g β s a w){T:TypeId}(ho:o.op= .alloc T){z:az}{q:Nat}(hq:s.ef q=true)(hz:yu P T z=true):
  fy P o a w (gH C ((s.born q [.obj 0 false (boxed P T z)]).put o.dst (.ptr (.new q 0) 0 [] 0))):=by
 obtain⟨i,zv,hi,hzv,hV,hO⟩:=lz hz (s.env w g β)
 obtain⟨hk,hN,hV⟩:=DK P T hV
 obtain⟨g',β',h1,h2⟩:=h.B6 hq hk hN hV
 refine .inl ⟨.pointer (some ⟨w.heap.size,0,none⟩),w.alloc (.cells zv.cells T),?_,g',β',?_⟩
 ·refine eb (f:=Instr.alloc T true (.tuple #[])) (by simp only[execOp,ho]) ?_
  simp[Instr.alloc,zeroValue,typeInfo,hi,hzv,vz]
 ·have:=h1.put o.dst h2
  simpa using this
theorem DJ(h:Inv C g β s a w){T:TypeId}{x:Operand}{obj:Bool}(ho:o.op= .box T x){s':AS}(he:(yL P s obj o.dst T (s.ev x)).eval=some s'):fy P o a w (gH C s'):=by
 unfold yL at he
 cases hd:o.dst with
 |none=>rw[hd]at he;simp only[ai]at he
 |some q=>
  rw[hd]at he
  have hev:=h.ev x
  have hrun:∀cs:List Value,(a.eval x).cells=cs.toArray→(execOp a.eval o).run P w= .ok (.value (.pointer (some ⟨w.heap.size,0,none⟩))) (w.alloc (.cells cs.toArray T)):=by
   intro cs hcs
   refine eb (f:=Instr.box T (a.eval x)) (by simp only[execOp,ho]) ?_
   simp[Instr.box,vz,hcs]
  cases obj with
  |true=>
   obtain⟨hg,hok⟩:=aA.1 he
   obtain rfl:=ao.1 hok
   simp only[Bool.and_eq_true]at hg
   obtain⟨hq,hf⟩:=hg
   obtain⟨hc,_⟩:=j5 hf
   obtain⟨cs,hV,hO⟩:=hev.fa hc
   obtain⟨g',β',h1,h2⟩:=h.Hm hq hV T
   refine .inl ⟨_,_,hrun cs (hO.cells hV.one),g',β',?_⟩
   rw[hd]
   exact h1.put (some q) h2
  |false=>
   simp only at he
   cases ht:Al P depth T with
   |none=>rw[ht]at he;simp only[ai]at he
   |some t=>
    rw[ht]at he
    obtain⟨_,he⟩:=aA.1 he
    obtain⟨y,h1,h2⟩:=al.1 he
    obtain rfl:=ao.1 h2
    obtain⟨g1,i1,e1,t1,cs,hR,hO⟩:=mV h hev h1
    obtain⟨g2,i2,e2,hv⟩:=i1.FQ hR T
    refine .inl ⟨_,_,hrun cs (hO.cells hR.one),g2,β,?_⟩
    rw[hd]
    exact i2.put (some q) hv
theorem rM{E:Env}{t:Ty}{x:t.den}{y:Value}(h:VS E (.eI t x) y):∃b off vs,y= .pointer (some ⟨b,off,none⟩)∧oX E (some ⟨b,off,none⟩) vs∧du E t vs x:=by
 obtain⟨cs,hv,ho⟩:=h
 simp only[V]at hv
 obtain⟨b,off,vs,e,hr,hx⟩:=hv
 have ho':cs=[y]:=ho
 rw[e]at ho'
 exact⟨b,off,vs,by simpa using ho'.symm,hr,hx⟩
theorem ln{E:Env}{id:Id}{ver n:Nat}{p:List qo}{y:Value}(h:VS E (.ptr id ver p n) y):
  ∃a,y= .pointer (some a)∧E.pZ id ver∧(E.cur id ver→∃pl,E.β id=some pl∧a=⟨pl.b,n,none⟩):=by
 obtain⟨cs,hv,ho⟩:=h
 simp only[V]at hv
 obtain⟨a,e,hb,hc⟩:=hv
 have ho':cs=[y]:=ho
 rw[e]at ho'
 exact⟨a,by simpa using ho'.symm,hb,hc⟩
theorem jU{E:Env}{id:Id}{ver c i len:Nat}{p:List qo}{y:Value}(h:VS E (.cT id ver p c i len) y):
  ∃a cap,y= .slice a len cap∧len≤cap∧(0 < len→a.isSome=true)∧E.pZ id ver∧
   (E.cur id ver→match E.β id with
    |some pl=>(0 < len∨i=0→a=some ⟨pl.b,c,none⟩)∧(p=[]→i=0→cap=pl.cap)
    |none=>a=none∧len=0∧cap=0):=by
 obtain⟨cs,hv,ho⟩:=h
 simp only[V]at hv
 obtain⟨a,cap,e,rest⟩:=hv
 have ho':cs=[y]:=ho
 rw[e]at ho'
 exact⟨a,cap,by simpa using ho'.symm,rest⟩
theorem kR{E:Env}{t:Ty}{l:List t.den}{y:Value}(h:VS E (.d (.slice t) l) y):
  ∃a cap vs,y= .slice a l.length cap∧l.length≤cap∧(0 < l.length→a.isSome=true)∧oX E a vs∧bp (du E t) vs l:=by
 obtain⟨cs,hv,ho⟩:=h
 simp only[V,du]at hv
 obtain⟨a,cap,vs,e,rest⟩:=hv
 have ho':cs=[y]:=ho
 rw[e]at ho'
 exact⟨a,cap,vs,by simpa using ho'.symm,rest⟩
theorem il{E:Env}{y:Value}(h:VS E .dP y):y= .slice none 0 0:=by
 obtain⟨cs,hv,ho⟩:=h
 simp only[V]at hv
 have ho':cs=[y]:=ho
 rw[hv]at ho'
 simpa using ho'.symm
theorem C7{E:Env}{id:Id}{fr:Bool}{c:az}(h:lZ E id fr c){p:List qo}{n:Nat}{v:az}(hl:(loc c.strip p).eval=some (n,v))(hf:v.fa=true):
  ∃pl cur e,E.β id=some pl∧E.w.heap[pl.b]? =some (.cells cur e (0,0))∧V E v ((cur.toList.drop n).take v.size)∧n+v.size≤cur.size:=by
 by_cases hn:c.gA=false
 ·obtain⟨pl,cur,e,hp,hh,hg,hk,hV⟩:=h.box hn
  have hN:=tT hk
  generalize c.l5 cur.size=N at hN hV
  have hNl:(cur.toList.take N).length=N:=by rw[List.length_take,Array.length_toList];omega
  obtain⟨u,hu⟩:∃u,c.strip=u:=⟨_,rfl⟩
  rw[hu]at hV hl
  rcases kg p u (cur.toList.take N) n v (VO.of hV) hl with⟨rfl,rfl⟩ | ⟨h1,h2⟩
  ·have hs:=hV.size
   rw[hNl]at hs
   refine⟨pl,cur,e,hp,hh,?_,by omega⟩
   rw[List.drop_zero,←hs]
   exact hV
  ·rw[hNl]at h2
   rw[List.drop_take,List.take_take,Nat.min_eq_left (by omega)]at h1
   exact⟨pl,cur,e,hp,hh,h1,by omega⟩
 ·cases c <;> first | (exact absurd rfl hn) | skip
  rotate_left
  ·have hl:(loc (.mp _ _ _) p).eval=_:=hl
   obtain⟨_,rfl⟩:=xV hl
   simp[az.fa]at hf
  ·have hl:(loc (.kF _ _ _ _ _ _) p).eval=_:=hl
   obtain⟨_,rfl⟩:=ua hl
   simp[az.fa]at hf
  rename_i e t l
  obtain⟨hz,h⟩:=h
  cases hp:E.β id with
  |none=>
   rw[hp]at h
   have:l=[]:=h
   subst this
   obtain⟨_,rfl⟩:=u5 hl
   simp[az.fa]at hf
  |some pl=>
   rw[hp]at h
   obtain⟨cur,k,q1,q2,q3,q4,q5,q6,q7,q8⟩:=h
   have hlen:=bp.length (fun c x hx=>du.size hx) q8
   have hsz:l.length*t.size≤cur.size:=by rw[q2];exact Nat.mul_le_mul_right _ q3
   rcases kg (E:=E) p (.vec e t l) _ n v q8 hl with⟨rfl,rfl⟩ | ⟨h1,h2⟩
   ·simp[az.fa]at hf
   ·rw[hlen]at h2
    rw[List.drop_take,List.take_take,Nat.min_eq_left (by omega)]at h1
    exact⟨pl,cur,e,rfl,q1,h1,by omega⟩
theorem C6{E:Env}{v v':az}(h:(Ho v).eval=some v'):(∀cs,V E v cs→V E v' cs)∧v'.agg=v.agg:=by
 unfold Ho at h
 split at h
 ·rename_i t l
  obtain⟨h1,h2⟩:=bT.1 h
  obtain rfl:=ao.1 h2
  refine⟨fun cs hv=> ?_,rfl⟩
  simp only[V,du]at hv ⊢
  exact hv.1 (Option.isNone_iff_eq_none.1 h1)
 ·obtain rfl:=ao.1 h
  exact⟨fun _ h=>h,rfl⟩
theorem uZ(h:Inv C g β s a w){T:TypeId}{x:az}{y:Value}(hx:VS (s.env w g β) x y){v:az}(he:(rp P s T x).eval=some v):
  ∃ad z,y= .pointer (some ad)∧(loadVar T ad).run P w= .ok z w∧VS (s.env w g β) v z:=by
 unfold rp at he
 split at he
 ·rename_i id ver p n
  cases hob:s.obj id with
  |none=>rw[hob]at he;simp only[ai]at he
  |some r=>
   obtain⟨v0,fr,c⟩:=r
   rw[hob]at he
   obtain⟨h1,h2⟩:=aA.1 he
   obtain⟨⟨n',v'⟩,h3,h4⟩:=al.1 h2
   obtain⟨h5,h6⟩:=aA.1 h4
   obtain⟨h7,h8⟩:=bT.1 h6
   obtain⟨n1,n2⟩:=C6 (E:=s.env w g β) h8
   simp only[decide_eq_true_eq]at h7
   have hv0:v0=ver:=by simpa using h1
   subst hv0 h7
   have hent:=ez hob
   obtain⟨ad,rfl,hb,hc⟩:=ln hx
   obtain⟨pl,hp,rfl⟩:=hc ⟨fr,c,hent⟩
   obtain⟨hcel,_⟩:=j5 h5
   obtain⟨pl',cur,e,hp',hh,hV,hle⟩:=C7 (h.bZ id v0 fr c hent) h3 hcel
   rw[hp]at hp'
   obtain rfl:pl=pl':=by simpa using hp'
   obtain⟨z,hz1,hz2⟩:=pA (P:=P) (w:=w) h5 (b:=pl.b) (off:=n') hV.size (fun j x hj=>by
    rw[cell_of_row w pl.b (n'+j) cur e (0,0) hh]
    rw[List.getElem?_take]at hj
    split at hj
    ·rw[List.getElem?_drop]at hj;simpa using hj
    ·cases hj)
   exact⟨_,z,rfl,hz1,VS.of (n1 _ hV) (by rw[n2];exact hz2)⟩
 ·rename_i t x'
  obtain⟨h1,h2⟩:=aA.1 he
  obtain rfl:=ao.1 h2
  obtain⟨b,off,vs,rfl,hr,hR⟩:=rM hx
  obtain⟨z,hz1,hz2⟩:=pA (P:=P) (w:=w) h1 (b:=b) (off:=off) hR.size (fun j x hj=>by
   obtain⟨b',off',e,hh⟩:=hr j x hj
   simp only[Option.some.injEq,Addr.mk.injEq,and_true]at e
   obtain⟨rfl,rfl⟩:=e
   exact hh.1)
  exact⟨_,z,rfl,hz1,VS.of (by simpa only[V]using hR) hz2⟩
 ·simp only[ai]at he
theorem CY(h:Inv C g β s a w){T:TypeId}{x:Operand}(ho:o.op= .load T x){v:az}(he:(rp P s T (s.ev x)).eval=some v):fy P o a w (gH C (s.put o.dst v)):=by
 obtain⟨ad,z,hy,hr,hv⟩:=uZ h (h.ev x) he
 refine h.value hv (eb (f:=Instr.loadAt T (a.eval x)) (by simp only[execOp,ho]) ?_)
 simp[Instr.loadAt,Instr.sureAddr,hy,hr]
theorem Trans.setRow(w:World){b:Nat}{i:Id}(hg:g b= .own (.id i) 0)(cur:Array Value):Trans w (w.setRow b cur) g g:=by
 refine⟨by simp,by simp,by simp,by simp,fun b' hb=> ?_⟩
 by_cases he:b'=b
 ·subst he
  rw[hg]
  exact⟨.inr ⟨i,0,rfl,Nat.le_refl _⟩,fun _ _ hh=>by omega⟩
 ·rw[setRow_other w b b' cur he]
  cases hgb:g b' with
  |free=>exact⟨rfl,rfl⟩
  |own o' k=>cases o' with
   |fu=>exact⟨rfl,rfl⟩
   |id i'=>exact⟨.inr ⟨i',k,rfl,Nat.le_refl _⟩,fun off v _ hv=>by rw[cell_setRow_other w b cur _ he];exact hv⟩
theorem Inv.apart(h:Inv C g β s a w){id:Id}{k:Nat}{b:Nat}(hg:g b= .own (.id id) k){i:Id}{ver:Nat}{fr:Bool}{c:az}{pl:Pl}(hi:i≠id)(hs:s.cl i=some (.obj ver fr c))(hp:β i=some pl):pl.b≠b:=by
 intro hb
 have hl:(∃k,g pl.b= .own (.id i) k)∨(fr=true∧g pl.b= .free):=((h.bZ i ver fr c hs).label (pl:=pl) hp).2
 rw[hb,hg]at hl
 rcases hl with⟨k',hk⟩ | ⟨_,hk⟩
 ·simp only[jt.own.injEq,IA.id.injEq]at hk
  exact hi hk.1.symm
 ·cases hk
theorem Aa(h:Inv C g β s a w){T:TypeId}{x v:az}{y z:Value}(hx:VS (s.env w g β) x y)(hz:VS (s.env w g β) v z){s':AS}(he:(pD P s T x v).eval=some s'):
  ∃ad w',y= .pointer (some ad)∧(storeVar T ad z).run P w= .ok () w'∧∃g' β',Inv C g' β' s' a w':=by
 unfold pD at he
 split at he
 ·rename_i id ver p n
  cases hob:s.obj id with
  |none=>rw[hob]at he;simp only[ai]at he
  |some r=>
   obtain⟨v0,fr,c⟩:=r
   rw[hob]at he
   obtain⟨h1,h2⟩:=aA.1 he
   obtain⟨⟨n',o'⟩,h3,h4⟩:=al.1 h2
   obtain⟨h5,h6⟩:=aA.1 h4
   obtain⟨h7,h8⟩:=bT.1 h6
   obtain⟨c',h9,h10⟩:=al.1 h8
   obtain rfl:=ao.1 h10
   simp only[decide_eq_true_eq]at h7
   simp only[Bool.and_eq_true,beq_iff_eq,Bool.not_eq_true']at h1
   obtain⟨⟨hv0,hfr⟩,hfits⟩:=h1
   subst hv0 h7 hfr
   have hent:=ez hob
   obtain⟨ad,rfl,hb,hc⟩:=ln hx
   obtain⟨pl,hp,rfl⟩:=hc ⟨false,c,hent⟩
   have hp:β id=some pl:=hp
   obtain⟨hcel,_⟩:=j5 hfits
   obtain⟨cs,hV,hO⟩:=hz.fa hcel
   have hOb:=h.bZ id v0 false c hent
   obtain⟨hcel',_⟩:=j5 h5
   have hvec:c.gA=false∨c.gA=true:=by cases c.gA <;> simp
   rcases hvec with hn | hn
   ·obtain⟨pl',cur,e,hp',hh,hg,hk,hVc⟩:=hOb.box hn
    have hp':β id=some pl':=hp'
    rw[hp]at hp'
    obtain rfl:pl=pl':=by simpa using hp'
    have hg:g pl.b= .own (.id id) 0:=hg
    have hh:w.heap[pl.b]? =some (.cells cur e (0,0)):=hh
    have hN:=tT hk
    have hNl:(cur.toList.take (c.l5 cur.size)).length=c.l5 cur.size:=by rw[List.length_take,Array.length_toList];omega
    obtain⟨u1,u2,u3⟩:=jy p c.strip (cur.toList.take (c.l5 cur.size)) n' o' v c' cs (VO.of hVc) h3 hV h9
    have u4:=u2.to (u3.kM hVc.kM)
    have hsz:c'.size=c.strip.size:=by
     have e1:=u4.size
     have e2:=hVc.size
     rw[gW u1]at e1
     omega
    rw[hNl]at u1
    have hsp:(dF cur.toList n' cs).length=cur.toList.length:=gW (by have e1:cur.toList.length=cur.size:=Array.length_toList;omega)
    have hspt:(dF cur.toList n' cs).take (c.l5 cur.size)=dF (cur.toList.take (c.l5 cur.size)) n' cs:=by
     conv=>lhs;rw[←List.take_append_drop (c.l5 cur.size) cur.toList]
     rw[nm (by rw[hNl];exact u1),List.take_append_of_le_length (by rw[gW (by rw[hNl];exact u1),hNl];exact Nat.le_refl _)]
     exact List.take_of_length_le (by rw[gW (by rw[hNl];exact u1),hNl];exact Nat.le_refl _)
    have hrun:=oM (P:=P) (w:=w) hfits hV hO (b:=pl.b) (off:=n') hh (by have e1:cur.toList.length=cur.size:=Array.length_toList;have e2:cs.toArray.size=cs.length:=List.size_toArray;omega)
    have ht:=Trans.setRow w hg (dF cur.toList n' cs).toArray
    have hle:cW (s.env w g β) ((s.bf id (.obj v0 false (c.wrap c'))).env (w.setRow pl.b (dF cur.toList n' cs).toArray) g β):=cW.bf hent (Nat.le_refl _) ht (fun _ _=>rfl) (fun _=>rfl)
    refine⟨_,_,rfl,hrun,g,β,h.step (dC _ _ _) ht hle (hP.bf h.bZ (by rw[hent];simp) hle (fun _ _=>rfl) (fun i ver fr c pl2 hi hs2 hp2=>⟨setRow_other w pl.b pl2.b _ (h.apart hg hi hs2 hp2),rfl⟩) ?_ (jv hent fun k v1 l e=>by rw[e]at hn;simp[az.gA]at hn))⟩
    exact si.obj ⟨pl,_,e,hp,setRow_heap w pl.b cur _ e (0,0) hh,hg,by rw[List.size_toArray,hsp,Array.length_toList];exact qq hk u4.mL hsz,by
     rw[qK c u4.mL,List.size_toArray,hsp,Array.length_toList,sk u4.mL hsz,show(dF cur.toList n' cs).toArray.toList=dF cur.toList n' cs from rfl,hspt]
     exact V.mono hle u4⟩
   ·cases c <;> first | (simp[az.gA]at hn;done) | skip
    rotate_left
    ·have h3:(loc (.mp _ _ _) p).eval=_:=h3
     obtain⟨_,rfl⟩:=xV h3
     simp[az.fa]at hcel'
    ·have h3:(loc (.kF _ _ _ _ _ _) p).eval=_:=h3
     obtain⟨_,rfl⟩:=ua h3
     simp[az.fa]at hcel'
    rename_i e t l
    obtain⟨hzz,hOb⟩:=hOb
    have hOb:(match β id with
     |none=>l=[]
     |some pl=>∃cur k,w.heap[pl.b]? =some (.cells cur e (0,0))∧cur.size=pl.cap*t.size∧l.length≤pl.cap∧pl.cap≤maxLen∧g pl.b= .own (.id id) k∧
       k≤l.length*t.size∧(false=false→k=0)∧bp (du (s.env w g β) t) (cur.toList.take (l.length*t.size)) l):=hOb
    rw[hp]at hOb
    obtain⟨cur,k,q1,q2,q3,q4,q5,q6,q7,q8⟩:=hOb
    have hk:=q7 rfl
    subst hk
    have hlen:=bp.length (fun c x hx=>du.size hx) q8
    have hsz:l.length*t.size≤cur.size:=by rw[q2];exact Nat.mul_le_mul_right _ q3
    obtain⟨u1,u2,u3⟩:=jy (E:=s.env w g β) p (.vec e t l) _ n' o' v c' cs q8 h3 hV h9
    rw[hlen]at u1
    have hrun:=oM (P:=P) (w:=w) hfits hV hO (b:=pl.b) (off:=n') q1 (by omega)
    cases c' <;> first | (exact u3.elim) | skip
    rename_i e' t' l'
    obtain⟨rfl,rfl,hl'⟩:=u3
    have ht:=Trans.setRow w q5 (dF cur.toList n' cs).toArray
    have hle:cW (s.env w g β) ((s.bf id (.obj v0 false (.vec e' t' l'))).env (w.setRow pl.b (dF cur.toList n' cs).toArray) g β):=cW.bf hent (Nat.le_refl _) ht (fun _ _=>rfl) (fun _=>rfl)
    refine⟨_,_,rfl,hrun,g,β,h.step (dC _ _ _) ht hle (hP.bf h.bZ (by rw[hent];simp) hle (fun _ _=>rfl) (fun i ver fr c pl2 hi hs2 hp2=>⟨setRow_other w pl.b pl2.b _ (h.apart q5 hi hs2 hp2),rfl⟩) ?_ (jv hent fun k v1 l e=>by cases e))⟩
    refine⟨hzz,?_⟩
    show(match β id with
     |none=>l'=[]
     |some pl=>_)
    rw[hp]
    have hsp:(dF cur.toList n' cs).length=cur.toList.length:=gW (by simp;omega)
    refine⟨_,0,setRow_heap w pl.b cur _ e' (0,0) q1,by rw[List.size_toArray,hsp];simpa using q2,by omega,q4,q5,by omega,fun _=>rfl,?_⟩
    have e2:(dF cur.toList n' cs).take (l'.length*t'.size)=dF (cur.toList.take (l.length*t'.size)) n' cs:=by
     rw[hl']
     conv=>lhs;rw[←List.take_append_drop (l.length*t'.size) cur.toList]
     rw[nm (by rw[hlen];exact u1),List.take_append_of_le_length (by rw[gW (by rw[hlen];exact u1),hlen];exact Nat.le_refl _)]
     exact List.take_of_length_le (by rw[gW (by rw[hlen];exact u1),hlen];exact Nat.le_refl _)
    rw[show(dF cur.toList n' cs).toArray.toList=dF cur.toList n' cs from rfl,e2]
    exact bp.mono (fun _ _ hx=>hx.mono hle.mem) u2
 ·simp only[ai]at he
theorem Br(h:Inv C g β s a w){T:TypeId}{x v:Operand}(ho:o.op= .store T x v){s':AS}(he:(pD P s T (s.ev x) (s.ev v)).eval=some s'):fy P o a w (gH C (s'.put o.dst .undef)):=by
 obtain⟨ad,w',hy,hr,g',β',hi⟩:=Aa h (h.ev x) (h.ev v) he
 refine .inr (.inl ⟨w',wQ (f:=Instr.storeAt T (a.eval x) (a.eval v)) (by simp only[execOp,ho]) ?_,g',β',hi.put o.dst VS.undef⟩)
 simp[Instr.storeAt,Instr.sureAddr,hy,hr]
end
end Go.Ab
namespace Go.Ab
section
variable {P:Program} {C:Ctx} {g:Nat→jt} {β:Id→Option Pl} {s:AS} {a:Act} {w:World} {o:Oper}
theorem w5(h:Inv C g β s a w){x:Operand}(ho:o.op= .move x∨o.op= .assign x):fy P o a w (gH C (s.put o.dst (s.ev x))):=by
 refine h.value (h.ev x) ?_
 rcases ho with ho | ho <;> simp[execOp,ho]
theorem Db(h:Inv C g β s a w){c x y:Operand}(ho:o.op= .pick c x y){v:az}(he:(Ca (s.ev c) (s.ev x) (s.ev y)).eval=some v):fy P o a w (gH C (s.put o.dst v)):=by
 have hc:=h.ev c
 have hx:=h.ev x
 have hy:=h.ev y
 unfold Ca at he
 split at he
 ·rename_i b hb
  rw[hb]at hc
  have hcv:=tS hc
  have hr:(execOp a.eval o).run P w= .ok (.value (if b then a.eval x else a.eval y)) w:=by
   simp[execOp,ho,hcv,asBool]
  split at he
  ·rename_i bx by' hbx hby
   obtain rfl:=ao.1 he
   rw[hbx]at hx
   rw[hby]at hy
   refine h.value ?_ hr
   cases b
   ·simpa using hy
   ·simpa using hx
  ·cases b with
   |true=>
    simp only[Out.eval,Option.some.injEq]at he
    subst he
    exact h.value (by simpa using hx) hr
   |false=>
    simp only[Out.eval,Option.some.injEq]at he
    subst he
    exact h.value (by simpa using hy) hr
 ·simp only[ai]at he
theorem wj(h:Inv C g β s a w){x:Operand}(ho:o.op= .nilCheck x){s':AS}(he:(match s.ev x with
  | .ptr id v p n=>Out.ok (s.put o.dst (.ptr id v p n))
  | .eI t y=> .ok (s.put o.dst (.eI t y))
  | .fn f c=> .ok (s.put o.dst (.fn f c))
  |_=> .fail).eval=some s'):fy P o a w (gH C s'):=by
 have hx:=h.ev x
 split at he
 ·rename_i id v p n hv
  obtain rfl:=ao.1 he
  rw[hv]at hx
  obtain⟨ad,hy,_⟩:=ln hx
  exact h.value hx (by simp[execOp,ho,hy])
 ·rename_i t y hv
  obtain rfl:=ao.1 he
  rw[hv]at hx
  obtain⟨b,off,vs,hy,_⟩:=rM hx
  exact h.value hx (by simp[execOp,ho,hy])
 ·rename_i f c hv
  obtain rfl:=ao.1 he
  rw[hv]at hx
  obtain⟨cs,hV,hO⟩:=hx.fa rfl
  simp only[V]at hV
  obtain⟨vs,e,hc⟩:=hV
  have hO':cs=[a.eval x]:=hO
  rw[e]at hO'
  have hy:a.eval x= .func (.func f) #[] vs.toArray:=by simpa using hO'.symm
  refine h.value (v:= .fn f c) ⟨cs,by simp only[V];exact⟨vs,e,hc⟩,hO⟩ (by simp[execOp,ho,hy])
 ·simp only[ai]at he
theorem y8{op:BinOp}{k k':IntKind}{x y:Int}{v:az}(he:(Ea op k x k' y).eval=some v)(T:TypeId)(E:Env):
  ∃z,(binOp op T (.int k x) (.int k' y)).run P w= .ok z w∧VS E v z:=by
 unfold Ea at he
 have same:∀(hk:decide (k=k')=true),k=k':=fun hk=>by simpa using hk
 cases op with
 |shl=>
  obtain⟨h1,h2⟩:=bT.1 he
  obtain rfl:=ao.1 h2
  have h1:¬y < 0:=by simpa using h1
  exact⟨_,by simp[binOp,Op.shift,h1],iD _ _⟩
 |shr=>
  obtain⟨h1,h2⟩:=bT.1 he
  obtain rfl:=ao.1 h2
  have h1:¬y < 0:=by simpa using h1
  exact⟨_,by simp[binOp,Op.shift,h1],iD _ _⟩
 |quo=>
  obtain⟨h1,h2⟩:=aA.1 he
  obtain rfl:=same h1
  obtain⟨h3,h4⟩:=bT.1 h2
  obtain rfl:=ao.1 h4
  have h3:y≠0:=by simpa using h3
  exact⟨_,by simp[binOp,Op.intDiv,h3],iD _ _⟩
 |rem=>
  obtain⟨h1,h2⟩:=aA.1 he
  obtain rfl:=same h1
  obtain⟨h3,h4⟩:=bT.1 h2
  obtain rfl:=ao.1 h4
  have h3:y≠0:=by simpa using h3
  exact⟨_,by simp[binOp,Op.intDiv,h3],iD _ _⟩
 |add | sub | mul=>
  obtain⟨h1,h2⟩:=aA.1 he
  obtain rfl:=same h1
  obtain rfl:=ao.1 h2
  exact⟨_,by simp[binOp,Op.intArith],iD _ _⟩
 |and | or | xor | andNot=>
  obtain⟨h1,h2⟩:=aA.1 he
  obtain rfl:=same h1
  obtain rfl:=ao.1 h2
  refine⟨_,?_,iD _ _⟩
  unfold binOp Op.intBits
  simp[ct]
 |eql | neq | lss | leq | gtr | geq=>
  obtain⟨h1,h2⟩:=aA.1 he
  obtain rfl:=same h1
  obtain rfl:=ao.1 h2
  refine⟨_,?_,mj _⟩
  simp[binOp,Op.intCmp]
theorem Ac{op:BinOp}{x y:ByteArray}{v:az}(he:(E0 op x y).eval=some v)(T:TypeId)(E:Env):
  ∃z,(binOp op T (.string x) (.string y)).run P w= .ok z w∧VS E v z:=by
 unfold E0 at he
 cases op <;> simp only[ai]at he
 case add=>
  obtain⟨h1,h2⟩:=bT.1 he
  obtain rfl:=ao.1 h2
  have h1:¬((x.size+y.size:Nat):Int) > IntKind.i64.max:=by simpa using h1
  refine⟨.string (x++y),?_,xu _⟩
  show(Op.stringOp .add x y).run P w=_
  unfold Op.stringOp
  simp only[h1,if_false]
  rfl
 all_goals
  obtain rfl:=ao.1 he
  exact⟨_,by simp[binOp,Op.stringOp],mj _⟩
theorem iQ{op:BinOp}{T:TypeId}{x y:Operand}{u v:Value}(h1:u≠ .nilIface)(h2:j9 u=false):(eqGuard op T x y u v).run P w= .ok () w:=by
 unfold eqGuard
 cases op <;> simp
 all_goals (cases u <;> simp_all [j9])
theorem mw{T:TypeId}{b:Bool}(h:qC P T b=true):∃i,P.info? T=some i∧∀w,(isAgg T).run P w= .ok b w:=by
 unfold qC at h
 cases hu:P.underlying T with
 |none=>rw[hu]at h;cases h
 |some d=>
  obtain⟨i,hi⟩:=BW hu
  refine⟨i,hi,fun w=> ?_⟩
  rw[hu]at h
  unfold isAgg
  rw[Sem.run_bind,run_underlying hu w]
  cases d <;> simp at h <;> simp[h]
theorem lS{T:TypeId}{b:Bool}(h:qC P T b=true){cs:List Value}{off n:Nat}(hn:P.cellsOf T=n)(hb:b=false→n=1)(hl:off+n≤cs.length):
  ∃y,(part T cs.toArray off).run P w= .ok y w∧fP b ((cs.drop off).take n) y:=by
 obtain⟨i,hi,hagg⟩:=mw h
 rw[iF hi]at hn
 unfold part
 rw[Sem.run_bind,hagg w]
 simp only[Result.andThen_ok]
 cases b with
 |true=>
  refine⟨.agg ((cs.drop off).take n).toArray,?_,rfl⟩
  simp only[if_true,Sem.run_bind,run_sizeOf hi,Result.andThen_ok,hn,Sem.run_pure]
  simp[List.extract_eq_take_drop]
 |false=>
  have h1:=hb rfl
  subst h1
  have hlt:off < cs.length:=by omega
  refine⟨cs[off],?_,?_⟩
  ·simp[hlt]
  ·show(cs.drop off).take 1=[cs[off]]
   rw[List.drop_eq_getElem_cons hlt,List.take_succ_cons,List.take_zero]
theorem lU{t:Ty}(h:t.agg=false):t.size=1:=by
 cases t <;> first | rfl | (simp[Ty.agg]at h)
theorem uW{α:Type}(f:α→α→Bool)(x y:α)(xs ys:List α):iH f (x::xs) (y::ys)=(f x y && iH f xs ys):=rfl
theorem lA(E:Env):∀(n:Nat) (T:TypeId) (t:Ty),ke P n T t=true→∀(d:Nat),n≤d→∀(cx cy:List Value) (x y:t.den) (u v:Value),du E t cx x→du E t cy y→fP t.agg cx u→fP t.agg cy v→
  (Op.equalIn d T u v).run P w= .ok (t.beq x y) w
 | 0,T,t,h,_,_,_,_,_,_,_,_,_,_,_,_=>by simp[ke]at h
 |n+1,T,t,h,0,hd,_,_,_,_,_,_,_,_,_,_=>by omega
 |n+1,T,t,h,d+1,hd,cx,cy,x,y,u,v,hx,hy,hu,hv=>by
  simp only[ke]at h
  split at h
  ·rename_i k k' hT
   simp only[du]at hx hy
   have e1:cx=[u]:=hu
   have e2:cy=[v]:=hv
   rw[hx]at e1;rw[hy]at e2
   simp only[List.cons.injEq,and_true]at e1 e2
   subst e1 e2
   rw[run_equalIn_int w d T _ _ _ _ hT];rfl
  ·rename_i hT
   simp only[du]at hx hy
   have e1:cx=[u]:=hu
   have e2:cy=[v]:=hv
   rw[hx]at e1;rw[hy]at e2
   simp only[List.cons.injEq,and_true]at e1 e2
   subst e1 e2
   rw[run_equalIn_bool' w d T _ _ hT];rfl
  ·rename_i hT
   simp only[du]at hx hy
   have e1:cx=[u]:=hu
   have e2:cy=[v]:=hv
   rw[hx]at e1;rw[hy]at e2
   simp only[List.cons.injEq,and_true]at e1 e2
   subst e1 e2
   rw[run_equalIn_string w d T _ _ hT];rfl
  ·rename_i m e m' t' hT
   simp only[Bool.and_eq_true,beq_iff_eq]at h
   obtain⟨⟨⟨⟨rfl,hz0⟩,hsz⟩,hag⟩,hch⟩:=h
   simp only[du]at hx hy
   obtain⟨hlx,hcx⟩:=hx
   obtain⟨hly,hcy⟩:=hy
   have e1:u= .agg cx.toArray:=hu
   have e2:v= .agg cy.toArray:=hv
   subst e1 e2
   obtain⟨i,hi,hagg⟩:=mw hag
   have hsz':=hsz
   rw[iF hi]at hsz'
   simp only[Op.equalIn,Sem.run_bind,run_underlying hT,Result.andThen_ok,run_sizeOf hi,hsz']
   simp only[Std.Legacy.Range.forIn_eq_forIn_range']
   have hm:([:m]:Std.Legacy.Range).size=m:=by simp[Std.Legacy.Range.size]
   rw[hm]
   have hzz:∀c z,du E t' c z→c.length=t'.size:=fun c z hz=>hz.size
   have bx:t'.agg=false→t'.size=1:=lU
   have key:∀(k:Nat) (x y:List t'.den) (j:Nat),x.length=k→y.length=k→bp (du E t') (cx.drop (j*t'.size)) x→bp (du E t') (cy.drop (j*t'.size)) y→
     (forIn (List.range' j k) ((none,()):Option Bool×Unit) fun i __s=>(do
      let __do_lift ←part e cx.toArray (i*t'.size)
      let __do_lift_1 ←part e cy.toArray (i*t'.size)
      let __do_lift ←Op.equalIn d e __do_lift __do_lift_1
      if(!__do_lift)=true then pure (ForInStep.done (some false,())) else pure (ForInStep.yield (none,())):Sem (ForInStep (Option Bool×Unit)))).run P w= .ok (if iH t'.beq x y then none else some false,()) w:=by
    intro k
    induction k with
    |zero=>
     intro x y j hx hy _ _
     rw[List.length_eq_zero_iff.1 hx,List.length_eq_zero_iff.1 hy]
     rfl
    |succ k ih=>
     intro x y j hx hy hcx' hcy'
     cases x with
     |nil=>simp at hx
     |cons x0 xs=>
      cases y with
      |nil=>simp at hy
      |cons y0 ys=>
       have gx:=bp.get hzz hcx' 0 (by simp)
       have gy:=bp.get hzz hcy' 0 (by simp)
       simp only[Nat.zero_mul,List.drop_zero,List.getElem_cons_zero]at gx gy
       have lenx:((cx.drop (j*t'.size)).take t'.size).length=t'.size:=gx.size
       have leny:((cy.drop (j*t'.size)).take t'.size).length=t'.size:=gy.size
       have hz1:t'.size≠0:=by simpa using hz0
       have hjx:j*t'.size+t'.size≤cx.length:=by simp only[List.length_take,List.length_drop]at lenx;omega
       have hjy:j*t'.size+t'.size≤cy.length:=by simp only[List.length_take,List.length_drop]at leny;omega
       obtain⟨ux,h1,o1⟩:=lS (w:=w) hag hsz bx (cs:=cx) (off:=j*t'.size) hjx
       obtain⟨uy,h2,o2⟩:=lS (w:=w) hag hsz bx (cs:=cy) (off:=j*t'.size) hjy
       have h3:=lA E n e t' hch d (by omega) _ _ x0 y0 ux uy gx gy o1 o2
       have nx:bp (du E t') (cx.drop ((j+1)*t'.size)) xs:=by
        have:=bp.drop hzz 1 hcx'
        rw[List.drop_drop]at this
        simpa[Nat.add_mul]using this
       have ny:bp (du E t') (cy.drop ((j+1)*t'.size)) ys:=by
        have:=bp.drop hzz 1 hcy'
        rw[List.drop_drop]at this
        simpa[Nat.add_mul]using this
       have:=ih xs ys (j+1) (by simpa using hx) (by simpa using hy) nx ny
       rw[List.range'_succ,List.forIn_cons]
       simp only[Sem.run_bind,h1,h2,h3,Result.andThen_ok,uW]
       rcases Bool.eq_false_or_eq_true (t'.beq x0 y0) with hb | hb
       ·simp only[hb,Bool.not_true,Bool.false_eq_true,if_false,Sem.run_pure,Result.andThen_ok,Bool.true_and]
        exact this
       ·simp only[hb,Bool.not_false,if_true,Sem.run_pure,Result.andThen_ok,Bool.false_and,Bool.false_eq_true,if_false]
   have:=key m x y 0 hlx hly (by simpa using hcx) (by simpa using hcy)
   rw[this]
   show _=Result.ok (iH t'.beq x y) w
   cases iH t'.beq x y <;> rfl
  ·rename_i t0 _ _ fs hT
   simp only[Bool.and_eq_true,Bool.not_eq_true']at h
   obtain⟨hst,hfs⟩:=h
   have hF:P.fieldsOf T=fs:=by simp[Program.fieldsOf,hT]
   have hT':P.underlying T=some (.struct (P.fieldsOf T)):=by rw[hF];exact hT
   have key:∀(fl:List Field) (t:Ty) (off:Nat),qv P (ke P n) fl t off=true→∀(x y:t.den),du E t (cx.drop off) x→du E t (cy.drop off) y→
     (Op.eqFields d cx.toArray cy.toArray fl).run P w= .ok (t.beq x y) w:=by
    intro fl
    induction fl with
    |nil=>
     intro t off hc x y _ _
     cases t <;> first | (simp[qv]at hc;done) | rfl
    |cons f fl ih=>
     intro t off hc x y hx hy
     cases t <;> first | (simp[qv]at hc;done) | skip
     rename_i ta tb
     simp only[qv,Bool.and_eq_true,Bool.not_eq_true',beq_iff_eq,beq_eq_false_iff_ne]at hc
     obtain⟨⟨⟨⟨⟨⟨hnm,hoff⟩,hz⟩,hsz⟩,hag⟩,hch⟩,hrest⟩:=hc
     simp only[du]at hx hy
     obtain⟨xa,xb,ex,hxa,hxb⟩:=hx
     obtain⟨ya,yb,ey,hya,hyb⟩:=hy
     have bx:ta.agg=false→ta.size=1:=lU
     have lx:xa.length=ta.size:=hxa.size
     have ly:ya.length=ta.size:=hya.size
     have split:∀(cs xa xb:List Value),cs.drop off=xa++xb→xa.length=ta.size→(cs.drop off).take ta.size=xa∧cs.drop (off+ta.size)=xb∧off+ta.size≤cs.length:=by
      intro cs xa xb e l
      refine⟨by rw[e];exact List.take_left' l,by rw[←List.drop_drop,e];exact List.drop_left' l,?_⟩
      have:=congrArg List.length e
      simp only[List.length_drop,List.length_append]at this
      omega
     obtain⟨sx1,sx2,sx3⟩:=split cx xa xb ex lx
     obtain⟨sy1,sy2,sy3⟩:=split cy ya yb ey ly
     obtain⟨ux,h1,o1⟩:=lS (w:=w) hag hsz bx (cs:=cx) (off:=off) sx3
     obtain⟨uy,h2,o2⟩:=lS (w:=w) hag hsz bx (cs:=cy) (off:=off) sy3
     rw[sx1]at o1
     rw[sy1]at o2
     have h3:=lA E n f.type ta hch d (by omega) _ _ x.1 y.1 ux uy hxa hya o1 o2
     have h4:=ih tb (off+ta.size) hrest x.2 y.2 (by rw[sx2];exact hxb) (by rw[sy2];exact hyb)
     simp only[Op.eqFields,ne_eq,hnm,not_false_eq_true,if_true,Sem.run_bind,hoff,h1,h2,h3,Result.andThen_ok]
     show _=Result.ok (ta.beq x.1 y.1 && tb.beq x.2 y.2) w
     rcases Bool.eq_false_or_eq_true (ta.beq x.1 y.1) with hb | hb
     ·simp only[hb,Bool.not_true,Bool.false_eq_true,if_false,Bool.true_and]
      exact h4
     ·simp[hb]
   have hag:t0.agg=true:=by
    cases hl:fs.toList <;> rw[hl]at hfs <;> cases t0 <;> first | rfl | (simp[qv]at hfs;done)
   rw[hag]at hu hv
   have e1:u= .agg cx.toArray:=hu
   have e2:v= .agg cy.toArray:=hv
   subst e1 e2
   rw[run_equalIn_struct w d T _ _ hT' hst,hF]
   exact key fs.toList t0 0 hfs x y (by simpa using hx) (by simpa using hy)
  ·cases h
end
end Go.Ab
namespace Go.Ab
section
variable {P:Program} {C:Ctx} {g:Nat→jt} {β:Id→Option Pl} {s:AS} {a:Act} {w:World} {o:Oper}
theorem Ez{E:Env}{v:az}{y c:Value}(h:VS E v y)(hc:v.fa=true)(ha:v.agg=false)(hV:∀cs,V E v cs→cs=[c]):y=c:=by
 have:=h.single hc ha
 simpa using hV _ this
theorem ud{E:Env}{y:Value}(h:VS E .lk y):y= .pointer none:=Ez h rfl rfl fun cs hv=>by simpa only[V]using hv
theorem uc{E:Env}{y:Value}(h:VS E .l6 y):y= .nilFunc:=Ez h rfl rfl fun cs hv=>by simpa only[V]using hv
theorem D3{E:Env}{f:FuncId}{c:az}{y:Value}(h:VS E (.fn f c) y):∃vs,y= .func (.func f) #[] vs.toArray∧VC E c vs:=by
 have h1:=h.single rfl rfl
 simp only[V]at h1
 obtain⟨vs,e,hc⟩:=h1
 exact⟨vs,by simpa using e,hc⟩
theorem fM{T:TypeId}{u v:Value}{b:Bool}(h:∀d,(Op.equalIn (d+1) T u v).run P w= .ok b w):(Op.equal T u v).run P w= .ok b w:=h 9999
theorem uF{T:TypeId}{x y:az}{u v:Value}{E:Env}(hx:VS E x u)(hy:VS E y v){b:Bool}(he:(nQ P T x y).eval=some b):
  (Op.equal T u v).run P w= .ok b w∧u≠ .nilIface∧(j9 u=false∨(j9 v=true∧P.eqGuardType P.depth T=false))∧
   (∀op,binOp op T u v=(match op with | .eql=>do pure (.bool (←Op.equal T u v)) | .neq=>do pure (.bool (!(←Op.equal T u v))) | _=>binOp op T u v)):=by
 unfold nQ at he
 split at he
 ·rename_i t x' t' y'
  obtain⟨y'',h1,h2⟩:=al.1 he
  obtain⟨rfl,h1⟩:=gU (gZ.1 h1)
  simp only at h1
  subst h1
  obtain⟨h3,h4⟩:=aA.1 h2
  obtain rfl:=ao.1 h4
  simp only[Bool.and_eq_true,Bool.or_eq_true,Bool.not_eq_true',decide_eq_true_eq]at h3
  obtain⟨h3,h5⟩:=h3
  obtain⟨cx,hVx,hOx⟩:=hx.fa rfl
  obtain⟨cy,hVy,hOy⟩:=hy.fa rfl
  simp only[V]at hVx hVy
  have hr:=lA (w:=w) E depth T t' h5 10000 (by decide) cx cy x' y' u v hVx hVy hOx hOy
  refine⟨hr,?_⟩
  rcases h3 with⟨hag,hgt⟩ | rfl
  ·have hOx':fP t'.agg cx u:=hOx
   have hOy':fP t'.agg cy v:=hOy
   rw[hag]at hOx' hOy'
   have e1:u= .agg cx.toArray:=hOx'
   have e2:v= .agg cy.toArray:=hOy'
   subst e1 e2
   exact⟨by simp,.inr ⟨rfl,hgt⟩,fun op=>by cases op <;> rfl⟩
  ·simp only[du]at hVx hVy
   have e1:cx=[u]:=hOx
   have e2:cy=[v]:=hOy
   rw[hVx]at e1;rw[hVy]at e2
   simp only[List.cons.injEq,and_true]at e1 e2
   subst e1 e2
   exact⟨by simp,.inl rfl,fun op=>by cases op <;> rfl⟩
 ·obtain⟨h1,h2⟩:=aA.1 he
  obtain rfl:=ao.1 h2
  rw[il hx,il hy]
  unfold nQ.isSl at h1
  split at h1 <;> try (cases h1;done)
  rename_i e hT
  exact⟨fM fun d=>by simp[Op.equalIn,run_underlying hT],by simp,.inl rfl,fun op=>by cases op <;> rfl⟩
 ·obtain⟨h1,h2⟩:=aA.1 he
  obtain⟨h3,h4⟩:=bT.1 h2
  obtain rfl:=ao.1 h4
  obtain⟨ad,cap,vs,rfl,_,hs,_⟩:=kR hx
  rw[il hy]
  have hs:=hs (by simpa using h3)
  obtain⟨ad',rfl⟩:=Option.isSome_iff_exists.1 hs
  unfold nQ.isSl at h1
  split at h1 <;> try (cases h1;done)
  rename_i e hT
  exact⟨fM fun d=>by simp[Op.equalIn,run_underlying hT],by simp,.inl rfl,fun op=>by cases op <;> rfl⟩
 ·obtain⟨h1,h2⟩:=aA.1 he
  obtain⟨h3,h4⟩:=bT.1 h2
  obtain rfl:=ao.1 h4
  obtain⟨ad,cap,vs,rfl,_,hs,_⟩:=kR hy
  rw[il hx]
  have hs:=hs (by simpa using h3)
  obtain⟨ad',rfl⟩:=Option.isSome_iff_exists.1 hs
  unfold nQ.isSl at h1
  split at h1 <;> try (cases h1;done)
  rename_i e hT
  exact⟨fM fun d=>by simp[Op.equalIn,run_underlying hT],by simp,.inl rfl,fun op=>by cases op <;> rfl⟩
 ·obtain⟨h1,h2⟩:=aA.1 he
  obtain⟨h3,h4⟩:=bT.1 h2
  obtain rfl:=ao.1 h4
  obtain⟨ad,cap,rfl,_,hs,_⟩:=jU hx
  rw[il hy]
  have hs:=hs (by simpa using h3)
  obtain⟨ad',rfl⟩:=Option.isSome_iff_exists.1 hs
  unfold nQ.isSl at h1
  split at h1 <;> try (cases h1;done)
  rename_i e hT
  exact⟨fM fun d=>by simp[Op.equalIn,run_underlying hT],by simp,.inl rfl,fun op=>by cases op <;> rfl⟩
 ·obtain⟨h1,h2⟩:=aA.1 he
  obtain⟨h3,h4⟩:=bT.1 h2
  obtain rfl:=ao.1 h4
  obtain⟨ad,cap,rfl,_,hs,_⟩:=jU hy
  rw[il hx]
  have hs:=hs (by simpa using h3)
  obtain⟨ad',rfl⟩:=Option.isSome_iff_exists.1 hs
  unfold nQ.isSl at h1
  split at h1 <;> try (cases h1;done)
  rename_i e hT
  exact⟨fM fun d=>by simp[Op.equalIn,run_underlying hT],by simp,.inl rfl,fun op=>by cases op <;> rfl⟩
 ·obtain⟨h1,h2⟩:=aA.1 he
  obtain rfl:=ao.1 h2
  rw[ud hx,ud hy]
  unfold nQ.isPt at h1
  split at h1 <;> try (cases h1;done)
  rename_i e hT
  exact⟨fM fun d=>by simp[Op.equalIn,run_underlying hT],by simp,.inl rfl,fun op=>by cases op <;> rfl⟩
 ·obtain⟨h1,h2⟩:=aA.1 he
  obtain rfl:=ao.1 h2
  obtain⟨ad,rfl,_⟩:=ln hx
  rw[ud hy]
  unfold nQ.isPt at h1
  split at h1 <;> try (cases h1;done)
  rename_i e hT
  exact⟨fM fun d=>by simp[Op.equalIn,run_underlying hT],by simp,.inl rfl,fun op=>by cases op <;> rfl⟩
 ·obtain⟨h1,h2⟩:=aA.1 he
  obtain rfl:=ao.1 h2
  obtain⟨ad,rfl,_⟩:=ln hy
  rw[ud hx]
  unfold nQ.isPt at h1
  split at h1 <;> try (cases h1;done)
  rename_i e hT
  exact⟨fM fun d=>by simp[Op.equalIn,run_underlying hT],by simp,.inl rfl,fun op=>by cases op <;> rfl⟩
 ·obtain⟨h1,h2⟩:=aA.1 he
  obtain rfl:=ao.1 h2
  rw[uc hx,uc hy]
  unfold nQ.isFn at h1
  split at h1 <;> try (cases h1;done)
  rename_i hT
  exact⟨fM fun d=>by simp[Op.equalIn,run_underlying hT],by simp,.inl rfl,fun op=>by cases op <;> rfl⟩
 ·obtain⟨h1,h2⟩:=aA.1 he
  obtain rfl:=ao.1 h2
  obtain⟨vs,rfl,_⟩:=D3 hx
  rw[uc hy]
  unfold nQ.isFn at h1
  split at h1 <;> try (cases h1;done)
  rename_i hT
  exact⟨fM fun d=>by simp[Op.equalIn,run_underlying hT],by simp,.inl rfl,fun op=>by cases op <;> rfl⟩
 ·obtain⟨h1,h2⟩:=aA.1 he
  obtain rfl:=ao.1 h2
  obtain⟨vs,rfl,_⟩:=D3 hy
  rw[uc hx]
  unfold nQ.isFn at h1
  split at h1 <;> try (cases h1;done)
  rename_i hT
  exact⟨fM fun d=>by simp[Op.equalIn,run_underlying hT],by simp,.inl rfl,fun op=>by cases op <;> rfl⟩
 ·simp only[ai]at he
theorem yW{op:BinOp}{T:TypeId}{x y:Operand}{u v:Value}(hu:j9 u=true)(hv:j9 v=true)(hm:P.eqGuardType P.depth T=false):(eqGuard op T x y u v).run P w= .ok () w:=by
 cases u <;> first | (simp[j9]at hu;done) | skip
 cases v <;> first | (simp[j9]at hv;done) | skip
 exact run_eqGuard_agg w op T x y _ _ hm
theorem Ay(h:Inv C g β s a w){op:BinOp}{T U:TypeId}{x y:Operand}(ho:o.op= .binOp op T x y U){v:az}(he:(GO P T op (s.ev x) (s.ev y)).eval=some v):fy P o a w (gH C (s.put o.dst v)):=by
 have hx:=h.ev x
 have hy:=h.ev y
 have fin:∀z,(binOp op T (a.eval x) (a.eval y)).run P w= .ok z w→(eqGuard op T x y (a.eval x) (a.eval y)).run P w= .ok () w→VS (s.env w g β) v z→fy P o a w (gH C (s.put o.dst v)):=by
  intro z h1 h2 h3
  refine h.value h3 ?_
  simp[execOp,ho,h1,h2]
 unfold GO at he
 split at he
 ·rename_i k n k' m hn hm
  rw[hn]at hx;rw[hm]at hy
  have e1:=nC hx
  have e2:=nC hy
  obtain⟨z,h1,h2⟩:=y8 (P:=P) (w:=w) he T (s.env w g β)
  exact fin z (by rw[e1,e2];exact h1) (by rw[e1,e2];exact iQ (by simp) rfl) h2
 ·rename_i n m hn hm
  rw[hn]at hx;rw[hm]at hy
  have e1:=pE hx
  have e2:=pE hy
  obtain⟨z,h1,h2⟩:=Ac (P:=P) (w:=w) he T (s.env w g β)
  exact fin z (by rw[e1,e2];exact h1) (by rw[e1,e2];exact iQ (by simp) rfl) h2
 ·have grd:(j9 (a.eval x)=false∨(j9 (a.eval y)=true∧P.eqGuardType P.depth T=false))→a.eval x≠ .nilIface→(eqGuard op T x y (a.eval x) (a.eval y)).run P w= .ok () w:=by
   intro hh hne
   rcases hh with hh | ⟨hh,hm⟩
   ·exact iQ hne hh
   ·rcases Bool.eq_false_or_eq_true (j9 (a.eval x)) with hx | hx
    ·exact yW hx hh hm
    ·exact iQ hne hx
  split at he
  ·obtain⟨b,h1,h2⟩:=al.1 he
   obtain rfl:=ao.1 h2
   obtain⟨q1,q2,q3,q4⟩:=uF (w:=w) hx hy h1
   refine fin (.bool b) ?_ (grd q3 q2) (mj b)
   rw[q4 .eql]
   simp[q1]
  ·obtain⟨b,h1,h2⟩:=al.1 he
   obtain rfl:=ao.1 h2
   obtain⟨q1,q2,q3,q4⟩:=uF (w:=w) hx hy h1
   refine fin (.bool (!b)) ?_ (grd q3 q2) (mj (!b))
   rw[q4 .neq]
   simp[q1]
  ·simp only[ai]at he
theorem Dt(h:Inv C g β s a w){op:UnOp}{T:TypeId}{x:Operand}(ho:o.op= .unOp op T x){v:az}(he:(IJ op (s.ev x)).eval=some v):fy P o a w (gH C (s.put o.dst v)):=by
 have hx:=h.ev x
 unfold IJ at he
 split at he
 ·rename_i b hb
  rw[hb]at hx
  obtain rfl:=ao.1 he
  exact h.value (mj _) (by simp[execOp,ho,tS hx,Op.unary])
 ·rename_i k n hb
  rw[hb]at hx
  obtain rfl:=ao.1 he
  exact h.value (iD _ _) (by simp[execOp,ho,nC hx,Op.unary,Op.intArith])
 ·rename_i k n hb
  rw[hb]at hx
  obtain rfl:=ao.1 he
  refine h.value (iD _ _) ?_
  simp only[execOp,ho,nC hx,Op.unary,Op.intBits]
  simp[ct]
 ·simp only[ai]at he
end
end Go.Ab
namespace Go.Ab
section
variable {P:Program} {C:Ctx} {g:Nat→jt} {β:Id→Option Pl} {s:AS} {a:Act} {w:World} {o:Oper}
theorem nO{E:Env}{v:az}{y:Value}(h:VS E v y){n:Int}(he:(asInt v).eval=some n):∃k,y= .int k n:=by
 unfold asInt at he
 split at he
 ·rename_i k m
  obtain rfl:=ao.1 he
  exact⟨k,nC h⟩
 ·simp only[ai]at he
theorem sZ{k:IntKind}{i:Int}{y:Nat}(code:BoundsCode)(h:0≤i∧i≤(y:Int)):(Instr.sliceBound (.int k i) y code).run P w= .ok i.toNat w:=
 run_sliceBound w k i y code h.1 h.2
theorem oc(h:Inv C g β s a w){n cap:Nat}(hn:n≤cap){lo hi:Option Operand}{r:Nat×Nat}(he:(bounds s n lo hi).eval=some r)(isS:Bool):
  (Instr.sliceBounds isS n cap (lo.map a.eval) (hi.map a.eval) none).run P w= .ok (r.1,r.2,cap) w∧r.1≤r.2∧r.2≤n:=by
 unfold bounds at he
 obtain⟨hh,h1,h2⟩:=al.1 he
 obtain⟨ll,h3,h4⟩:=al.1 h2
 obtain rfl:=ao.1 h4
 have hi1:hh≤n∧∀y,hi.map a.eval=some y→∃k i,y= .int k i∧0≤i∧i≤(n:Int)∧hh=i.toNat:=by
  cases hi with
  |none=>
   simp only at h1
   obtain rfl:=ao.1 h1
   exact⟨Nat.le_refl _,fun y hy=>by cases hy⟩
  |some x=>
   simp only at h1
   obtain⟨i,q1,q2⟩:=al.1 h1
   obtain⟨q3,q4⟩:=bT.1 q2
   obtain rfl:=ao.1 q4
   simp only[decide_eq_true_eq]at q3
   obtain⟨k,hk⟩:=nO (h.ev x) q1
   refine⟨by omega,fun y hy=> ?_⟩
   simp only[Option.map_some,Option.some.injEq]at hy
   exact⟨k,i,by rw[←hy];exact hk,q3.1,q3.2,rfl⟩
 have hi0:hi.map a.eval=none→hh=n:=by
  intro hy
  cases hi with
  |none=>simp only at h1;exact(ao.1 h1).symm
  |some x=>cases hy
 have lo1:ll≤hh∧∀y,lo.map a.eval=some y→∃k i,y= .int k i∧0≤i∧i≤(hh:Int)∧ll=i.toNat:=by
  cases lo with
  |none=>
   simp only at h3
   obtain rfl:=ao.1 h3
   exact⟨Nat.zero_le _,fun y hy=>by cases hy⟩
  |some x=>
   simp only at h3
   obtain⟨i,q1,q2⟩:=al.1 h3
   obtain⟨q3,q4⟩:=bT.1 q2
   obtain rfl:=ao.1 q4
   simp only[decide_eq_true_eq]at q3
   obtain⟨k,hk⟩:=nO (h.ev x) q1
   refine⟨by omega,fun y hy=> ?_⟩
   simp only[Option.map_some,Option.some.injEq]at hy
   exact⟨k,i,by rw[←hy];exact hk,q3.1,q3.2,rfl⟩
 have lo0:lo.map a.eval=none→ll=0:=by
  intro hy
  cases lo with
  |none=>simp only at h3;exact(ao.1 h3).symm
  |some x=>cases hy
 refine⟨?_,lo1.1,hi1.1⟩
 unfold Instr.sliceBounds
 cases hhi:hi.map a.eval with
 |none=>
  obtain rfl:=hi0 hhi
  cases hlo:lo.map a.eval with
  |none=>
   obtain rfl:=lo0 hlo
   rfl
  |some y=>
   obtain⟨k,i,rfl,q1,q2,rfl⟩:=lo1.2 y hlo
   simp only[Sem.run_bind,Sem.run_pure,Result.andThen_ok,sZ _ ⟨q1,q2⟩]
 |some z=>
  obtain⟨k',i',rfl,p1,p2,rfl⟩:=hi1.2 z hhi
  have hb:∀code,(Instr.sliceBound (.int k' i') cap code).run P w= .ok i'.toNat w:=fun code=>sZ code ⟨p1,by omega⟩
  cases hlo:lo.map a.eval with
  |none=>
   obtain rfl:=lo0 hlo
   simp only[Sem.run_bind,Sem.run_pure,Result.andThen_ok,hb]
  |some y=>
   obtain⟨k,i,rfl,q1,q2,rfl⟩:=lo1.2 y hlo
   simp only[Sem.run_bind,Sem.run_pure,Result.andThen_ok,hb,sZ _ ⟨q1,q2⟩]
theorem jh{T:TypeId}{z:Nat}(h1:ij P T=some z)(h2:mf P T=none):∃e,P.underlying T=some (.slice e)∧P.cellsOf e=z∧0 < z:=by
 unfold ij at h1
 unfold mf at h2
 split at h1
 ·rename_i n e hT;rw[hT]at h2;cases h2
 ·rename_i e hT
  cases hc:P.cellsOf e with
  |zero=>rw[hc]at h1;cases h1
  |succ k=>
   rw[hc]at h1
   simp only[Option.some.injEq]at h1
   exact⟨e,hT,by omega,by omega⟩
 ·cases h1
theorem mr{T:TypeId}{z n:Nat}(h1:ij P T=some z)(h2:mf P T=some n):∃e,P.underlying T=some (.array n e)∧P.cellsOf e=z∧0 < z:=by
 unfold ij at h1
 unfold mf at h2
 split at h1
 ·rename_i n e hT
  rw[hT]at h2
  simp only[Option.some.injEq]at h2
  subst h2
  cases hc:P.cellsOf e with
  |zero=>rw[hc]at h1;cases h1
  |succ k=>
   rw[hc]at h1
   simp only[Option.some.injEq]at h1
   exact⟨e,hT,by omega,by omega⟩
 ·rename_i e hT;rw[hT]at h2;cases h2
 ·cases h1
theorem km{e:TypeId}{z:Nat}(h:P.cellsOf e=z)(hz:0 < z)(w:World):(sizeOf e).run P w= .ok z w:=by
 unfold Program.cellsOf at h
 cases hi:P.info? e with
 |none=>rw[hi]at h;simp at h;omega
 |some i=>rw[hi]at h;rw[run_sizeOf hi];simpa using h
theorem Bm(h:Inv C g β s a w){T:TypeId}{x:Operand}{lo hi:Option Operand}(ho:o.op= .slice T x lo hi none){v:az}(he:(qI P s T (s.ev x) lo hi).eval=some v):fy P o a w (gH C (s.put o.dst v)):=by
 have hx:=h.ev x
 have fin:∀z,(Instr.sliceAt T (a.eval x) (lo.map a.eval) (hi.map a.eval) none).run P w= .ok z w→VS (s.env w g β) v z→fy P o a w (gH C (s.put o.dst v)):=by
  intro z h1 h2
  exact h.value h2 (eb (f:=Instr.sliceAt T (a.eval x) (lo.map a.eval) (hi.map a.eval) none) (by simp only[execOp,ho,Option.map_none]) h1)
 have sl:∀(e:TypeId) (z:Nat) (ad:Option Addr) (len cap:Nat) (b:Nat×Nat),P.underlying T=some (.slice e)→P.cellsOf e=z→0 < z→a.eval x= .slice ad len cap→len≤cap→(bounds s len lo hi).eval=some b→
   (Instr.sliceAt T (a.eval x) (lo.map a.eval) (hi.map a.eval) none).run P w= .ok (.slice (if cap=b.1 then ad else ad.map (·.add (b.1*z))) (b.2 - b.1) (cap - b.1)) w∧b.1≤b.2∧b.2≤len:=by
  intro e z ad len cap b hT hz hpos hy hlc hb
  obtain⟨h1,h2,h3⟩:=oc (P:=P) h hlc hb true
  refine⟨?_,h2,h3⟩
  rw[hy]
  simp[Instr.sliceAt,Instr.slice,run_underlying hT,h1,km hz hpos]
 have ar:∀(e:TypeId) (z n:Nat) (ad:Addr) (b:Nat×Nat),P.underlying T=some (.array n e)→P.cellsOf e=z→0 < z→a.eval x= .pointer (some ad)→(bounds s n lo hi).eval=some b→
   (Instr.sliceAt T (a.eval x) (lo.map a.eval) (hi.map a.eval) none).run P w= .ok (.slice (some (if n=b.1 then ad else ad.add (b.1*z))) (b.2 - b.1) (n - b.1)) w∧b.1≤b.2∧b.2≤n:=by
  intro e z n ad b hT hz hpos hy hb
  obtain⟨h1,h2,h3⟩:=oc (P:=P) h (Nat.le_refl n) hb false
  refine⟨?_,h2,h3⟩
  rw[hy]
  simp[Instr.sliceAt,Instr.sureAddr,run_underlying hT,h1,km hz hpos]
 have cutR:∀(t:Ty) (z:Nat) (ad ad':Option Addr) (len' cap':Nat) (vs:List Value) (l:List t.den) (b:Nat×Nat),z=t.size→oX (s.env w g β) ad vs→bp (du (s.env w g β) t) vs l→b.1≤b.2→b.2≤l.length→
   (∀bb off,ad=some ⟨bb,off,none⟩→b.1 < b.2→ad'=some ⟨bb,off+b.1*z,none⟩)→(b.1 < b.2→ad'.isSome=true)→len'=b.2 - b.1→len'≤cap'→VS (s.env w g β) (.d (.slice t) (cut l b.1 (b.2 - b.1))) (.slice ad' len' cap'):=by
  intro t z ad ad' len' cap' vs l b hz hr hc h1 h2 hadd hsome hlen hle
  subst hz hlen
  have hcl:(cut l b.1 (b.2 - b.1)).length=b.2 - b.1:=oe (by omega)
  refine⟨_,?_,rfl⟩
  simp only[V,du]
  refine⟨ad',cap',(vs.drop (b.1*t.size)).take ((b.2 - b.1)*t.size),by rw[hcl],by omega,by rw[hcl];intro hp;exact hsome (by omega),?_,qs hc b.1 _⟩
  intro i v hi
  rw[List.getElem?_take]at hi
  split at hi
  ·rename_i hil
   rw[List.getElem?_drop]at hi
   obtain⟨bb,off,e,hh⟩:=hr _ v hi
   have hlt:b.1 < b.2:=by
    rcases Nat.lt_or_ge b.1 b.2 with h' | h'
    ·exact h'
    ·rw[Nat.sub_eq_zero_of_le h',Nat.zero_mul]at hil;omega
   exact⟨bb,_,hadd bb off e hlt,by rw[Nat.add_assoc];exact hh⟩
  ·cases hi
 unfold qI at he
 split at he
 ·rename_i st hst
  rw[hst]at hx
  have e1:=pE hx
  obtain⟨h1,h2⟩:=aA.1 he
  obtain⟨b,h3,h4⟩:=al.1 h2
  obtain rfl:=ao.1 h4
  split at h1 <;> try (cases h1;done)
  rename_i hT
  obtain⟨q1,q2,q3⟩:=oc (P:=P) h (Nat.le_refl _) h3 false
  refine fin (.string (st.extract b.1 b.2)) ?_ (xu _)
  rw[e1]
  simp[Instr.sliceAt,Instr.slice,run_underlying hT,q1]
 ·rename_i t l hl
  rw[hl]at hx
  obtain⟨ad,cap,vs,hy,hlc,hsome,hrow,hch⟩:=kR hx
  obtain⟨h1,h2⟩:=aA.1 he
  obtain⟨b,h3,h4⟩:=al.1 h2
  obtain rfl:=ao.1 h4
  split at h1 <;> try (cases h1;done)
  rename_i z hz1 hz2
  obtain⟨e,hT,hz,hpos⟩:=jh hz1 hz2
  have hzt:z=t.size:=by simpa using h1
  obtain⟨q1,q2,q3⟩:=sl e z ad _ cap b hT hz hpos hy hlc h3
  refine fin _ q1 (cutR t z ad _ _ _ vs l b hzt hrow hch q2 q3 ?_ ?_ rfl (by omega))
  ·intro bb off e1 hlt
   rw[if_neg (by omega),e1]
   simp[Addr.add_lit]
  ·intro hlt
   rw[if_neg (by omega)]
   have:=hsome (by omega)
   cases ad <;> simp_all
 ·rename_i hl
  rw[hl]at hx
  have hy:=il hx
  obtain⟨h1,h2⟩:=aA.1 he
  obtain⟨b,h3,h4⟩:=al.1 h2
  obtain rfl:=ao.1 h4
  split at h1 <;> try (cases h1;done)
  rename_i z hz1 hz2
  obtain⟨e,hT,hz,hpos⟩:=jh hz1 hz2
  obtain⟨q1,q2,q3⟩:=sl e z none 0 0 b hT hz hpos hy (Nat.le_refl _) h3
  have hb1:b.1=0:=by omega
  have hb2:b.2=0:=by omega
  refine fin _ q1 ?_
  rw[hb1,hb2]
  exact⟨_,by simp[V],rfl⟩
 ·rename_i id ver p c i len hl
  rw[hl]at hx
  obtain⟨ad,cap,hy,hlc,hsome,hbnd,hcur⟩:=jU hx
  obtain⟨r,hr1,he⟩:=al.1 he
  obtain⟨h1,h2⟩:=aA.1 he
  obtain⟨b,h3,h4⟩:=al.1 h2
  obtain rfl:=ao.1 h4
  split at h1 <;> try (cases h1;done)
  rename_i z hz1 hz2
  obtain⟨e,hT,hz,hpos⟩:=jh hz1 hz2
  have hzt:z=r.2.1.size:=by simpa using h1
  obtain⟨q1,q2,q3⟩:=sl e z ad _ cap b hT hz hpos hy hlc h3
  refine fin _ q1 ⟨_,?_,rfl⟩
  simp only[V]
  refine⟨_,_,rfl,by omega,?_,hbnd,fun hc=> ?_⟩
  ·intro hlt
   rw[if_neg (by omega)]
   have:=hsome (by omega)
   cases ad <;> simp_all
  ·have hcur:=hcur hc
   cases hp:β id with
   |none=>
    have hp':(s.env w g β).β id=none:=hp
    rw[hp']at hcur ⊢
    simp only at hcur ⊢
    obtain⟨rfl,rfl,rfl⟩:=hcur
    refine⟨by simp,by omega,by omega⟩
   |some pl=>
    have hp':(s.env w g β).β id=some pl:=hp
    rw[hp']at hcur ⊢
    simp only at hcur ⊢
    refine⟨fun hh=> ?_,fun hpn hi0=> ?_⟩
    ·by_cases hcb:cap=b.1
     ·rw[if_pos hcb]
      have hb0:b.1=0:=by omega
      rw[hb0,Nat.zero_mul,Nat.add_zero]
      exact hcur.1 (.inr (by omega))
     ·rw[if_neg hcb,hcur.1 (by omega),←hzt]
      simp[Addr.add_lit]
    ·have:=hcur.2 hpn (by omega)
     omega
 ·rename_i id ver p n hl
  rw[hl]at hx
  obtain⟨ad,hy,hbnd,hcur⟩:=ln hx
  obtain⟨r,hr1,he⟩:=al.1 he
  obtain⟨h1,h2⟩:=aA.1 he
  obtain⟨h5,h6⟩:=bT.1 h2
  obtain⟨b,h3,h4⟩:=al.1 h6
  obtain rfl:=ao.1 h4
  split at h1 <;> try (cases h1;done)
  rename_i z m hz1 hz2
  obtain⟨e,hT,hz,hpos⟩:=mr hz1 hz2
  have hzt:z=r.2.1.size:=by simpa using h1
  rw[hz2,Option.getD_some]at h3
  obtain⟨q1,q2,q3⟩:=ar e z m ad b hT hz hpos hy h3
  obtain⟨fr,c0,hent,_⟩:=sW rfl h.bZ hr1
  obtain⟨pl,hp,had⟩:=hcur ⟨fr,c0,hent⟩
  refine fin _ q1 ⟨_,?_,rfl⟩
  simp only[V]
  refine⟨_,_,rfl,by omega,fun _=>rfl,hbnd,fun _=> ?_⟩
  rw[hp]
  simp only
  refine⟨fun hh=> ?_,fun hpn=>by simp at hpn⟩
  rw[had]
  by_cases hcb:m=b.1
  ·have hb0:b.1=0:=by omega
   rw[if_pos hcb,hb0,Nat.zero_mul,Nat.add_zero]
  ·rw[if_neg hcb,←hzt,Addr.add_lit]
 ·rename_i n t l hl
  rw[hl]at hx
  obtain⟨bb,off,vs,hy,hrow,hR⟩:=rM hx
  obtain⟨h1,h2⟩:=aA.1 he
  obtain⟨b,h3,h4⟩:=al.1 h2
  obtain rfl:=ao.1 h4
  split at h1 <;> try (cases h1;done)
  rename_i z m hz1 hz2
  obtain⟨e,hT,hz,hpos⟩:=mr hz1 hz2
  simp only[Bool.and_eq_true,beq_iff_eq]at h1
  obtain⟨hzt,rfl⟩:=h1
  obtain⟨q1,q2,q3⟩:=ar e z m _ b hT hz hpos hy h3
  simp only[du]at hR
  obtain⟨hlen,hch⟩:=hR
  refine fin _ q1 (cutR t z (some ⟨bb,off,none⟩) _ _ _ vs l b hzt hrow hch q2 (by omega) ?_ (fun _=>rfl) rfl (by omega))
  intro bb' off' e1 hlt
  simp only[Option.some.injEq,Addr.mk.injEq,and_true]at e1
  obtain⟨rfl,rfl⟩:=e1
  rw[if_neg (by omega),Addr.add_lit]
 ·simp only[ai]at he
end
end Go.Ab
namespace Go.Ab
section
variable {P:Program} {C:Ctx} {g:Nat→jt} {β:Id→Option Pl} {s:AS} {a:Act} {w:World} {o:Oper}
theorem uQ(h:Inv C g β s a w){T:TypeId}{x y:Operand}(ho:o.op= .indexAddr T x y){i:Int}(hi:(asInt (s.ev y)).eval=some i){v:az}(he:(j8 P s T (s.ev x) i).eval=some v):fy P o a w (gH C (s.put o.dst v)):=by
 have hx:=h.ev x
 obtain⟨k,hy⟩:=nO (h.ev y) hi
 have fin:∀z,(Instr.indexAt T (a.eval x) (a.eval y)).run P w= .ok z w→VS (s.env w g β) v z→fy P o a w (gH C (s.put o.dst v)):=by
  intro z h1 h2
  exact h.value h2 (eb (f:=Instr.indexAt T (a.eval x) (a.eval y)) (by simp only[execOp,ho]) h1)
 have sl:∀(e:TypeId) (z:Nat) (ad:Addr) (len cap:Nat),P.underlying T=some (.slice e)→P.cellsOf e=z→0 < z→a.eval x= .slice (some ad) len cap→0≤i∧i < (len:Int)→
   (Instr.indexAt T (a.eval x) (a.eval y)).run P w= .ok (.pointer (some (ad.add (i.toNat*z)))) w:=by
  intro e z ad len cap hT hz hpos hv hb
  rw[hv,hy]
  simp[Instr.indexAt,asIntOf,run_underlying hT,hb,km hz hpos]
 have ar:∀(e:TypeId) (z n:Nat) (ad:Addr),P.underlying T=some (.array n e)→P.cellsOf e=z→0 < z→a.eval x= .pointer (some ad)→0≤i∧i < (n:Int)→
   (Instr.indexAt T (a.eval x) (a.eval y)).run P w= .ok (.pointer (some (ad.add (i.toNat*z)))) w:=by
  intro e z n ad hT hz hpos hv hb
  rw[hv,hy]
  simp[Instr.indexAt,Instr.sureAddr,asIntOf,run_underlying hT,hb,km hz hpos]
 have elt:∀(t:Ty) (z:Nat) (bb off:Nat) (vs:List Value) (l:List t.den),z=t.size→oX (s.env w g β) (some ⟨bb,off,none⟩) vs→bp (du (s.env w g β) t) vs l→0≤i∧i < (l.length:Int)→
   VS (s.env w g β) (.eI t (nth t l i.toNat)) (.pointer (some ⟨bb,off+i.toNat*z,none⟩)):=by
  intro t z bb off vs l hz hr hc hb
  subst hz
  have hlt:i.toNat < l.length:=by omega
  rw[vf hlt]
  obtain⟨hp,_⟩:=rL hc hlt
  refine⟨_,?_,rfl⟩
  simp only[V]
  refine⟨_,_,_,rfl,fun j v hj=> ?_,hp⟩
  rw[List.getElem?_take]at hj
  split at hj
  ·rw[List.getElem?_drop]at hj
   obtain⟨b',o',e,hh⟩:=hr _ v hj
   simp only[Option.some.injEq,Addr.mk.injEq,and_true]at e
   obtain⟨rfl,rfl⟩:=e
   exact⟨_,_,rfl,by rw[Nat.add_assoc];exact hh⟩
  ·cases hj
 unfold j8 at he
 split at he
 ·rename_i t l hl
  rw[hl]at hx
  obtain⟨ad,cap,vs,hv,hlc,hsome,hrow,hch⟩:=kR hx
  obtain⟨h1,h2⟩:=aA.1 he
  obtain⟨h3,h4⟩:=bT.1 h2
  obtain rfl:=ao.1 h4
  simp only[decide_eq_true_eq]at h3
  split at h1 <;> try (cases h1;done)
  rename_i z hz1 hz2
  obtain⟨e,hT,hz,hpos⟩:=jh hz1 hz2
  have hzt:z=t.size:=by simpa using h1
  have hlen:=bp.length (fun c x hx=>du.size hx) hch
  have hlt:i.toNat < l.length:=by omega
  have h0:0 < vs.length:=by rw[hlen];exact Nat.mul_pos (by omega) (by omega)
  obtain⟨bb,off,e1,_⟩:=hrow 0 vs[0] (by simp[h0])
  subst e1
  have:=sl e z _ _ cap hT hz hpos hv h3
  rw[Addr.add_lit]at this
  exact fin _ this (elt t z bb off vs l hzt hrow hch h3)
 ·rename_i n t l hl
  rw[hl]at hx
  obtain⟨bb,off,vs,hv,hrow,hR⟩:=rM hx
  obtain⟨h1,h2⟩:=aA.1 he
  obtain⟨h3,h4⟩:=bT.1 h2
  obtain rfl:=ao.1 h4
  simp only[decide_eq_true_eq]at h3
  split at h1 <;> try (cases h1;done)
  rename_i z m hz1 hz2
  obtain⟨e,hT,hz,hpos⟩:=mr hz1 hz2
  simp only[Bool.and_eq_true,beq_iff_eq]at h1
  obtain⟨hzt,rfl⟩:=h1
  simp only[du]at hR
  have:=ar e z m _ hT hz hpos hv h3
  rw[Addr.add_lit]at this
  exact fin _ this (elt t z bb off vs l hzt hrow hR.2 (by rw[hR.1];exact h3))
 ·rename_i id ver p c j len hl
  rw[hl]at hx
  obtain⟨ad,cap,hv,hlc,hsome,hbnd,hcur⟩:=jU hx
  obtain⟨r,hr1,he⟩:=al.1 he
  obtain⟨h1,h2⟩:=aA.1 he
  obtain⟨h3,h4⟩:=bT.1 h2
  obtain rfl:=ao.1 h4
  simp only[decide_eq_true_eq]at h3
  split at h1 <;> try (cases h1;done)
  rename_i z hz1 hz2
  obtain⟨e,hT,hz,hpos⟩:=jh hz1 hz2
  have hzt:z=r.2.1.size:=by simpa using h1
  have hs:=hsome (by omega)
  obtain⟨ad',rfl⟩:=Option.isSome_iff_exists.1 hs
  refine fin _ (sl e z ad' len cap hT hz hpos hv h3) ⟨_,?_,rfl⟩
  simp only[V]
  refine⟨_,rfl,hbnd,fun hc=> ?_⟩
  have hcur:=hcur hc
  cases hp:β id with
  |none=>
   have hp':(s.env w g β).β id=none:=hp
   rw[hp']at hcur
   exact absurd hcur.1 (by simp)
  |some pl=>
   have hp':(s.env w g β).β id=some pl:=hp
   rw[hp']at hcur
   have e1:=hcur.1 (.inl (by omega))
   simp only[Option.some.injEq]at e1
   exact⟨pl,hp,by rw[e1,Addr.add_lit,hzt]⟩
 ·rename_i id ver p n hl
  rw[hl]at hx
  obtain⟨ad,hv,hbnd,hcur⟩:=ln hx
  obtain⟨h1,h2⟩:=aA.1 he
  obtain⟨h3,h4⟩:=bT.1 h2
  obtain rfl:=ao.1 h4
  simp only[decide_eq_true_eq]at h3
  split at h1 <;> try (cases h1;done)
  rename_i z m hz1 hz2
  obtain⟨e,hT,hz,hpos⟩:=mr hz1 hz2
  rw[hz2,Option.getD_some]at h3
  refine fin _ (ar e z m ad hT hz hpos hv h3) ⟨_,?_,rfl⟩
  simp only[V]
  refine⟨_,rfl,hbnd,fun hc=> ?_⟩
  obtain⟨pl,hp,had⟩:=hcur hc
  exact⟨pl,hp,by rw[had,Addr.add_lit,hz1,Option.getD_some]⟩
 ·simp only[ai]at he
theorem oJ{T:TypeId}{f off:Nat}{ft:TypeId}(h:fieldInfo P T f=some (off,ft)):∃fs fd,P.underlying T=some (.struct fs)∧fs[f]? =some fd∧fd.offset=off∧fd.type=ft:=by
 unfold fieldInfo at h
 split at h
 ·rename_i fs hT
  split at h
  ·rename_i fd hf
   simp only[Option.some.injEq,Prod.mk.injEq]at h
   exact⟨fs,fd,hT,hf,h.1,h.2⟩
  ·cases h
 ·cases h
theorem rB{E:Env}:∀(x:az) (f off:Nat) (v:az) (cs:List Value),V E x cs→partOf x f=some (off,v)→V E v ((cs.drop off).take v.size)∧off+v.size≤cs.length:=by
 intro x f
 induction f generalizing x with
 |zero=>
  intro off v cs hx h
  cases x with
  |d t y=>
   cases t <;> simp only[partOf,reduceCtorEq]at h
   rename_i ta tb
   simp only[Option.some.injEq,Prod.mk.injEq]at h
   obtain⟨rfl,rfl⟩:=h
   simp only[V,du]at hx ⊢
   obtain⟨ca,cb,rfl,ha,hb⟩:=hx
   have:=ha.size
   simp only[az.size,List.drop_zero,List.length_append,Nat.zero_add]
   rw[List.take_left' this]
   exact⟨ha,by omega⟩
  |pr b c=>
   simp only[partOf,Option.some.injEq,Prod.mk.injEq]at h
   obtain⟨rfl,rfl⟩:=h
   simp only[V]at hx
   obtain⟨ca,cb,rfl,ha,hb⟩:=hx
   have:=ha.size
   simp only[List.drop_zero,List.length_append,Nat.zero_add]
   rw[List.take_left' this]
   exact⟨ha,by omega⟩
  |_=>simp only[partOf,reduceCtorEq]at h
 |succ f ih=>
  intro off v cs hx h
  have second:∀(ca cb:List Value) (n:Nat) (b:az),cs=ca++cb→ca.length=n→V E b cb→(match partOf b f with | some (o,v)=>some (n+o,v) | none=>none)=some (off,v)→V E v ((cs.drop off).take v.size)∧off+v.size≤cs.length:=by
   intro ca cb n b e hl hb hh
   cases hp:partOf b f with
   |none=>rw[hp]at hh;cases hh
   |some r=>
    obtain⟨o',v'⟩:=r
    rw[hp]at hh
    simp only[Option.some.injEq,Prod.mk.injEq]at hh
    obtain⟨rfl,rfl⟩:=hh
    obtain⟨h1,h2⟩:=ih b o' v' cb hb hp
    subst e
    rw[←hl,List.drop_append,List.drop_of_length_le (by omega),List.nil_append,Nat.add_sub_cancel_left]
    exact⟨h1,by simp only[List.length_append];omega⟩
  cases x with
  |d t y=>
   cases t with
   |pair ta tb=>
    simp only[partOf]at h
    simp only[V,du]at hx
    obtain⟨ca,cb,e,ha,hb⟩:=hx
    exact second ca cb ta.size (.d tb y.2) e ha.size (by simpa only[V]using hb) h
   |_=>simp only[partOf,reduceCtorEq]at h
  |pr b c=>
   simp only[partOf]at h
   simp only[V]at hx
   obtain⟨ca,cb,e,ha,hb⟩:=hx
   exact second ca cb b.size c e ha.size hb h
  |_=>simp only[partOf,reduceCtorEq]at h
theorem uH(h:Inv C g β s a w){T:TypeId}{x:Operand}{f:Nat}(ho:o.op= .fieldAddr T x f){v:az}(he:(oo P T (s.ev x) f).eval=some v):fy P o a w (gH C (s.put o.dst v)):=by
 have hx:=h.ev x
 unfold oo at he
 split at he
 ·rename_i off ft hf
  obtain⟨fs,fd,hT,hfd,rfl,rfl⟩:=oJ hf
  obtain⟨h1,h2⟩:=aA.1 he
  have hz:P.cellsOf fd.type≠0:=by simpa using h1
  have run:∀bb n,a.eval x= .pointer (some ⟨bb,n,none⟩)→(Instr.fieldAt T (a.eval x) f).run P w= .ok (.pointer (some ⟨bb,n+fd.offset,none⟩)) w:=by
   intro bb n hy
   rw[hy]
   simp[Instr.fieldAt,run_underlying hT,hfd,Instr.sureAddr,fieldPlace,km (P:=P) (e:=fd.type) rfl (by omega),hz,Addr.add_lit]
  have runS:∀ad,a.eval x= .pointer (some ad)→(Instr.fieldAt T (a.eval x) f).run P w= .ok (.pointer (some (ad.add fd.offset))) w:=by
   intro ad hy
   rw[hy]
   simp[Instr.fieldAt,run_underlying hT,hfd,Instr.sureAddr,fieldPlace,km (P:=P) (e:=fd.type) rfl (by omega),hz]
  have fin:∀z,(Instr.fieldAt T (a.eval x) f).run P w= .ok z w→VS (s.env w g β) v z→fy P o a w (gH C (s.put o.dst v)):=by
   intro z h1 h2
   exact h.value h2 (eb (f:=Instr.fieldAt T (a.eval x) f) (by simp only[execOp,ho]) h1)
  split at h2
  ·rename_i id ver p n hl
   rw[hl]at hx
   obtain rfl:=ao.1 h2
   obtain⟨ad,hy,hbnd,hcur⟩:=ln hx
   refine fin _ (runS ad hy) ⟨_,?_,rfl⟩
   simp only[V]
   refine⟨_,rfl,hbnd,fun hc=> ?_⟩
   obtain⟨pl,hp,had⟩:=hcur hc
   exact⟨pl,hp,by rw[had,Addr.add_lit]⟩
  ·rename_i t y hl
   rw[hl]at hx
   obtain⟨bb,off,vs,hy,hrow,hR⟩:=rM hx
   split at h2
   ·rename_i o' t' y' hp
    obtain⟨h3,h4⟩:=aA.1 h2
    obtain rfl:=ao.1 h4
    have h3:fd.offset=o':=by simpa using h3
    obtain⟨hV,hle⟩:=rB (.d t y) f o' (.d t' y') vs (by simpa only[V]using hR) hp
    refine fin _ (run bb off hy) ⟨_,?_,rfl⟩
    simp only[V]at hV ⊢
    refine⟨_,_,_,rfl,fun j u hj=> ?_,hV⟩
    rw[List.getElem?_take]at hj
    split at hj
    ·rw[List.getElem?_drop]at hj
     obtain⟨b',o'',e,hh⟩:=hrow _ u hj
     simp only[Option.some.injEq,Addr.mk.injEq,and_true]at e
     obtain⟨rfl,rfl⟩:=e
     exact⟨_,_,rfl,by rw[h3,Nat.add_assoc];exact hh⟩
    ·cases hj
   ·simp only[ai]at h2
  ·simp only[ai]at h2
 ·simp only[ai]at he
theorem vV{x:az}{f:Nat}{r:Nat×az}(h:partOf x f=some r):x.agg=true∧x.fa=true:=by
 cases x with
 |d t y=>cases t <;> cases f <;> simp[partOf]at h <;> exact⟨rfl,rfl⟩
 |pr b c=>exact⟨rfl,rfl⟩
 |_=>cases f <;> simp[partOf]at h
theorem pc{T:TypeId}{v:az}(h:fits P T v=true):qC P T v.agg=true∧P.cellsOf T=v.size∧v.fa=true:=by
 unfold fits at h
 simp only[Bool.and_eq_true,beq_iff_eq]at h
 exact⟨h.2,h.1.2,h.1.1⟩
theorem AP(h:Inv C g β s a w){T:TypeId}{x:Operand}{f:Nat}(ho:o.op= .field T x f){v:az}(he:(xH P T (s.ev x) f).eval=some v):fy P o a w (gH C (s.put o.dst v)):=by
 have hx:=h.ev x
 unfold xH at he
 split at he
 ·rename_i off ft o' v' hf hp
  obtain⟨fs,fd,hT,hfd,rfl,rfl⟩:=oJ hf
  obtain⟨h1,h2⟩:=aA.1 he
  obtain rfl:=ao.1 h2
  simp only[Bool.and_eq_true,beq_iff_eq]at h1
  obtain⟨rfl,hfits⟩:=h1
  obtain⟨hag,hcel⟩:=vV hp
  obtain⟨cs,hV,hO⟩:=hx.fa hcel
  rw[hag]at hO
  have hy:a.eval x= .agg cs.toArray:=hO
  obtain⟨hVp,hle⟩:=rB _ _ _ _ cs hV hp
  obtain⟨q1,q2,q3⟩:=pc hfits
  obtain⟨y,hr,hOy⟩:=lS (w:=w) q1 q2 (fun hh=>az.zY hh) hle
  refine h.value (VS.of hVp hOy) (eb (f:=Instr.field T (a.eval x) f) (by simp only[execOp,ho]) ?_)
  rw[hy]
  simp[Instr.field,run_underlying hT,hfd,asAgg,hr]
 ·simp only[ai]at he
theorem AV(h:Inv C g β s a w){T:TypeId}{x y:Operand}(ho:o.op= .index T x y){i:Int}(hi:(asInt (s.ev y)).eval=some i){v:az}(he:(xO P T (s.ev x) i).eval=some v):fy P o a w (gH C (s.put o.dst v)):=by
 have hx:=h.ev x
 obtain⟨k,hy⟩:=nO (h.ev y) hi
 have fin:∀z,(Instr.index T (a.eval x) (a.eval y)).run P w= .ok z w→VS (s.env w g β) v z→fy P o a w (gH C (s.put o.dst v)):=by
  intro z h1 h2
  exact h.value h2 (eb (f:=Instr.index T (a.eval x) (a.eval y)) (by simp only[execOp,ho]) h1)
 unfold xO at he
 split at he
 ·rename_i n t l m e hl hT
  rw[hl]at hx
  obtain⟨h1,h2⟩:=aA.1 he
  obtain⟨h3,h4⟩:=bT.1 h2
  obtain rfl:=ao.1 h4
  simp only[Bool.and_eq_true,beq_iff_eq,decide_eq_true_eq]at h1 h3
  obtain⟨rfl,hfits⟩:=h1
  obtain⟨q1,q2,q3⟩:=pc hfits
  obtain⟨cs,hV,hO⟩:=hx.fa rfl
  have hyv:a.eval x= .agg cs.toArray:=hO
  simp only[V,du]at hV
  obtain⟨hlen,hch⟩:=hV
  have hlt:i.toNat < l.length:=by omega
  obtain⟨hp,hle⟩:=rL hch hlt
  have q2':P.cellsOf e=t.size:=q2
  have q1':qC P e t.agg=true:=q1
  obtain⟨y',hr,hOy⟩:=lS (w:=w) q1' q2' lU hle
  obtain⟨j,hj,_⟩:=mw q1'
  rw[←vf hlt]at hp
  refine fin y' ?_ (VS.of (by simpa only[V]using hp) hOy)
  rw[hyv,hy]
  have hsz:=run_sizeOf hj w
  rw[←iF hj,q2']at hsz
  simp[Instr.index,asIntOf,run_underlying hT,h3,hsz,hr]
 ·rename_i st hl hT
  rw[hl]at hx
  obtain⟨h3,h4⟩:=bT.1 he
  obtain rfl:=ao.1 h4
  simp only[decide_eq_true_eq]at h3
  have e1:=pE hx
  have hlt:i.toNat < st.data.toList.length:=by
   have:st.size=st.data.toList.length:=by rw[Array.length_toList];rfl
   omega
  have hget:st[i.toNat]? =some (st.data.toList[i.toNat]):=by
   have hlt':i.toNat < st.size:=by omega
   rw[getElem?_pos st i.toNat hlt']
   rfl
  refine fin (.int .u8 ((st.data.toList.getD i.toNat 0).toNat:Int)) ?_ (iD _ _)
  rw[e1,hy]
  simp[Instr.index,asIntOf,run_underlying hT,h3.1,hget,List.getD_eq_getElem?_getD,List.getElem?_eq_getElem hlt]
 ·simp only[ai]at he
theorem GJ{E:Env}:∀(c:az) (vs:List Value) (i:Nat) (v:az),VC E c vs→c.list[i]? =some v→∃y,vs[i]? =some y∧VS E v y:=by
 intro c
 induction c with
 |cons x y _ ih=>
  intro vs i v hc hi
  simp only[VC]at hc
  obtain⟨u,vs',cs,rfl,hV,hO,hc⟩:=hc
  cases i with
  |zero=>
   simp only[az.list,List.getElem?_cons_zero,Option.some.injEq]at hi
   subst hi
   exact⟨u,rfl,VS.of hV hO⟩
  |succ i=>
   simp only[az.list,List.getElem?_cons_succ]at hi ⊢
   exact ih vs' i v hc hi
 |_=>intro vs i v hc hi;simp[az.list]at hi
theorem xG(h:Inv C g β s a w){x:Operand}{i:Nat}(ho:o.op= .extract x i){v:az}(he:(Out.opt ((s.ev x).list[i]?)).eval=some v):fy P o a w (gH C (s.put o.dst v)):=by
 have hx:=h.ev x
 have he:=gZ.1 he
 cases hc:s.ev x with
 |cons p q=>
  rw[hc]at hx he
  obtain⟨vs,hy,hVC⟩:=hx
  obtain⟨y,hv,hVS⟩:=GJ _ vs i v hVC he
  refine h.value hVS (eb (f:=Instr.extract (a.eval x) i) (by simp only[execOp,ho]) ?_)
  rw[hy]
  simp[Instr.extract,hv]
 |_=>rw[hc]at he;simp[az.list]at he
theorem BB(h:Inv C g β s a w):∀(l:List Operand),mG (jX s l)=true→VC (s.env w g β) (jX s l) (l.map a.eval)
 |[],_=>by simp[jX,VC]
 |x::xs,hc=>by
  simp only[jX,mG,Bool.and_eq_true]at hc
  obtain⟨cs,hV,hO⟩:=(h.ev x).fa hc.1
  simp only[jX,VC,List.map_cons]
  exact⟨_,_,cs,rfl,hV,hO,BB h xs hc.2⟩
theorem wg(h:Inv C g β s a w){f:FuncId}{first caps:Array Operand}(ho:o.op= .makeFunc (.func f) first caps)(h1:first.isEmpty=true)(h2:mG (jX s caps.toList)=true):
  fy P o a w (gH C (s.put o.dst (.fn f (jX s caps.toList)))):=by
 have hf:first= #[]:=by simpa using h1
 refine h.value (x:= .func (.func f) #[] (caps.toList.map a.eval).toArray) ⟨_,?_,rfl⟩ (eb (f:=Instr.makeFunc (.func f) (first.map a.eval) (caps.map a.eval)) (by simp only[execOp,ho]) ?_)
 ·simp only[V]
  exact⟨_,rfl,BB h _ h2⟩
 ·subst hf
  have:caps.map a.eval=(caps.toList.map a.eval).toArray:=by apply Array.ext';simp
  simp[Instr.makeFunc,this]
theorem Bv(h:Inv C g β s a w){T:TypeId}{x:Operand}(ho:o.op= .sliceToArrayPointer T x){s':AS}(he:(qL P s o.dst T (s.ev x)).eval=some s'):fy P o a w (gH C s'):=by
 have hx:=h.ev x
 unfold qL at he
 split at he
 ·rename_i n e hT
  split at he
  ·rename_i t ht
   obtain⟨h1,h2⟩:=aA.1 he
   obtain⟨l,h3,h4⟩:=al.1 h2
   obtain⟨h5,h6⟩:=bT.1 h4
   obtain rfl:=ao.1 h6
   simp only[Bool.and_eq_true,Bool.not_eq_true',beq_iff_eq,beq_eq_false_iff_ne,decide_eq_true_eq]at h1 h5
   obtain⟨⟨hz,hn⟩,hz0⟩:=h1
   obtain⟨g1,i1,e1,t1,cs,hR,hO⟩:=mV h hx h3
   simp only[du]at hR
   obtain⟨ad,cap,vs,rfl,hlc,hsome,hrow,hch⟩:=hR
   have hO': [Value.slice ad (List.length l) cap]=[a.eval x]:=hO
   have hy:a.eval x= .slice ad (List.length l) cap:=by simpa using hO'.symm
   have hlen:=bp.length (fun c x hx=>du.size hx) hch
   have h0:0 < vs.length:=by rw[hlen];exact Nat.mul_pos (by omega) (by omega)
   obtain⟨bb,off,e2,_⟩:=hrow 0 vs[0] (by simp[h0])
   subst e2
   refine .inl ⟨.pointer (some ⟨bb,off,none⟩),w,?_,g1,β,i1.put o.dst ⟨_,?_,rfl⟩⟩
   ·refine eb (f:=Instr.arrayAt T (a.eval x)) (by simp only[execOp,ho]) ?_
    rw[hy]
    have:¬List.length l < n:=by omega
    simp[Instr.arrayAt,run_underlying hT,this]
   ·simp only[V]
    refine⟨bb,off,vs.take (n*t.size),rfl,fun j u hj=> ?_,?_⟩
    ·rw[List.getElem?_take]at hj
     split at hj
     ·exact hrow j u hj
     ·cases hj
    ·simp only[du]
     exact⟨by simp;omega,bp.take (fun _ _ hx=>hx.size) n hch⟩
  ·simp only[ai]at he
 ·simp only[ai]at he
end
end Go.Ab
namespace Go.Ab
theorem uX{α:Type}{f:α→α→Bool}(hf:∀x y,f x y=true→x=y):∀ {xs ys:List α},iH f xs ys=true→xs=ys
 |[],[],_=>rfl
 |x::xs,y::ys,h=>by
  simp only[iH,Bool.and_eq_true]at h
  rw[hf _ _ h.1,uX hf h.2]
 |[],_::_,h=>by simp[iH]at h
 |_::_,[],h=>by simp[iH]at h
theorem beq_eq:∀(t:Ty) (x y:t.den),t.comp=true→t.beq x y=true→x=y
 | .int _,x,y,_,h=>by simpa[Ty.beq]using h
 | .bool,x,y,_,h=>by simpa[Ty.beq]using h
 | .str,x,y,_,h=>by
  have h:(x:ByteArray).toList=(y:ByteArray).toList:=by simpa[Ty.beq]using h
  rw[Go.ByteArray.toList_eq,Go.ByteArray.toList_eq]at h
  exact ByteArray.ext (Array.toList_inj.1 h)
 | .slice _,_,_,h,_=>by simp[Ty.comp]at h
 | .unit,_,_,_,_=>rfl
 | .pair a b,x,y,hc,h=>by
  simp only[Ty.comp,Bool.and_eq_true]at hc
  simp only[Ty.beq,Bool.and_eq_true]at h
  exact Prod.ext (beq_eq a _ _ hc.1 h.1) (beq_eq b _ _ hc.2 h.2)
 | .arr _ t,x,y,hc,h=>uX (fun x y=>beq_eq t x y hc) h
def Plain(c:Value):Prop:=∀n,Instr.sameBits n c c=true
theorem du.plain{E:Env}:∀ {t:Ty} {cs:List Value} {x:t.den},t.comp=true→du E t cs x→∀c∈cs,Plain c
 | .int _,_,_,_,h,c,hc,n=>by simp only[du]at h;rw[h,List.mem_singleton]at hc;subst hc;cases n <;> simp[Instr.sameBits]
 | .bool,_,_,_,h,c,hc,n=>by simp only[du]at h;rw[h,List.mem_singleton]at hc;subst hc;cases n <;> simp[Instr.sameBits]
 | .str,_,_,_,h,c,hc,n=>by simp only[du]at h;rw[h,List.mem_singleton]at hc;subst hc;cases n <;> exact(Go.MapKept.bytes_beq _ _).2 rfl
 | .slice _,_,_,hc,_,_,_,_=>by simp[Ty.comp]at hc
 | .unit,_,_,_,h,c,hc,_=>by simp only[du]at h;rw[h]at hc;cases hc
 | .pair a b,_,_,hp,h,c,hc,n=>by
  simp only[Ty.comp,Bool.and_eq_true]at hp
  simp only[du]at h
  obtain⟨ca,cb,rfl,ha,hb⟩:=h
  rcases List.mem_append.1 hc with hc | hc
  ·exact du.plain hp.1 ha c hc n
  ·exact du.plain hp.2 hb c hc n
 | .arr _ t,_,_,hp,h,c,hc,n=>by
  simp only[du]at h
  exact bp.all (p:=Plain) (fun c x hx v hv=>du.plain (t:=t) hp hx v hv) h.2 c hc n
theorem du.GU{E:Env}:∀ {t:Ty} {cs cs':List Value} {x:t.den},t.comp=true→du E t cs x→du E t cs' x→cs=cs'
 | .int _,_,_,_,_,h,h'=>by simp only[du]at h h';rw[h,h']
 | .bool,_,_,_,_,h,h'=>by simp only[du]at h h';rw[h,h']
 | .str,_,_,_,_,h,h'=>by simp only[du]at h h';rw[h,h']
 | .slice _,_,_,_,hc,_,_=>by simp[Ty.comp]at hc
 | .unit,_,_,_,_,h,h'=>by simp only[du]at h h';rw[h,h']
 | .pair a b,_,_,_,hp,h,h'=>by
  simp only[Ty.comp,Bool.and_eq_true]at hp
  simp only[du]at h h'
  obtain⟨ca,cb,rfl,ha,hb⟩:=h
  obtain⟨ca',cb',rfl,ha',hb'⟩:=h'
  rw[du.GU hp.1 ha ha',du.GU hp.2 hb hb']
 | .arr _ t,cs,cs',x,hp,h,h'=>by
  simp only[du]at h h'
  have key:∀(l:List t.den) (cs cs':List Value),bp (du E t) cs l→bp (du E t) cs' l→cs=cs':=by
   intro l
   induction l with
   |nil=>intro cs cs' h h';have h:cs=[]:=h;have h':cs'=[]:=h';rw[h,h']
   |cons x l ih=>
    intro cs cs' h h'
    obtain⟨c,r,rfl,hx,hr⟩:=h
    obtain⟨c',r',rfl,hx',hr'⟩:=h'
    rw[du.GU (t:=t) hp hx hx',ih _ _ hr hr']
  exact key _ _ _ h.2 h'.2
theorem nM.GU{E:Env}{t:Ty}{v v':Value}{x:t.den}(hc:t.comp=true)(h:nM E t v x)(h':nM E t v' x):v=v':=by
 obtain⟨cs,h1,h2⟩:=h
 obtain⟨cs',h1',h2'⟩:=h'
 have e:=du.GU hc h1 h1'
 subst e
 unfold fP at h2 h2'
 cases ha:t.agg with
 |true=>rw[ha]at h2 h2';rw[h2,h2']
 |false=>
  rw[ha]at h2 h2'
  have h2:cs=[v]:=h2
  have h2':cs=[v']:=h2'
  rw[h2]at h2'
  simpa using h2'
theorem nM.same{E:Env}{t:Ty}{v:Value}{x:t.den}(hc:t.comp=true)(h:nM E t v x):Instr.sameBits 10000 v v=true:=by
 obtain⟨cs,h1,h2⟩:=h
 have hp:=du.plain hc h1
 unfold fP at h2
 cases ha:t.agg with
 |true=>
  rw[ha]at h2
  have h2:v= .agg cs.toArray:=h2
  subst h2
  simp only[Instr.sameBits,beq_self_eq_true,Bool.true_and,List.all_eq_true]
  intro p hp'
  obtain⟨a,b⟩:=p
  have:∀(l:List Value),(a,b)∈l.zip l→a∈l∧a=b:=by
   intro l
   induction l with
   |nil=>intro h;simp at h
   |cons y l ih=>
    intro h
    simp only[List.zip_cons_cons,List.mem_cons,Prod.mk.injEq]at h
    rcases h with⟨rfl,rfl⟩ | h
    ·exact⟨List.mem_cons_self,rfl⟩
    ·exact⟨List.mem_cons_of_mem _ (ih h).1,(ih h).2⟩
  obtain⟨hm,rfl⟩:=this _ hp'
  exact hp a (by simpa using hm) _
 |false=>
  rw[ha]at h2
  have h2:cs=[v]:=h2
  subst h2
  exact hp v (by simp) _
theorem Dg{P:Program}{w:World}{E:Env}{t:Ty}{v:Value}{x:t.den}(hc:t.comp=true)(h:nM E t v x):(Instr.keyThatStays v v).run P w= .ok v w:=by
 unfold Instr.keyThatStays
 rw[if_pos (h.same hc)]
 rfl
section
variable {P:Program} {w:World} {E:Env}
theorem mI:∀(n:Nat) (T:TypeId) (t:Ty),ke P n T t=true→t.comp=true
 | 0,T,t,h=>by simp[ke]at h
 |n+1,T,t,h=>by
  simp only[ke]at h
  split at h
  ·rfl
  ·rfl
  ·rfl
  ·rename_i m e m' t' hT
   simp only[Bool.and_eq_true]at h
   exact mI n e t' h.2
  ·rename_i t0 _ _ fs hT
   simp only[Bool.and_eq_true]at h
   have key:∀(fl:List Field) (t:Ty) (off:Nat),qv P (ke P n) fl t off=true→t.comp=true:=by
    intro fl
    induction fl with
    |nil=>intro t off hc;cases t <;> first | rfl | (simp[qv]at hc;done)
    |cons f fl ih=>
     intro t off hc
     cases t <;> first | (simp[qv]at hc;done) | skip
     rename_i ta tb
     simp only[qv,Bool.and_eq_true]at hc
     simp only[Ty.comp,Bool.and_eq_true]
     exact⟨mI n _ _ hc.1.2,ih tb _ hc.2⟩
   exact key _ _ _ h.2
  ·cases h
theorem jg(em:Bool):∀(n:Nat) (T:TypeId) (t:Ty),ke P n T t=true→∀(d:Nat),n≤d→∀(v:Value) (x:t.den),nM E t v x→(Instr.checkKey em d T v).run P w= .ok () w
 | 0,T,t,h,_,_,_,_,_=>by simp[ke]at h
 |n+1,T,t,h,0,hd,_,_,_=>by omega
 |n+1,T,t,h,d+1,hd,v,x,⟨cs,hx,hv⟩=>by
  simp only[ke]at h
  split at h
  ·rename_i hT
   simp only[du]at hx
   have e1:cs=[v]:=hv
   rw[hx]at e1
   simp only[List.cons.injEq,and_true]at e1
   subst e1
   simp[Instr.checkKey,run_underlying hT]
  ·rename_i hT
   simp only[du]at hx
   have e1:cs=[v]:=hv
   rw[hx]at e1
   simp only[List.cons.injEq,and_true]at e1
   subst e1
   simp[Instr.checkKey,run_underlying hT]
  ·rename_i hT
   simp only[du]at hx
   have e1:cs=[v]:=hv
   rw[hx]at e1
   simp only[List.cons.injEq,and_true]at e1
   subst e1
   simp[Instr.checkKey,run_underlying hT]
  ·rename_i m e m' t' hT
   simp only[Bool.and_eq_true,beq_iff_eq]at h
   obtain⟨⟨⟨⟨rfl,hz0⟩,hsz⟩,hag⟩,hch⟩:=h
   simp only[du]at hx
   obtain⟨hlx,hcx⟩:=hx
   have e1:v= .agg cs.toArray:=hv
   subst e1
   obtain⟨i,hi,hagg⟩:=mw hag
   have hsz':=hsz
   rw[iF hi]at hsz'
   simp only[Instr.checkKey,Sem.run_bind,run_underlying hT,Result.andThen_ok]
   simp only[Std.Legacy.Range.forIn_eq_forIn_range']
   have hm:([:m]:Std.Legacy.Range).size=m:=by simp[Std.Legacy.Range.size]
   rw[hm]
   have hzz:∀c z,du E t' c z→c.length=t'.size:=fun c z hz=>hz.size
   have bx:t'.agg=false→t'.size=1:=lU
   have key:∀(k:Nat) (x:List t'.den) (j:Nat),x.length=k→bp (du E t') (cs.drop (j*t'.size)) x→
     (forIn (List.range' j k) () fun i __s=>(do
      let __do_lift ←sizeOf e
      let __do_lift ←part e cs.toArray (i*__do_lift)
      Instr.checkKey em d e __do_lift
      pure (ForInStep.yield ()):Sem (ForInStep Unit))).run P w= .ok () w:=by
    intro k
    induction k with
    |zero=>intro x j _ _;rfl
    |succ k ih=>
     intro x j hx hcx'
     cases x with
     |nil=>simp at hx
     |cons x0 xs=>
      have gx:=bp.get hzz hcx' 0 (by simp)
      simp only[Nat.zero_mul,List.drop_zero,List.getElem_cons_zero]at gx
      have lenx:((cs.drop (j*t'.size)).take t'.size).length=t'.size:=gx.size
      have hz1:t'.size≠0:=by simpa using hz0
      have hjx:j*t'.size+t'.size≤cs.length:=by simp only[List.length_take,List.length_drop]at lenx;omega
      obtain⟨ux,h1,o1⟩:=lS (w:=w) hag hsz bx (cs:=cs) (off:=j*t'.size) hjx
      have h3:=jg em n e t' hch d (by omega) ux x0 ⟨_,gx,o1⟩
      have nx:bp (du E t') (cs.drop ((j+1)*t'.size)) xs:=by
       have:=bp.drop hzz 1 hcx'
       rw[List.drop_drop]at this
       simpa[Nat.add_mul]using this
      have:=ih xs (j+1) (by simpa using hx) nx
      rw[List.range'_succ,List.forIn_cons]
      simp only[Sem.run_bind,run_sizeOf hi,hsz',h1,h3,Result.andThen_ok,Sem.run_pure]
      exact this
   exact(congrArg (fun r:Result Unit=>r.andThen fun _ w'=>Sem.run P (pure ()) w') (key m x 0 hlx (by simpa using hcx))).trans rfl
  ·rename_i t0 _ _ fs hT
   simp only[Bool.and_eq_true,Bool.not_eq_true']at h
   obtain⟨hst,hfs⟩:=h
   have hag:t0.agg=true:=by
    cases hl:fs.toList <;> rw[hl]at hfs <;> cases t0 <;> first | rfl | (simp[qv]at hfs;done)
   rw[hag]at hv
   have e1:v= .agg cs.toArray:=hv
   subst e1
   have key:∀(fl:List Field) (t:Ty) (off:Nat),qv P (ke P n) fl t off=true→∀(x:t.den),du E t (cs.drop off) x→
     (forIn fl () fun f __s=>(do
      if f.name≠ "_" then
       let __do_lift ←part f.type cs.toArray f.offset
       Instr.checkKey em d f.type __do_lift
       pure (ForInStep.yield ())
      else pure (ForInStep.yield ()):Sem (ForInStep Unit))).run P w= .ok () w:=by
    intro fl
    induction fl with
    |nil=>intro t off _ x _;rfl
    |cons f fl ih=>
     intro t off hc x hx
     cases t <;> first | (simp[qv]at hc;done) | skip
     rename_i ta tb
     simp only[qv,Bool.and_eq_true,Bool.not_eq_true',beq_iff_eq,beq_eq_false_iff_ne]at hc
     obtain⟨⟨⟨⟨⟨⟨hnm,hoff⟩,hz⟩,hsz⟩,hag⟩,hch⟩,hrest⟩:=hc
     simp only[du]at hx
     obtain⟨xa,xb,ex,hxa,hxb⟩:=hx
     have bx:ta.agg=false→ta.size=1:=lU
     have lx:xa.length=ta.size:=hxa.size
     have sx1:(cs.drop off).take ta.size=xa:=by rw[ex];exact List.take_left' lx
     have sx2:cs.drop (off+ta.size)=xb:=by rw[←List.drop_drop,ex];exact List.drop_left' lx
     have sx3:off+ta.size≤cs.length:=by
      have:=congrArg List.length ex
      simp only[List.length_drop,List.length_append]at this
      omega
     obtain⟨ux,h1,o1⟩:=lS (w:=w) hag hsz bx (cs:=cs) (off:=off) sx3
     rw[sx1]at o1
     have h3:=jg em n f.type ta hch d (by omega) ux x.1 ⟨_,hxa,o1⟩
     have h4:=ih tb (off+ta.size) hrest x.2 (by rw[sx2];exact hxb)
     rw[List.forIn_cons]
     simp only[ne_eq,hnm,not_false_eq_true,if_true,Sem.run_bind,hoff,h1,h3,Result.andThen_ok,Sem.run_pure]
     exact h4
   have:=key fs.toList t0 0 hfs x (by simpa using hx)
   simp only[Instr.checkKey,Sem.run_bind,run_underlying hT,Result.andThen_ok,Array.forIn_toList]at this ⊢
   exact(congrArg (fun r:Result Unit=>r.andThen fun _ w'=>Sem.run P (pure ()) w') this).trans rfl
  ·cases h
theorem qX{K:TypeId}{kt vt:Ty}(hK:ke P depth K kt=true){v:Value}{x:kt.den}(hx:nM E kt v x):∀(es:List MapEntry) (l:List (kt.den×vt.den)) (i:Nat),Alike (nY E kt vt) es l→
  ∃r,(Instr.findAsking K v es i).run P w= .ok r w∧match r with | none=>gE kt x l=none | some (j,u)=>∃n e,gE kt x l=some n∧j=i+n∧es[n]? =some e∧u=e.val
 |[],[],i,_=>⟨none,by simp[Instr.findAsking],rfl⟩
 |e::es,p::l,i,⟨he,hr⟩=>by
  have hx':=hx
  obtain⟨c1,r1,o1⟩:=hx'
  obtain⟨c2,r2,o2⟩:=he.1
  have heq:(Op.equal K v e.key).run P w= .ok (kt.beq x p.1) w:=lA E depth K kt hK 10000 (by decide) c1 c2 x p.1 v e.key r1 r2 o1 o2
  cases hb:kt.beq x p.1 with
  |true=>
   rw[hb]at heq
   refine⟨some (i,e.val),by simp[Instr.findAsking,heq],0,e,by simp[gE,hb],rfl,rfl,rfl⟩
  |false=>
   rw[hb]at heq
   obtain⟨r,h1,h2⟩:=qX hK hx es l (i+1) hr
   refine⟨r,by simp[Instr.findAsking,heq,h1],?_⟩
   cases r with
   |none=>simp only at h2 ⊢;simp[gE,hb,h2]
   |some u=>
    obtain⟨j,u⟩:=u
    obtain⟨n,e',g1,g2,g3,g4⟩:=h2
    exact⟨n+1,e',by simp[gE,hb,g1],by omega,by simpa using g3,g4⟩
 |[],_::_,_,h=>h.elim
 |_::_,[],_,h=>h.elim
theorem w7{d:TypeDesc}{kt vt:Ty}{v:Value}{x:kt.den}(hd:∀u y,nM E kt u y→Instr.sameNow d v u=some (kt.beq x y)):∀(es:List MapEntry) (l:List (kt.den×vt.den)) (i:Nat),Alike (nY E kt vt) es l→
  ∃r,Instr.findNow d v es i=some r∧match r with | none=>gE kt x l=none | some (j,u)=>∃n e,gE kt x l=some n∧j=i+n∧es[n]? =some e∧u=e.val
 |[],[],i,_=>⟨none,rfl,rfl⟩
 |e::es,p::l,i,⟨he,hr⟩=>by
  have h0:=hd e.key p.1 he.1
  cases hb:kt.beq x p.1 with
  |true=>
   rw[hb]at h0
   exact⟨some (i,e.val),by simp[Instr.findNow,h0],0,e,by simp[gE,hb],rfl,rfl,rfl⟩
  |false=>
   rw[hb]at h0
   obtain⟨r,h1,h2⟩:=w7 hd es l (i+1) hr
   refine⟨r,by simp[Instr.findNow,h0,h1],?_⟩
   cases r with
   |none=>simp only at h2 ⊢;simp[gE,hb,h2]
   |some u=>
    obtain⟨j,u⟩:=u
    obtain⟨n,e',g1,g2,g3,g4⟩:=h2
    exact⟨n+1,e',by simp[gE,hb,g1],by omega,by simpa using g3,g4⟩
 |[],_::_,_,h=>h.elim
 |_::_,[],_,h=>h.elim
theorem qy{K:TypeId}{kt vt:Ty}(hK:ke P depth K kt=true){v:Value}{x:kt.den}(hx:nM E kt v x){es:List MapEntry}{l:List (kt.den×vt.den)}(h:Alike (nY E kt vt) es l):
  ∃r,(Instr.findKey K v es).run P w= .ok r w∧match r with | none=>gE kt x l=none | some (j,u)=>∃e,gE kt x l=some j∧es[j]? =some e∧u=e.val:=by
 have fin:∀r:Option (Nat×Value),(match r with | none=>gE kt x l=none | some (j,u)=>∃n e,gE kt x l=some n∧j=0+n∧es[n]? =some e∧u=e.val)→match r with | none=>gE kt x l=none | some (j,u)=>∃e,gE kt x l=some j∧es[j]? =some e∧u=e.val:=by
  intro r hr
  cases r with
  |none=>exact hr
  |some u=>
   obtain⟨j,u⟩:=u
   obtain⟨n,e,g1,g2,g3,g4⟩:=hr
   obtain rfl:j=n:=by omega
   exact⟨e,g1,g3,g4⟩
 have scalar:∀d,P.underlying K=some d→(∀u y,nM E kt u y→Instr.sameNow d v u=some (kt.beq x y))→∃r,(Instr.findKey K v es).run P w= .ok r w∧match r with | none=>gE kt x l=none | some (j,u)=>∃e,gE kt x l=some j∧es[j]? =some e∧u=e.val:=by
  intro d hd hs
  obtain⟨r,h1,h2⟩:=w7 hs es l 0 h
  exact⟨r,by simp[Instr.findKey,run_underlying hd,h1],fin r h2⟩
 have agg:∀d,P.underlying K=some d→(∀u y,nM E kt u y→Instr.sameNow d v u=none)→∃r,(Instr.findKey K v es).run P w= .ok r w∧match r with | none=>gE kt x l=none | some (j,u)=>∃e,gE kt x l=some j∧es[j]? =some e∧u=e.val:=by
  intro d hd hs
  cases es with
  |nil=>
   cases l with
   |nil=>exact⟨none,by simp[Instr.findKey,run_underlying hd,Instr.findNow],rfl⟩
   |cons _ _=>exact h.elim
  |cons e es=>
   cases l with
   |nil=>exact h.elim
   |cons p l=>
    have hn:Instr.findNow d v (e::es) 0=none:=by simp[Instr.findNow,hs e.key p.1 h.1.1]
    obtain⟨r,h1,h2⟩:=qX (w:=w) (vt:=vt) hK hx (e::es) (p::l) 0 h
    exact⟨r,by simp[Instr.findKey,run_underlying hd,hn,h1],fin r h2⟩
 have hK0:=hK
 unfold depth at hK0
 simp only[ke]at hK0
 obtain⟨cx,rx,ox⟩:=hx
 split at hK0
 ·rename_i k k' hT
  refine scalar _ hT fun u y ⟨cy,ry,oy⟩=> ?_
  simp only[du]at rx ry
  have e1:cx=[v]:=ox
  have e2:cy=[u]:=oy
  rw[rx]at e1;rw[ry]at e2
  simp only[List.cons.injEq,and_true]at e1 e2
  subst e1 e2
  simp[Instr.sameNow,Ty.beq]
 ·rename_i hT
  refine scalar _ hT fun u y ⟨cy,ry,oy⟩=> ?_
  simp only[du]at rx ry
  have e1:cx=[v]:=ox
  have e2:cy=[u]:=oy
  rw[rx]at e1;rw[ry]at e2
  simp only[List.cons.injEq,and_true]at e1 e2
  subst e1 e2
  simp[Instr.sameNow,Ty.beq]
 ·rename_i hT
  refine scalar _ hT fun u y ⟨cy,ry,oy⟩=> ?_
  simp only[du]at rx ry
  have e1:cx=[v]:=ox
  have e2:cy=[u]:=oy
  rw[rx]at e1;rw[ry]at e2
  simp only[List.cons.injEq,and_true]at e1 e2
  subst e1 e2
  have hs:∀a b:ByteArray,(a==b)=(a.toList==b.toList):=fun a b=>by
   by_cases hab:a=b
   ·subst hab
    rw[(Go.MapKept.bytes_beq a a).2 rfl];simp
   ·have h1:(a==b)=false:=by
     cases h:(a==b) with
     |false=>rfl
     |true=>exact absurd ((Go.MapKept.bytes_beq a b).1 h) hab
    have h2:(a.toList==b.toList)=false:=by
     cases h:(a.toList==b.toList) with
     |false=>rfl
     |true=>exact absurd (beq_eq .str a b rfl h) hab
    rw[h1,h2]
  simp[Instr.sameNow,Ty.beq,hs]
 ·rename_i m e m' t' hT
  exact agg _ hT fun u y _=>by simp[Instr.sameNow]
 ·rename_i t0 _ _ fs hT
  exact agg _ hT fun u y _=>by simp[Instr.sameNow]
 ·cases hK0
end
section
variable {α β:Type} {R:α→β→Prop}
theorem Alike.get:∀ {xs:List α} {ys:List β} {i:Nat} {x:α},Alike R xs ys→xs[i]? =some x→∃y,ys[i]? =some y∧R x y
 |[],_,_,_,_,h=>by simp at h
 |_::_,[],_,_,h,_=>h.elim
 |x::xs,y::ys,0,z,⟨h1,_⟩,h=>by simp at h;subst h;exact⟨y,rfl,h1⟩
 |x::xs,y::ys,i+1,z,⟨_,h2⟩,h=>by simp at h;simpa using Alike.get h2 h
theorem Alike.set{x:α}{y:β}(hx:R x y):∀ {xs:List α} {ys:List β} (i:Nat),Alike R xs ys→Alike R (xs.set i x) (ys.set i y)
 |[],[],_,_=>trivial
 |[],_::_,_,h=>h.elim
 |_::_,[],_,h=>h.elim
 |_::_,_::_,0,⟨_,h2⟩=>⟨hx,h2⟩
 |_::_,_::_,i+1,⟨h1,h2⟩=>⟨h1,Alike.set hx i h2⟩
theorem Alike.push{x:α}{y:β}(hx:R x y):∀ {xs:List α} {ys:List β},Alike R xs ys→Alike R (xs++ [x]) (ys++ [y])
 |[],[],_=>⟨hx,trivial⟩
 |[],_::_,h=>h.elim
 |_::_,[],h=>h.elim
 |_::_,_::_,⟨h1,h2⟩=>⟨h1,Alike.push hx h2⟩
theorem Alike.erase:∀ {xs:List α} {ys:List β} (i:Nat),Alike R xs ys→Alike R (xs.eraseIdx i) (ys.eraseIdx i)
 |[],[],_,_=>by simp[Alike]
 |[],_::_,_,h=>h.elim
 |_::_,[],_,h=>h.elim
 |_::_,_::_,0,⟨_,h2⟩=>h2
 |_::_,_::_,i+1,⟨h1,h2⟩=>⟨h1,Alike.erase i h2⟩
end
theorem rn{α:Type}{f:α→α→Bool}(hf:∀x,f x x=true):∀xs:List α,iH f xs xs=true
 |[]=>rfl
 |x::xs=>by simp[iH,hf x,rn hf xs]
theorem beq_refl:∀(t:Ty) (x:t.den),t.comp=true→t.beq x x=true
 | .int _,x,_=>by simp[Ty.beq]
 | .bool,x,_=>by simp[Ty.beq]
 | .str,x,_=>by simp[Ty.beq]
 | .slice _,_,h=>by simp[Ty.comp]at h
 | .gv _,_,h=>by simp[Ty.comp]at h
 | .unit,_,_=>rfl
 | .pair a b,x,h=>by
  simp only[Ty.comp,Bool.and_eq_true]at h
  simp only[Ty.beq,beq_refl a _ h.1,beq_refl b _ h.2,Bool.and_self]
 | .arr _ t,x,h=>by
  simp only[Ty.comp]at h
  exact rn (fun y=>beq_refl t y h) x
section
variable {β:Type} {kt:Ty}
theorem w6{x:kt.den}:ki kt x ([]:List (kt.den×β))=none:=rfl
theorem lh{x:kt.den}{p:kt.den×β}{l:List (kt.den×β)}:ki kt x (p::l)=if kt.beq x p.1=true then some p.2 else ki kt x l:=by
 unfold ki
 cases h:kt.beq x p.1 with
 |true=>simp[gE,h]
 |false=>
  simp only[gE,h]
  cases gE kt x l <;> simp
theorem C3{x:kt.den}{v:β}:kK kt x v []=[(x,v)]:=rfl
theorem vc{x:kt.den}{v:β}{p:kt.den×β}{l:List (kt.den×β)}:kK kt x v (p::l)=if kt.beq x p.1=true then(x,v)::l else p::kK kt x v l:=by
 unfold kK
 cases h:kt.beq x p.1 with
 |true=>simp[gE,h]
 |false=>
  simp only[gE,h]
  cases gE kt x l <;> simp
theorem u9{x:kt.den}{p:kt.den×β}{l:List (kt.den×β)}:nT kt x (p::l)=if kt.beq x p.1=true then l else p::nT kt x l:=by
 unfold nT
 cases h:kt.beq x p.1 with
 |true=>simp[gE,h]
 |false=>
  simp only[gE,h]
  cases gE kt x l <;> simp
theorem pU{x:kt.den}{v:β}:∀l:List (kt.den×β),(kK kt x v l).Perm ((x,v)::nT kt x l)
 |[]=>List.Perm.refl _
 |p::l=>by
  rw[vc,u9]
  split
  ·exact List.Perm.refl _
  ·exact((pU l).cons p).trans (List.Perm.swap _ _ _)
theorem kJ(hc:kt.comp=true){x:kt.den}:∀ {l:List (kt.den×β)},(l.map (·.1)).Nodup→nT kt x l=l.filter fun p=> !kt.beq x p.1
 |[],_=>rfl
 |p::l,hn=>by
  rw[List.map_cons,List.nodup_cons]at hn
  rw[u9,List.filter_cons]
  by_cases h:kt.beq x p.1=true
  ·rw[if_pos h]
   simp only[h,Bool.not_true,Bool.false_eq_true,if_false]
   have hx:=beq_eq kt _ _ hc h
   exact(List.filter_eq_self.2 fun q hq=>by
    simp only[Bool.not_eq_true']
    rw[Bool.eq_false_iff]
    intro hb
    have:=beq_eq kt _ _ hc hb
    exact hn.1 (by rw[←hx,this];exact List.mem_map.2 ⟨q,hq,rfl⟩)).symm
  ·have h':kt.beq x p.1=false:=by simpa using h
   rw[if_neg h]
   simp only[h',Bool.not_false,if_true]
   rw[kJ hc hn.2]
theorem sP(hc:kt.comp=true){x:kt.den}{v:β}:∀ {l:List (kt.den×β)},(l.map (·.1)).Nodup→(ki kt x l=some v↔(x,v)∈l)
 |[],_=>by simp[w6]
 |p::l,hn=>by
  rw[List.map_cons,List.nodup_cons]at hn
  rw[lh,List.mem_cons]
  by_cases h:kt.beq x p.1=true
  ·rw[if_pos h]
   have hx:=beq_eq kt _ _ hc h
   constructor
   ·intro e;left;rw[hx,←Option.some.inj e]
   ·rintro(e | e)
    ·rw[←e]
    ·exact absurd (List.mem_map.2 ⟨_,e,rfl⟩) (by rw[←hx]at hn;exact hn.1)
  ·rw[if_neg h,sP hc hn.2]
   constructor
   ·exact .inr
   ·rintro(e | e)
    ·exact absurd (by rw[←e];exact beq_refl kt x hc) h
    ·exact e
theorem A3(hc:kt.comp=true){x:kt.den}{l l':List (kt.den×β)}(hn:(l.map (·.1)).Nodup)(hp:l'.Perm l):ki kt x l'=ki kt x l:=by
 apply Option.ext
 intro v
 rw[sP hc ((hp.map _).nodup_iff.2 hn),sP hc hn,hp.mem_iff]
theorem va(hc:kt.comp=true){x:kt.den}{l l':List (kt.den×β)}(hn:(l.map (·.1)).Nodup)(hp:l'.Perm l):(nT kt x l').Perm (nT kt x l):=by
 rw[kJ hc ((hp.map _).nodup_iff.2 hn),kJ hc hn]
 exact hp.filter _
theorem A4(hc:kt.comp=true){x:kt.den}{v:β}{l l':List (kt.den×β)}(hn:(l.map (·.1)).Nodup)(hp:l'.Perm l):(kK kt x v l').Perm (kK kt x v l):=
 (pU l').trans (((va hc hn hp).cons _).trans (pU l).symm)
theorem tx(hc:kt.comp=true){x:kt.den}{l:List (kt.den×β)}(hn:(l.map (·.1)).Nodup):((nT kt x l).map (·.1)).Nodup:=by
 rw[kJ hc hn]
 exact hn.sublist (List.filter_sublist.map _)
theorem zx(hc:kt.comp=true){x:kt.den}{v:β}{l:List (kt.den×β)}(hn:(l.map (·.1)).Nodup):((kK kt x v l).map (·.1)).Nodup:=by
 rw[((pU l).map _).nodup_iff,List.map_cons,List.nodup_cons]
 refine⟨fun h=> ?_,tx hc hn⟩
 obtain⟨p,hp,he⟩:=List.mem_map.1 h
 rw[kJ hc hn,List.mem_filter]at hp
 have:=hp.2
 have he:p.1=x:=he
 rw[he,beq_refl kt x hc]at this
 cases this
end
theorem qG{E:Env}:∀(v:az) (t:Ty) (x:t.den) (cs:List Value),V E v cs→(jE t v).eval=some x→du E t cs x∧v.agg=t.agg∧v.fa=true
 | .d t' x',t,x,cs,hv,h=>by
  have h':(Out.opt (kZ t' t x')).eval=some x:=by cases t <;> simpa only[jE]using h
  obtain⟨rfl,h'⟩:=gU (gZ.1 h')
  simp only at h'
  subst h'
  simp only[V]at hv
  exact⟨hv,rfl,rfl⟩
 | .dP,.slice t,x,cs,hv,h=>by
  simp only[jE,ao]at h
  subst h
  simp only[V]at hv
  simp only[du]
  exact⟨⟨none,0,[],by simpa using hv,by simp,by simp,fun i v hh=>by simp at hh,rfl⟩,rfl,rfl⟩
 | .pr a b,.pair ta tb,x,cs,hv,h=>by
  simp only[jE]at h
  obtain⟨x1,h1,h2⟩:=al.1 h
  obtain⟨x2,h3,h4⟩:=al.1 h2
  obtain rfl:=ao.1 h4
  simp only[V]at hv
  obtain⟨ca,cb,rfl,ha,hb⟩:=hv
  simp only[du]
  exact⟨⟨ca,cb,rfl,(qG a ta x1 ca ha h1).1,(qG b tb x2 cb hb h3).1⟩,rfl,rfl⟩
 | .dP,.int _,_,_,_,h | .dP,.bool,_,_,_,h | .dP,.str,_,_,_,h | .dP,.unit,_,_,_,h | .dP,.pair _ _,_,_,_,h | .dP,.arr _ _,_,_,_,h=>by simp only[jE,ai]at h
 | .pr _ _,.int _,_,_,_,h | .pr _ _,.bool,_,_,_,h | .pr _ _,.str,_,_,_,h | .pr _ _,.unit,_,_,_,h | .pr _ _,.slice _,_,_,_,h | .pr _ _,.arr _ _,_,_,_,h=>by simp only[jE,ai]at h
 | .undef,t,_,_,_,h | .gone,t,_,_,_,h | .lk,t,_,_,_,h | .l6,t,_,_,_,h | .nU,t,_,_,_,h | .ptr ..,t,_,_,_,h | .eI ..,t,_,_,_,h | .cT ..,t,_,_,_,h | .fn ..,t,_,_,_,h
 | .cons ..,t,_,_,_,h | .nil,t,_,_,_,h | .vec ..,t,_,_,_,h | .sb _,t,_,_,_,h | .bx ..,t,_,_,_,h | .kL ..,t,_,_,_,h | .mp ..,t,_,_,_,h | .kF ..,t,_,_,_,h=>by cases t <;> simp only[jE,ai]at h
theorem wq{v:az}{t:Ty}{x:t.den}(h:(jE t v).eval=some x):v.fa=true:=by
 cases v <;> first | rfl | (cases t <;> simp only[jE,ai]at h)
theorem oB{E:Env}{v:az}{y:Value}(hv:VS E v y){t:Ty}{x:t.den}(h:(jE t v).eval=some x):nM E t y x:=by
 obtain⟨cs,h1,h2⟩:=hv.fa (wq h)
 obtain⟨h3,h4,_⟩:=qG v t x cs h1 h
 exact⟨cs,h3,by rw[←h4];exact h2⟩
theorem ni{P:Program}{T K V':TypeId}{kt vt:Ty}(h:mapOf P T=some (K,V',kt,vt)):P.underlying T=some (.map K V')∧ke P depth K kt=true∧yu P V' (.d vt vt.zero)=true:=by
 unfold mapOf at h
 split at h
 ·rename_i K0 V0 hT
  split at h
  ·split at h
   ·rename_i hc
    simp only[Option.some.injEq,Prod.mk.injEq]at h
    obtain⟨rfl,rfl,rfl,rfl⟩:=h
    rw[Bool.and_eq_true]at hc
    exact⟨hT,hc.1,hc.2⟩
   ·cases h
  ·cases h
 ·cases h
theorem yP{k v k' v':Ty}{l:List (k.den×v.den)}{l':List (k'.den×v'.den)}(h:AF k v k' v' l=some l'):∃(e1:k=k') (e2:v=v'),(e1▸e2▸l)=l':=by
 unfold AF at h
 split at h
 ·rename_i e;exact⟨e.1,e.2,by simpa using h⟩
 ·cases h
section
variable {P:Program} {C:Ctx} {g:Nat→jt} {β:Id→Option Pl} {s:AS} {a:Act} {w:World} {o:Oper}
theorem my(h:Inv C g β s a w){id:Id}{ver:Nat}{kt vt:Ty}{l:List (kt.den×vt.den)}(ho:(s.kI id ver kt vt).eval=some l){y:Value}(hv:VS (s.env w g β) (.kL id ver) y):
  ∃fr pl es clock,s.cl id=some (.obj ver fr (.mp kt vt l))∧β id=some pl∧y= .map (some pl.b)∧w.heap[pl.b]? =some (.map es clock)∧g pl.b= .own (.id id) 0∧xt (s.env w g β) kt vt es.toList l∧je es.toList clock∧(l.map (·.1)).Nodup:=by
 unfold AS.kI at ho
 split at ho
 ·rename_i v fr k' v' l' hob
  obtain⟨hve,ho2⟩:=aA.1 ho
  have hve:v=ver:=by simpa using hve
  obtain⟨rfl,rfl,rfl⟩:=yP (gZ.1 ho2)
  subst hve
  have hent:=ez hob
  obtain⟨pl,es,clock,h1,h2,h3,h4⟩:=h.bZ id v fr _ hent
  have hs:=hv.single rfl rfl
  simp only[V]at hs
  obtain⟨b,hb,_,hc⟩:=hs
  obtain⟨pl',h5,h6⟩:=hc ⟨fr,_,hent⟩
  have h1:β id=some pl:=h1
  have h5:β id=some pl':=h5
  rw[h1]at h5
  obtain rfl:pl=pl':=by simpa using h5
  refine⟨fr,pl,es,clock,hent,h1,?_,h2,h3,h4.1.1,h4.2,h4.1.2⟩
  have hb:y= .map (some b):=by simpa using hb
  rw[hb,h6]
 ·simp only[ai]at ho
theorem xW(h:Inv C g β s a w){T:TypeId}(hop:o.op= .makeMap T none){s':AS}(he:(po P s o.dst T).eval=some s'):fy P o a w (gH C s'):=by
 unfold po at he
 split at he
 ·rename_i K V' kt vt q hm hd
  obtain⟨hq,he⟩:=aA.1 he
  obtain rfl:=ao.1 he
  have ht:=Trans.alloc w g (.map #[] 0) (.own (.id (.new q 0)) 0)
  obtain⟨h1,h2⟩:=h.ur hq (c:= .mp kt vt []) (p:=some ⟨w.heap.size,0⟩) ht (fun b hb=>⟨lH w _ hb,fA _ _ _ (by omega)⟩) (fun _=>
   ⟨⟨w.heap.size,0⟩,#[],0,ix _ _ _,mD w _,fD _ _ _,⟨⟨[],trivial,List.Perm.refl _⟩,List.nodup_nil⟩,je.nil _⟩)
  refine .inl ⟨.map (some w.heap.size),w.alloc (.map #[] 0),?_,_,_,h1.put o.dst (v:= .kL (.new q 0) 0) ⟨[.map (some w.heap.size)],?_,rfl⟩⟩
  ·refine eb (f:=Instr.makeMap T none) (by simp only[execOp,hop];rfl) ?_
   simp[Instr.makeMap,run_newObj_alloc]
  ·simp only[V]
   exact⟨_,rfl,kB hq _ _ _ _,fun _=>⟨_,ix _ _ _,rfl⟩⟩
 ·simp only[ai]at he
theorem nM.vs{E:Env}{t:Ty}{v:Value}{x:t.den}(h:nM E t v x):VS E (.d t x) v:=by
 obtain⟨cs,h1,h2⟩:=h
 exact⟨cs,by simpa only[V]using h1,h2⟩
theorem zl(h:Inv C g β s a w){T:TypeId}{x i:Operand}{ok:Bool}(hop:o.op= .lookup T x i ok){v:az}(he:(ov P s T (s.ev x) (s.ev i) ok).eval=some v):fy P o a w (gH C (s.put o.dst v)):=by
 unfold ov at he
 split at he
 ·rename_i K V' kt vt id ver hm hx
  obtain⟨l,h1,he⟩:=al.1 he
  obtain⟨k,h2,he⟩:=al.1 he
  obtain rfl:=ao.1 he
  obtain⟨hT,hK,hz⟩:=ni hm
  have hvx:=h.ev x
  rw[hx]at hvx
  obtain⟨fr,pl,es,clock,g1,g2,g3,g4,g5,g6,g7,gn⟩:=my h h1 hvx
  have hcomp:=mI depth K kt hK
  obtain⟨l0,g6,gp⟩:=g6
  rw[←A3 hcomp gn gp]
  clear gn h1
  generalize l0=l at g6
  have hk:=oB (h.ev i) h2
  have hck:=jg (P:=P) (w:=w) es.isEmpty depth K kt hK 10000 (by decide) _ _ hk
  obtain⟨r,hf,hr⟩:=qy (P:=P) (w:=w) hK hk g6
  obtain⟨iz,zv,z1,z2,z3,z4⟩:=lz hz (s.env w g β)
  have hzr:nM (s.env w g β) vt zv vt.zero:=⟨_,by simpa only[V]using z3,z4⟩
  have hzero:(zeroValue V').run P w= .ok zv w:=by simp[zeroValue,typeInfo,z1,z2]
  obtain⟨val,hrun,hval⟩:∃val:Value×Bool,(Instr.lookup T (a.eval x) (a.eval i) ok).run P w= .ok (if ok then .tuple #[val.1,.bool val.2] else val.1) w∧nM (s.env w g β) vt val.1 ((ki kt k l).getD vt.zero)∧val.2=(ki kt k l).isSome:=by
   cases r with
   |none=>
    simp only at hr
    have hg:ki kt k l=none:=by simp[ki,hr]
    refine⟨(zv,false),?_,by rw[hg];exact hzr,by rw[hg];rfl⟩
    simp[Instr.lookup,run_underlying hT,g3,Go.MapKept.run_getObj_map g4,hck,hf,hzero]
   |some u=>
    obtain⟨j,u⟩:=u
    obtain⟨e,m1,m2,rfl⟩:=hr
    obtain⟨p,m3,m4⟩:=g6.get m2
    have hg:ki kt k l=some p.2:=by simp[ki,m1,m3]
    refine⟨(e.val,true),?_,by rw[hg];exact m4.2,by rw[hg];rfl⟩
    simp[Instr.lookup,run_underlying hT,g3,Go.MapKept.run_getObj_map g4,hck,hf]
  refine h.value (x:=if ok then .tuple #[val.1,.bool val.2] else val.1) ?_ (eb (f:=Instr.lookup T (a.eval x) (a.eval i) ok) (by simp only[execOp,hop]) hrun)
  unfold Gt
  cases ok with
  |true=>
   obtain⟨cs,c1,c2⟩:=hval.1
   refine⟨[val.1,.bool val.2],rfl,?_⟩
   simp only[VC]
   refine⟨_,_,cs,rfl,by simpa only[V]using c1,c2,_,_,[.bool val.2],rfl,?_,rfl,rfl⟩
   simp only[V,du,hval.2]
  |false=>exact hval.1.vs
 ·simp only[ai]at he
theorem Inv.EU(h:Inv C g β s a w){id:Id}{ver:Nat}{fr:Bool}{kt vt:Ty}{l l':List (kt.den×vt.den)}{pl:Pl}{es es':Array MapEntry}{clock clock':Nat}(hent:s.cl id=some (.obj ver fr (.mp kt vt l)))(hp:β id=some pl)
  (hb:w.heap[pl.b]? =some (.map es clock)) (hg:g pl.b= .own (.id id) 0) (hr:xt (s.env w g β) kt vt es'.toList l') (hnd:(l'.map (·.1)).Nodup) (hbo:je es'.toList clock') (hul:s.kT id=true):
  Inv C g β (s.bf id (.obj ver false (.mp kt vt l'))) a {w with heap:=w.heap.setIfInBounds pl.b (.map es' clock')}:=by
 have hlt:pl.b < w.heap.size:=(Array.getElem?_eq_some_iff.1 hb).1
 have hother:∀b',b'≠pl.b→({w with heap:=w.heap.setIfInBounds pl.b (.map es' clock')}:World).heap[b']? =w.heap[b']? :=fun b' hne=>by
  show(w.heap.setIfInBounds pl.b _)[b']? =_
  rw[Array.getElem?_setIfInBounds,if_neg (fun e=>hne e.symm)]
 have ht:Trans w {w with heap:=w.heap.setIfInBounds pl.b (.map es' clock')} g g:=by
  refine⟨rfl,rfl,⟨rfl,Nat.le_refl _⟩,by simp,fun b' _=> ?_⟩
  by_cases he:b'=pl.b
  ·subst he
   rw[hg]
   exact⟨.inr ⟨id,0,rfl,Nat.le_refl _⟩,fun _ _ hh=>by omega⟩
  ·rw[hother b' he]
   cases hgb:g b' with
   |free=>exact⟨rfl,rfl⟩
   |own o' k=>cases o' with
    |fu=>exact⟨rfl,rfl⟩
    |id i'=>exact⟨.inr ⟨i',k,rfl,Nat.le_refl _⟩,fun off v _ hv=>by simpa only[World.cell?,hother b' he]using hv⟩
 have hle:cW (s.env w g β) ((s.bf id (.obj ver false (.mp kt vt l'))).env {w with heap:=w.heap.setIfInBounds pl.b (.map es' clock')} g β):=cW.bf hent (Nat.le_refl _) ht (fun _ _=>rfl) (fun _=>rfl)
 refine h.step (dC _ _ _) ht hle (hP.bf h.bZ (by rw[hent];simp) hle (fun _ _=>rfl) (fun i ver fr c pl2 hi hs2 hp2=>⟨hother _ (h.apart hg hi hs2 hp2),rfl⟩) ?_ (by obtain rfl:=pI hent hul;exact tY hent))
 refine⟨pl,es',clock',hp,?_,hg,⟨hr.mono hle.mem,hnd⟩,hbo⟩
 show(w.heap.setIfInBounds pl.b _)[pl.b]? =_
 rw[Array.getElem?_setIfInBounds,if_pos rfl,if_pos hlt]
theorem zs(h:Inv C g β s a w){T:TypeId}{m k x:Operand}(hop:o.op= .mapUpdate T m k x){s':AS}(he:(oA P s T (s.ev m) (s.ev k) (s.ev x)).eval=some s'):fy P o a w (gH C (s'.put o.dst .undef)):=by
 unfold oA at he
 split at he
 ·rename_i K V' kt vt id ver hm hx
  obtain⟨l,h1,he⟩:=al.1 he
  obtain⟨kx,h2,he⟩:=al.1 he
  obtain⟨vx,h3,he⟩:=al.1 he
  obtain⟨hul,he⟩:=aA.1 he
  obtain rfl:=ao.1 he
  obtain⟨hT,hK,_⟩:=ni hm
  have hvx:=h.ev m
  rw[hx]at hvx
  obtain⟨fr,pl,es,clock,g1,g2,g3,g4,g5,g6,g7,gn⟩:=my h h1 hvx
  obtain⟨l0,g6,gp⟩:=g6
  have hk:=oB (h.ev k) h2
  have hv:=oB (h.ev x) h3
  have hck:=jg (P:=P) (w:=w) false depth K kt hK 10000 (by decide) _ _ hk
  obtain⟨r,hf,hr⟩:=qy (P:=P) (w:=w) hK hk g6
  have hcomp:=mI depth K kt hK
  have fin:∀(es':Array MapEntry) (clock':Nat),(Instr.mapUpdate T (a.eval m) (a.eval k) (a.eval x)).run P w= .ok () {w with heap:=w.heap.setIfInBounds pl.b (.map es' clock')}→Alike (nY (s.env w g β) kt vt) es'.toList (kK kt kx vx l0)→je es'.toList clock'→
    fy P o a w (gH C ((s.bf id (.obj ver false (.mp kt vt (kK kt kx vx l)))).put o.dst .undef)):=fun es' clock' hrun hal hbo=>
   .inr (.inl ⟨_,wQ (f:=Instr.mapUpdate T (a.eval m) (a.eval k) (a.eval x)) (by simp only[execOp,hop]) hrun,g,β,(h.EU g1 g2 g4 g5 ⟨_,hal,A4 hcomp gn gp⟩ (zx hcomp gn) hbo hul).put o.dst VS.undef⟩)
  cases r with
  |none=>
   simp only at hr
   refine fin (es.push {key:=a.eval k,val:=a.eval x,born:=clock}) (clock+1) ?_ ?_ (by rw[Array.toList_push];exact g7.push rfl)
   ·simp[Instr.mapUpdate,run_underlying hT,g3,Go.MapKept.run_getObj_map g4,hck,hf,Go.MapKept.run_setObj_map _ g4]
   ·simp only[kK,hr,Array.toList_push]
    exact g6.push ⟨hk,hv⟩
  |some u=>
   obtain⟨j,u⟩:=u
   obtain⟨e,m1,m2,rfl⟩:=hr
   obtain⟨p,m3,m4⟩:=g6.get m2
   have hbeq:kt.beq kx p.1=true:=by
    have:∀(l:List (kt.den×vt.den)) (j:Nat),gE kt kx l=some j→∀p,l[j]? =some p→kt.beq kx p.1=true:=by
     intro l
     induction l with
     |nil=>intro j hj;simp[gE]at hj
     |cons q l ih=>
      intro j hj p hp
      simp only[gE]at hj
      cases hb:kt.beq kx q.1 with
      |true=>
       rw[hb]at hj
       simp only[Option.some.injEq]at hj
       subst hj
       simp at hp
       subst hp
       exact hb
      |false=>
       rw[hb]at hj
       simp only[Option.map_eq_some_iff]at hj
       obtain⟨j',hj',rfl⟩:=hj
       exact ih j' hj' p (by simpa using hp)
    exact this l0 j m1 p m3
   have hxe:=beq_eq kt kx p.1 hcomp hbeq
   have hkey:e.key=a.eval k:=nM.GU hcomp (hxe▸m4.1) hk
   have m2':es[j]? =some e:=by simpa using m2
   refine fin (es.modify j fun e=> {e with key:=a.eval k,val:=a.eval x}) clock ?_ ?_ (by rw[Array.toList_modify,Go.ChangeMaps.modify_eq_set _ _ _ _ m2];exact g7.set m2 rfl)
   ·simp[Instr.mapUpdate,run_underlying hT,g3,Go.MapKept.run_getObj_map g4,hck,hf,m2',hkey,Dg hcomp hk,Go.MapKept.run_setObj_map _ g4]
   ·simp only[kK,m1,Array.toList_modify]
    rw[Go.ChangeMaps.modify_eq_set _ _ _ _ m2]
    exact Alike.set (R:=nY (s.env w g β) kt vt) ⟨hk,hv⟩ j g6
 ·simp only[ai]at he
end
end Go.Ab
namespace Go.Ab
section
variable {P:Program} {C:Ctx} {g:Nat→jt} {β:Id→Option Pl} {s:AS} {a:Act} {w:World} {o:Oper}
theorem ns{b:Builtin}{args:Array Operand}{ts:Array TypeId}{f:Sem Value}{x:Value}{w':World}(ho:o.op= .call {callee:= .builtin b,args,argTypes:=ts})
  (hb:∀ty cs xs,xs=args.map a.eval→builtin b ts ty cs xs=(do pure (.value (←f)))) (hf:f.run P w= .ok x w'):(execOp a.eval o).run P w= .ok (.value x) w':=by
 simp only[execOp,ho,resolve,Sem.run_bind,Sem.run_pure,Result.andThen_ok,invoke]
 rw[hb _ _ _ rfl,Sem.run_bind,hf]
 rfl
theorem Ei(h:Inv C g β s a w){c:Call}{x:Operand}{T:TypeId}(ho:o.op= .call c)(hc:c.callee= .builtin .len)(ha:c.args.toList=[x])(ht:c.argTypes.toList=[T]){v:az}(he:(FN P T (s.ev x)).eval=some v):
  fy P o a w (gH C (s.put o.dst v)):=by
 obtain⟨cal,args,tys⟩:=c
 simp only at hc ha ht
 have ha':args= #[x]:=by apply Array.ext';simpa using ha
 have ht':tys= #[T]:=by apply Array.ext';simpa using ht
 subst hc ha' ht'
 have hx:=h.ev x
 have fin:∀z,(Builtin.len_ #[T] 0 #[a.eval x]).run P w= .ok z w→VS (s.env w g β) v z→fy P o a w (gH C (s.put o.dst v)):=by
  intro z h1 h2
  refine h.value h2 (ns ho (f:=Builtin.len_ #[T] 0 #[a.eval x]) (fun ty cs xs hxs=> ?_) h1)
  subst hxs
  have e1:Builtin.len_ #[T] 0 #[a.eval x]=Builtin.len_ #[T] ty #[a.eval x]:=rfl
  rw[e1]
  simp[builtin]
 unfold FN at he
 split at he
 ·rename_i st hT hl
  rw[hl]at hx
  obtain rfl:=ao.1 he
  refine fin (.int .i64 (st.size:Int)) ?_ (iD _ _)
  rw[pE hx]
  simp[Builtin.len_,run_underlying hT,goInt]
 ·rename_i e t l hT hl
  rw[hl]at hx
  obtain rfl:=ao.1 he
  obtain⟨ad,cap,vs,hy,_⟩:=kR hx
  refine fin (.int .i64 (l.length:Int)) ?_ (iD _ _)
  rw[hy]
  simp[Builtin.len_,run_underlying hT,goInt]
 ·rename_i e hT hl
  rw[hl]at hx
  obtain rfl:=ao.1 he
  refine fin (.int .i64 0) ?_ (iD _ _)
  rw[il hx]
  simp[Builtin.len_,run_underlying hT,goInt]
 ·rename_i e id ver p c i len hT hl
  rw[hl]at hx
  obtain rfl:=ao.1 he
  obtain⟨ad,cap,hy,_⟩:=jU hx
  refine fin (.int .i64 (len:Int)) ?_ (iD _ _)
  rw[hy]
  simp[Builtin.len_,run_underlying hT,goInt]
 ·rename_i n e hT
  obtain rfl:=ao.1 he
  refine fin (.int .i64 (n:Int)) ?_ (iD _ _)
  simp[Builtin.len_,run_underlying hT,goInt]
 ·simp only[ai]at he
def Env.open(E:Env):Env:= {E with g:=fun _=> .free}
theorem FT(E:Env):cW E E.open:=⟨⟨fun _ _ _ h=>⟨h.1,trivial⟩,fun _ _ _ h=>⟨rfl,h⟩⟩,fun _ _ h=>h,fun _ _ _ h=>⟨h,rfl⟩⟩
theorem Bc(h:Inv C g β s a w){v:az}{y:Value}(hv:VS (s.env w g β) v y){t:Ty}{x:t.den}(ht:(s.Bb t v).eval=some x):
  ∃cs,du (s.env w g β).open t cs x∧fP t.agg cs y:=by
 obtain⟨cs,hV,hO⟩:=hv.fa (np ht)
 exact⟨cs,lW rfl h.bZ (FT _) v t x cs hV ht (fun id _ v fr c _ pl _ j x hx _=>⟨hx,trivial⟩),by rw[←vM ht];exact hO⟩
theorem lI{E:Env}{k:IntKind}:∀ {vs:List Value} {l:List Int},bp (du E (.int k)) vs l→vs=l.map (Value.int k)
 |vs,[],h=>h
 |_,x::xs,⟨c,cs',e,hx,hr⟩=>by
  have hx':c=[Value.int k x]:=by simpa only[du]using hx
  rw[e,hx',lI hr]
  rfl
theorem lK{E:Env}{k:IntKind}:∀(l:List Int),bp (du E (.int k)) (l.map (Value.int k)) l
 |[]=>rfl
 |x::xs=>⟨[.int k x],xs.map (Value.int k),rfl,by simp[du],lK xs⟩
theorem foldl_push(l:List Int):∀b:ByteArray,l.foldl (fun r n=>r.push (UInt8.ofNat n.toNat)) b=⟨b.data++(l.map fun n=>UInt8.ofNat n.toNat).toArray⟩:=by
 induction l with
 |nil=>intro b;simp
 |cons n l ih=>
  intro b
  rw[List.foldl_cons,ih]
  simp[ByteArray.push]
theorem zL{α:Type}(xs:Array α)(x:α)(f:α→α):(xs.push x).modify xs.size f=xs.push (f x):=by
 apply Array.ext_getElem?
 intro i
 rw[Array.getElem?_modify,Array.getElem?_push,Array.getElem?_push]
 by_cases h:i=xs.size
 ·subst h;simp
 ·have h':¬xs.size=i:=fun e=>h e.symm
  simp[h,h']
theorem xJ(w:World)(c:Array Value)(e:TypeId)(n:Nat):(w.alloc (.cells c e)).freeze ⟨w.heap.size,n,none⟩ 1=w.alloc (.cells c e (n,n+1)):=by
 show({w with heap:=(w.heap.push (.cells c e)).modify w.heap.size _}:World)= {w with heap:=w.heap.push (.cells c e (n,n+1))}
 rw[zL]
 rfl
theorem y1{w:World}{b:Nat}{c:Array Value}{e:TypeId}{n:Nat}(h:w.heap[b]? =some (.cells c e (n,n+1))):w.freeze ⟨b,n,none⟩ 1=w:=by
 unfold World.freeze
 rw[if_neg (by omega)]
 have:∀f:Obj→Obj,f (.cells c e (n,n+1))= .cells c e (n,n+1)→w.heap.modify b f=w.heap:=fun f hf=>by
  apply Array.ext_getElem?
  intro i
  rw[Array.getElem?_modify]
  split
  ·rename_i hi;subst hi;rw[h];simp[hf]
  ·rfl
 rw[this]
 simp
theorem rN(e:TypeId)(st:ByteArray)(w:World):∃cap:Nat,st.size≤cap∧∃arr:Array Value,(∀(j:Nat) (v:Value),((bA st).map (Value.int .u8))[j]? =some v→arr[j]? =some v)∧
  (Conv.stringToBytes e st).run P w= .ok (.slice (some ⟨w.heap.size,0,none⟩) st.size cap) (w.drew.alloc (.cells arr e (arr.size,arr.size+1))):=by
 refine⟨(Question.appendCap st.size 0 e).cut (w.tape w.drawn (.appendCap st.size 0 e)),by simp[Question.cut],
  (st.data.map fun b=>Value.int .u8 b.toNat)++Array.replicate ((Question.appendCap st.size 0 e).cut (w.tape w.drawn (.appendCap st.size 0 e)) - st.size) (.int .u8 0),?_,?_⟩
 ·intro j v hj
  have hl:j < st.data.size:=by
   have:=(List.getElem?_eq_some_iff.1 hj).1
   simpa[bA]using this
  rw[Array.getElem?_append,if_pos (by simpa using hl)]
  simpa[bA,hl]using hj
 ·have hs:∀(arr:Array Value),(markStringish ⟨w.heap.size,0,none⟩).run P (w.drew.alloc (.cells arr e))= .ok () (w.drew.alloc (.cells arr e (arr.size,arr.size+1))):=by
   intro arr
   have h1:(w.drew.alloc (.cells arr e)).shape? w.heap.size=some (e,arr.size):=by
    have h2:(w.drew.alloc (.cells arr e)).heap[w.heap.size]? =some (.cells arr e):=mD w.drew _
    simp only[World.shape?,h2]
   have h3:=xJ w.drew arr e arr.size
   have h4:w.drew.heap.size=w.heap.size:=rfl
   rw[h4]at h3
   simp only[markStringish,Sem.run_bind,run_shape,h1,Result.andThen_ok,run_freeze,h3]
  simp[Conv.stringToBytes,Question.forced,newRow,hs]
theorem Inv.kill(h:Inv C g β s a w){id:Id}{v:Nat}{fr:Bool}{c:az}(hs:s.cl id=some (.obj v fr c)){b:Nat}(hg:g b= .own (.id id) 0){w':World}(hos:w'.os=w.os)(htp:w'.tape=w.tape)(hout:w'.output=w.output∧w.drawn≤w'.drawn)(hsz:w'.heap.size=w.heap.size)
  (hoth:∀b',b'≠b→w'.heap[b']? =w.heap[b']?):Inv C (jH g b .free) β (s.bf id .dead) a w':=by
 have ht:Trans w w' g (jH g b .free):=by
  refine⟨hos,htp,hout,by omega,fun b' hb'=> ?_⟩
  by_cases he:b'=b
  ·subst he
   rw[hg,fD]
   exact⟨.inl rfl,fun _ _ hh=>by omega⟩
  ·rw[fA _ _ _ he,hoth b' he]
   cases hgb:g b' with
   |free=>exact⟨rfl,rfl⟩
   |own o k=>cases o with
    |fu=>exact⟨rfl,rfl⟩
    |id i=>exact⟨.inr ⟨i,k,rfl,Nat.le_refl _⟩,fun off v _ hv=>by simp only[World.cell?,hoth b' he]at hv ⊢;exact hv⟩
 have hself:=eH s id .dead (by rw[hs];simp)
 have hle:cW (s.env w g β) ((s.bf id .dead).env w' (jH g b .free) β):=by
  refine⟨Trans.mem ht,fun i ver hb=> ?_,fun i ver hb hc=> ?_⟩
  ·by_cases hi:i=id
   ·subst hi
    exact⟨by show(s.bf i .dead).cl i≠none;rw[hself];simp,fun v fr c hh=>by
     have hh:(s.bf i .dead).cl i=some (.obj v fr c):=hh
     rw[hself]at hh;cases hh⟩
   ·have:=cU s id i .dead hi
    obtain⟨h1,h2⟩:=hb
    exact⟨by show(s.bf id .dead).cl i≠none;rw[this];exact h1,fun v fr c hh=>h2 v fr c (this.symm.trans hh)⟩
  ·obtain⟨fr,c,hc⟩:=hc
   have hc:(s.bf id .dead).cl i=some (.obj ver fr c):=hc
   by_cases hi:i=id
   ·subst hi;rw[hself]at hc;cases hc
   ·rw[cU s id i .dead hi]at hc
    exact⟨⟨fr,c,hc⟩,rfl⟩
 refine h.step (dC _ _ _) ht hle fun i ver fr c hi=> ?_
 have hi:(s.bf id .dead).cl i=some (.obj ver fr c):=hi
 by_cases hid:i=id
 ·subst hid;rw[hself]at hi;cases hi
 ·rw[cU s id i .dead hid]at hi
  refine(h.bZ i ver fr c hi).mono hle rfl (fun pl hp=> ?_) fun q2 vq k2 v2 l2 hq2 hc2=> ?_
  ·have hne:=h.apart hg hid hi (pl:=pl) hp
   exact⟨hoth pl.b hne,fA _ _ _ hne⟩
  ·have hq2:s.cl q2=some (.obj vq true (.mp k2 v2 l2)):=hq2
   have hd:q2≠id:=fun e=>by
    obtain⟨fr3,c3,hc3⟩:=hc2
    have hc3:(s.bf id .dead).cl q2=some (.obj vq fr3 c3):=hc3
    rw[e,hself]at hc3
    cases hc3
   refine⟨⟨k2,v2,l2,by show(s.bf id .dead).cl q2=_;rw[cU s id q2 .dead hd];exact hq2⟩,fun pl hp=> ?_⟩
   have hne:=h.apart hg hd hq2 (pl:=pl) hp
   exact⟨hoth pl.b hne,fA _ _ _ hne⟩
theorem AH(h:Inv C g β s a w){src dst:TypeId}{x:Operand}(ho:o.op= .convert src dst x){id:Id}{ver len:Nat}(hx:s.ev x= .cT id ver [] 0 0 len){s':AS}(he:(yR P s o.dst src dst id ver len).eval=some s'):fy P o a w (gH C s'):=by
 unfold yR at he
 split at he
 ·rename_i v e0 l e hob hD
  split at he
  ·rename_i hE
   obtain⟨h1,h2⟩:=aA.1 he
   obtain⟨h3,h4⟩:=bT.1 h2
   obtain rfl:=ao.1 h4
   simp only[Bool.and_eq_true,beq_iff_eq]at h1
   obtain⟨rfl,rfl⟩:=h1
   simp only[decide_eq_true_eq]at h3
   obtain⟨h5,h6⟩:=h3
   have hent:=ez hob
   have hv:=h.ev x
   rw[hx]at hv
   obtain⟨ad,cap,hy,hcap,_,_,hcur⟩:=jU hv
   have hcur:=hcur ⟨false,_,hent⟩
   have hO:lZ (s.env w g β) id false (.vec e0 (.int .u8) l):=h.bZ id v false _ hent
   obtain⟨hz,hO⟩:=hO
   have hO:(match β id with
    |none=>l=[]
    |some pl=>∃cur k,w.heap[pl.b]? =some (.cells cur e0 (0,0))∧cur.size=pl.cap*(Ty.int .u8).size∧l.length≤pl.cap∧pl.cap≤maxLen∧g pl.b= .own (.id id) k∧
      k≤l.length*(Ty.int .u8).size∧(false=false→k=0)∧bp (du (s.env w g β) (.int .u8)) (cur.toList.take (l.length*(Ty.int .u8).size)) l):=hO
   have hcur:(match β id with
    |some pl=>(0 < len∨0=0→ad=some ⟨pl.b,0,none⟩)∧(([]:List qo)=[]→0=0→cap=pl.cap)
    |none=>ad=none∧len=0∧cap=0):=hcur
   cases hp:β id with
   |none=>rw[hp]at hO;simp only at hO;subst hO;simp at h6;omega
   |some pl=>
    rw[hp]at hO hcur
    obtain⟨cur,k,q1,q2,q3,q4,q5,q6,q7,q8⟩:=hO
    have hk:=q7 rfl
    subst hk
    have had:=hcur.1 (.inr rfl)
    subst had
    have hb:pl.b < w.heap.size:=(Array.getElem?_eq_some_iff.1 q1).1
    have hfz:∃w',w.freeze ⟨pl.b,cur.size,none⟩ 1=w'∧w'.heap[pl.b]? =some (.cells cur e0 (cur.size,cur.size+1))∧w'.os=w.os∧w'.tape=w.tape∧(w'.output=w.output∧w.drawn≤w'.drawn)∧w'.heap.size=w.heap.size∧∀b',b'≠pl.b→w'.heap[b']? =w.heap[b']? :=by
     refine⟨_,rfl,?_⟩
     unfold World.freeze
     rw[if_neg (by omega)]
     refine⟨?_,rfl,rfl,⟨rfl,Nat.le_refl _⟩,by simp,fun b' hb'=> ?_⟩
     ·simp only[Array.getElem?_modify,if_true,q1,Option.map_some]
      rfl
     ·simp only[Array.getElem?_modify]
      rw[if_neg (fun e=>hb' e.symm)]
    obtain⟨w',hw',f1,f2,f3,f4,f5,f6⟩:=hfz
    have hsh:w.shape? pl.b=some (e0,cur.size):=by simp only[World.shape?,q1]
    have hm:(markStringish ⟨pl.b,0,none⟩).run P w= .ok () w':=by
     simp only[markStringish,Sem.run_bind,run_shape,hsh,Result.andThen_ok,run_freeze,hw']
    have i1:=h.kill hent q5 f2 f3 f4 f5 f6
    refine .inl ⟨.slice (some ⟨pl.b,0,none⟩) len cap,w',eb (f:=convert src src (a.eval x)) (by simp only[execOp,ho]) ?_,_,β,i1.put o.dst ⟨_,?_,rfl⟩⟩
    ·rw[hy]
     simp[convert,run_underlying hD,run_underlying hE,hm]
    ·have hvs:=lI q8
     have hone:(Ty.int .u8).size=1:=rfl
     rw[hone,Nat.mul_one]at hvs
     simp only[V,du]
     refine⟨_,cap,l.map (Value.int .u8),by rw[h6],by rw[←h6];exact hcap,fun _=>rfl,fun j vv hj=>⟨_,_,rfl,?_,?_⟩,lK (E:=(s.bf id .dead).env w' (jH g pl.b .free) β) _⟩
     ·rw[Nat.zero_add]
      show w'.cell? ⟨pl.b,j,none⟩=some vv
      simp only[World.cell?,f1]
      rw[←hvs,List.getElem?_take]at hj
      split at hj
      ·simpa using hj
      ·cases hj
     ·show lN (jH g pl.b .free) pl.b (0+j)
      unfold lN
      rw[fD]
      trivial
  ·simp only[ai]at he
 ·simp only[ai]at he
theorem FA(h:Inv C g β s a w){src dst:TypeId}{x:Operand}(ho:o.op= .convert src dst x){l:List Int}(hl:s.ev x= .sb l){v:az}(he:(DS P src dst l).eval=some v):fy P o a w (gH C (s.put o.dst v)):=by
 have hx:=h.ev x
 have fin:∀z,(convert src dst (a.eval x)).run P w= .ok z w→VS (s.env w g β) v z→fy P o a w (gH C (s.put o.dst v)):=by
  intro z h1 h2
  exact h.value h2 (eb (f:=convert src dst (a.eval x)) (by simp only[execOp,ho]) h1)
 unfold DS at he
 split at he
 ·rename_i e e' hD hS
  rw[hl]at hx
  split at he
  ·rename_i hE
   obtain⟨h1,h2⟩:=aA.1 he
   obtain rfl:=ao.1 h2
   have h1:src=dst:=by simpa using h1
   subst h1
   obtain⟨cs,hv,hO⟩:=hx
   simp only[V]at hv
   obtain⟨b,cap,arr,e2,hcs,hcap,hfr,hb,harr⟩:=hv
   have hO':cs=[a.eval x]:=hO
   rw[hcs]at hO'
   have hy:a.eval x= .slice (some ⟨b,0,none⟩) l.length cap:=by simpa using hO'.symm
   rw[hD]at hS
   obtain rfl:e=e':=by simpa using hS
   refine fin (.slice (some ⟨b,0,none⟩) l.length cap) ?_ ⟨_,?_,rfl⟩
   ·rw[hy]
    have hb:w.heap[b]? =some (.cells arr e2 (arr.size,arr.size+1)):=hb
    have hfz:=y1 hb
    have hsh:w.shape? b=some (e2,arr.size):=by simp only[World.shape?,hb]
    have hm:(markStringish ⟨b,0,none⟩).run P w= .ok () w:=by
     simp only[markStringish,Sem.run_bind,run_shape,hsh,Result.andThen_ok,run_freeze,hfz]
    simp[convert,run_underlying hD,run_underlying hE,hm]
   ·simp only[V,du]
    refine⟨_,cap,l.map (Value.int .u8),rfl,hcap,fun _=>rfl,fun j v hj=>⟨_,_,rfl,?_,?_⟩,lK (E:=s.env w g β) _⟩
    ·rw[Nat.zero_add]
     show w.cell? ⟨b,j,none⟩=some v
     have hb:w.heap[b]? =some (.cells arr e2 (arr.size,arr.size+1)):=hb
     simp only[World.cell?,hb]
     simpa using harr j v hj
    ·show lN g b (0+j)
     unfold lN
     have hfr:g b= .free:=hfr
     rw[hfr]
     trivial
  ·simp only[ai]at he
 ·simp only[ai]at he
theorem xC(h:Inv C g β s a w){obj:Bool}{src dst:TypeId}{x:Operand}(ho:o.op= .convert src dst x){v:az}(he:(wO P s obj src dst (s.ev x)).eval=some v):fy P o a w (gH C (s.put o.dst v)):=by
 have hx:=h.ev x
 have fin:∀z,(convert src dst (a.eval x)).run P w= .ok z w→VS (s.env w g β) v z→fy P o a w (gH C (s.put o.dst v)):=by
  intro z h1 h2
  exact h.value h2 (eb (f:=convert src dst (a.eval x)) (by simp only[execOp,ho]) h1)
 unfold wO at he
 split at he
 ·rename_i l hl
  exact FA h ho hl he
 rename_i hl0
 unfold DR at he
 split at he
 ·rename_i k n k' d hl hD hS
  rw[hl]at hx
  obtain rfl:=ao.1 he
  refine fin (.int k' (k'.wrap n)) ?_ (iD _ _)
  rw[nC hx]
  simp[convert,run_underlying hD,run_underlying hS,Conv.intToInt]
 ·rename_i st d hl hD hS
  rw[hl]at hx
  obtain rfl:=ao.1 he
  refine fin (.string st) ?_ (xu _)
  rw[pE hx]
  simp[convert,run_underlying hD,run_underlying hS]
 ·rename_i st e d hl hD hS
  rw[hl]at hx
  split at he
  ·rename_i hE
   obtain⟨cap,hcap,arr,harr,hrun⟩:=rN (P:=P) e st w
   have i1:=(h.drew).pL (.cells arr e (arr.size,arr.size+1))
   have hlen:(bA st).length=st.size:=by simp only[bA,List.length_map,Array.length_toList];rfl
   have h2:=mD w.drew (.cells arr e (arr.size,arr.size+1))
   have hex:(execOp a.eval o).run P w= .ok (.value (.slice (some ⟨w.heap.size,0,none⟩) st.size cap)) (w.drew.alloc (.cells arr e (arr.size,arr.size+1))):=by
    refine eb (f:=convert src dst (a.eval x)) (by simp only[execOp,ho]) ?_
    rw[pE hx]
    simp[convert,run_underlying hD,run_underlying hS,run_underlying hE,hrun]
   have hfree:jH g w.drew.heap.size .free w.heap.size= .free:=by
    rw[show w.drew.heap.size=w.heap.size from rfl,fD]
   cases obj with
   |false=>
    obtain rfl:=ao.1 he
    refine .inl ⟨_,_,hex,_,β,i1.put o.dst ⟨_,?_,rfl⟩⟩
    simp only[V,du]
    refine⟨_,cap,(bA st).map (Value.int .u8),by rw[hlen],by omega,fun _=>rfl,fun j v hj=>⟨_,_,rfl,?_,?_⟩,lK (E:=s.env (w.drew.alloc (.cells arr e (arr.size,arr.size+1))) (jH g w.drew.heap.size .free) β) _⟩
    ·have:=harr j v hj
     rw[Nat.zero_add]
     show(w.drew.alloc (.cells arr e (arr.size,arr.size+1))).cell? ⟨w.drew.heap.size,j,none⟩=some v
     simp only[World.cell?,h2]
     simpa using this
    ·show lN (jH g w.drew.heap.size .free) w.heap.size (0+j)
     unfold lN
     rw[hfree]
     trivial
   |true=>
    obtain rfl:=ao.1 he
    refine .inl ⟨_,_,hex,_,β,i1.put o.dst ⟨_,?_,rfl⟩⟩
    simp only[V]
    exact⟨w.heap.size,cap,arr,e,by rw[hlen],by omega,hfree,h2,harr⟩
  ·simp only[ai]at he
 ·rename_i e hD hS hne
  clear hne
  split at he
  ·rename_i hE
   obtain⟨l,h1,h2⟩:=al.1 he
   obtain rfl:=ao.1 h2
   obtain⟨cs,hR,hO⟩:=Bc h hx h1
   simp only[du]at hR
   obtain⟨ad,cap,vs,rfl,hlc,hsome,hrow,hch⟩:=hR
   have hO': [Value.slice ad (List.length l) cap]=[a.eval x]:=hO
   have hy:a.eval x= .slice ad (List.length l) cap:=by simpa using hO'.symm
   refine fin (.string (gD l)) ?_ (xu _)
   rw[hy,run_convert_bytes_string w src dst e ad _ _ hS hE hD]
   have hvs:=lI (E:=(s.env w g β).open) (k:= .u8) (vs:=vs) (l:=l) hch
   cases ad with
   |none=>
    have hl0:l=[]:=by
     cases l with
     |nil=>rfl
     |cons _ _=>simp at hsome
    subst hl0
    rfl
   |some ad=>
    have hload:(loadCells ad (List.length l)).run P w= .ok (l.map (Value.int .u8)).toArray w:=by
     have:=run_loadCells_list (P:=P) w ad (l.map (Value.int .u8)) (fun j v hj=>by
      rw[←hvs]at hj
      obtain⟨bb,off,e1,hh⟩:=hrow j v hj
      simp only[Option.some.injEq]at e1
      subst e1
      rw[Addr.add_lit]
      exact hh.1)
     simpa using this
    rw[run_bytesToString w ad _ _ l hload,foldl_push]
    simp[gD]
  ·simp only[ai]at he
 ·simp only[ai]at he
end
end Go.Ab
namespace Go.Ab
section
variable {P:Program} {C:Ctx} {g:Nat→jt} {β:Id→Option Pl} {s:AS} {a:Act} {w:World} {o:Oper}
theorem wS(off:Nat):∀(vs:List Value) (k:Nat) (cells:Array Value),off+k+vs.length≤cells.size→
  ((vs.zipIdx k).foldl (fun cs (c,j)=>cs.setIfInBounds (off+j) c) cells).toList=dF cells.toList (off+k) vs
 |[],k,cells,_=>by simp[dF]
 |v::vs,k,cells,h=>by
  simp only[List.length_cons]at h
  rw[List.zipIdx_cons,List.foldl_cons,wS off vs (k+1) _ (by simpa using(by omega:off+(k+1)+vs.length≤cells.size))]
  rw[Array.toList_setIfInBounds]
  have:=list_seg_step cells.toList (off+k) v vs (by simp;omega)
  unfold dF
  simpa[Nat.add_assoc]using this
theorem wR{place:Nat→Option (Nat×Nat)}{cells:Array Value}{i off:Nat}{v:Value}{vs:List Value}{rest:List (Nat×Value)}(hp:place i=some (off,vs.length))(hv:v.cells=vs.toArray)(hl:off+vs.length≤cells.size):
  Instr.fill place cells ((i,v)::rest)=Instr.fill place (dF cells.toList off vs).toArray rest:=by
 have h1:v.cells.size=vs.length:=by rw[hv];simp
 have h2:¬(v.cells.size≠vs.length || off+v.cells.size > cells.size)=true:=by simp[h1];omega
 simp only[Instr.fill,hp]
 rw[if_neg h2]
 congr 1
 apply Array.ext'
 have:=wS off vs 0 cells (by omega)
 simp only[Nat.add_zero]at this
 rw[←this,hv]
 rw[←Array.foldl_toList]
 simp
theorem nG{E E':Env}(hs:E.s=s.cl)(ho:hP E)(he:cW E E'){t:Ty}(hev:∀x,VS E (s.ev x) (a.eval x)):
  ∀(ps:List (Nat×Operand)) (l:List t.den) (r:List t.den×List Id) (cells:Array Value),(gS t s ps l).eval=some r→HT E E' r.2→bp (du E' t) cells.toList l→
   ∃cells',Instr.fill (fun i=>some (i*t.size,t.size)) cells (ps.map fun(i,x)=>(i,a.eval x))=some cells'∧bp (du E' t) cells'.toList r.1
 |[],l,r,cells,h,_,hc=>by
  obtain rfl:=ao.1 h
  exact⟨cells,rfl,hc⟩
 | (i,x)::ps,l,r,cells,h,hf,hc=>by
  simp only[gS]at h
  obtain⟨h1,h2⟩:=aA.1 h
  obtain⟨y,h3,h4⟩:=al.1 h2
  obtain⟨r',h5,h6⟩:=al.1 h4
  obtain rfl:=ao.1 h6
  have hi:i < l.length:=by simpa using h1
  obtain⟨cs,hV,hO⟩:=(hev x).fa (np h3)
  have hR:=lW hs ho he _ t y cs hV h3 (fun id hid=>hf id (by simp[hid]))
  have hcell:=hO.cells hV.one
  have hlen:=hc.length (fun _ _ hx=>du.size hx)
  have hsz:=hR.size
  have hle:i*t.size+cs.length≤cells.size:=by
   have:=Nat.mul_le_mul_right t.size (show i+1≤l.length by omega)
   rw[Nat.add_mul,Nat.one_mul]at this
   simp at hlen
   omega
  have hset:=bp.set (fun _ _ hx=>du.size hx) hc i hi hR
  obtain⟨cells',q1,q2⟩:=nG hs ho he hev ps (l.set i y) r' (dF cells.toList (i*t.size) cs).toArray h5 (fun id hid=>hf id (by simp[hid])) hset
  refine⟨cells',?_,q2⟩
  rw[List.map_cons,wR (by rw[hsz]) hcell hle]
  exact q1
theorem kP{E:Env}{t:Ty}{zc:Array Value}(hz:du E t zc.toList t.zero):∀n:Nat,bp (du E t) (madeCells zc (n*t.size)).toList (List.replicate n t.zero):=by
 have hsz:zc.size=t.size:=by have:=hz.size;simpa using this
 intro n
 induction n with
 |zero=>simp[madeCells,bp]
 |succ n ih=>
  have e:(madeCells zc ((n+1)*t.size)).toList=(madeCells zc (n*t.size)).toList++zc.toList:=by
   apply List.ext_getElem?
   intro j
   rw[Nat.add_mul,Nat.one_mul]
   simp only[madeCells,Array.toList_map,Array.toList_range,List.getElem?_map,List.getElem?_append,List.length_map,List.length_range]
   by_cases hj:j < n*t.size
   ·have hj':j < n*t.size+t.size:=by omega
    simp[hj,hj',hsz]
   ·by_cases hj':j < n*t.size+t.size
    ·have hlt:j - n*t.size < zc.size:=by omega
     have hm:j%t.size=j - n*t.size:=by
      have:j=(j - n*t.size)+t.size*n:=by rw[Nat.mul_comm t.size n];omega
      rw[this,Nat.add_mul_mod_self_left,Nat.mod_eq_of_lt (by omega)]
      rw[Nat.mul_comm t.size n];omega
     simp[hj,hj',hsz,hm]
     rw[getElem?_pos zc _ hlt,getElem!_pos zc _ hlt]
    ·have h1:¬j - n*t.size < zc.size:=by omega
     simp[hj,hj',h1]
  rw[e,List.replicate_succ']
  exact bp.append ih (bp.one hz)
theorem jO{nl:Bool}{T:TypeId}{e:TypeId}{t:Ty}{b:Nat}(h:om P nl T=some (e,t,b)):
  P.underlying T=some (.slice e)∧0 < t.size∧∃i zv,P.info? e=some i∧i.size=t.size∧i.bytes=b∧i.zero=some zv∧∀E,du E t zv.cells.toList t.zero:=by
 unfold om at h
 split at h
 ·rename_i e' hT
  split at h
  ·rename_i t' ht
   split at h
   ·rename_i hg
    simp only[Option.some.injEq,Prod.mk.injEq]at h
    obtain⟨rfl,rfl,rfl⟩:=h
    simp only[Bool.and_eq_true,Bool.not_eq_true',beq_iff_eq,beq_eq_false_iff_ne]at hg
    obtain⟨⟨h1,h2⟩,h3⟩:=hg
    obtain⟨i,zv,hi,hz,_,_⟩:=lz h3 {w:=default,g:=fun _=> .free,β:=fun _=>none,s:=fun _=>none}
    refine⟨hT,by omega,i,zv,hi,by rw[←iF hi];exact h1,by simp[Program.bytesOf,hi],hz,fun E=> ?_⟩
    obtain⟨i',zv',hi',hz',hV,_⟩:=lz h3 E
    rw[hi]at hi'
    obtain rfl:i=i':=by simpa using hi'
    rw[hz]at hz'
    obtain rfl:zv=zv':=by simpa using hz'
    simpa only[V]using hV
   ·cases h
  ·cases h
 ·cases h
theorem nA{T:TypeId}{e:TypeId}{t:Ty}{b:Nat}(h:tV P T=some (e,t,b)):
  P.underlying T=some (.slice e)∧0 < t.size∧∃i zv,P.info? e=some i∧i.size=t.size∧i.bytes=b∧i.zero=some zv∧∀E,du E t zv.cells.toList t.zero:=jO h
theorem v5{T:TypeId}{e:TypeId}{t:Ty}{b:Nat}(h:xE P T=some (e,t,b)):0 < t.size:=by
 unfold xE at h
 split at h
 ·exact(jO h).2.1
 ·exact(jO h).2.1
theorem Inv.xZ(h:Inv C g β s a w){q:Nat}(hq:s.ef q=true){e:TypeId}{t:Ty}{l:List t.den}{cur:Array Value}{cap:Nat}(hz:0 < t.size)(hc:bp (du (s.env w g β) t) (cur.toList.take (l.length*t.size)) l)
  (hs:cur.size=cap*t.size) (hl:l.length≤cap) (hm:cap≤maxLen):
  ∃g' β',Inv C g' β' (s.born q [.obj 0 false (.vec e t l)]) a (w.alloc (.cells cur e))∧
   VS ((s.born q [.obj 0 false (.vec e t l)]).env (w.alloc (.cells cur e)) g' β') (.cT (.new q 0) 0 [] 0 0 l.length) (.slice (some ⟨w.heap.size,0,none⟩) l.length cap):=by
 have ht:=Trans.alloc w g (.cells cur e) (.own (.id (.new q 0)) 0)
 obtain⟨h1,h2⟩:=h.ur hq (c:= .vec e t l) (p:=some ⟨w.heap.size,cap⟩) ht (fun b hb=>⟨lH w _ hb,fA _ _ _ (by omega)⟩) (fun he=>by
  refine⟨hz,?_⟩
  show(match qh β (.new q 0) (some ⟨w.heap.size,cap⟩) (.new q 0) with
   |none=>l=[]
   |some pl=>_)
  rw[ix]
  exact⟨cur,0,mD w _,hs,hl,hm,fD _ _ _,Nat.zero_le _,fun _=>rfl,hc.mono fun _ _ hx=>hx.mono he.mem⟩)
 refine⟨_,_,h1,_,?_,rfl⟩
 simp only[V]
 refine⟨_,_,rfl,hl,fun _=>rfl,kB hq _ _ _ _,fun _=> ?_⟩
 show(match qh β (.new q 0) (some ⟨w.heap.size,cap⟩) (.new q 0) with
   |some pl=>_
   |none=>_)
 rw[ix]
 exact⟨fun _=>rfl,fun _ _=>rfl⟩
theorem Inv.Et(h:Inv C g β s a w){q:Nat}(hq:s.ef q=true){e:TypeId}{t:Ty}(hz:0 < t.size):
  ∃β',Inv C g β' (s.born q [.obj 0 false (.vec e t [])]) a w∧cW (s.env w g β) ((s.born q [.obj 0 false (.vec e t [])]).env w g β')∧
   VS ((s.born q [.obj 0 false (.vec e t [])]).env w g β') (.cT (.new q 0) 0 [] 0 0 0) (.slice none 0 0):=by
 have ht:=Trans.refl w g
 obtain⟨h1,h2⟩:=h.ur hq (c:= .vec e t []) (p:=none) ht (fun b hb=>⟨rfl,rfl⟩) (fun he=>by
  refine⟨hz,?_⟩
  show(match qh β (.new q 0) none (.new q 0) with
   |none=>([]:List t.den)=[]
   |some pl=>_)
  rw[ix])
 refine⟨_,h1,h2,_,?_,rfl⟩
 simp only[V]
 refine⟨_,_,rfl,Nat.le_refl _,fun hh=>by omega,kB hq _ _ _ _,fun _=> ?_⟩
 simp[AS.env]
theorem sM(parts:Array (Nat×Operand)):(parts.map fun(i,x)=>(i,a.eval x)).toList=parts.toList.map fun(i,x)=>(i,a.eval x):=by simp
theorem tJ(h:Inv C g β s a w){T:TypeId}{n:Nat}{parts:Array (Nat×Operand)}{nl obj:Bool}(ho:o.op= .buildSlice T n parts){s':AS}(he:(iB P s nl obj o.dst T n parts.toList).eval=some s'):fy P o a w (gH C s'):=by
 unfold iB at he
 split at he
 ·rename_i e t b q hel hd
  obtain⟨hT,hz,i,zv,hi,his,hib,hzv,hzr⟩:=jO hel
  obtain⟨h1,h2⟩:=aA.1 he
  obtain⟨r,h3,h4⟩:=al.1 h2
  simp only[decide_eq_true_eq]at h1
  obtain⟨g1,i1,e1,t1,f1⟩:=gq r.2 h
  have hzc:zv.cells.size=t.size:=by have:=(hzr (s.env w g β)).size;simpa using this
  obtain⟨cells',hfill,hch⟩:=nG (a:=a) rfl h.bZ e1 h.ev parts.toList _ r (madeCells zv.cells (n*t.size)) h3 f1 (kP (hzr _) n)
  have hlr:r.1.length=n:=by
   have:∀(ps:List (Nat×Operand)) (l:List t.den) (r:List t.den×List Id),(gS t s ps l).eval=some r→r.1.length=l.length:=by
    intro ps
    induction ps with
    |nil=>intro l r hh;obtain rfl:=ao.1 hh;rfl
    |cons p ps ih=>
     intro l r hh
     obtain⟨i,x⟩:=p
     simp only[gS]at hh
     obtain⟨_,h2⟩:=aA.1 hh
     obtain⟨y,h3,h4⟩:=al.1 h2
     obtain⟨r',h5,h6⟩:=al.1 h4
     obtain rfl:=ao.1 h6
     have:=ih _ _ h5
     simpa using this
   rw[this _ _ _ h3]
   simp
  have hcl:=hch.length (fun _ _ hx=>du.size hx)
  have hrun:(execOp a.eval o).run P w= .ok (.value (.slice (some ⟨w.heap.size,0,none⟩) n n)) (w.alloc (.cells cells' e)):=by
   refine eb (f:=Instr.buildSlice T n (parts.map fun(i,x)=>(i,a.eval x))) (by simp only[execOp,ho]) ?_
   have hbig:¬n*t.size > 2^24:=by omega
   have hfill':Instr.fill (fun i=>some (i*t.size,t.size)) ((Array.range (n*t.size)).map (fun x=>(zv.cells)[x%zv.cells.size]!)) (parts.map fun(i,x)=>(i,a.eval x)).toList=some cells':=by
    rw[sM];exact hfill
   by_cases hn:n*t.size=0
   ·have hn0:n=0:=by
     rcases Nat.mul_eq_zero.1 hn with h' | h'
     ·exact h'
     ·omega
    subst hn0
    simp only[Nat.zero_mul]at hfill' hbig
    have h0:Array.range 0= #[]:=rfl
    rw[h0,Array.map_empty]at hfill'
    simp at hfill'
    simp[Instr.buildSlice,run_underlying hT,run_sizeOf hi,his,newRow,h0,hfill']
   ·simp[Instr.buildSlice,run_underlying hT,run_sizeOf hi,his,newRow,hn,hbig,zeroValue,typeInfo,hi,hzv]
    simp at hfill'
    simp[hfill']
  cases obj with
  |true=>
   simp only at h4
   obtain⟨hq,h5⟩:=aA.1 h4
   obtain rfl:=ao.1 h5
   rw[←lv r.2]at hq
   have hfull:cells'.toList.take (r.1.length*t.size)=cells'.toList:=List.take_of_length_le (by omega)
   obtain⟨g2,β2,i2,hv2⟩:=i1.xZ hq (e:=e) (l:=r.1) (cur:=cells') (cap:=n) hz (by rw[hfull];exact hch) (by simp at hcl;rw[hcl,hlr]) (by omega) (by
    have:n≤n*t.size:=Nat.le_mul_of_pos_right n hz
    unfold maxLen;omega)
   refine .inl ⟨_,_,hrun,g2,β2,?_⟩
   rw[hd]
   rw[hlr]at hv2 ⊢
   exact i2.put (some q) hv2
  |false=>
   simp only at h4
   obtain rfl:=ao.1 h4
   have i2:=i1.pL (.cells cells' e)
   refine .inl ⟨_,_,hrun,jH g1 w.heap.size .free,β,?_⟩
   rw[hd]
   refine i2.put (some q) ⟨[.slice (some ⟨w.heap.size,0,none⟩) n n],?_,rfl⟩
   simp only[V,du]
   refine⟨_,n,cells'.toList,by rw[hlr],by omega,fun _=>rfl,fun j v hj=>⟨_,_,rfl,?_,?_⟩,hch.mono fun _ _ hx=>hx.mono (Trans.mem (E:=(s.bq r.2).env w g1 β) (E':=(s.bq r.2).env (w.alloc (.cells cells' e)) (jH g1 w.heap.size .free) β) (Trans.alloc w g1 (.cells cells' e) .free))⟩
   ·show(w.alloc (.cells cells' e)).cell? ⟨w.heap.size,0+j,none⟩=some v
    rw[World.cell?_alloc_new,Nat.zero_add];simpa using hj
   ·show lN (jH g1 w.heap.size .free) w.heap.size (0+j)
    unfold lN;rw[fD];trivial
 ·simp only[ai]at he
theorem u7(h:Inv C g β s a w){T:TypeId}{x y:Operand}(ho:o.op= .makeSlice T x y){len cap:Int}(hx:(asInt (s.ev x)).eval=some len)(hy:(asInt (s.ev y)).eval=some cap){s':AS}
  (he:(kb P s o.dst T len cap).eval=some s'):fy P o a w (gH C s'):=by
 obtain⟨k,hx⟩:=nO (h.ev x) hx
 obtain⟨k',hy⟩:=nO (h.ev y) hy
 unfold kb at he
 split at he
 ·rename_i e t b q hel hd
  obtain⟨hT,hz,i,zv,hi,his,hib,hzv,hzr⟩:=nA hel
  obtain⟨hq,h2⟩:=aA.1 he
  obtain⟨h3,h4⟩:=bT.1 h2
  obtain rfl:=ao.1 h4
  simp only[Bool.and_eq_true,decide_eq_true_eq,dK]at h3
  obtain⟨⟨h5,h6⟩,h7,h8⟩:=h3
  have hbytes:(i.bytes:Int)*cap≤281474976710656:=by
   rw[hib]
   have:((cap.toNat*b:Nat):Int)≤140737488355328:=by omega
   rw[Int.natCast_mul,show((cap.toNat:Nat):Int)=cap by omega,Int.mul_comm]at this
   omega
  have hr:=run_make (P:=P) w T e i zv hT hi hzv k k' len cap h5 h6 hbytes (by omega)
  rw[his]at hr
  have hzc:zv.cells.size=t.size:=by have:=(hzr (s.env w g β)).size;simpa using this
  have hall:=kP (hzr (s.env w g β)) cap.toNat
  have htk:=bp.take (fun _ _ hx=>du.size hx) len.toNat hall
  rw[List.take_replicate,Nat.min_eq_left (by omega)]at htk
  obtain⟨g2,β2,i2,hv2⟩:=h.xZ hq (e:=e) (l:=List.replicate len.toNat t.zero) (cur:=madeCells zv.cells (cap.toNat*t.size)) (cap:=cap.toNat) hz (by rw[List.length_replicate];exact htk) (size_madeCells _ _) (by rw[List.length_replicate];omega) (by unfold maxLen;omega)
  rw[List.length_replicate]at hv2
  refine .inl ⟨_,_,eb (f:=Instr.makeSlice T (a.eval x) (a.eval y)) (by simp only[execOp,ho]) (by rw[hx,hy];exact hr),g2,β2,?_⟩
  rw[hd]
  exact i2.put (some q) hv2
 ·simp only[ai]at he
end
end Go.Ab
