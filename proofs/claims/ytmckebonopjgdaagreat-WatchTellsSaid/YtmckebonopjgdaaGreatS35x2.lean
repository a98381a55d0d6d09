/-
  Made short by a program of mine (wip/tools/mini.py).
-/
import Derived.Test.YtmckebonopjgdaaGreatS35x1
import Derived.Lib.Builder
import Derived.Lib.UnsafeStr
import Derived.Lib.AppendZeros
import Derived.Maps.RangeRun
import Derived.Scope
import Derived.Laws.Externs
import Derived.KernelRfl
import Derived.ProofKit
import Derived.OpenShut
import Derived.Deep.Slices
import Derived.Carry
set_option linter.defProp false
set_option linter.unusedVariables false
set_option linter.unusedSimpArgs false
set_option maxRecDepth 100000
set_option synthInstance.maxSize 5000
open Go renaming IntKind->mA,FuncId->fX,TypeId->bk,Value->bh,Operand->cD,Program->bg,World->cG,MapEntry->gR
open List renaming replicate->ag,length->aa
open BitVec renaming ofInt->bF
open Nat renaming beq->jR
open Go.World renaming cell?->gh
open Go.Sem renaming run_bind->fe
open Go.Result renaming andThen_ok->dL
open Go.Op renaming equalIn->fL,operands->cX
open OfNat renaming ofNat->dN
open Int renaming toNat->ae
open Sum renaming getLeft?->dv
open Option renaming some->aw,none->aC
open Bool renaming true->bn,false->aZ
noncomputable section
namespace Go.Ab
abbrev Ren:=Id->Nat->Option (Id×Nat)
structure FK(ρ:Ren)(E E':Env):Prop where
 mem:yA E E'
 ref:∀id ver r,ρ id ver=aw r->E.Oi id ver->E'.Oi r.1 r.2/\(E'.cur r.1 r.2->E.cur id ver/\E'.β r.1=E.β id)
theorem aOp(ρ:Ren)(a:aF):(a.jz ρ).agg=a.agg:=by
 cases a with
 |ptr id v p n=>simp[aF.jz];cases ρ id v <;> rfl
 |dq id v p c i l=>simp[aF.jz];cases ρ id v <;> rfl
 |iI id v=>simp[aF.jz];cases ρ id v <;> rfl
 |yl id v=>simp[aF.jz];cases ρ id v <;> rfl
 |_=>rfl
mutual
theorem aAV{ρ:Ren}{E E':Env}(h:FK ρ E E'):∀ {a:aF} {cs:List bh},V E a cs->V E' (a.jz ρ) cs
 | .undef,_,j=>by simp only[V]at j
 | .gone,_,j=>by simpa only[aF.jz,V]using j
 | .fR,_,j=>by simpa only[aF.jz,V]using j
 | .qW,_,j=>by simpa only[aF.jz,V]using j
 | .Cw,_,j=>by simpa only[aF.jz,V]using j
 | .JA,_,j=>by simpa only[aF.jz,V]using j
 | .sb l,_,j=>by simp only[aF.jz,V]at j ⊢;obtain⟨b,cap,T,e,A,h2,h3,h4,h5⟩:=j;obtain⟨h6,h7⟩:=h.mem.fz b _ h3 h4;exact⟨b,cap,T,e,A,h2,h6,h7,h5⟩
 | .d t x,_,j=>by simp only[aF.jz,V]at j ⊢;exact j.mono h.mem
 | .pr a b,_,j=>by simp only[aF.jz,V]at j ⊢;obtain⟨ca,cb,e,ha,B⟩:=j;exact⟨ca,cb,e,aAV h ha,aAV h B⟩
 | .ptr id u p n,_,j=>by
  have A:=j.one;simp only[aF.jz];cases J:ρ id u with
  |none=>
   simp only[V]at j ⊢;obtain⟨a,e,_⟩:=j;exact⟨_,e,A _ (by simp[e])⟩
  |some r=>
   simp only[V]at j ⊢;obtain⟨a,e,B,I⟩:=j;obtain⟨K,L⟩:=h.ref id u r J B;refine⟨a,e,K,λc=> ?_⟩;obtain⟨M,O⟩:=L c;rw[O];exact I M
 | .iU t x,_,j=>by simp only[aF.jz,V]at j ⊢;obtain⟨b,off,vs,e,J,hx⟩:=j;exact⟨b,off,vs,e,J.mono h.mem,hx.mono h.mem⟩
 | .dq id u p c i len,_,j=>by
  have A:=j.one;simp only[aF.jz];cases J:ρ id u with
  |none=>
   simp only[V]at j ⊢;obtain⟨a,cap,e,_⟩:=j;exact⟨_,e,A _ (by simp[e])⟩
  |some r=>
   simp only[V]at j ⊢;obtain⟨a,cap,e,hl,hs,B,I⟩:=j;obtain⟨K,L⟩:=h.ref id u r J B;refine⟨a,cap,e,hl,hs,K,λc=> ?_⟩;obtain⟨M,O⟩:=L c;rw[O];exact I M
 | .fn f c,_,j=>by simp only[aF.jz,V]at j ⊢;obtain⟨vs,e,I⟩:=j;exact⟨vs,e,aG3 h I⟩
 | .cons _ _,_,j=>by simp only[V]at j
 | .nil,_,j=>by simp only[V]at j
 | .vec ..,_,j=>by simp only[V]at j
 | .bx ..,_,j=>by simp only[V]at j
 | .yl id u,_,j=>by
  have A:=j.one;simp only[aF.jz];cases J:ρ id u with
  |none=>
   simp only[V]at j ⊢;obtain⟨b,e,_⟩:=j;exact⟨_,e,A _ (by simp[e])⟩
  |some r=>
   simp only[V]at j ⊢;obtain⟨b,e,B,I⟩:=j;obtain⟨K,L⟩:=h.ref id u r J B;refine⟨b,e,K,λc=> ?_⟩;obtain⟨M,O⟩:=L c;rw[O];exact I M
 | .iI id u,_,j=>by
  have A:=j.one;simp only[aF.jz];cases J:ρ id u with
  |none=>
   simp only[V]at j ⊢;obtain⟨b,e,_⟩:=j;exact⟨_,e,A _ (by simp[e])⟩
  |some r=>
   simp only[V]at j ⊢;obtain⟨b,e,B,I⟩:=j;obtain⟨K,L⟩:=h.ref id u r J B;refine⟨b,e,K,λc=> ?_⟩;obtain⟨M,O⟩:=L c;rw[O];exact I M
 | .mp ..,_,j | .xB ..,_,j | .BO ..,_,j=>by simp only[V]at j
theorem aG3{ρ:Ren}{E E':Env}(h:FK ρ E E'):∀ {a:aF} {vs:List bh},VC E a vs->VC E' (a.jz ρ) vs
 | .nil,_,j=>by simpa only[aF.jz,VC]using j
 | .cons a b,_,j=>by simp only[aF.jz,VC]at j ⊢;obtain⟨v,u,cs,e,A,I,B⟩:=j;exact⟨v,u,cs,e,aAV h A,by rw[aOp];exact I,aG3 h B⟩
 | .undef,_,j=>by simp only[VC]at j
 | .gone,_,j=>by simp only[VC]at j
 | .fR,_,j=>by simp only[VC]at j
 | .qW,_,j=>by simp only[VC]at j
 | .Cw,_,j=>by simp only[VC]at j
 | .yl ..,_,j | .BO ..,_,j=>by simp only[VC]at j
 | .JA,_,j=>by simp only[VC]at j
 | .sb _,_,j=>by simp only[VC]at j
 | .d t x,_,j=>by simp only[VC]at j
 | .pr a b,_,j=>by simp only[VC]at j
 | .ptr ..,_,j=>by simp only[VC]at j
 | .iU ..,_,j=>by simp only[VC]at j
 | .dq ..,_,j=>by simp only[VC]at j
 | .fn ..,_,j=>by simp only[VC]at j
 | .vec ..,_,j=>by simp only[VC]at j
 | .bx ..,_,j=>by simp only[VC]at j
 | .iI ..,_,j=>by simp only[VC]at j
 | .mp ..,_,j | .xB ..,_,j=>by simp only[VC]at j
end
theorem Pz{ρ:Ren}{E E':Env}(h:FK ρ E E'){a:aF}{v:bh}(A:VS E a v):VS E' (a.jz ρ) v:=by
 by_cases j:a.fF=bn
 .obtain⟨cs,u,B⟩:=A.fF j;exact VS.of (aAV h u) (by grind [aOp])
 .cases a <;> first | (exact absurd rfl j) | skip
  all_goals grind [aG3,aF.jz,V,VS]
theorem aFh(ρ:Ren):∀f:aF,(f.jz ρ).list=f.list.map (aF.jz ρ)
 | .cons a b=>by simp[aF.jz,aF.list,aFh ρ b]
 | .undef | .gone | .fR | .qW | .Cw | .JA | .d _ _ | .iU _ _ | .fn _ _ | .pr _ _ | .nil | .vec .. | .sb _ | .bx .. | .mp .. | .xB .. | .BO .. =>rfl
 | .ptr id j p n=>by grind [aF.jz,aF.list]
 | .dq id j p c i u=>by grind [aF.jz,aF.list]
 | .iI id j=>by grind [aF.jz,aF.list]
 | .yl id j=>by grind [aF.jz,aF.list]
def aG1{ρ:Ren}{E E':Env}(h:FK ρ E E'){f:aF}{tmps:Array bh}(j:Jh E f tmps):Jh E' (f.jz ρ) tmps:=by grind [aFh,Pz,VS.undef,Jh]
theorem aSX(ρ:Ren)(c:aF):(c.jz ρ).strip=c.strip.jz ρ:=by
 cases c <;> first
  |rfl
  |grind [aF.strip,aF.jz]
  |grind [aF.jz]
  |grind [aF.jz]
def acG(ρ:Ren):∀c:aF,(c.jz ρ).size=c.size
 | .pr a b=>by simp[aF.jz,aF.size,acG ρ a,acG ρ b]
 | .ptr id j p n=>by grind [aF.jz,aF.size]
 | .dq id j p c i u=>by grind [aF.jz,aF.size]
 | .iI id j=>by grind [aF.jz,aF.size]
 | .undef | .gone | .fR | .qW | .Cw | .JA | .d _ _ | .iU _ _ | .fn _ _ | .cons _ _ | .nil | .vec .. | .sb _ | .bx .. | .mp .. | .xB .. | .BO .. =>rfl
 | .yl id j=>by grind [aF.jz,aF.size]
theorem aVY(ρ:Ren){c:aF}(n:Nat):(c.jz ρ).FT n=c.FT n:=by
 cases c with
 |bx e z c=>cases z with
  |zero=>rfl
  |succ z=>exact acG ρ c
 |_=>first | rfl | (simp only[aF.jz];split <;> rfl)
def aPE(ρ:Ren){c:aF}{pl:Pl}{n:Nat}{e:bk}(h:c.PQ pl n e):(c.jz ρ).PQ pl n e:=by
  cases c <;> first
    | (rename_i A z c;cases z with
       |zero=>exact h
       |succ z=>exact⟨h.1,h.2.1,h.2.2.1,by rw[acG];exact h.2.2.2⟩)
    |exact h
    |trivial
    | (rename_i id j p n;simp[aF.jz];cases ρ id j <;> trivial)
    | (rename_i id j p c i u;simp[aF.jz];cases ρ id j <;> trivial)
    | (rename_i i v;simp[aF.jz];cases ρ i v <;> trivial)
def Cj{ρ:Ren}{E E':Env}(h:FK ρ E E'){id id':Id}{fr:Bool}{c:aF}(I:FJ E id fr c)(hβ:E'.β id'=E.β id)
  (M:∀pl,E.β id=aw pl->E'.w.heap[pl.b]? =E.w.heap[pl.b]? /\(∀k,E.g pl.b= .own (.id id) k->E'.g pl.b= .own (.id id') k)/\(E.g pl.b= .free->E'.g pl.b= .free)):FJ E' id' fr (c.jz ρ):=by
 by_cases hn:c.lg=aZ
 .obtain⟨pl,cur,e,B,K,j,L,A⟩:=I.box hn;obtain⟨O,u,b3⟩:=M pl B;have T:=aAV h A;refine Zc.obj ⟨pl,cur,e,by grind,by grind,?_,aPE ρ L,by grind [aSX,aVY]⟩;cases fr with
  |true=>exact b3 j
  |false=>exact u 0 j
 .cases c <;> first
   | (exact absurd rfl hn)
   |skip
  rotate_left;rotate_left
  .obtain⟨pl,mb,since,seen,c0,B,K,j,_⟩:=I;obtain⟨O,u,_⟩:=M pl B;exact⟨pl,mb,since,seen,c0,by grind,by grind,u 0 j,λvr ax5=>by grind⟩
  .obtain⟨pl,r,B,K,j,A,L,T⟩:=I;obtain⟨O,u,_⟩:=M pl B;exact⟨pl,r,by grind,by grind,u 0 j,A,aG1 h L,T⟩
  rotate_left
  .obtain⟨pl,es,J,B,K,j,A⟩:=I;obtain⟨O,u,_⟩:=M pl B;exact⟨pl,es,J,by grind,by grind,u 0 j,⟨A.1.1.mono h.mem,A.1.2⟩,A.2⟩
  obtain⟨hz,I⟩:=I;refine⟨hz,?_⟩;rw[hβ];cases hp:E.β id with
  |none=>grind
  |some pl=>
   rw[hp]at I;obtain⟨O,u,_⟩:=M pl hp;obtain⟨cur,k,B,K,j,A,L,T,h7,h8⟩:=I;exact⟨cur,k,by grind,K,j,A,u k L,T,h7,h8.mono λc x hx=>hx.mono h.mem⟩
def CW(E:Env):List aF->List bh->Prop
 |[],[]=>True
 |a::as,v::vs=>VS E a v/\CW E as vs
 |_,_=>False
def hZ.st(G:hZ):AS:= {cR:=[],cO:=G.cO,news:=[G.news]}
def gz(cO:List dR):AS:= {cR:=[],cO,news:=[]}
def Ao(E:Env)(G:hZ)(v:bh)(w':cG):Prop:=∃j β',VS (G.st.env w' j β') G.val v/\jH (G.st.env w' j β')/\Trans E.w w' E.g j/\df E (G.st.env w' j β')
def tD(P:bg)(f:fX)(u:Entry):Prop:=∀w g β args cO j x,CW ((gz cO).env w g β) args j->jH ((gz cO).env w g β)->u.run args cO=aw x->((callFunc f j.toArray).run P w= .ok (.enter f j.toArray) w/\Calls P f j.toArray w λe w'=>∃v,e= .returned v/\Ao ((gz cO).env w g β) (u.out args cO x) v w')\/(∃v w',(callFunc f j.toArray).run P w= .ok (.value v) w'/\Ao ((gz cO).env w g β) (u.out args cO x) v w')
def Ob(P:bg)(y:Nat)(u:Entry):Prop:=∀w g β args cO A x,CW ((gz cO).env w g β) args A->jH ((gz cO).env w g β)->u.run args cO=aw x->∀l j B f rd n,A= .func (.yield l) #[] #[]::(j++B)->aa j=(Hw P y).ps.size->RoundIn (Fr rd) n P l f (((Hw P y).ps.zip j.toArray).foldl (λtmps (t,a)=>tmps.setIfInBounds t a) B.toArray) (Hw P y).as (Hw P y).b w λe w'=>∃v,e= .returned v/\Ao ((gz cO).env w g β) (u.out args cO x) v w'
def Zd(P:bg)(f:fX)(u:Entry):Prop:=∀w g β args cO j,CW ((gz cO).env w g β) args j->jH ((gz cO).env w g β)->(∃x,u.set args cO x)->(callFunc f j.toArray).run P w= .ok (.enter f j.toArray) w/\Calls P f j.toArray w λe w'=>∃v x,e= .returned v/\u.set args cO x/\Ao ((gz cO).env w g β) (u.out args cO x) v w'
def yw(P:bg)(f:Nat)(j:Entry):Prop:=(Nat.blt f yB=bn->tD P f j)/\(Nat.ble yB f=bn->Ob P f j)/\(Nat.blt f yB=bn->Zd P f j)
def yw.no{f:Nat}(j:Nat.blt f yB=bn)(u:Nat.ble yB f=bn):False:=jb _ (Nat.lt_of_lt_of_le (fG j) (fG u))
def yw.of{P:bg}{f:fX}{j:Entry}(h:tD P f j)(A:Nat.blt f yB=bn)(B:∀a o x,¬j.set a o x:=by exact λ_ _ _ h=>h):yw P f j:=
 ⟨λ_=>h,λu=>(yw.no A u).elim,λ_ _ _ _ _ _ _ _ _ ⟨x,I⟩=>(B _ _ x I).elim⟩
def yw.bqG{P:bg}{f:fX}{u:Entry}(h:Ob P f u)(A:Nat.ble yB f=bn):yw P f u:=⟨λj=>(yw.no j A).elim,λ_=>h,λj=>(yw.no j A).elim⟩
def yw.bpe{P:bg}{f:fX}{j:Entry}(h:Zd P f j)(B:Nat.blt f yB=bn)(I:∀a o,j.run a o=aC:=by exact λ_ _=>rfl):yw P f j:=
 ⟨λ_ _ _ _ _ _ _ _ _ _ u=>(by rw[I]at u;cases u),λA=>(yw.no B A).elim,λ_=>h⟩
def Sound(P:bg)(Γ:qN):Prop:=∀f vs j,Γ f vs=aw j->yw P f j
def CW.jz{ρ:Ren}{E E':Env}(h:FK ρ E E'):∀ {as:List aF} {vs:List bh},CW E as vs->CW E' (as.map (aF.jz ρ)) vs
 |[],[],_=>trivial
 |_::_,_::_,⟨h1,h2⟩=>⟨Pz h h1,CW.jz h h2⟩
def CW.append{E:Env}:∀ {as:List aF} {vs:List bh} {bs:List aF} {j:List bh},CW E as vs->CW E bs j->CW E (as++bs) (vs++j)
 |[],[],_,_,_,h=>h
 |_::_,_::_,_,_,⟨h1,h2⟩,h=>⟨h1,CW.append h2 h⟩
def aww{E:Env}:∀ {c:aF} {vs:List bh},VC E c vs->CW E c.list vs
 | .cons a b,vs,h=>by obtain⟨v,I,cs,rfl,u,B,A⟩:=h;exact⟨VS.of u B,aww A⟩
 | .nil,vs,h=>by subst h;trivial
 | .undef,_,j=>by grind [VC]
 | .gone,_,j=>by grind [VC]
 | .fR,_,j=>by grind [VC]
 | .qW,_,j=>by grind [VC]
 | .Cw,_,j=>by grind [VC]
 | .yl ..,_,j | .BO ..,_,j=>by grind [VC]
 | .JA,_,j=>by grind [VC]
 | .sb _,_,j=>by grind [VC]
 | .d t x,_,j=>by grind [VC]
 | .pr a b,_,j=>by grind [VC]
 | .ptr ..,_,j=>by grind [VC]
 | .iU ..,_,j=>by grind [VC]
 | .dq ..,_,j=>by grind [VC]
 | .fn ..,_,j=>by grind [VC]
 | .vec ..,_,j=>by grind [VC]
 | .bx ..,_,j=>by grind [VC]
 | .iI ..,_,j=>by grind [VC]
 | .mp ..,_,j | .xB ..,_,j=>by grind [VC]
def Inv.bm8{C:Ctx}{g:Nat->pP}{β:Id->Option Pl}{s:AS}{a:Act}{w:cG}(h:Inv C g β s a w):∀l:List cD,CW (s.env w g β) (l.map s.ev) (l.map a.eval)
 |[]=>trivial
 |x::l=>⟨h.ev x,h.bm8 l⟩
def KG{E E':Env}{s:AS}(M:E.s=s.cH)(L:jH E)(J:df E E'):∀(u:List (Option Ty)) (vs:List aF) (j:List bh) (r:List aF×List Id),CW E vs j->(s.conv u vs).eval=aw r->bky E E' r.2->CW E' r.1 j
 |[],[],j,r,A,h,_=>by grind [AS.conv,aM,CW]
 |some t::u,v::vs,y::j,r,⟨A,aCZ⟩,h,hf=>by
  obtain⟨x,T,h2⟩:=aI.1 h;obtain⟨K,B,I⟩:=aI.1 h2;obtain rfl:=aM.1 I;obtain⟨cs,hV,hO⟩:=A.fF (Sy T);refine⟨VS.of (cs:=cs) ?_ ?_,KG M L J u vs j K aCZ B λid O=>hf id (bZ.2 (.inr O))⟩
  .grind [V,Hd,bky]
  .show gv t.agg cs y;grind [aGj]
 |none::u,v::vs,y::j,r,⟨A,aCZ⟩,h,hf=>by obtain⟨K,B,I⟩:=aI.1 h;obtain rfl:=aM.1 I;exact⟨A.mono J,KG M L J u vs j K aCZ B hf⟩
 |[],_::_,_,_,_,h,_=>by grind [AS.conv,aG]
 |some _::_,[],_,_,_,h,_=>by grind [AS.conv,aG]
 |none::_,[],_,_,_,h,_=>by grind [AS.conv,aG]
end Go.Ab
namespace Go.Ab
theorem sG{id:Id}:∀ {ids:List Id} {k:Nat},idxOf id ids=aw k->ids[k]? =aw id
 |[],_,h=>by simp[idxOf]at h
 |x::xs,k,h=>by
  simp only[idxOf]at h;split at h
  .rename_i e;simp only[cn]at h;subst h e;rfl
  .simp only[fb]at h;obtain⟨j,u,rfl⟩:=h;simpa using sG u
def Cs{id:Id}:∀ {ids:List Id} {k:Nat},ids.Nodup->ids[k]? =aw id->idxOf id ids=aw k
 |[],_,_,h=>by grind
 |x::xs,0,hn,h=>by grind [idxOf]
 |x::xs,k+1,hn,h=>by
  obtain⟨j,u⟩:=db.1 hn;have A:x≠id:=λe=>j (e▸eK h)
  simp[idxOf,A,Cs u h]
theorem Kf(A:AS)(j:List Id)(t:Nat):∀(ids:List Id) (u:List dR) (s:AS),(AS.kS A j t s ids u).cR=s.cR
 |[],_,_=>by simp[AS.kS]
 |_::_,[],_=>by simp[AS.kS]
 |id::ids,e::u,s=>by rw[AS.kS,Kf A j t ids u,dF]
theorem ap0(s:AS)(ids:List Id)(t:Nat)(j:List dR):(s.made ids t j).cR=s.cR:=by cases j <;> rfl
def P8(u:AS)(j:List Id)(t:Nat):∀(ids:List Id) (A:List dR) (s:AS),ids.Nodup->aa A=aa ids->(∀id∈ids,s.cH id≠aC)->
  (∀id,id ∉ ids->(AS.kS u j t s ids A).cH id=s.cH id)/\
  ∀(k:Nat) (id:Id) (e:dR),ids[k]? =aw id->A[k]? =aw e->(AS.kS u j t s ids A).cH id=aw (u.wH j t (u.Hk id) e)
 |[],A,s,_,_,_=>⟨λ_ _=>by simp[AS.kS],λk id e h=>by grind⟩
 |_::_,[],s,_,hl,_=>by grind
 |i::ids,e::A,s,hn,hl,hp=>by
  obtain⟨K,I⟩:=db.1 hn;have B:∀id∈ids,(s.bD i (u.wH j t (u.Hk i) e)).cH id≠aC:=λid J=>by grind [dz]
  obtain⟨L,M⟩:=P8 u j t ids A (s.bD i (u.wH j t (u.Hk i) e)) I (by grind) B;grind [AS.kS,dz,fq]
def aCu(s:AS)(ids:List Id)(t:Nat)(u:List dR)(A:u=[]\/s.ff t=bn):
  (∀id,(u=[]\/∀j,id≠ .new t j)->(s.made ids t u).cH id=s.cH id)/\(u≠ []->∀j,(s.made ids t u).cH (.new t j)=(u[j]?).map (s.wH ids t 0)):=by
 cases u with
 |nil=>simp[AS.made]
 |cons e u=>
  grind [j9,AS.made,Eh,tx]
def vj(ids:List Id):pP->pP
 | .free=> .free
 | .own .gK n=> .own .gK n
 | .own (.id i) n=>match idxOf i ids with | some k=> .own (.id (.dx k)) n | none=> .own .gK n
def H8(β:Id->Option Pl)(ids:List Id):Id->Option Pl
 | .dx k=>(ids[k]?).bind β
 | .new _ _=>aC
def y4(g:Nat->pP)(j:Nat)(ids:List Id)(t:Nat)(b:Nat):pP->pP
 | .free=> .free
 | .own .gK n=>if b < j then g b else .own .gK n
 | .own (.id i) n=> .own (.id (bhJ ids t i)) n
def Cz(β β':Id->Option Pl)(ids:List Id)(t:Nat)(some?:Bool)(id:Id):Option Pl:=
 match idxOf id ids with
 |some k=>β' (.dx k)
 |none=>match id with
  | .new i j=>if i=t/\some?=bn then β' (.new 0 j) else β (.new i j)
  |id=>β id
def aYt{ids:List Id}{l:pP}{off:Nat}(h:EF (λ_=>l) 0 off):EF (λ_=>vj ids l) 0 off:=by
 cases l with
 |free=>trivial
 |own o k=>cases o with
  |gK=>exact h
  |id i=>simp only[vj];cases idxOf i ids <;> exact h
section
variable {P:bg} {C:Ctx} {g:Nat->pP} {β:Id->Option Pl} {s:AS} {a:Act} {w:cG} {o:Oper}
def aX7(ids:List Id):
  FK (s.CJ ids) (s.env w g β) ((gz (ids.map (s.pk ids))).env w (λb=>vj ids (g b)) (H8 β ids)):=by
 refine⟨⟨λb off v ⟨j,B⟩=>⟨j,?_⟩,λb O j B=>⟨by show vj ids (g b)= .free;have j:g b= .free:=j;rw[j];rfl,B⟩⟩,λid L r u _=> ?_⟩
 .exact aYt (l:=g b) B
 .unfold AS.CJ at u;split at u
  .rename_i k v fr c J K;split at u
   .rename_i A;simp at u;subst u A;have M:=sG J;have I:=gA K;refine⟨⟨?_,λ_ _ _ _=>az _⟩,λ_=>⟨⟨fr,c,I⟩,?_⟩⟩
    .show(ids.map (s.pk ids))[k]? ≠aC
     grind
    .show(ids[k]?).bind β=β id;grind
   grind
  grind
def aNm(ids:List Id)(T:ids.Nodup)(h:jH (s.env w g β)):jH ((gz (ids.map (s.pk ids))).env w (λb=>vj ids (g b)) (H8 β ids)):=by
 intro id K fr c B;have B:(gz (ids.map (s.pk ids))).cH id=aw (.obj K fr c):=B;cases id with
 |new i j=>grind [gz,AS.cH]
 |dx k=>
  simp[gz,AS.cH]at B;obtain⟨A,O,I⟩:=B;unfold AS.pk at I;split at I
  .rename_i v J L M;simp at I;obtain⟨rfl,rfl,rfl⟩:=I;refine Cj (aX7 ids) (h A v J L M) (by show(ids[k]?).bind β=β A;grind) λpl hp=>⟨rfl,λn u=> ?_,λu=> ?_⟩
   .have u:g pl.b= .own (.id A) n:=u;show vj ids (g pl.b)=_;rw[u];simp[vj,Cs T O]
   .have u:g pl.b= .free:=u;show vj ids (g pl.b)=_;rw[u];rfl
  grind
def akF(h:Inv C g β s a w){ids:List Id}(hn:ids.Nodup)(hp:∀id∈ids,∃r,s.obj id=aw r)(axV:∀id∈ids,s.aes id=bn){G:hZ}{t:Nat}(hl:G.cO.length=aa ids)(hv:G.news=[]\/s.ff t=bn){v:bh}{w':cG}
  (ha:Ao ((gz (ids.map (s.pk ids))).env w (λb=>vj ids (g b)) (H8 β ids)) G v w'):
  ∃g' β',Inv C g' β' (AS.kS s ids t (s.made ids t G.news) ids G.cO) a w'/\VS ((AS.kS s ids t (s.made ids t G.news) ids G.cO).env w' g' β') (G.val.jz (s.A2 ids t)) v:=by
 obtain⟨T,β1,Hv,bhG,O,hle⟩:=ha;have O:Trans w w' (λb=>vj ids (g b)) T:=O;obtain⟨m1,m2⟩:=aCu s ids t G.news hv;have bqt:∀id∈ids,s.cH id≠aC:=λid K=>by grind [AS.obj]
 have ai2:∀id,s.cH id≠aC->G.news=[]\/∀j,id≠ .new t j:=λid K=>by
  rcases hv with hv | hv
  .exact .inl hv
  .exact .inr λj e=>K (by simp_all [tx])
 obtain⟨n1,n2⟩:=P8 s ids t ids G.cO (s.made ids t G.news) hn hl (λid K=>by grind);have bo2:∀j,G.news≠ []->Id.new t j ∉ ids:=λj jV K=>by grind
 generalize arb:AS.kS s ids t (s.made ids t G.news) ids G.cO=M at*;have hgO:∀(k:Nat) (id:Id),ids[k]? =aw id->∃e,G.cO[k]? =aw e/\M.cH id=aw (s.wH ids t (s.Hk id) e):=λk id hk=>by grind [AS.Hk,AS.obj]
 have hgN:G.news≠ []->∀j,M.cH (.new t j)=(G.news[j]?).map (s.wH ids t 0):=λjV j=>by grind
 have hgS:∀id,id ∉ ids->(G.news=[]\/∀j,id≠ .new t j)->M.cH id=s.cH id:=λid h1 h2=>by grind
 have hverOf:∀id∈ids,∃fr c,s.cH id=aw (.obj (s.Hk id) fr c):=λid K=>by grind [AS.Hk,AS.obj]
 have brh:∀b n,b < w.heap.size->T b= .own .gK n->(g b= .own .gK n\/∃i,g b= .own (.id i) n/\idxOf i ids=aC):=λb n hb hg=>by
  have h1:=O.aiW b hb;cases bjb:g b with
  |free=>grind [vj]
  |own o k=>cases o with
   |gK=>grind [vj]
   |id i=>
    grind [vj]
 let g2:Nat->pP:=λb=>y4 g w.heap.size ids t b (T b)
 let β2:Id->Option Pl:=Cz β β1 ids t (!G.news.isEmpty)
 have hβO:∀k id,ids[k]? =aw id->β2 id=β1 (.dx k):=λk id hk=>by show Cz _ _ _ _ _ id=_;simp[Cz,Cs hn hk]
 have hβN:G.news≠ []->∀j,β2 (.new t j)=β1 (.new 0 j):=λjV j=>by grind [Cz,sG]
 have hβS:∀id,id ∉ ids->(G.news=[]\/∀j,id≠ .new t j)->β2 id=β id:=λid h1 h2=>by
  show Cz _ _ _ _ _ _=_;have:idxOf id ids=aC:=by
   cases hi:idxOf id ids with
   |none=>rfl
   |some k=>exact absurd (eK (sG hi)) h1
  cases id with
  |dx k=>grind [Cz]
  |new i j=>
   grind [Cz]
 have bmb:Trans w w' g g2:=by refine⟨O.os,O.tape,O.output,O.size,λb hb=> ?_⟩;have h1:=O.aiW b hb;grind [y4,vj,gh]
 have Ge:yA (G.st.env w' T β1) (M.env w' g2 β2):=by
  refine⟨λb off v ⟨h1,h2⟩=> ?_,λb ob h1 h2=>⟨by show y4 g w.heap.size ids t b (T b)= .free;have h1:T b= .free:=h1;rw[h1];rfl,h2⟩⟩;refine⟨h1,?_⟩;have h2:EF T b off:=h2;show EF g2 b off;unfold EF at h2 ⊢;show match y4 g w.heap.size ids t b (T b) with | .free=>True | .own _ k=>off < k
  cases bjb:T b with
  |free=>simp[y4]
  |own o k=>
   rw[bjb]at h2;cases o with
   |gK=>
    grind [y4]
   |id i=>exact h2
 have B:∀(base:Nat) (e:dR) (u:Nat) (fr:Bool) (c:aF),s.wH ids t base e= .obj u fr c->∃v0 c0,e= .obj v0 fr c0/\u=base+v0/\c=c0.jz (s.A2 ids t):=λbase e u fr c he=>by
  cases e with
  |dead=>cases he
  |obj v0 fr0 c0=>
   grind [AS.wH]
 have axZ:FK (s.A2 ids t) (G.st.env w' T β1) (M.env w' g2 β2):=by
  refine⟨Ge,λid u r hr hb=> ?_⟩;cases id with
  |dx k=>
   obtain⟨I,J⟩:=hb;have I:G.cO[k]? ≠aC:=I
   have hk:k < aa ids:=by grind
   have K:ids[k]? =aw ids[k]:=cS hk
   simp only[AS.A2,K,cn]at hr;subst hr;obtain⟨e,agV,L⟩:=hgO k _ K;refine⟨⟨by show M.cH _≠aC;grind,λv fr c A=> ?_⟩,λ⟨fr,c,A⟩=>⟨?_,hβO k _ K⟩⟩
   .have A:M.cH ids[k]=aw (.obj v fr c):=A;rw[L,cn]at A;obtain⟨v0,c0,rfl,rfl,_⟩:=B _ _ _ _ _ A;have:=J v0 fr c0 agV;omega
   .have A:M.cH ids[k]=aw (.obj (s.Hk ids[k]+u) fr c):=A;rw[L,cn]at A;obtain⟨v0,c0,rfl,bkP,_⟩:=B _ _ _ _ _ A;obtain rfl:u=v0:=aq;exact⟨fr,c0,agV⟩
  |new i j=>
   simp only[AS.A2,cn]at hr;subst hr;obtain⟨I,J⟩:=hb;have I:([G.news].getD i [])[j]? ≠aC:=I
   have J:∀v fr c,([G.news].getD i [])[j]? =aw (.obj v fr c)->u<=v:=J
   cases i with
   |succ i=>simp at I
   |zero=>
    simp only[List.getD_cons_zero]at I J;have jV:G.news≠ []:=λe=>by grind
    obtain⟨e,he⟩:=Option.ne_none_iff_exists'.1 I;have L:=hgN jV j;rw[he,kB]at L;refine⟨⟨by show M.cH (.new t j)≠aC;grind,λv fr c A=> ?_⟩,λ⟨fr,c,A⟩=>⟨?_,hβN jV j⟩⟩
    .have A:M.cH (.new t j)=aw (.obj v fr c):=A;grind
    .have A:M.cH (.new t j)=aw (.obj u fr c):=A;rw[L,cn]at A;obtain⟨v0,c0,rfl,bkP,_⟩:=B _ _ _ _ _ A;obtain rfl:u=v0:=aq;exact⟨fr,c0,he⟩
 have blV:df (s.env w g β) (M.env w' g2 β2):=by
  refine⟨Trans.mem bmb,λid u hb=> ?_,λid u hb hc=> ?_⟩
  .obtain⟨I,J⟩:=hb;have I:s.cH id≠aC:=I;have J:∀v fr c,s.cH id=aw (.obj v fr c)->u<=v:=J;by_cases K:id∈ids
   .obtain⟨k,hk⟩:=mB.1 K;obtain⟨e,agV,L⟩:=hgO k id hk;obtain⟨fr1,c1,ax2⟩:=hverOf id K;refine⟨by show M.cH _≠aC;grind,λv fr c A=> ?_⟩;have A:M.cH id=aw (.obj v fr c):=A;grind
   .have:=hgS id K (ai2 id I);exact⟨by show M.cH _≠aC;grind,λv fr c A=>J v fr c (this.symm.trans A)⟩
  .obtain⟨I,J⟩:=hb;have I:s.cH id≠aC:=I;have J:∀v fr c,s.cH id=aw (.obj v fr c)->u<=v:=J;obtain⟨fr,c,A⟩:=hc;have A:M.cH id=aw (.obj u fr c):=A;by_cases K:id∈ids
   .obtain⟨k,hk⟩:=mB.1 K;obtain⟨e,agV,L⟩:=hgO k id hk;obtain⟨fr1,c1,ax2⟩:=hverOf id K;rw[L,cn]at A;obtain⟨v0,c0,rfl,bkP,_⟩:=B _ _ _ _ _ A;have bmd:=J _ _ _ ax2;obtain rfl:v0=0:=aq;have hver':u=s.Hk id:=aq;refine⟨⟨fr1,c1,by rw[hver'];exact ax2⟩,?_⟩;show β2 id=β id;rw[hβO k id hk];have aGV:s.pk ids id= .obj 0 fr1 (c1.jz (s.CJ ids)):=by grind [AS.pk]
    have h0:((gz (ids.map (s.pk ids))).env w (λb=>vj ids (g b)) (H8 β ids)).Oi (.dx k) 0:=by
     refine⟨?_,λ_ _ _ _=>az _⟩;show(ids.map (s.pk ids))[k]? ≠aC
     simp[hk]
    have:=(hle.cur (.dx k) 0 h0 ⟨fr,c0,agV⟩).2;have this:β1 (.dx k)=(ids[k]?).bind β:=this;grind
   .have:=hgS id K (ai2 id I);exact⟨⟨fr,c,this.symm.trans A⟩,hβS id K (ai2 id I)⟩
 have bl1:jH (M.env w' g2 β2):=by
  intro id u fr c A;have A:M.cH id=aw (.obj u fr c):=A;by_cases K:id∈ids
  .obtain⟨k,hk⟩:=mB.1 K;obtain⟨e,agV,L⟩:=hgO k id hk;rw[L,cn]at A;obtain⟨v0,c0,rfl,_,rfl⟩:=B _ _ _ _ _ A;refine Cj axZ (bhG (.dx k) v0 fr c0 agV) (hβO k id hk) λpl _=>⟨rfl,λn hg=> ?_,λhg=> ?_⟩
   .have hg:T pl.b= .own (.id (.dx k)) n:=hg;show y4 g w.heap.size ids t pl.b (T pl.b)=_;grind [y4,bhJ]
   .have hg:T pl.b= .free:=hg;show y4 g w.heap.size ids t pl.b (T pl.b)=_;rw[hg];rfl
  .by_cases jV:G.news≠ []/\∃j,id= .new t j
   .obtain⟨jV,j,rfl⟩:=jV;rw[hgN jV j,fb]at A;obtain⟨e,he,A⟩:=A;obtain⟨v0,c0,rfl,_,rfl⟩:=B _ _ _ _ _ A;refine Cj axZ (bhG (.new 0 j) v0 fr c0 (by show([G.news].getD 0 [])[j]? =_;grind)) (hβN jV j) λpl _=>⟨rfl,λn hg=> ?_,λhg=> ?_⟩
    .have hg:T pl.b= .own (.id (.new 0 j)) n:=hg;show y4 g w.heap.size ids t pl.b (T pl.b)=_;rw[hg];rfl
    .have hg:T pl.b= .free:=hg;show y4 g w.heap.size ids t pl.b (T pl.b)=_;rw[hg];rfl
   .have bqs:G.news=[]\/∀j,id≠ .new t j:=by grind
    rw[hgS id K bqs]at A;have same:∀id,id ∉ ids->∀u fr c,s.cH id=aw (.obj u fr c)->∀pl,β id=aw pl->w'.heap[pl.b]? =w.heap[pl.b]? /\y4 g w.heap.size ids t pl.b (T pl.b)=g pl.b:=by
     intro id K u fr c A pl adq;obtain⟨hb,blU⟩:=(h.cd id u fr c A).label (pl:=pl) adq;have hb:pl.b < w.heap.size:=hb;have h1:=O.aiW pl.b hb;have brn:idxOf id ids=aC:=by grind [eK,sG,Cz]
     rcases blU with⟨k,hk⟩ | ⟨_,hk⟩
     .have hk:g pl.b= .own (.id id) k:=hk;grind [vj,y4]
     .have hk:g pl.b= .free:=hk;grind [vj,y4]
    have ho:=h.cd id u fr c A;refine ho.mono blV (hβS id K bqs) (λpl adq=>same id K u fr c A pl adq) λq2 vq k2 v2 l2 ax1 _=> ?_
    have ax1:s.cH q2=aw (.obj vq bn (.mp k2 v2 l2)):=ax1;have bjl:q2 ∉ ids:=λhm=>by grind [AS.obj,AS.aes]
    refine⟨⟨k2,v2,l2,?_⟩,λpl adq=>same q2 bjl vq bn _ ax1 pl adq⟩;show M.cH q2=_;grind
 have aQT:M.cR=s.cR:=by grind [Kf,ap0]
 exact⟨g2,β2,h.step aQT bmb blV bl1,Pz axZ Hv⟩
end
end Go.Ab
namespace Go.Ab
def xX(s:AS):∀(n:Nat) (j acc:List Id),acc.Nodup->(s.reach n j acc).Nodup
 | 0,_,acc,h=>by grind [AS.reach]
 |_+1,[],acc,h=>by grind [AS.reach]
 |n+1,id::j,acc,h=>by
  rw[AS.reach];split
  .exact xX s n j acc h
  .refine xX s n _ _ ?_
   grind
def H5(s:AS)(vs:List aF):(s.aum vs).Nodup:=xX s _ _ _ (by simp)
section
variable {P:bg} {C:Ctx} {g:Nat->pP} {β:Id->Option Pl} {s:AS} {a:Act} {w:cG} {o:Oper}
theorem aBc(h:Inv C g β s a w){ids:List Id}(hn:ids.Nodup)(A:s.aNu ids=bn){G:hZ}{s':AS}(j:(s.back ids o.dst G).eval=aw s'){v:bh}{w':cG}
  (ha:Ao ((gz (ids.map (s.pk ids))).env w (λb=>vj ids (g b)) (H8 β ids)) G v w'):jO C s' (a.put o.dst v) w':=by
 have hp:∀id∈ids,∃r,s.obj id=aw r:=λid M=>by have:=eA.1 A id M;grind [dA]
 have I:∀id∈ids,s.aes id=bn:=λid M=>by have:=eA.1 A id M;grind
 cases J:o.dst with
 |some t=>
  rw[J]at j;obtain⟨u,j⟩:=ba.1 j;obtain rfl:=aM.1 j;simp at u;obtain⟨T,u⟩:=u;have L:G.news=[]\/s.ff t=bn:=by grind
  obtain⟨O,β2,K,h2⟩:=akF h hn hp I T L ha;exact⟨O,β2,K.put (aw t) h2⟩
 |none=>
  rw[J]at j;obtain⟨u,j⟩:=ba.1 j;obtain rfl:=aM.1 j;simp at u;obtain⟨T,u⟩:=u;have B:G.news=[]:=by grind
  obtain⟨O,β2,K,_⟩:=akF (t:=0) h hn hp I T (.inl B) ha;rw[B]at K;exact⟨O,β2,K⟩
def ad2(h:Inv C g β s a w){u:Entry}{ids:List Id}(I:ids.Nodup){vs:List aF}{K:List bh}(M:CW (s.env w g β) vs K)
  {J:AS} (j:(s.enter u o.dst ids vs).eval=aw J):∃x,u.run (vs.map (aF.jz (s.CJ ids))) (ids.map (s.pk ids))=aw x/\
   CW ((gz (ids.map (s.pk ids))).env w (λb=>vj ids (g b)) (H8 β ids)) (vs.map (aF.jz (s.CJ ids))) K/\
   jH ((gz (ids.map (s.pk ids))).env w (λb=>vj ids (g b)) (H8 β ids))/\
   ∀v w',Ao ((gz (ids.map (s.pk ids))).env w (λb=>vj ids (g b)) (H8 β ids)) (u.out (vs.map (aF.jz (s.CJ ids))) (ids.map (s.pk ids)) x) v w'->jO C J (a.put o.dst v) w':=by
 unfold AS.enter at j;obtain⟨A,j⟩:=ba.1 j;obtain⟨x,O,j⟩:=alN.1 j;obtain⟨T,B,j⟩:=aI.1 j;rw[u.aOB _ _ B]at j;exact⟨x,O,CW.jz (aX7 ids) M,aNm ids I h.cd,λv w' L=>aBc h I A j L⟩
def aIc(h:Inv C g β s a w){f:fX}{B:Entry}(T:tD P f B){ids:List Id}(hn:ids.Nodup){vs:List aF}{A:List bh}(hv:CW (s.env w g β) vs A)
  (hr:(execOp a.eval o).run P w=(callFunc f A.toArray).run P w) {J:AS} (u:(s.enter B o.dst ids vs).eval=aw J):iu P o a w (jO C J):=by
 obtain⟨x,hx,L,M,key⟩:=ad2 h hn hv u;rcases T _ _ _ _ _ _ _ L M hx with⟨j,O⟩ | ⟨v,w',K,I⟩
 .exact .inr (.inr (.inl ⟨f,A.toArray,w,hr.trans j,O.mono λe w' ⟨v,u,I⟩=>⟨v,u,key v w' I⟩⟩))
 grind [iu]
def aPM(h:Inv C g β s a w){c:Call}{F:cD}{f:fX}{j:aF}{I:Entry}(ho:o.op= .call c)(hc:c.callee= .value F)(hF:s.ev F= .fn f j)(hd:tD P f I){J:AS}
  (he:(s.call I o.dst (c.args.toList.map s.ev++j.list)).eval=aw J):iu P o a w (jO C J):=by
 obtain⟨L,args,B⟩:=c;obtain⟨vs,hy,u⟩:=alU (hF▸h.ev F);have K:=(h.bm8 args.toList).append (aww u);have hr:(execOp a.eval o).run P w=(callFunc f (args.toList.map a.eval++vs).toArray).run P w:=by
  have A:execOp a.eval o=(do let d <-resolve a.eval {callee:= .value F,args,argTypes:=B} o.type;invoke d.target d.args):=by grind [execOp]
  rw[A];simp[resolve,hy,Deferred.ofValue,invoke];congr 2;simp
 obtain⟨r,O,T⟩:=aI.1 he;obtain⟨g',i1,A,_,M⟩:=fZ r.2 h;exact aIc i1 hd (H5 _ _) (KG rfl h.cd A _ _ _ r K O M) hr T
def atV{X R:Type}{S:X->Prop}{k:X->Option R}{r:R}(h:alF S k=aw r):(∃x,S x)/\∀x,S x->k x=aw r:=by
 unfold alF at h;split at h
 all_goals grind
def agu(h:Inv C g β s a w){f:fX}{I:Entry}(hd:Zd P f I){vs:List aF}{u:List bh}(O:CW (s.env w g β) vs u){R:Type}{k:AS->Option R}{r:R}
  (L:s.aMP I o.dst vs k=aw r):(callFunc f u.toArray).run P w= .ok (.enter f u.toArray) w/\Calls P f u.toArray w λe w'=>∃v,e= .returned v/\∃M,jO C M (a.put o.dst v) w'/\k M=aw r:=by
 obtain⟨r2,h0,L⟩:=jE.1 L;obtain⟨j,h1,J⟩:=aI.1 h0;obtain⟨T,J⟩:=ba.1 J;obtain rfl:=aM.1 J;obtain⟨g',i1,e1,_,f1⟩:=fZ j.2 h;have hn:=H5 (s.bP j.2) j.1;have hv:=KG rfl h.cd e1 _ _ _ j O h1 f1;obtain⟨hx,hk⟩:=atV L;obtain⟨c1,c2⟩:=hd _ _ _ _ _ _ (CW.jz (aX7 _) hv) (aNm _ hn i1.cd) hx;refine⟨c1,c2.mono λe w' ⟨v,x,A,hs,ha⟩=>⟨v,A,?_⟩⟩;obtain⟨M,K,h5⟩:=jE.1 (hk x hs);obtain⟨x0,B,K⟩:=aI.1 K;rw[I.aOB _ _ B]at K;grind [aBc]
def aHG(h:Inv C g β s a w){c:Call}{F:cD}{f:fX}{j:aF}{B:Entry}(ho:o.op= .call c)(hc:c.callee= .value F)(T:s.ev F= .fn f j)(hd:Zd P f B){R:Type}{k:AS->Option R}{r:R}
  (he:s.aMP B o.dst (c.args.toList.map s.ev++j.list) k=aw r):iu P o a w λJ w'=>∃I,jO C I J w'/\k I=aw r:=by
 obtain⟨M,args,A⟩:=c;obtain⟨vs,hy,u⟩:=alU (T▸h.ev F);obtain⟨K,L⟩:=agu h hd ((h.bm8 args.toList).append (aww u)) he;refine .inr (.inr (.inl ⟨f,(args.toList.map a.eval++vs).toArray,w,Eq.trans ?_ K,L⟩));have O:execOp a.eval o=(do let d <-resolve a.eval {callee:= .value F,args,argTypes:=A} o.type;invoke d.target d.args):=by grind [execOp]
 rw[O];simp[resolve,hy,Deferred.ofValue,invoke];congr 2;simp
def Jh.bsk{E:Env}{f:aF}{tmps:Array bh}(h:Jh E f tmps):CW E f.list tmps.toList:=by
 obtain⟨I,J⟩:=h;have A:∀(l:List aF) (j:List bh),aa l=aa j->(∀i,VS E (l.getD i .undef) (j.getD i undef))->CW E l j:=by
  intro l
  induction l with
  |nil=>grind [CW]
  |cons x l B=>intro j K u;cases j with
   |nil=>grind
   |cons y j=>exact⟨by simpa using u 0,B j (by grind) λi=>by simpa using u (i+1)⟩
 simp_all
def aMr(h:Inv C g β s a w){c:Call}{F:cD}{id:Id}{M:Nat}{T:Ax}{f:aF}{en:Entry}(ho:o.op= .call c)(hc:c.callee= .value F)
  (u:s.yielded (s.ev F) c.args.size=aw (id,M,T,f)) (K:T=Hw P T.y) (hd:yw P T.y en) {s':AS}
  (L:(s.call en o.dst (.yl id M::(c.args.toList.map s.ev++f.list))).eval=aw s'):iu P o a w (jO C s'):=by
 obtain⟨cal,args,tys⟩:=c;simp only at hc L u;subst hc;unfold AS.yielded at u;split at u;rotate_left
 .cases u
 rename_i id' ver' I;split at u;rotate_left
 .cases u
 rename_i v c0 f0 tW;split at u;rotate_left
 .cases u
 rename_i B;simp only[cn,kX]at u;obtain⟨rfl,rfl,rfl,rfl⟩:=u;simp only[aQ,lZ]at B;obtain⟨⟨rfl,Hu⟩,hy⟩:=B;have eG:=gA tW;have hv:=h.ev F;rw[I]at hv;obtain⟨cs,hV,hO⟩:=hv;simp only[V]at hV;obtain⟨l,rfl,hb,jU⟩:=hV;have J:a.eval F= .func (.yield l) #[] #[]:=by simpa[gv,aF.agg]using hO.symm
 obtain⟨pl,O,rfl⟩:=jU ⟨aZ,_,eG⟩;obtain⟨j,r,A,hh,hg,⟨q1,q2,q3⟩,aQT,u7⟩:=h.cd id' v aZ _ eG;have A:β id'=aw j:=A;have O:β id'=aw pl:=O;rw[A]at O;obtain rfl:j=pl:=by simpa using O
 have hh:w.heap[j.b]? =aw (.loop r):=hh
 have U7:CW (s.env w g β) (.yl id' v::(args.toList.map s.ev++f0.list)) (.func (.yield j.b) #[] #[]::(args.toList.map a.eval++r.tmps.toList)):=
  ⟨by rw[<-J,<-I];exact h.ev F,(h.bm8 args.toList).append aQT.bsk⟩
 have hr:(execOp a.eval o).run P w= .ok (.round j.b r.fn ((c0.ps.zip (args.toList.map a.eval).toArray).foldl (λtmps (t,a)=>tmps.setIfInBounds t a) r.tmps.toList.toArray) c0.as c0.b) w:=by
  have e1:execOp a.eval o=(do let d <-resolve a.eval {callee:= .value F,args,argTypes:=tys} o.type;invoke d.target d.args):=by simp only[execOp,ho]
  have e2:=run_yield (P:=P) (args:=args.map a.eval) hh (by simpa[q1]using Hu);rw[q1,q2,q3]at e2;rw[e1];simp only[resolve,J,Deferred.ofValue,fe,Sem.run_pure,dL,invoke];have e3:(args.toList.map a.eval).toArray=args.map a.eval:=by apply FH;simp
  rw[e3];simpa using e2
 unfold AS.call at L;obtain⟨r2,h1,h2⟩:=aI.1 L;obtain⟨g',i1,e1,_,f1⟩:=fZ r2.2 h;obtain⟨x,hx,k1,k2,key⟩:=ad2 i1 (H5 _ _) (KG rfl h.cd e1 _ _ _ r2 U7 h1 f1) h2;refine .inr (.inr (.inr ⟨j.b,r.fn,_,c0.as,c0.b,w,hr,λrd n=> ?_⟩));have:=hd.2.1 hy _ _ _ _ _ _ x k1 k2 hx j.b (args.toList.map a.eval) r.tmps.toList r.fn rd n rfl (by rw[<-K];simpa using Hu);rw[<-K]at this;exact this.mono λe w' ⟨v,L,ha⟩=>⟨v,L,key v w' ha⟩
end
end Go.Ab
namespace Go.Ab
section
variable {P:bg} {C:Ctx} {g:Nat->pP} {β:Id->Option Pl} {s:AS} {a:Act} {w:cG} {o:Oper}
def yF{b:Builtin}{args:Array cD}{u:Array bk}{F:bk->Array bh->Sem bh}{x:bh}{w':cG}{j:AS}(L:o.op= .call {callee:= .builtin b,args,argTypes:=u})
  (J:∀ty cs A,builtin b u ty cs A=(do pure (.value (<-F ty A)))) (K:∀ty,(F ty (args.map a.eval)).run P w= .ok x w') (I:∃B β',Inv C B β' j (a.put o.dst x) w'):iu P o a w (jO C j):=by
 refine .inl ⟨x,w',?_,I⟩;simp[execOp,L,resolve,invoke];rw[J,fe,K];rfl
def blc{c:Call}{b:Builtin}{x:cD}(I:c.callee= .builtin b)(B:c.args.toList=[x]):c= {callee:= .builtin b,args:= #[x],argTypes:=c.argTypes}:=by
 obtain⟨j,args,A⟩:=c;have u:args= #[x]:=by grind
 grind
theorem aVr{c:Call}{b:Builtin}{x y:cD}(I:c.callee= .builtin b)(B:c.args.toList=[x,y]):c= {callee:= .builtin b,args:= #[x,y],argTypes:=c.argTypes}:=by
 obtain⟨j,args,A⟩:=c;have u:args= #[x,y]:=by grind
 grind
def bpA{j:Array bk}{T:bk}(h:j.toList=[T]):j= #[T]:=by grind
theorem bmO{j:Array bk}{T U:bk}(h:j.toList=[T,U]):j= #[T,U]:=by grind
theorem aWc(h:Inv C g β s a w){c:Call}{x:cD}{T e:bk}(j:o.op= .call c)(I:c.callee= .builtin .cap)(B:c.args.toList=[x])(J:c.argTypes.toList=[T])(K:s.ev x= .fR)(L:P.underlying T=aw (.slice e)):
  iu P o a w (jO C (s.put o.dst (.d (.int .i64) (0:Int)))):=by
 rw[blc I B,bpA J]at j;have u:=h.ev x;rw[K]at u;have M:=nv u;refine yF j (F:=λty A=>Builtin.cap_ #[T] ty A) (λty cs A=>rfl) (x:= .int .i64 0) (w':=w) (λty=> ?_) ⟨g,β,h.put o.dst (pV _ _)⟩;simp_all [Builtin.cap_,run_underlying,goInt]
theorem aDy(h:Inv C g β s a w){c:Call}{L:Bool}(K:o.op= .call c)(T:c.callee= .builtin (if L then .max else .min)){v:aF}(J:(aRm L (c.args.toList.map s.ev)).eval=aw v):iu P o a w (jO C (s.put o.dst v)):=by
 unfold aRm at J;split at J
 .rename_i k x k' y j;obtain⟨h1,M⟩:=ba.1 J;obtain rfl:=aM.1 M;have I:∃p q,c.args.toList=[p,q]/\s.ev p= .d (.int k) x/\s.ev q= .d (.int k) y:=by
   match hh:c.args.toList,j with
   |[p,q],j=>grind
   |[],j=>grind
   |[_],j=>grind
   |_::_::_::_,j=>grind
  obtain⟨p,q,O,hp,hq⟩:=I;rw[aVr T O]at K;have A:=h.ev p;have u:=h.ev q;rw[hp]at A;rw[hq]at u;have ep:=MH A;have eq:=MH u;cases L with
  |true=>
   refine yF K (F:=λty B=>Builtin.max_ c.argTypes ty B) (λty cs B=>rfl) (x:= .int k (if x < y then y else x)) (w':=w) (λty=> ?_) ⟨g,β,h.put o.dst (pV _ _)⟩;simp_all [Builtin.max_,Builtin.max2]
  |false=>
   refine yF K (F:=λty B=>Builtin.min_ c.argTypes ty B) (λty cs B=>rfl) (x:= .int k (if y < x then y else x)) (w':=w) (λty=> ?_) ⟨g,β,h.put o.dst (pV _ _)⟩;simp_all [Builtin.min_,Builtin.min2]
 grind [aG]
theorem aQM(h:Inv C g β s a w){c:Call}{x y:cD}{T X:bk}{k:mA}{n:Int}(ho:o.op= .call c)(hc:c.callee= .builtin .append)(ha:c.args.toList=[x,y])(ht:c.argTypes.toList=[T,X])(hx:s.ev x= .fR)(hy:s.ev y= .d (.int k) n){s':AS}
  (M:(aCK P s o.dst T X n).eval=aw s'):iu P o a w (jO C s'):=by
 rw[aVr hc ha,bmO ht]at ho;have j:=h.ev x;have B:=h.ev y;rw[hx]at j;rw[hy]at B;have ex:=nv j;have ey:=MH B;unfold aCK at M;split at M
 .rename_i e t b q kn L hd hX;obtain⟨hT,hz,i,I,hi,aUW,bje,J,u⟩:=Jt L;obtain⟨hq,h2⟩:=ba.1 M;obtain⟨h3,h4⟩:=cV.1 h2;obtain rfl:=aM.1 h4;simp[aQ,bJ,cM]at h3;obtain⟨h5,h7,h8⟩:=h3;obtain⟨m,rfl⟩:=Int.eq_ofNat_of_zero_le (Int.le_of_lt h5);have bqB:I.cells.size=t.size:=by have:=(u (s.env w g β)).size;grind
  have O:=λty=>Go.Lib.run_append_nil_zeros (P:=P) w T X ty e i I k kn hT hX hi J m aq (by grind) aq (by grind)
  obtain⟨cap,K⟩:∃cap,grownCap w m 0 e=cap:=⟨_,rfl⟩;have c1:m<=cap:=by grind [grownCap_ge]
  have c2:cap<=maxLen:=by grind [grownCap_le_maxLen,maxLen]
  rw[K]at O;obtain⟨cur,jU⟩:∃cur,Builtin.zeroCells I.cells m++Builtin.zeroCells I.cells (cap - m)=cur:=⟨_,rfl⟩;rw[jU]at O;have s1:cur.size=cap*t.size:=by rw[<-jU,Array.size_append,Hq,Hq,<-gT];grind
  have aan:=zN (u (s.env w.drew g β)) m;have s2:cur.toList.take (m*t.size)=(madeCells I.cells (m*t.size)).toList:=by grind [madeCells,Builtin.zeroCells]
  obtain⟨g2,β2,i2,A⟩:=(h.drew).ayz hq (e:=e) (l:=ag m t.zero) (cur:=cur) (cap:=cap) hz (by grind) s1 (by grind) c2;rw[cT]at A;refine yF ho (F:=λty xs=>Builtin.append_ #[T,X] ty xs) (λty cs xs=>rfl) (λty=> ?_) ⟨g2,β2,i2.put o.dst A⟩;rw[show(#[x,y].map a.eval)= #[a.eval x,a.eval y] by simp,ex,ey];exact O ty
 grind [aG]
end
end Go.Ab
namespace Go.Ab
section
variable {P:bg} {C:Ctx} {g:Nat->pP} {β:Id->Option Pl} {s:AS} {a:Act} {w:cG} {o:Oper}
theorem aDv(h:Inv C g β s a w){c:Call}{T T2:bk}{m k:cD}(gE:o.op= .call c)(hc:c.callee= .builtin .delete)(ha:c.args.toList=[m,k])(ht:c.argTypes.toList=[T,T2]){s':AS}(J:(MN P s T (s.ev m) (s.ev k)).eval=aw s'):iu P o a w (jO C (s'.put o.dst .nil)):=by
 have gE:o.op= .call {callee:= .builtin .delete,args:= #[m,k],argTypes:= #[T,T2]}:=by grind [aVr,bmO]
 unfold MN at J;split at J
 .rename_i K V' L vt id ver hm hx;obtain⟨l,h1,J⟩:=aI.1 J;obtain⟨kx,h2,J⟩:=aI.1 J;obtain⟨bnv,J⟩:=ba.1 J;obtain rfl:=aM.1 J;obtain⟨hT,hK,_⟩:=H6 hm;have M:=h.ev m;rw[hx]at M;obtain⟨fr,pl,es,B,g1,g2,g3,g4,g5,g6,g7,gn⟩:=EA h h1 M;obtain⟨l0,g6,gp⟩:=g6;have U8:=Ga depth K L hK;have hk:=M3 (h.ev k) h2;have O:=sk (P:=P) (w:=w) es.isEmpty depth K L hK 10000 fm _ _ hk;obtain⟨r,hf,hr⟩:=Xz (P:=P) (w:=w) hK hk g6
  have fin:∀(I:Array gR) (A:Nat),(∀ty,(Builtin.delete_ #[T,T2] ty (#[m,k].map a.eval)).run P w= .ok (.tuple #[]) {w with heap:=w.heap.setIfInBounds pl.b (.map I A)})->Alike (LX (s.env w g β) L vt) I.toList (fV L kx l0)->oI I.toList A->
    iu P o a w (jO C ((s.bD id (.obj ver aZ (.mp L vt (fV L kx l)))).put o.dst .nil)):=λI A vg beF blE=>
   yF (F:=λty xs=>Builtin.delete_ #[T,T2] ty xs) gE (λ_ _ _=>rfl) vg ⟨g,β,(h.bbr g1 g2 g4 g5 ⟨_,beF,amJ U8 gn gp⟩ (Qy U8 gn) blE bnv).put o.dst rfl⟩
  cases r with
  |none=>
   refine fin es B (λty=> ?_) (by grind [fV]) g7;simp[Builtin.delete_,run_underlying hT,g3,Go.MapKept.run_getObj_map g4,O,hf,Go.MapKept.run_setObj_map _ g4]
  |some u=>
   obtain⟨j,u⟩:=u;obtain⟨e,m1,m2,rfl⟩:=hr;refine fin (es.eraseIdxIfInBounds j) B (λty=> ?_) ?_ (by grind [Array.toList_eraseIdxIfInBounds,oI])
   .simp[Builtin.delete_,run_underlying hT,g3,Go.MapKept.run_getObj_map g4,O,hf,Go.MapKept.run_setObj_map _ g4]
   .simp[fV,m1];exact g6.erase j
 grind [aG]
theorem aA7{Γ:qN}(hΓ:Sound P Γ){cd:List Nat}(h:Inv C g β s a w){B:AS}(j:(Ak P Γ cd o s).eval=aw B):iu P o a w (jO C B):=by
 unfold Ak at j;split at j
 .grind [aM,auw]
 .grind [aM,auw]
 .grind [aI,aM,aRP]
 .grind [ba,aM,aHa,aG]
 .grind [aVZ]
 .grind [aHD]
 .grind [aiX]
 .grind [aI,aM,aRb]
 .grind [aI,aM,aLH]
 .grind [arR]
 .grind [aI,aM,aHm]
 .grind [aI,aM,aUb]
 .grind [aI,aM,axd]
 .grind [ba,aM,arL]
 .grind [aI,amD]
 .grind [aI,aM,aLu]
 .grind [aI,aM,alS]
 .grind [aI,aM,aIg]
 .grind [aI,aM,amb]
 .grind [aI,aM,aIJ]
 .grind [aI,aM,axB]
 .grind [ayu]
 .grind [aI,aM,aDq]
 .grind [aI,aM,aDx]
 .rename_i c J;split at j
  .grind [aI,aM,aDv,aG]
  .grind [aP7,aG]
  .grind [aI,aM,aYB,aG]
  .grind [aQM,aA9,aG]
  .grind [aM,aWc,aG]
  .grind [aI,aM,aDy]
  .grind [aI,aM,aDy]
  .rename_i F M;split at j
   .rename_i f A L;split at j
    .rename_i I u;obtain⟨K,j⟩:=ba.1 j;exact aPM h J M L ((hΓ f _ I u).1 K) j
    grind [aG]
   grind [aG]
  grind [aG]
 grind [aG]
end
end Go.Ab
namespace Go.Ab
def Ap(P:bg)(ops:Array Oper)(o:Oper)(a:Act)(w:cG)(K:Act->cG->Prop):Prop:=if Region.wanted o (yielded ops a.tmps) then iu P o a w K else K (a.put o.dst undef) w
def Ap.mono{P:bg}{ops:Array Oper}{o:Oper}{a:Act}{w:cG}{K j:Act->cG->Prop}(h:Ap P ops o a w K)(u:∀a w,K a w->j a w):Ap P ops o a w j:=by
 unfold Ap at*;split
 .rename_i A;rw[av A]at h;exact h.mono u
 grind
def Ap.wpListIn{r:Option Nat}{n:Nat}{P:bg}{ops:Array Oper}{o:Oper}{a:Act}{w:cG}{Q:Exit->Act->cG->Prop}{l:List Oper}(h:Ap P ops o a w (wpListIn (Fr r) n P ops Q l)):Go.wpListIn (Fr r) n P ops Q (o::l) a w:=by
 unfold Ap at h;unfold Go.wpListIn;split
 .rename_i j;rw[av j]at h;exact h.wpIn
 .rename_i j;rw[au j]at h;exact⟨λ_ _=>trivial,h⟩
def Ap.wpOpIn{r:Option Nat}{n:Nat}{P:bg}{ops:Array Oper}{o:Oper}{i:Nat}{a:Act}{w:cG}{Q:Exit->Act->cG->Prop}{K:Act->cG->Prop}(u:ops[i]? =Option.some o)(h:Ap P ops o a w K):Go.wpOpIn (Fr r) n P ops Q i K a w:=by
 unfold Ap at h;unfold Go.wpOpIn;simp[u];split
 .rename_i j;rw[av j]at h;exact h.wpIn
 .rename_i j;rw[au j]at h;exact⟨λ_ _=>trivial,h⟩
theorem aZK{s:AS}{q:Nat}{v:aF}(h:s.slot q=v)(u:q < aa s.cR):s.put (aw q) v=s:=by
 have j:s.cR[q]=v:=by grind [AS.slot]
 simp[AS.put];rw[<-j,iE]
theorem aOy{s:AS}{q:Nat}{t:Ty}{x:t.den}(h:s.slot q= .d t x):q < aa s.cR:=by grind [AS.slot]
def Ue(P:bg)(Γ:qN)(cd:List Nat)(ops:Array Oper)(o:Oper)(s:AS):Option AS:=
 match o.guard with
 |none=>(Ak P Γ cd o s).eval
 |some (j,u)=>match(ops[j]?).bind (·.dst) with
  |some q=>match s.slot q with
   | .d .bool b=>if b=u then(Ak P Γ cd o s).eval else aw (s.put o.dst .nil)
   | .nil=>aw (s.put o.dst .nil)
   |_=>aC
  |none=>aC
def aCJ{R:Type}{P:bg}{Γ:qN}{cd:List Nat}{ops:Array Oper}{o:Oper}{s:AS}{k:AS->Option R}{r:R}(h:beA P Γ cd ops o s k=aw r):∃u,Ue P Γ cd ops o s=aw u/\k u=aw r:=by
 unfold beA at h;unfold Ue;split at h
 .grind [jE]
 .rename_i j A B;simp[B];grind [aZK,aOy,aA,jE]
section
variable {P:bg} {C:Ctx} {g:Nat->pP} {β:Id->Option Pl} {s:AS} {a:Act} {w:cG} {o:Oper}
def aMs(h:Inv C g β s a w){ops:Array Oper}{j q:Nat}{b:Bool}(I:(ops[j]?).bind (·.dst)=aw q)(A:s.slot q= .d .bool b):yielded ops a.tmps j=aw b:=by have u:=h.cR q;rw[A]at u;have u:=ajF u;have B:=aOy A;rw[<-h.size]at B;simp_all [yielded]
def aGT(h:Inv C g β s a w){ops:Array Oper}{j q:Nat}(B:(ops[j]?).bind (·.dst)=aw q)(A:s.slot q= .nil):yielded ops a.tmps j=aC:=by
 have u:=h.cR q;rw[A]at u;have u:a.tmps.getD q undef= .tuple #[]:=u;unfold yielded;split
 all_goals simp_all
def at7{Γ:qN}(hΓ:Sound P Γ){cd:List Nat}{ops:Array Oper}(h:jO C s a w){K:AS}(u:Ue P Γ cd ops o s=aw K):Ap P ops o a w (jO C K):=by
 obtain⟨g,β,h⟩:=h;unfold Ue at u;unfold Ap;split at u
 .grind [Region.wanted,aA7]
 .rename_i j A M;split at u
  .rename_i q J;split at u
   .rename_i b B;have L:=aMs h J B;have I:Region.wanted o (yielded ops a.tmps)=(b==A):=by grind [Region.wanted]
    rw[I];by_cases e:b=A
    .grind [aA7]
    .rw[au e]at u;rw[au (by simp[e])];simp at u;subst u;exact⟨g,β,h.put o.dst rfl⟩
   .rename_i B;have L:=aGT h J B;have I:Region.wanted o (yielded ops a.tmps)=aZ:=by grind [Region.wanted]
    rw[I];simp at u;subst u;exact⟨g,β,h.put o.dst rfl⟩
   grind
  grind
def aTq{R:Type}{c c':Ax}{x:Option R}{r:R}(h:same c c' x=aw r):c=c'/\x=aw r:=by grind [same]
def aNE{R:Type}{x y:Option R}{r:R}(h:nd x y=aw r):x=aw r/\y=aw r:=by grind [nd]
def aJi(h:Inv C g β s a w){x y:cD}{n:Nat}(hn:ans s x y=aw n){T:bk}(O:KK.isSl P T=bn):∃b,(0 < n->b=aZ)/\(Op.equal T (a.eval x) (a.eval y)).run P w= .ok b w/\
  wP (a.eval x)=aZ/\a.eval x≠ .nilIface/\∀L,binOp L T (a.eval x) (a.eval y)=(match L with | .eql=>do pure (.bool (<-Op.equal T (a.eval x) (a.eval y))) | .neq=>do pure (.bool (!(<-Op.equal T (a.eval x) (a.eval y)))) | _=>binOp L T (a.eval x) (a.eval y)):=by
 have A:=h.ev x;have B:=h.ev y;unfold KK.isSl at O;split at O <;> try (cases O;done)
 rename_i e M;unfold ans at hn;split at hn
 .rename_i t l I J;rw[I]at A;rw[J]at B;obtain⟨u,cap,vs,K,_,hs,_⟩:=zT A;have j:=nv B;rw[K,j];refine⟨u.isNone,λhp=> ?_,?_,rfl,by simp,λL=>by grind [binOp]⟩
  .simp_all
  .cases u with
   |none=>exact iS λd=>by simp[fL,run_underlying M]
   |some u=>exact iS λd=>by simp[fL,run_underlying M]
 .rename_i t l I J;rw[I]at A;rw[J]at B;obtain⟨u,cap,vs,K,_,hs,_⟩:=zT B;have j:=nv A;rw[K,j];refine⟨u.isNone,λhp=> ?_,?_,rfl,by simp,λL=>by grind [binOp]⟩
  .simp_all
  .exact iS λd=>by simp[fL,run_underlying M]
 .rename_i id ver pp c i len I J;rw[I]at A;rw[J]at B;obtain⟨u,cap,K,_,hs,_⟩:=BX A;have j:=nv B;rw[K,j];refine⟨u.isNone,λhp=> ?_,?_,rfl,by simp,λL=>by grind [binOp]⟩
  .simp_all
  .cases u with
   |none=>exact iS λd=>by simp[fL,run_underlying M]
   |some u=>exact iS λd=>by simp[fL,run_underlying M]
 .rename_i id ver pp c i len I J;rw[I]at A;rw[J]at B;obtain⟨u,cap,K,_,hs,_⟩:=BX B;have j:=nv A;rw[K,j];refine⟨u.isNone,λhp=> ?_,?_,rfl,by simp,λL=>by grind [binOp]⟩
  .simp_all
  .exact iS λd=>by simp[fL,run_underlying M]
 grind
def aaS(h:Inv C g β s a w){x y:cD}{n:Nat}{T U:bk}(hn:ans s x y=aw n)(O:KK.isSl P T=bn):
  (o.op= .binOp .eql T x y U->∃b,(0 < n->b=aZ)/\iu P o a w (jO C (s.put o.dst (.d .bool b))))/\(o.op= .binOp .neq T x y U->∃b,(0 < n->b=bn)/\iu P o a w (jO C (s.put o.dst (.d .bool b)))):=by
 obtain⟨b,K,A,L,M,B⟩:=aJi (w:=w) h hn O;have I:∀J,(eqGuard J T x y (a.eval x) (a.eval y)).run P w= .ok () w:=λJ=>vd M L
 refine⟨λu=>⟨b,K,h.value (Hz b) ?_⟩,λu=>⟨!b,λhp=>by grind,h.value (Hz (!b)) ?_⟩⟩
 .have j:(binOp .eql T (a.eval x) (a.eval y)).run P w= .ok (.bool b) w:=by rw[B .eql];simp[A]
  simp[execOp,u,I,j]
 .have j:(binOp .neq T (a.eval x) (a.eval y)).run P w= .ok (.bool (!b)) w:=by rw[B .neq];simp[A]
  simp[execOp,u,I,j]
def acB{R:Type}{c:Bool}{x y:Option R}{r:R}(h:aA c x y=aw r):(c=bn/\x=aw r)\/(c=aZ/\y=aw r):=by
 cases c
 all_goals grind [aA]
def aXi{R:Type}{n:Nat}{k:Nat->Option R}{r:R}(h:aXg n k=aw r):0 < n/\∀j,j < n->k j=aw r:=by
 unfold aXg at h;split at h
 all_goals grind
def aXh{R:Type}{n:Nat}{k:Nat->Option R}{x:Option R}(u:0 < n)(h:∀j,j < n->k j=x):aXg n k=x:=by
 unfold aXg;cases x with
 |none=>grind
 |some r=>
  have A:∃r,0 < n/\∀j,j < n->k j=aw r:=⟨r,u,h⟩;rw[Ed A];grind
def as7{s:AS}{id:Id}{e:dR}{q:Nat}(u:s.ff q=bn)(A:s.cH id≠aC):(s.bD id e).ff q=bn:=by
 cases id with
 |dx k=>exact u
 |new i j=>
  grind [AS.ff,AS.bD]
def Alike.len{α β:Type}{R:α->β->Prop}:∀ {j:List α} {u:List β},Alike R j u->aa j=aa u
 |[],[],_=>rfl
 |_::_,_::_,⟨_,h⟩=>by simp[h.len]
 |[],_::_,h=>h.elim
 |_::_,[],h=>h.elim
def aJu{α:Type}:∀ {u A:List α} {i j:Nat} {x:α},u.Perm A->u[i]? =aw x->A[j]? =aw x->(u.eraseIdx i).Perm (A.eraseIdx j):=by
 have key:∀ {u:List α} {i:Nat} {x:α},u[i]? =aw x->u.Perm (x::u.eraseIdx i):=by
  intro u
  induction u with
  |nil=>grind
  |cons y u K=>
   intro i x h;cases i with
   |zero=>simp_all
   |succ i=>
    exact((K h).cons y).trans (List.Perm.swap x y _)
 intro u A i j x J B I;exact((key B).symm.trans (J.trans (key I))).cons_inv
def aKx(h:Inv C g β s a w){T:bk}{m:cD}(gE:o.op= .range T m){s':AS}(I:(aKw P s o.dst T (s.ev m)).eval=aw s'):iu P o a w (jO C s'):=by
 unfold aKw at I;split at I
 .rename_i K V' L vt id A q hm O hd;obtain⟨l,h1,I⟩:=aI.1 I;obtain⟨hq,I⟩:=ba.1 I;obtain rfl:=aM.1 I;rw[aQ]at hq;obtain⟨hT,_,_⟩:=H6 hm;have M:=h.ev m;rw[O]at M;obtain⟨fr,pl,es,u,g1,g2,g3,g4,g5,g6,g7,gn⟩:=EA h h1 M;obtain rfl:=SQ g1 hq.1;have jV:s.cH id≠aC:=by grind
  have boV:=Trans.refl w g;have B:df (s.env w g β) ((s.bD id (.obj A bn (.mp L vt l))).env w g β):=df.bD g1 (ax _) boV (λ_ _=>rfl) (λ_=>rfl)
  have i0:=
   h.step (dF _ _ _) boV B (jH.bD h.cd jV B (λ_ _=>rfl) (λ_ _ _ _ _ _ _ _=>⟨rfl,rfl⟩) ⟨pl,es,u,g2,g4,g5,⟨g6.mono B.mem,gn⟩,g7⟩ (ajX g1))
  have eG:=fq s id (.obj A bn (.mp L vt l)) jV;have J:=as7 (e:= .obj A bn (.mp L vt l)) hq.2 jV;generalize bsE:s.bD id (.obj A bn (.mp L vt l))=s0 at i0 eG J B;have ai2:∀j,id≠ .new q j:=λj e=>by simp_all [tx]
  have gF:=(dV.1 g4).1;have ht:=Trans.alloc w g (.mapIter (aw pl.b) u #[] u) (.own (.id (.new q 0)) 0);obtain⟨h3,h4⟩:=i0.adI J (c:= .xB id (A+1) L vt l aC) (p:=aw ⟨w.heap.size,0⟩) ht (λb hb=>⟨vb w _ hb,my _ _ _ aq⟩) (λhE=>
   ⟨⟨w.heap.size,0⟩,pl.b,u,#[],u,oZ _ _ _,yC w _,lR _ _ _,λvr ax5=>by
    obtain rfl:A=vr:=aq;have hb:(s0.env w g β).Oi id A:=⟨by show s0.cH id≠aC;grind,λv2 fr2 c2 h2=>by
     have h2:s0.cH id=aw (.obj v2 fr2 c2):=h2;grind⟩
    refine⟨hE.Oi _ _ hb,λ_=>⟨⟨L,vt,l,?_⟩,pl,es,u,?_,rfl,?_,?_,λx O=>g7.2 x O,⟨ax _,ax _⟩,g7.1,?_,λx O=>by cases O⟩⟩
    .show(s0.born q _).cH id=_;grind [j9]
    .show SR β (.new q 0) _ id=_;grind [SR]
    .exact(vb w _ gF).trans g4
    .show nX g w.heap.size _ pl.b=_;grind [nX]
    .have:es.toList.filter (λe=> !(#[]:Array Nat).contains e.born)=es.toList:=List.filter_eq_self.2 λx _=>by simp
     rw[this];exact(g6.mono B.mem).mono hE.mem⟩)
  refine .inl ⟨.pointer (aw ⟨w.heap.size,0,aC⟩),w.alloc (.mapIter (aw pl.b) u #[] u),?_,_,_,h3.put o.dst (v:= .ptr (.new q 0) 0 [] 0) ⟨[.pointer (aw ⟨w.heap.size,0,aC⟩)],?_,rfl⟩⟩
  .grind [gj,execOp,run_range_map]
  .exact⟨_,rfl,tT J _ _ _ _,λ_=>⟨_,oZ _ _ _,rfl⟩⟩
 grind [aG]
def amk(h:Inv C g β s a w){x:cD}{t:aO2}(I:s.aYm (s.ev x)=aw t):
  s.cH t.i=aw (.obj t.v t.fr (.xB t.q (t.vr+1) t.kt t.vt t.rest t.cur))/\(∃k v l,s.cH t.q=aw (.obj t.vr bn (.mp k v l)))/\
  ∃pl u since seen c0 A j,a.eval x= .pointer (aw ⟨pl.b,0,aC⟩)/\β t.i=aw pl/\w.heap[pl.b]? =aw (.mapIter (aw u.b) since seen c0)/\g pl.b= .own (.id t.i) 0/\
   β t.q=aw u/\w.heap[u.b]? =aw (.map A j)/\g u.b= .own (.id t.q) 0/\(∀x∈A.toList,x.born < since)/\(since<=c0/\since<=j)/\(A.toList.map (·.born)).Nodup/\
   awu (s.env w g β) t.kt t.vt (A.toList.filter λe=> !seen.contains e.born) t.rest/\
   ∀x,t.cur=aw x->∃(e:gR) (B:Array Nat),e∈A.toList/\seen=B.push e.born/\c0=j/\LX (s.env w g β) t.kt t.vt e x:=by
 have J:=h.ev x;generalize s.ev x=y at I J;unfold AS.aYm at I;split at I
 .rename_i i T;split at I
  .rename_i v fr q vr kt vt rest cur tW;split at I
   .rename_i hv K;obtain rfl:=cj I;have hv:v=T:=by grind
    subst hv;have M:=gA tW;unfold AS.aDl at K;split at K
    .rename_i v2 k2 t2 l2 L;have K:v2=vr:=by grind
     subst K;have hq:=gA L;refine⟨M,⟨_,_,_,hq⟩,?_⟩;obtain⟨pl,mb,since,seen,c0,h1,h2,h3,h4⟩:=h.cd i v fr _ M;obtain⟨h5,h6⟩:=h4 v2 rfl;obtain⟨_,u,A,j,k1,k2,k3,k4,k5,k6,k7,k8,k9⟩:=h6 ⟨_,_,hq⟩;subst k2;obtain⟨ad,m1,m2,m3⟩:=M1 J;obtain⟨O,m4,rfl⟩:=m3 ⟨_,_,M⟩;obtain rfl:pl=O:=by grind
     exact⟨pl,u,since,seen,c0,A,j,m1,h1,h2,h3,k1,k3,k4,k5,k6,k7,k8,k9⟩
    grind
   grind
  grind
 grind
def LX.bsi{E:Env}{j vt:Ty}{e:gR}{x:j.den×vt.den}(h:LX E j vt e x):VS E (.cons (.d j x.1) (.cons (.d vt x.2) .nil)) (.tuple #[e.key,e.val]):=by obtain⟨⟨B,J,u⟩,I,K,A⟩:=h;refine⟨[e.key,e.val],rfl,?_⟩;exact⟨_,_,B,rfl,by grind [V],u,_,_,I,rfl,by grind [V],A,rfl⟩
def LX.bsj{E:Env}{j vt:Ty}{e:gR}{x:j.den×vt.den}(h:LX E j vt e x):VS E (.cons (.d .bool bn) (.cons (.d j x.1) (.cons (.d vt x.2) .nil))) (.tuple #[.bool bn,e.key,e.val]):=by obtain⟨⟨B,J,u⟩,I,K,A⟩:=h;refine⟨[.bool bn,e.key,e.val],rfl,?_⟩;exact⟨_,_,[.bool bn],rfl,by simp[V,dU],rfl,_,_,B,rfl,by grind [V],u,_,_,I,rfl,by grind [V],A,rfl⟩
def aIe(h:Inv C g β s a w){x:cD}(O:o.op= .entry x){v:aF}(u:(aId s (s.ev x)).eval=aw v):iu P o a w (jO C (s.put o.dst v)):=by
 unfold aId at u;split at u
 .rename_i i v0 fr q vr T vt I c J;obtain rfl:=aM.1 u;obtain⟨_,_,pl,L,since,seen,c0,M,j,m1,m2,m3,_,m5,m6,m7,_,_,K,_,A⟩:=amk h J;obtain⟨e,B,n1,rfl,rfl,n4⟩:=A c rfl;refine h.value n4.bsi (gj (f:=Instr.entry (a.eval x)) (by grind [execOp]) ?_);grind [run_entry_at]
 grind [aG]
def heap_drew{w j:cG}(u:j=w\/j=w.drew):j.heap=w.heap/\j.os=w.os/\j.tape=w.tape/\(j.output=w.output/\w.drawn<=j.drawn):=by
 rcases u with rfl | rfl
 .grind
 .exact⟨rfl,rfl,rfl,rfl,kW _⟩
def Inv.bmE(h:Inv C g β s a w){i q:Id}{v T:Nat}{fr:Bool}{I vt:Ty}{rest:List (I.den×vt.den)}{cur:Option (I.den×vt.den)}(eG:s.cH i=aw (.obj v fr (.xB q (T+1) I vt rest cur)))
  {k2 v2:Ty} {l2:List (k2.den×v2.den)} (hq:s.cH q=aw (.obj T bn (.mp k2 v2 l2))) {pl j:Pl} {m0:Option Nat} {L c00:Nat} {O:Array Nat} (hp:β i=aw pl) (hb:w.heap[pl.b]? =aw (.mapIter m0 L O c00)) (hg:g pl.b= .own (.id i) 0)
  {J:cG} (hw:J=w\/J=w.drew) {es:Array gR} {u since c0:Nat} {seen:Array Nat} (brE:β q=aw j) (bp4:w.heap[j.b]? =aw (.map es u)) (brj:g j.b= .own (.id q) 0)
  (h1:∀x∈es.toList,x.born < since) (h2:since<=c0/\since<=u) (h3:(es.toList.map (·.born)).Nodup) {rest':List (I.den×vt.den)} {cur':Option (I.den×vt.den)} (h4:awu (s.env w g β) I vt (es.toList.filter λe=> !seen.contains e.born) rest')
  (h5:∀x,cur'=aw x->∃(e:gR) (M:Array Nat),e∈es.toList/\seen=M.push e.born/\c0=u/\LX (s.env w g β) I vt e x):
  Inv C g β (s.bD i (.obj v fr (.xB q (T+1) I vt rest' cur'))) a (Go.ChangeMaps.setBlock J pl.b (.mapIter (aw j.b) since seen c0))/\
   yA (s.env w g β) ((s.bD i (.obj v fr (.xB q (T+1) I vt rest' cur'))).env (Go.ChangeMaps.setBlock J pl.b (.mapIter (aw j.b) since seen c0)) g β):=by
 obtain⟨d1,d2,d3,d4⟩:=heap_drew hw;have blR:(Go.ChangeMaps.setBlock J pl.b (.mapIter (aw j.b) since seen c0)).heap=w.heap.setIfInBounds pl.b (.mapIter (aw j.b) since seen c0):=by grind [Go.ChangeMaps.setBlock]
 have K:(Go.ChangeMaps.setBlock J pl.b (.mapIter (aw j.b) since seen c0)).os=w.os/\(Go.ChangeMaps.setBlock J pl.b (.mapIter (aw j.b) since seen c0)).tape=w.tape/\((Go.ChangeMaps.setBlock J pl.b (.mapIter (aw j.b) since seen c0)).output=w.output/\w.drawn<=(Go.ChangeMaps.setBlock J pl.b (.mapIter (aw j.b) since seen c0)).drawn):=⟨d2,d3,d4⟩;generalize Go.ChangeMaps.setBlock J pl.b (.mapIter (aw j.b) since seen c0)=w' at blR K;have A:∀b',b'≠pl.b->w'.heap[b']? =w.heap[b']? :=λb' jV=>by grind
 have vh:w'.heap[pl.b]? =aw (.mapIter (aw j.b) since seen c0):=by grind
 have ht:Trans w w' g g:=by refine⟨K.1,K.2.1,K.2.2,by grind,λb' _=> ?_⟩;grind [gh]
 have B:df (s.env w g β) ((s.bD i (.obj v fr (.xB q (T+1) I vt rest' cur'))).env w' g β):=df.bD eG (ax _) ht (λ_ _=>rfl) (λ_=>rfl);have brD:j.b≠pl.b:=λe=>by grind
 refine⟨h.step (dF _ _ _) ht B (jH.bD h.cd (by grind) B (λ_ _=>rfl) (λi' ver' fr' c' pl2 hi arb arA=>⟨A _ (h.apart hg hi arb arA),rfl⟩) ?_ (ue eG λ_ _ _ e=>by cases e)),B.mem⟩;refine⟨pl,j.b,since,seen,c0,hp,vh,hg,λvr' ax5=> ?_⟩;obtain rfl:T=vr':=aq;have aCN:(s.env w g β).Oi q T:=⟨by show s.cH q≠aC;grind,λv3 fr3 c3 h3=>by
  have h3:s.cH q=aw (.obj v3 fr3 c3):=h3;grind⟩
 refine⟨B.Oi _ _ aCN,λ_=>⟨⟨k2,v2,l2,?_⟩,j,es,u,brE,rfl,(A _ brD).trans bp4,brj,h1,h2,h3,h4.mono B.mem,λx hx=> ?_⟩⟩
 .show(s.bD i _).cH q=_;grind [dz]
 .obtain⟨e,se,a1,a2,a3,a4⟩:=h5 x hx;exact⟨e,se,a1,a2,a3,a4.mono B.mem⟩
def Inv.bhK(h:Inv C g β s a w){i q:Id}{v J j:Nat}{fr:Bool}{I vt:Ty}{A rest':List (I.den×vt.den)}{cur cur':Option (I.den×vt.den)}(M:s.cH i=aw (.obj v fr (.xB q J I vt A cur)))
  (hk:j=0\/(j=J/\rest'=A/\cur'=aC)):Inv C g β (s.bD i (.obj v fr (.xB q j I vt rest' cur'))) a w:=by
 have ht:=Trans.refl w g;have u:df (s.env w g β) ((s.bD i (.obj v fr (.xB q j I vt rest' cur'))).env w g β):=df.bD M (ax _) ht (λ_ _=>rfl) (λ_=>rfl);refine h.step (dF _ _ _) ht u (jH.bD h.cd (by grind) u (λ_ _=>rfl) (λ_ _ _ _ _ _ _ _=>⟨rfl,rfl⟩) ?_ (ue M λ_ _ _ e=>by cases e));obtain⟨pl,mb,since,seen,c0,h1,h2,h3,h4⟩:=h.cd i v fr _ M;refine⟨pl,mb,since,seen,c0,h1,h2,h3,λvr K=> ?_⟩;rcases hk with hk | ⟨rfl,rfl,rfl⟩
 .omega
 .obtain⟨T,h6⟩:=h4 vr K;refine⟨u.Oi _ _ T,λhc=> ?_⟩;obtain⟨c1,_⟩:=u.cur _ _ T hc;obtain⟨⟨k,v1,l,hq⟩,O,es,B,k1,k2,k3,k4,k5,k6,k7,k8,_⟩:=h6 c1;have L:q≠i:=λe=>by grind
  exact⟨⟨k,v1,l,by show(s.bD i _).cH q=_;rw[dz s i q _ L];exact hq⟩,O,es,B,k1,k2,k3,k4,k5,k6,k7,k8.mono u.mem,λx hx=>by cases hx⟩
def aKy{s:AS}{q i:Id}{e:dR}(h:s.aoL q=aZ)(j:s.cH i=aw e):e.aYn q=aZ:=by
 unfold AS.aoL at h;rw[Bool.or_eq_false_iff]at h;cases i with
 |dx k=>simpa using List.any_eq_false.1 h.1 _ (eK j)
 |new a b=>
  have j:(s.news.getD a [])[b]? =aw e:=j
  by_cases A:a < aa s.news
  .have u:(s.news.getD a []).any (dR.aYn q)=aZ:=by grind
   grind
  grind
def Inv.unlock(h:Inv C g β s a w){q:Id}{J:Nat}{k v:Ty}{l:List (k.den×v.den)}(M:s.cH q=aw (.obj J bn (.mp k v l)))(hr:s.aoL q=aZ):Inv C g β (s.bD q (.obj J aZ (.mp k v l))) a w:=by
 have T:=Trans.refl w g;have A:df (s.env w g β) ((s.bD q (.obj J aZ (.mp k v l))).env w g β):=df.bD M (ax _) T (λ_ _=>rfl) (λ_=>rfl);refine h.step (dF _ _ _) T A λi I fr c u=> ?_
 have u:(s.bD q (.obj J aZ (.mp k v l))).cH i=aw (.obj I fr c):=u;by_cases B:i=q
 .subst B;rw[fq s i _ (by grind)]at u;obtain⟨rfl,rfl,rfl⟩:=u;obtain⟨pl,es,j,h1,h2,h3,O,h5⟩:=h.cd i J bn _ M;exact⟨pl,es,j,h1,h2,h3,⟨O.1.mono A.mem,O.2⟩,h5⟩
 .rw[dz s q i _ B]at u;refine(h.cd i I fr c u).bhR A rfl (λ_ _=>⟨rfl,rfl⟩) λL v2 k2 v3 l2 hc K _=>⟨⟨k2,v3,l2,?_⟩,λ_ _=>⟨rfl,rfl⟩⟩
  have hn:=aKy hr u;have jV:L≠q:=λe=>by grind [dR.aYn]
  show(s.bD q _).cH L=_;rw[dz s q L _ jV];exact K
def aIU{u:List gR}{seen:Array Nat}(J:(u.map (·.born)).Nodup){j:Nat}{e:gR}(I:(u.filter λe=> !seen.contains e.born)[j]? =aw e):
  u.filter (λx=> !(seen.push e.born).contains x.born)=(u.filter λe=> !seen.contains e.born).eraseIdx j:=by
 have B:u.filter (λx=> !(seen.push e.born).contains x.born)=(u.filter λe=> !seen.contains e.born).filter λx=>x.born !=e.born:=by grind [List.filter_filter]
 rw[B];have A:((u.filter λe=> !seen.contains e.born).map (·.born)).Nodup:=J.sublist (List.filter_sublist.map _);generalize u.filter (λe=> !seen.contains e.born)=L at I A
 induction L generalizing j with
 |nil=>grind
 |cons x L K=>
  cases j with
  |zero=>
   simp_all
  |succ j=>
   grind
theorem aRv(h:Inv C g β s a w){x:cD}(gE:o.op= .next x aZ){t:aO2}(ht:s.aYm (s.ev x)=aw t){R:Type}{k:AS->Option R}{r:R}(B:bhU s o.dst t k=aw r):
  iu P o a w λa' w'=>∃s',jO C s' a' w'/\k s'=aw r:=by
 obtain⟨hi,⟨k2,v2,l2,hq⟩,pl,plq,since,seen,c0,es,u,m1,m2,m3,m4,m5,m6,m7,m8,m9,m10,A,_⟩:=amk h ht;have O:∀ {y:bh} {w':cG},(Instr.next (a.eval x) aZ o.type).run P w= .ok y w'->(execOp a.eval o).run P w= .ok (.value y) w':=λhr=>
  gj (f:=Instr.next (a.eval x) aZ o.type) (by grind [execOp]) hr
 have axV:(leftOf es seen).toList=es.toList.filter λe=> !seen.contains e.born:=by simp[leftOf]
 obtain⟨l',A,I⟩:=A;have T:=A.len;rw[I.length_eq]at T;rcases run_next_at (P:=P) w o.type pl.b plq.b since c0 seen es u m3 m6 m8 m9.1 with⟨h0,vg⟩ | ⟨e,M,w1,hw,vg⟩
 .rcases acB B with⟨hc,_⟩ | ⟨_,B⟩
  .grind
  .unfold AS.bfQ at B;have i1:=h.bhK (rest':=[]) (cur':=aC) hi (.inl rfl);have K:(s.bD t.i (.obj t.v t.fr (.xB t.q 0 t.kt t.vt [] aC))).cH t.q=aw (.obj t.vr bn (.mp k2 v2 l2)):=by grind [dz]
   generalize s.bD t.i (.obj t.v t.fr (.xB t.q 0 t.kt t.vt [] aC))=s1 at B i1 K;cases hr:s1.aoL t.q with
   |true=>grind
   |false=>
    rw[hr]at B;have brO:s1.unlock t.q=s1.bD t.q (.obj t.vr aZ (.mp k2 v2 l2)):=by grind [AS.unlock,AS.obj]
    rw[brO]at B;rw[<-m1]at vg;refine .inl ⟨_,w,O vg,_,⟨g,β,(i1.unlock K hr).put o.dst (v:= .cons (.d .bool aZ) .nil) ⟨[.bool aZ],rfl,?_⟩⟩,B⟩;exact⟨_,_,[.bool aZ],rfl,by simp[V,dU],rfl,rfl⟩
 .rcases acB B with⟨hc,B⟩ | ⟨hc,_⟩
  .obtain⟨_,hd⟩:=aXi B;rw[axV]at M;obtain⟨i,J⟩:=List.getElem?_of_mem M;obtain⟨y,L,bmn⟩:=A.get J;obtain⟨j,hj⟩:=List.getElem?_of_mem (I.mem_iff.1 (eK L));have brq:=(mH.1 hj).1;have hy:ED t.kt t.vt t.rest j=y:=by grind [ED]
   have i1:=h.bmE (rest':=t.rest.eraseIdx j) (cur':=aw (ED t.kt t.vt t.rest j)) (since:=since) (c0:=u) (seen:=seen.push e.born) hi hq m2 m3 m4 hw m5 m6 m7 m8 ⟨m9.2,m9.2⟩ m10 ?_ ?_
   rotate_left
   .rw[aIU m10 J];exact⟨_,A.erase i,aJu I L hj⟩
   .grind
   rw[<-m1]at vg;have hVS:=(hy▸bmn:LX (s.env w g β) t.kt t.vt e (ED t.kt t.vt t.rest j));refine .inl ⟨_,_,O vg,_,⟨g,β,i1.1.put o.dst (v:= .cons (.d .bool bn) (.cons (.d t.kt (ED t.kt t.vt t.rest j).1) (.cons (.d t.vt (ED t.kt t.vt t.rest j).2) .nil))) ?_⟩,hd j brq⟩;exact LX.bsj (hVS.mono i1.2)
  grind
def aQL{Γ:qN}(hΓ:Sound P Γ){cd:List Nat}{ops:Array Oper}{R:Type}{k:AS->Option R}{r:R}(h:jO C s a w)(u:beB P Γ cd ops o s k=aw r):
  Ap P ops o a w λJ w'=>∃A,jO C A J w'/\k A=aw r:=by
 have plain:beA P Γ cd ops o s k=aw r->Ap P ops o a w λJ w'=>∃A,jO C A J w'/\k A=aw r:=λu=>by obtain⟨s1,h1,h2⟩:=aCJ u;exact(at7 hΓ h h1).mono λJ w' M=>⟨s1,M,h2⟩
 have j:∀(I:o.guard=aC),(iu P o a w λJ w'=>∃A,jO C A J w'/\k A=aw r)->Ap P ops o a w λJ w'=>∃A,jO C A J w'/\k A=aw r:=λI B=>by grind [Ap,Region.wanted]
 have step:∀(I:o.guard=aC) (b:Bool),iu P o a w (jO C (s.put o.dst (.d .bool b)))->k (s.put o.dst (.d .bool b))=aw r->Ap P ops o a w λJ w'=>∃A,jO C A J w'/\k A=aw r:=λI b B hk=>by
  unfold Ap;have:Region.wanted o (yielded ops a.tmps)=bn:=by grind [Region.wanted]
  rw[av this];exact B.mono λJ w' M=>⟨_,M,hk⟩
 unfold beB at u;split at u
 .rename_i T x y U I L;split at u
  .rename_i n hn hT;obtain⟨g,β,K⟩:=h;obtain⟨b,hb,B⟩:=(aaS (o:=o) (U:=U) K hn hT).1 L;rcases acB u with⟨hc,hk⟩ | ⟨_,hk⟩
   .grind
   .obtain⟨k1,k2⟩:=aNE hk;cases b
    all_goals grind
  grind
 .rename_i T x y U I L;split at u
  .rename_i n hn hT;obtain⟨g,β,K⟩:=h;obtain⟨b,hb,B⟩:=(aaS (o:=o) (U:=U) K hn hT).2 L;rcases acB u with⟨hc,hk⟩ | ⟨_,hk⟩
   .grind
   .obtain⟨k1,k2⟩:=aNE hk;cases b
    all_goals grind
  grind
 .rename_i T m I L;obtain⟨s1,h1,h2⟩:=jE.1 u;obtain⟨g,β,K⟩:=h;exact j I ((aKx K L h1).mono λ_ _ M=>⟨_,M,h2⟩)
 .rename_i x I L;obtain⟨s1,h1,h2⟩:=jE.1 u;obtain⟨v,h3,h4⟩:=aI.1 h1;obtain rfl:=aM.1 h4;obtain⟨g,β,K⟩:=h;exact j I ((aIe K L h3).mono λ_ _ M=>⟨_,M,h2⟩)
 .grind [aRv,jO]
 .rename_i c I L;split at u
  .rename_i F hc;split at u
   .rename_i id ver rc f hF;split at u
    .rename_i en O;obtain⟨bnq,u⟩:=aTq u;obtain⟨s1,h1,h2⟩:=jE.1 u;obtain⟨g,β,K⟩:=h;exact j I ((aMr K L hc hF bnq (hΓ _ _ en O) h1).mono λ_ _ M=>⟨_,M,h2⟩)
    grind
   .split at u
    .rename_i en vs B;unfold bh5 at B;split at B;rotate_left
     .cases B
     rename_i f caps hF;split at B;rotate_left
     .cases B
     rename_i en' O;split at B;rotate_left
     .cases B
     rename_i aXQ;rw[aQ]at aXQ;obtain⟨rfl,rfl⟩:=B;obtain⟨g,β,K⟩:=h;exact j I (aHG K L hc hF ((hΓ _ _ _ O).2.2 aXQ.2) u)
    grind
  grind
 grind
theorem agS{rd:Option Nat}{n:Nat}{Γ:qN}(hΓ:Sound P Γ){cd:List Nat}{ops:Array Oper}{R:Type}{Q:Exit->Act->cG->Prop}:∀(l:List Oper) {s:AS} {a:Act} {w:cG} {k:AS->Option R} {r:R},jO C s a w->beC P Γ cd ops l s k=aw r->
  (∀j A w',jO C j A w'->k j=aw r->Q .normal A w')->wpListIn (Fr rd) n P ops Q l a w
 |[],s,a,w,k,r,h,u,B=>B s a w h u
 |o::l,s,a,w,k,r,h,u,B=>by have u:beB P Γ cd ops o s (λj=>j.seen λj=>beC P Γ cd ops l j k)=aw r:=u;simp[AS.acA]at u;exact((aQL hΓ h u).mono λA w' ⟨j,J,I⟩=>agS hΓ l J I B).wpListIn
end
end Go.Ab
namespace Go.Ab
def AS.biN{s t:AS}(A:s.cR=t.cR)(B:aa s.news=aa t.news)(u:∀id,s.cH id=t.cH id):s=t:=by
 obtain⟨a,b,c⟩:=s;obtain⟨K,L,c'⟩:=t;subst A;have I:=mU λk=>u (.dx k)
 subst I;have J:c=c':=by apply List.ext_getElem B;intro i h M;apply mU;intro j;have:=u (.new i j);grind [AS.cH]
 rw[J]
def dR.aLq:dR->dR->Prop
 | .obj v _ c,.obj v' _ c'=>v=v'/\c=c'
 | .dead,.dead=>True
 |_,_=>False
def G5:Option dR->Option dR->Prop
 |some a,aw b=>a.aLq b
 |none,aC=>True
 |_,_=>False
def dR.aNb:dR->dR
 | .obj v _ c=> .obj v bn c
 | .dead=> .dead
def dR.bbB(a:dR):a.aLq a:=by cases a <;> simp[dR.aLq]
theorem aTt(a:Option dR):G5 a a:=by cases a <;> simp[G5,dR.bbB]
theorem aTs(a:Option dR):G5 (a.map dR.aNb) a:=by
 cases a with
 |none=>trivial
 |some x=>cases x <;> simp[G5,dR.aLq,dR.aNb]
def dR.bey(a:dR):a.aNb.aNb=a.aNb:=by cases a <;> rfl
structure pd(f:Py)(s t:AS):Prop where
 cR:∀i∈f.cR,t.slot i=s.slot i
 ws:∀id∈f.ws,t.cH id=s.cH id
 rs:∀id∈f.rs,G5 (t.cH id) (s.cH id)
 ff:∀q,f.dst=aw q->t.ff q=s.ff q
structure bk6 where
 v:aF
 up:Id->Option dR
 fz:List Id
structure App(d:Option Tmp)(E:bk6)(s s':AS):Prop where
 cR:s'.cR=(s.put d E.v).cR
 len:aa s'.news=aa s.news
 cH:∀id,s'.cH id=match E.up id with | some e=>aw e | none=>if id∈E.fz then(s.cH id).map dR.aNb else s.cH id
structure awy(f:Py)(s:AS)(E:bk6):Prop where
 up:∀id e,E.up id=aw e->(id∈f.ws/\s.cH id≠aC)\/∃q j,f.dst=aw q/\id= .new q j
 fz:∀id∈E.fz,id∈f.rs
theorem XM(s:AS)(id:Id)(e:dR):(s.bD id e).news.length=aa s.news:=by cases id <;> simp[AS.bD]
def arx(s:AS)(id i:Id):(s.freeze id).cH i=if i=id then(s.cH i).map dR.aNb else s.cH i:=by
 unfold AS.freeze;cases j:s.cH id with
 |none=>
  grind
 |some e=>
  cases e with
  |dead=>
   grind [dR.aNb]
  |obj v fr c=>
   grind [fq,dR.aNb,dz]
theorem ik(i:Id):∀(ids:List Id) (s:AS),(s.bP ids).cH i=if i∈ids then(s.cH i).map dR.aNb else s.cH i
 |[],s=>by simp[AS.bP]
 |id::ids,s=>by
  rw[AS.bP,ik i ids,arx];by_cases j:i=id
  .subst j;by_cases u:i∈ids
   .simp[Function.comp_def,dR.bey]
   grind
  grind
def aIV(s:AS)(id:Id):(s.freeze id).news.length=aa s.news:=by grind [AS.freeze,XM]
theorem vk:∀(ids:List Id) (s:AS),(s.bP ids).news.length=aa s.news
 |[],_=>rfl
 |id::ids,s=>by rw[AS.bP,vk ids,aIV]
theorem N7{s:AS}{q:Nat}:s.ff q=bn↔q < aa s.news/\∀j,s.cH (.new q j)=aC:=by
 refine⟨λh=>⟨(tx h).2,(tx h).1⟩,λ⟨A,B⟩=> ?_⟩;unfold AS.ff;rw[cS A];have u:=B 0;simp[AS.cH]at u;cases I:s.news[q]with
 |nil=>rfl
 |cons x J=>grind
def App.ad7(d:Option Tmp)(v:aF)(ids:List Id)(s:AS):App d ⟨v,λ_=>aC,ids⟩ s ((s.bP ids).put d v):=by
 refine⟨?_,?_,λid=> ?_⟩
 .cases d <;> simp[AS.put,qZ]
 .cases d <;> simp[AS.put,vk]
 .rw[aae,ik]
def App.TK(d:Option Tmp)(v:aF)(s:AS):App d ⟨v,λ_=>aC,[]⟩ s (s.put d v):=App.ad7 d v [] s
def akX(q:Nat)(u:List dR):Id->Option dR
 | .new i j=>if i=q then u[j]? else aC
 | .dx _=>aC
def aXq(s:AS){q:Nat}(A:q < aa s.news)(u:List dR)(id:Id):(s.born q u).cH id=match id with | .new i j=>if i=q then u[j]? else s.cH (.new i j) | .dx k=>s.cH (.dx k):=by grind [Eh,j9]
theorem App.aMM{s:AS}{q:Nat}(u:s.ff q=bn)(v:aF)(ids:List Id)(j:List dR):App (aw q) ⟨v,akX q j,ids⟩ s (((s.bP ids).born q j).put (aw q) v):=by
 obtain⟨A,B⟩:=N7.1 u;refine⟨?_,?_,λid=> ?_⟩
 .simp[AS.put,qZ]
 .simp[AS.put,AS.born,vk]
 .rw[aae,aXq _ (by grind [vk])];grind [akX,ik]
theorem App.bbs{s:AS}{id:Id}{j:dR}(u:s.cH id=aw j)(d:Option Tmp)(v:aF)(e:dR):App d ⟨v,λi=>if i=id then aw e else aC,[]⟩ s ((s.bD id e).put d v):=by
 refine⟨?_,?_,λi=> ?_⟩
 .cases d <;> simp[AS.put]
 .cases d <;> simp[AS.put,XM]
 .rw[aae];grind [fq,dz]
section
variable {P:bg} {Γ:qN} {cd:List Nat} {ops:Array Oper} {o:Oper} {s t:AS}
def ads(P:bg)(Γ:qN)(cd:List Nat)(ops:Array Oper)(o:Oper)(s u:AS):Prop:=∃E,App o.dst E s u/\awy (iw Γ ops s o) s E/\∀t,pd (iw Γ ops s o) s t->∃j,(Ak P Γ cd o t).eval=aw j/\App o.dst E t j
theorem ahe{j:Array cD}{i:Nat}(h:Operand.tmp i∈j.toList):i∈aj6 j:=by grind [aj6]
def pd.ev(h:pd (iw Γ ops s o) s t){x:cD}(j:x∈o.op.operands.toList):t.ev x=s.ev x:=by
 cases x with
 |tmp i=>exact h.cR i (bZ.2 (.inl (ahe j)))
 |_=>rfl
theorem aDP(v:bh):(ofConst v).ids=[]:=by unfold ofConst;split <;> rfl
def aJj{o:Oper}{x:Op}(h:o.op=x)(j:auv x=aZ):auv o.op=aZ:=by grind
def aei(u:auv o.op=aZ){x:cD}(A:x∈o.op.operands.toList){id:Id}(j:id∈(s.ev x).ids):id∈(iw Γ ops s o).rs:=by
 refine bZ.2 (.inl ?_);unfold aDQ;cases x with
 |tmp i=>grind [ahe,AS.ev]
 |const v=>grind [AS.ev,aDP]
 |global _=>grind [AS.ev,aF.ids]
 |func f=>grind [AS.ev,aF.ids]
def pd.aLq(h:pd (iw Γ ops s o) s t)(u:auv o.op=aZ){x:cD}(A:x∈o.op.operands.toList){id:Id}(j:id∈(s.ev x).ids):G5 (t.cH id) (s.cH id):=h.rs id (aei u A j)
theorem azT{id:Id}(h:G5 (t.cH id) (s.cH id)):(t.obj id=aC/\s.obj id=aC)\/∃v f f' c,t.obj id=aw (v,f,c)/\s.obj id=aw (v,f',c):=by
 unfold AS.obj
 revert h
 cases t.cH id with
 |none=>grind [G5]
 |some a=>cases s.cH id with
  |none=>simp[G5]
  |some b=>cases a <;> cases b <;> intro h <;> first
    |exact h.elim
    | (exact⟨rfl,rfl⟩)
    | (obtain⟨rfl,rfl⟩:=h;grind)
theorem afq{id:Id}(h:G5 (t.cH id) (s.cH id))(j:Nat)(p:List Uv):t.row id j p=s.row id j p:=by grind [AS.row,azT]
theorem Ba:∀(v:aF) (ty:Ty),(∀id∈v.ids,G5 (t.cH id) (s.cH id))->t.kU ty v=s.kU ty v
 | .dq id A p c i u,ty,h=>by
  cases ty <;> first
   |rfl
   |grind [AS.kU,afq,aF.ids]
 | .pr a b,ty,h=>by
  cases ty <;> first
   |rfl
   | (simp[AS.kU];rw[Ba a _ λid j=>h id (by grind [aF.ids]),Ba b _ λid j=>h id (by grind [aF.ids])])
 | .undef,ty,_ | .gone,ty,_ | .fR,ty,_ | .qW,ty,_ | .Cw,ty,_ | .JA,ty,_ | .d _ _,ty,_ | .ptr ..,ty,_ | .iU ..,ty,_ | .fn ..,ty,_ | .cons ..,ty,_ | .nil,ty,_ | .vec ..,ty,_ | .bx ..,ty,_ | .iI ..,ty,_ | .mp ..,ty,_ | .xB ..,ty,_ | .yl ..,ty,_ | .BO ..,ty,_ | .sb _,ty,_=>by cases ty <;> simp[AS.kU]
theorem G4:∀(v:aF),∀id∈v.shared,id∈v.ids
 | .dq ..,id,h=>by grind [aF.shared,aF.ids]
 | .pr a b,id,h=>by
  simp[aF.shared,aF.ids]at h ⊢;rcases h with h | h
  .exact .inl (G4 a id h)
  .exact .inr (G4 b id h)
 | .undef,_,h | .gone,_,h | .fR,_,h | .qW,_,h | .Cw,_,h | .JA,_,h | .d _ _,_,h | .ptr ..,_,h | .iU ..,_,h | .fn ..,_,h | .cons ..,_,h | .nil,_,h | .vec ..,_,h | .bx ..,_,h | .iI ..,_,h | .mp ..,_,h | .xB ..,_,h | .yl ..,_,h | .BO ..,_,h | .sb _,_,h=>by simp[aF.shared]at h
def aDk{T:bk}{x:aF}(h:∀id∈x.ids,G5 (t.cH id) (s.cH id)):aaI P t T x=aaI P s T x:=by unfold aaI;grind [azT,aF.ids]
def awL{n:Nat}{u j:Option cD}(B:∀x,u=aw x->t.ev x=s.ev x)(A:∀x,j=aw x->t.ev x=s.ev x):bounds t n u j=bounds s n u j:=by unfold bounds;grind
def azV{T:bk}{x:aF}{u j:Option cD}(h:∀id∈x.ids,G5 (t.cH id) (s.cH id))(B:∀x,u=aw x->t.ev x=s.ev x)(A:∀x,j=aw x->t.ev x=s.ev x):
  YC P t T x u j=YC P s T x u j:=by
 have I:∀n,bounds t n u j=bounds s n u j:=λn=>awL B A
 unfold YC
 split <;> first
  |rfl
  |grind [afq,aF.ids]
  |grind
def aej{T:bk}{x:aF}{i:Int}(h:∀id∈x.ids,G5 (t.cH id) (s.cH id)):wN P t T x i=wN P s T x i:=by unfold wN;grind [afq,aF.ids]
def aBW{j:Bool}{u dst:bk}{x:aF}(h:∀id∈x.ids,G5 (t.cH id) (s.cH id)):aBV P t j u dst x=aBV P s j u dst x:=by rfl
def G3{ty:Ty}:∀(j:List (Nat×cD)) (l:List ty.den),(∀x∈j,t.ev x.2=s.ev x.2/\∀id∈(s.ev x.2).ids,G5 (t.cH id) (s.cH id))->jF ty t j l=jF ty s j l
 |[],_,_=>rfl
 | (i,x)::j,l,h=>by obtain⟨u,A⟩:=h (i,x) (aY ..);simp[jF];rw[u,Ba _ _ A];congr 2;funext y;rw[G3 j _ λz B=>h z (aT _ B)]
def Dg{ty:Ty}:∀(j:List (Nat×cD)) (l:List ty.den) (r:List ty.den×List Id),(jF ty s j l).eval=aw r->∀id∈r.2,∃x∈j,id∈(s.ev x.2).ids
 |[],l,r,h,id,eH=>by grind [aM,jF]
 | (i,x)::j,l,r,h,id,eH=>by
  obtain⟨L,A⟩:=ba.1 h;obtain⟨y,M,B⟩:=aI.1 A;obtain⟨K,I,J⟩:=aI.1 B;obtain rfl:=aM.1 J;rcases bZ.1 eH with eH | eH
  .simp_all [G4]
  .obtain⟨z,O,u⟩:=Dg j _ K I id eH;grind
def OZ{fs:Array Field}:∀(j:List (Nat×cD)) (v:aF),(∀x∈j,t.ev x.2=s.ev x.2)->rv P fs t j v=rv P fs s j v
 |[],_,_=>rfl
 | (i,x)::j,v,h=>by
  have A:=h (i,x) (aY ..);simp[rv];have B:∀v,rv P fs t j v=rv P fs s j v:=λv=>OZ j v λz u=>h z (aT _ u)
  grind
def ZD:∀(l:List cD),(∀x∈l,t.ev x=s.ev x)->yH t l=yH s l
 |[],_=>rfl
 |x::l,h=>by simp only[yH];rw[h x (aY ..),ZD l λy j=>h y (aT _ j)]
def ahi{ty:Ty}{X:bk}{x:aF}(h:∀id∈x.ids,G5 (t.cH id) (s.cH id)):Qx P t ty X x=Qx P s ty X x:=by
 unfold Qx;split
 all_goals grind [AS.bfW,Ba]
theorem vM{v:aF}(h:∀t,pd (iw Γ ops s o) s t->(Ak P Γ cd o t).eval=aw (t.put o.dst v)):ads P Γ cd ops o s (s.put o.dst v):=
 ⟨⟨v,λ_=>aC,[]⟩,App.TK _ _ _,⟨λ_ _ h=>by grind,λ_ h=>by grind⟩,λt j=>⟨_,h t j,App.TK _ _ _⟩⟩
def uf{F:AS->Out aF}(B:∀t,Ak P Γ cd o t=(F t).bind λv=> .ok (t.put o.dst v))(u:∀t,pd (iw Γ ops s o) s t->F t=F s){j:AS}(A:(Ak P Γ cd o s).eval=aw j):ads P Γ cd ops o s j:=by grind [aI,aM,vM]
def ayk{v:aF}{ids:List Id}(j:∀id∈ids,id∈(iw Γ ops s o).rs)(h:∀t,pd (iw Γ ops s o) s t->(Ak P Γ cd o t).eval=aw ((t.bP ids).put o.dst v)):ads P Γ cd ops o s ((s.bP ids).put o.dst v):=
 ⟨⟨v,λ_=>aC,ids⟩,App.ad7 _ _ _ _,⟨λ_ _ h=>by grind,j⟩,λt u=>⟨_,h t u,App.ad7 _ _ _ _⟩⟩
def Gi{v:aF}{ids:List Id}{q:Nat}{u:List dR}(A:o.dst=aw q)(J:s.ff q=bn)(B:∀id∈ids,id∈(iw Γ ops s o).rs)
  (h:∀t,pd (iw Γ ops s o) s t->t.ff q=bn->(Ak P Γ cd o t).eval=aw (((t.bP ids).born q u).put o.dst v)):ads P Γ cd ops o s (((s.bP ids).born q u).put o.dst v):=by
 refine⟨⟨v,akX q u,ids⟩,by grind [App.aMM],⟨λid e h=> .inr ?_,B⟩,λt I=> ?_⟩
 .cases id with
  |dx _=>grind [akX]
  |new i j=>
   grind [akX,iw]
 .have K:t.ff q=bn:=by rw[I.ff q A];exact J
  grind [App.aMM]
def aaJ{v:aF}{id:Id}{j e:dR}(u:s.cH id=aw j)(B:id∈(iw Γ ops s o).ws)(h:∀t,pd (iw Γ ops s o) s t->t.cH id=s.cH id->(Ak P Γ cd o t).eval=aw ((t.bD id e).put o.dst v)):
  ads P Γ cd ops o s ((s.bD id e).put o.dst v):=by
 refine⟨⟨v,λi=>if i=id then aw e else aC,[]⟩,App.bbs u _ _ _,⟨λi I h=> .inl ?_,λ_ h=>by grind⟩,λt A=> ?_⟩
 .grind
 .have:=A.ws id B;grind [App.bbs]
end
end Go.Ab
namespace Go.Ab
section
variable {P:bg} {Γ:qN} {cd:List Nat} {ops:Array Oper} {o:Oper} {s t:AS}
def az1{T:bk}{x v:aF}{u:AS}(h:(Sl P s T x v).eval=aw u):
  ∃id B e,x.ids=[id]/\s.cH id=aw B/\u=s.bD id e/\∀t:AS,t.cH id=s.cH id->(Sl P t T x v).eval=aw (t.bD id e):=by
 unfold Sl at h;split at h
 .rename_i id M p n;cases A:s.obj id with
  |none=>grind [aG]
  |some r=>
   rw[A]at h;obtain⟨O,I⟩:=ba.1 h;obtain⟨r,h3,J⟩:=aI.1 I;obtain⟨h5,K⟩:=ba.1 J;obtain⟨h7,L⟩:=cV.1 K;obtain⟨c',h9,j⟩:=aI.1 L;obtain rfl:=aM.1 j;refine⟨id,_,_,rfl,gA A,rfl,λt ht=> ?_⟩;grind [AS.obj,Sl,ba,aI,cV,aM]
 grind [aG]
def aH1{c:Call}{x y:cD}{T X:bk}(gE:o.op= .call c)(hc:c.callee= .builtin .copy)(ha:c.args.toList=[x,y])(ht:c.argTypes.toList=[T,X]){J:AS}
  (j:(atO P s o.dst T X (s.ev x) (s.ev y)).eval=aw J):ads P Γ cd ops o s J:=by
 have u:∀z,z=x\/z=y->z∈o.op.operands.toList:=λz hz=>by grind [cX,Call.operands]
 have hx:∀t,pd (iw Γ ops s o) s t->t.ev x=s.ev x:=λt h=>h.ev (u x (.inl rfl))
 have hy:∀t,pd (iw Γ ops s o) s t->t.ev y=s.ev y:=λt h=>h.ev (u y (.inr rfl))
 have hm:∀t,pd (iw Γ ops s o) s t->∀ty,Qx P t ty X (s.ev y)=Qx P s ty X (s.ev y):=λt h ty=>ahi λid O=>h.aLq (aJj gE rfl) (u y (.inr rfl)) O
 unfold atO at j;split at j
 .rename_i e t b id ver len K L;obtain⟨m,h1,j⟩:=aI.1 j;split at j
  .rename_i ve n t' l tW;obtain⟨h2,A⟩:=ba.1 j;obtain⟨l',h3,B⟩:=aI.1 A;obtain⟨h4,I⟩:=cV.1 B;obtain rfl:=aM.1 I;have hw:id∈(iw Γ ops s o).ws:=by grind [writes,aF.ids,iw]
   refine aaJ (gA tW) hw λt ht M=> ?_
   simp_all [AS.obj,atO,aI,ba,cV,aM,Ak]
  grind [aG]
 grind [aG]
def awD{c:Call}{x y:cD}{T X:bk}(gE:o.op= .call c)(hc:c.callee= .builtin .append)(ha:c.args.toList=[x,y])(j:c.argTypes.toList=[T,X])(jV:∀k n,s.ev x= .fR->s.ev y= .d (.int k) n->False){s':AS}
  (he:(DG P s (aQ0 cd o.dst) (aIN cd o.dst) o.dst T X (s.ev x) (s.ev y)).eval=aw s'):ads P Γ cd ops o s s':=by
 have B:∀t,t.ev x=s.ev x->t.ev y=s.ev y->Ak P Γ cd o t=DG P t (aQ0 cd o.dst) (aIN cd o.dst) o.dst T X (t.ev x) (t.ev y):=λt e1 e2=>by grind [Ak]
 have O:∀z,z=x\/z=y->z∈o.op.operands.toList:=λz hz=>by grind [cX,Call.operands]
 have L:∀t,pd (iw Γ ops s o) s t->t.ev x=s.ev x:=λt h=>h.ev (O x (.inl rfl))
 have M:∀t,pd (iw Γ ops s o) s t->t.ev y=s.ev y:=λt h=>h.ev (O y (.inr rfl))
 have hm:∀t,pd (iw Γ ops s o) s t->∀ty,Qx P t ty X (s.ev y)=Qx P s ty X (s.ev y):=λt h ty=>ahi λid eH=>h.aLq (aJj gE rfl) (O y (.inr rfl)) eH
 unfold DG at he;split at he
 .rename_i e ty b q I hd;obtain⟨m,h1,A⟩:=aI.1 he;split at A
  .rename_i J;cases u:aIN cd o.dst with
   |true=>
    rw[u]at A;obtain⟨h5,K⟩:=cV.1 A;obtain rfl:=aM.1 K;refine vM λt j=> ?_
    simp_all [DG,aI,cV,aM]
   |false=>
   rw[u]at A;obtain⟨h3,h4⟩:=ba.1 A;obtain⟨h5,K⟩:=cV.1 h4;obtain rfl:=aM.1 K;refine Gi (ids:=[]) hd h3 (λ_ h=>by cases h) λt j hv=> ?_
   rw[B t (L t j) (M t j),L t j,M t j];unfold DG;simp[hd]at u I ⊢;simp[I,J,u];refine aI.2 ⟨m,by grind,?_⟩;exact ba.2 ⟨hv,cV.2 ⟨h5,aM.2 rfl⟩⟩
  .rename_i id ver len J;split at A
   .rename_i v fr e' t' l tW;obtain⟨h3,h4⟩:=ba.1 A;obtain⟨l',h5,K⟩:=aI.1 h4;obtain⟨h7,h8⟩:=cV.1 K;obtain⟨h9,bly⟩:=cV.1 h8;obtain⟨bst,Kq⟩:=cV.1 bly;obtain rfl:=aM.1 Kq;have hw:id∈(iw Γ ops s o).ws:=by grind [writes,aF.ids,iw]
    refine aaJ (gA tW) hw λt j bjo=> ?_
    rw[B t (L t j) (M t j),L t j,M t j];have hob':t.obj id=aw (v,fr,.vec e' t' l):=by grind [AS.obj]
    unfold DG;grind [aI,ba,cV,aM]
   grind [aG]
  grind [aG]
 grind [aG]
def afd:∀(n:Nat) (j acc:List Id),∀id∈acc,id∈s.reach n j acc
 | 0,_,_,id,h=>h
 |_+1,[],_,id,h=>h
 |n+1,x::j,acc,id,h=>by
  rw[AS.reach];split
  .exact afd n j acc id h
  .exact afd n _ _ id (bZ.2 (.inl h))
theorem CH:∀(n:Nat) (j acc:List Id),(∀id∈s.reach n j acc,((t.cH id).getD .dead).ids=((s.cH id).getD .dead).ids)->t.reach n j acc=s.reach n j acc
 | 0,_,_,_=>rfl
 |_+1,[],_,_=>rfl
 |n+1,x::j,acc,h=>by
  rw[AS.reach]at h;rw[AS.reach,AS.reach];split
  .rename_i u;rw[av u]at h;exact CH n j acc h
  .rename_i u;rw[au u]at h;have A:=h x (afd n _ _ x (bZ.2 (.inr (bM.2 rfl))));rw[A];exact CH n _ _ h
theorem be7(e:Option dR):((e.map dR.aNb).getD .dead).ids=(e.getD .dead).ids:=by
 cases e with
 |none=>rfl
 |some x=>cases x <;> rfl
def ajx(ids:List Id)(n:Nat)(j acc:List Id):(s.bP ids).reach n j acc=s.reach n j acc:=by grind [CH,ik,be7]
def Xa:∀(j:List (Option Ty)) (vs:List aF),(∀v∈vs,∀id∈v.ids,G5 (t.cH id) (s.cH id))->t.conv j vs=s.conv j vs
 |[],[],_=>rfl
 |[],_::_,_=>rfl
 |some _::_,[],_=>rfl
 |none::_,[],_=>rfl
 |some ty::j,v::vs,h=>by simp[AS.conv];rw[Ba v ty (h v (aY ..)),Xa j vs λx u=>h x (aT _ u)]
 |none::j,v::vs,h=>by simp[AS.conv];rw[Xa j vs λx u=>h x (aT _ u)]
def Xb:∀(j:List (Option Ty)) (vs:List aF) (r:List aF×List Id),(s.conv j vs).eval=aw r->r.1.flatMap aF.ids=y5 j vs/\∀id∈r.2,∃v∈vs,id∈v.ids
 |[],[],r,h=>by grind [AS.conv,aM,y5]
 |some ty::j,v::vs,r,h=>by obtain⟨x,L,I⟩:=aI.1 h;obtain⟨B,u,A⟩:=aI.1 I;obtain rfl:=aM.1 A;obtain⟨J,K⟩:=Xb j vs B u;grind [y5,aF.ids,aY,G4]
 |none::j,v::vs,r,h=>by obtain⟨B,u,A⟩:=aI.1 h;obtain rfl:=aM.1 A;obtain⟨J,K⟩:=Xb j vs B u;grind [y5]
 |[],_::_,_,h=>by grind [AS.conv,aG]
 |some _::_,[],_,h=>by grind [AS.conv,aG]
 |none::_,[],_,h=>by grind [AS.conv,aG]
def aDi:∀(c:aF),∀v∈c.list,∀id∈v.ids,id∈c.ids
 | .cons a b,v,hv,id,j=>by
  simp[aF.list]at hv;simp[aF.ids];rcases hv with rfl | hv
  .grind
  .exact .inr (aDi b v hv id j)
 | .sb _,_,h,_,_ | .undef,_,h,_,_ | .gone,_,h,_,_ | .fR,_,h,_,_ | .qW,_,h,_,_ | .Cw,_,h,_,_ | .JA,_,h,_,_ | .d _ _,_,h,_,_ | .ptr ..,_,h,_,_ | .iU ..,_,h,_,_
 | .fn ..,_,h,_,_ | .pr ..,_,h,_,_ | .nil,_,h,_,_ | .vec ..,_,h,_,_ | .bx ..,_,h,_,_ | .iI ..,_,h,_,_ | .mp ..,_,h,_,_ | .xB ..,_,h,_,_ | .yl ..,_,h,_,_ | .BO ..,_,h,_,_ | .dq ..,_,h,_,_=>by simp[aF.list]at h
theorem aib{ids:List Id}(h:∀id∈ids,t.cH id=s.cH id):t.CJ ids=s.CJ ids:=by
 funext id u;unfold AS.CJ;cases j:idxOf id ids with
 |none=>rfl
 |some k=>
  have:t.obj id=s.obj id:=by simp[AS.obj,h id (eK (sG j))]
  rw[this]
theorem aiQ{id:Id}(h:t.cH id=s.cH id):t.Hk id=s.Hk id:=by grind [AS.Hk,AS.obj]
def ab4{ids:List Id}(h:∀id∈ids,t.cH id=s.cH id)(q:Nat):t.A2 ids q=s.A2 ids q:=by
 funext id u;cases id with
 |new i j=>rfl
 |dx k=>
  grind [AS.A2,aiQ]
def aad{ids:List Id}(h:∀id∈ids,t.cH id=s.cH id)(q b:Nat):t.wH ids q b=s.wH ids q b:=by funext e;cases e <;> simp[AS.wH,ab4 h]
def aCt{ids:List Id}(h:∀id∈ids,t.cH id=s.cH id){id:Id}(j:id∈ids):t.pk ids id=s.pk ids id:=by grind [AS.pk,aib]
def rG(s:AS)(ids:List Id)(d:Option Tmp)(G:hZ):AS:=(AS.kS s ids (d.getD 0) (s.made ids (d.getD 0) G.news) ids G.cO).put d (G.val.jz (s.A2 ids (d.getD 0)))
def atr{ids:List Id}{d:Option Tmp}{G:hZ}{A:AS}:(s.back ids d G).eval=aw A↔(G.cO.length=aa ids/\(G.news=[]\/∃q,d=aw q/\s.ff q=bn))/\A=rG s ids d G:=by
 unfold AS.back;cases d with
 |none=>
  rw[ba,aM];simp only[aQ,lZ,List.isEmpty_iff,rG];constructor
  .rintro⟨⟨u,j⟩,rfl⟩;rw[j];exact⟨⟨u,.inl rfl⟩,rfl⟩
  .rintro⟨⟨u,j⟩,rfl⟩;rcases j with j | ⟨q,B,_⟩
   .rw[j];exact⟨⟨u,rfl⟩,rfl⟩
   grind
 |some q=>
  grind [ba,aM,rG]
def ag6(A:AS)(j:List Id)(q:Nat):∀(ids:List Id) (u:List dR) (s:AS),(AS.kS A j q s ids u).news.length=aa s.news
 |[],_,_=>by simp[AS.kS]
 |_::_,[],_=>by simp[AS.kS]
 |id::ids,e::u,s=>by rw[AS.kS,ag6 A j q ids u,XM]
def aYA(s:AS)(ids:List Id)(q:Nat)(j:List dR):(s.made ids q j).news.length=aa s.news:=by cases j <;> simp[AS.made,AS.born]
def T5(ids:List Id)(d:Option Tmp)(G:hZ)(id:Id):Prop:=id∈ids\/(G.news≠ []/\∃q j,d=aw q/\id= .new q j)
def akE{ids:List Id}{d:Option Tmp}{G:hZ}(M:ids.Nodup)(O:∀id∈ids,s.cH id≠aC)(L:G.cO.length=aa ids)(T:G.news=[]\/∃q,d=aw q/\s.ff q=bn):
  (∀id,¬T5 ids d G id->(rG s ids d G).cH id=s.cH id)/\
  (∀(k:Nat) (id:Id) (e:dR),ids[k]? =aw id->G.cO[k]? =aw e->(rG s ids d G).cH id=aw (s.wH ids (d.getD 0) (s.Hk id) e))/\
  (∀q j,G.news≠ []->d=aw q->(rG s ids d G).cH (.new q j)=(G.news[j]?).map (s.wH ids q 0))/\
  (∀q j,G.news≠ []->d=aw q->s.cH (.new q j)=aC):=by
 have J:G.news=[]\/s.ff (d.getD 0)=bn:=by grind
 obtain⟨m1,m2⟩:=aCu s ids (d.getD 0) G.news J;have u:∀q j,G.news≠ []->d=aw q->s.cH (.new q j)=aC:=λq j B I=>by grind [N7]
 obtain⟨n1,n2⟩:=P8 s ids (d.getD 0) ids G.cO (s.made ids (d.getD 0) G.news) M L (λid A=>by grind);refine⟨λid A=> ?_,λk id e B I=> ?_,λq j B I=> ?_,u⟩
 .unfold T5 at A;rw[rG,aae];grind
 .rw[rG,aae,n2 k id e B I]
 .subst I;have K:=λA=>O _ A (u q j B rfl)
  simp_all [rG]
open Classical in
def aHH{c:Call}{F:cD}{f:fX}{I:aF}{T:Entry}(gE:o.op= .call c)(hc:c.callee= .value F)(hF:s.ev F= .fn f I)(hΓ:Γ f (c.args.toList.map s.ev++I.list)=aw T)(gF:Nat.blt f yB=bn){s':AS}
  (he:(s.call T o.dst (c.args.toList.map s.ev++I.list)).eval=aw s'):ads P Γ cd ops o s s':=by
 have Ge:∀z,z=F\/z∈c.args.toList->z∈o.op.operands.toList:=λz hz=>by
  rw[gE];simp only[cX,Call.operands,hc,eV,bZ];rcases hz with rfl | hz
  .exact .inl (by simp)
  .exact .inr hz
 have aX1:∀v∈c.args.toList.map s.ev++I.list,∀id∈v.ids,id∈(iw Γ ops s o).rs:=λv hv id A=>by
  rcases bZ.1 hv with hv | hv
  .obtain⟨x,hx,rfl⟩:=dE.1 hv;exact aei (aJj gE rfl) (Ge x (.inr hx)) A
  .refine aei (aJj gE rfl) (Ge F (.inl rfl)) ?_
   rw[hF];exact aDi I v hv id A
 generalize aCZ:c.args.toList.map s.ev++I.list=vs at he aX1 hΓ;have bmj:(iw Γ ops s o).ws=s.reach 64 (y5 T.params vs) []:=by show writes Γ s o=_;unfold writes;rw[gE];simp only[hc,hF,aCZ,hΓ]
 have aIt:∀t,pd (iw Γ ops s o) s t->Ak P Γ cd o t=t.call T o.dst vs:=λt ht=>by
  unfold Ak;rw[gE];have h1:t.ev F= .fn f I:=by rw[ht.ev (Ge F (.inl rfl)),hF]
  have h2:c.args.toList.map t.ev=c.args.toList.map s.ev:=eE λx hx=>ht.ev (Ge x (.inr hx))
  obtain⟨cal,args,tys⟩:=c;simp only at hc aCZ h2;subst hc;simp only[h1,h2,aCZ,hΓ,gF,Out.guard]
 unfold AS.call at he;obtain⟨r,h1,h2⟩:=aI.1 he;obtain⟨aXW,arB⟩:=Xb _ _ r h1;have M:∀t:AS,(t.bP r.2).aum r.1=t.reach 64 (y5 T.params vs) []:=λt=>by unfold AS.aum;rw[ajx,aXW]
 rw[M]at h2;generalize hW:s.reach 64 (y5 T.params vs) []=W at h2 bmj;have hWn:W.Nodup:=by rw[<-hW];exact xX s _ _ _ (by simp)
 unfold AS.enter at h2;obtain⟨aan,h3⟩:=ba.1 h2;obtain⟨x,hx,h4⟩:=alN.1 h3;obtain⟨x0,bjp,h4⟩:=aI.1 h4;have beZ:=T.aOB _ _ bjp;rw[beZ]at h4 bjp;obtain⟨⟨hl,hv⟩,rfl⟩:=atr.1 h4;generalize hG:T.out (r.1.map (aF.jz ((s.bP r.2).CJ W))) (W.map ((s.bP r.2).pk W)) x=G at hl hv h4 ⊢;have hp:∀id∈W,(s.bP r.2).cH id≠aC:=λid A=>by have:=(aQ _ _▸eA.1 aan id A).1;obtain⟨⟨v,fr,c⟩,hr⟩:=dA.1 this;rw[gA hr];simp
 obtain⟨b1,b2,b3,b4⟩:=akE (s:=s.bP r.2) (d:=o.dst) hWn hp hl hv;have K:∀(u:AS) id,u.cH id=aC↔(u.bP r.2).cH id=aC:=λu id=>by rw[ik];split <;> simp
 let E:bk6:=⟨G.val.jz ((s.bP r.2).A2 W (o.dst.getD 0)),λid=>if T5 W o.dst G id then(rG (s.bP r.2) W o.dst G).cH id else aC,r.2⟩
 have O:∀u:AS,(rG (u.bP r.2) W o.dst G).cR=(u.put o.dst (G.val.jz ((u.bP r.2).A2 W (o.dst.getD 0)))).cR:=λu=>by unfold rG;cases o.dst <;> simp[AS.put,Kf,ap0,qZ]
 have hlen:∀u:AS,(rG (u.bP r.2) W o.dst G).news.length=aa u.news:=λu=>by unfold rG;cases o.dst <;> simp[AS.put,ag6,aYA,vk]
 refine⟨E,⟨O s,hlen s,λid=> ?_⟩,⟨λid e J=> ?_,λid A=> ?_⟩,λt ht=> ?_⟩
 .by_cases B:T5 W o.dst G id
  .have J:E.up id=(rG (s.bP r.2) W o.dst G).cH id:=av B;rw[J];cases hb:(rG (s.bP r.2) W o.dst G).cH id with
   |some e=>rfl
   |none=>
    rcases B with A | ⟨jV,q,j,hq,rfl⟩
    .obtain⟨k,hk⟩:=mB.1 A;have gF:k < G.cO.length:=by rw[hl];exact(mH.1 hk).1
     rw[b2 k id _ hk (cS gF)]at hb;cases hb
    .have:=(K s _).2 (b4 q j jV hq);simp[this]
  .have J:E.up id=aC:=au B;rw[J,b1 id B,ik]
 .by_cases B:T5 W o.dst G id
  .rcases B with A | ⟨_,q,j,hq,rfl⟩
   .left;refine⟨by rw[bmj];exact A,λh=>hp id A ((K s id).1 h)⟩
   .exact .inr ⟨q,j,hq,rfl⟩
  .have:E.up id=aC:=au B;rw[this]at J;cases J
 .obtain⟨v,hv,A⟩:=arB id A;exact aX1 v hv id A
 .have bok:t.conv T.params vs=s.conv T.params vs:=Xa _ _ λv hv id A=>ht.rs id (aX1 v hv id A)
  have aam:∀id∈W,t.cH id=s.cH id:=λid A=>ht.ws id (by rw[bmj];exact A)
  have L:∀id∈W,(t.bP r.2).cH id=(s.bP r.2).cH id:=λid A=>by rw[ik,ik,aam id A]
  have hWt:t.reach 64 (y5 T.params vs) []=W:=by
   rw[<-hW];refine CH _ _ _ λid A=> ?_
   rw[aam id (by rw[<-hW];exact A)]
  have bo2:G.news=[]\/∃q,o.dst=aw q/\(t.bP r.2).ff q=bn:=hv.imp id λ⟨q,hq,h⟩=>⟨q,hq,by
   rw[Bb]at h ⊢;rw[ht.ff q hq];exact h⟩
  have brF:∀id∈W,(t.bP r.2).cH id≠aC:=λid A=>by rw[L id A];exact hp id A
  obtain⟨d1,d2,d3,d4⟩:=akE (s:=t.bP r.2) (d:=o.dst) hWn brF hl bo2;refine⟨rG (t.bP r.2) W o.dst G,?_,⟨?_,hlen t,λid=> ?_⟩⟩
  .rw[aIt t ht];unfold AS.call;rw[bok];refine aI.2 ⟨r,h1,?_⟩;rw[M,hWt];unfold AS.enter;have hA:(t.bP r.2).CJ W=(s.bP r.2).CJ W:=aib L;have hO:W.map ((t.bP r.2).pk W)=W.map ((s.bP r.2).pk W):=eE λid A=>aCt L A
   refine ba.2 ⟨?_,alN.2 ⟨x,?_,aI.2 ⟨x,bjp,?_⟩⟩⟩
   .refine eA.2 λid A=> ?_
    have:=eA.1 aan id A;simp only[AS.obj,AS.aes]at this ⊢;rw[L id A];exact this
   .rw[hA,hO,<-hx]
   .rw[hA,hO,hG];exact atr.2 ⟨⟨hl,bo2⟩,rfl⟩
  .rw[O t,ab4 L]
  .by_cases B:T5 W o.dst G id
   .have J:E.up id=(rG (s.bP r.2) W o.dst G).cH id:=av B;rw[J];rcases B with A | ⟨jV,q,j,hq,rfl⟩
    .obtain⟨k,hk⟩:=mB.1 A;have gF:k < G.cO.length:=by rw[hl];exact(mH.1 hk).1
     rw[b2 k id _ hk (cS gF),d2 k id _ hk (cS gF),aad L,aiQ (L id A)]
    .rw[b3 q j jV hq,d3 q j jV hq,aad L];cases hn:G.news[j]? with
     |some e=>rfl
     |none=>
      have:=(K t _).2 (d4 q j jV hq);simp[this]
   .have J:E.up id=aC:=au B;rw[J,d1 id B,ik]
end
end Go.Ab
namespace Go.Ab
section
variable {P:bg} {Γ:qN} {cd:List Nat} {ops:Array Oper} {o:Oper} {s t:AS}
def Out.bind_assoc{α β γ:Type}(o:Out α)(f:α->Out β)(g:β->Out γ):(o.bind f).bind g=o.bind λa=>(f a).bind g:=by
 induction o with
 |ok a=>rfl
 |fail=>rfl
 |CU c r j=>grind [Out.bind]
 |get x h j=>grind [Out.bind]
 |br c x y u A=>grind [Out.bind]
def aD1{j:Array (Nat×cD)}{x:Nat×cD}(h:x∈j.toList):x.2∈(j.toList.map (·.2)).toArray.toList:=dE.2 ⟨x,h,rfl⟩
def aPG{T:bk}{x:cD}(gE:o.op= .box T x){s':AS}(j:(aHC P s (isObj cd o.dst) (aIN cd o.dst) o.dst T (s.ev x)).eval=aw s'):ads P Γ cd ops o s s':=by
 have u:∀t,Ak P Γ cd o t=aHC P t (isObj cd o.dst) (aIN cd o.dst) o.dst T (t.ev x):=λt=>by grind [Ak]
 have I:x∈o.op.operands.toList:=by grind [cX]
 unfold aHC at j;split at j
 .rename_i q O;split at j
  .rename_i A;obtain⟨B,M⟩:=ba.1 j;obtain rfl:=aM.1 M;simp at B;refine Gi (ids:=[]) O B.1 (λ_ h=>by cases h) λt J hv=> ?_
   rw[u,J.ev I];simp[O]at A ⊢;simp[A];exact ba.2 ⟨by grind,aM.2 rfl⟩
  .rename_i A;split at j
   .rename_i ty K;obtain⟨B,M⟩:=ba.1 j;obtain⟨y,h3,h4⟩:=aI.1 M;obtain rfl:=aM.1 h4;refine ayk (λid L=>aei (aJj gE rfl) I (G4 _ _ L)) λt J=> ?_
    rw[u,J.ev I];unfold aHC;simp[O]at A ⊢;simp[A,K];refine ba.2 ⟨B,aI.2 ⟨y,?_,aM.2 rfl⟩⟩;rw[Ba _ _ λid L=>J.aLq (aJj gE rfl) I L];exact h3
   grind [aG]
 grind [aG]
def aBz{T:bk}{j:Array (Nat×cD)}(O:o.op= .build T j){s':AS}(A:(PR P s o.dst T j.toList).eval=aw s'):ads P Γ cd ops o s s':=by
 have B:∀t,Ak P Γ cd o t=PR P t o.dst T j.toList:=λt=>by grind [Ak]
 have J:∀x∈j.toList,x.2∈o.op.operands.toList:=λx u=>by rw[O];exact aD1 u
 unfold PR at A;split at A
 .rename_i fs hT;split at A
  .rename_i z hz;obtain⟨h1,h2⟩:=ba.1 A;obtain⟨v,I,h4⟩:=aI.1 h2;obtain rfl:=aM.1 h4;refine vM λt K=> ?_
   rw[B];unfold PR;simp only[hT,hz];refine ba.2 ⟨h1,aI.2 ⟨v,?_,aM.2 rfl⟩⟩;rw[OZ _ _ λx u=>K.ev (J x u)];exact I
  grind [aG]
 .rename_i n e hT;split at A
  .rename_i ty L;obtain⟨h1,h2⟩:=ba.1 A;obtain⟨r,I,h4⟩:=aI.1 h2;obtain rfl:=aM.1 h4;refine ayk (λid M=> ?_) λt K=> ?_
   .obtain⟨x,u,hi⟩:=Dg _ _ _ I id M;exact aei (aJj O rfl) (J x u) hi
   .rw[B];unfold PR;simp[hT,L];refine ba.2 ⟨h1,aI.2 ⟨r,?_,aM.2 rfl⟩⟩;rw[G3 _ _ λx u=>⟨K.ev (J x u),λid M=>K.aLq (aJj O rfl) (J x u) M⟩];exact I
  grind [aG]
 grind [aG]
def adL{T:bk}{n:Nat}{j:Array (Nat×cD)}(K:o.op= .buildSlice T n j){s':AS}(M:(pg P s (aQ0 cd o.dst) (isObj cd o.dst) o.dst T n j.toList).eval=aw s'):ads P Γ cd ops o s s':=by
 have A:∀t,Ak P Γ cd o t=pg P t (aQ0 cd o.dst) (isObj cd o.dst) o.dst T n j.toList:=λt=>by grind [Ak]
 have O:∀x∈j.toList,x.2∈o.op.operands.toList:=λx u=>by rw[K];exact aD1 u
 unfold pg at M;split at M
 .rename_i e ty b q ajP hd;obtain⟨h1,h2⟩:=ba.1 M;obtain⟨r,h3,L⟩:=aI.1 h2;have B:∀id∈r.2,id∈(iw Γ ops s o).rs:=λid J=>by obtain⟨x,u,hi⟩:=Dg _ _ _ h3 id J;exact aei (aJj K rfl) (O x u) hi
  have bok:∀t,pd (iw Γ ops s o) s t->∀l,jF ty t j.toList l=jF ty s j.toList l:=λt I l=>G3 _ _ λx u=>⟨I.ev (O x u),λid J=>I.aLq (aJj K rfl) (O x u) J⟩
  split at L
  .obtain⟨h5,h6⟩:=ba.1 L;obtain rfl:=aM.1 h6;refine Gi hd h5 B λt I hv=> ?_
   rw[A];unfold pg;grind [ba,aI,aM]
  .obtain rfl:=aM.1 L;refine ayk B λt I=> ?_
   rw[A];unfold pg;grind [ba,aI,aM]
 grind [aG]
def ai6{T:bk}{x y:cD}(gE:o.op= .makeSlice T x y){j cap:Int}(hx:(asInt (s.ev x)).eval=aw j)(hy:(asInt (s.ev y)).eval=aw cap){L:AS}(B:(wR P s o.dst T j cap).eval=aw L):ads P Γ cd ops o s L:=by
 have u:∀t,Ak P Γ cd o t=(asInt (t.ev x)).bind λl=>(asInt (t.ev y)).bind λc=>wR P t o.dst T l c:=λt=>by grind [Ak]
 have J:∀z,z=x\/z=y->z∈o.op.operands.toList:=λz hz=>by grind [cX]
 unfold wR at B;split at B
 .rename_i e ty b q A I;obtain⟨M,O⟩:=ba.1 B;obtain⟨h3,h4⟩:=cV.1 O;obtain rfl:=aM.1 h4;refine Gi (ids:=[]) I M (λ_ h=>by cases h) λt K hv=> ?_
  rw[u,K.ev (J x (.inl rfl)),K.ev (J y (.inr rfl))];refine aI.2 ⟨j,hx,aI.2 ⟨cap,hy,?_⟩⟩;unfold wR;simp only[A,I];exact ba.2 ⟨hv,cV.2 ⟨h3,aM.2 rfl⟩⟩
 grind [aG]
theorem ayv{id:Id}{j:Nat}{u vt:Ty}(h:G5 (t.cH id) (s.cH id)):t.y9 id j u vt=s.y9 id j u vt:=by grind [AS.y9,azT]
def arI{T:bk}{m k:aF}{ok:Bool}(h:∀id∈m.ids,G5 (t.cH id) (s.cH id)):MJ P t T m k ok=MJ P s T m k ok:=by unfold MJ;grind [ayv,aF.ids]
def aut{id:Id}{j:Nat}{u vt:Ty}{l:List (u.den×vt.den)}(h:(s.y9 id j u vt).eval=aw l):∃e,s.cH id=aw e:=by
 unfold AS.y9 at h;split at h
 .rename_i v fr B v' I A;exact⟨_,gA A⟩
 grind [aG]
theorem ahc{id:Id}{j:Nat}{u vt:Ty}(h:t.cH id=s.cH id):t.y9 id j u vt=s.y9 id j u vt:=by grind [AS.y9,AS.obj]
theorem Wn{id:Id}(h:t.cH id=s.cH id):t.Aa id=s.Aa id:=by grind [AS.Aa,AS.obj]
def arN{T:bk}{m k v:aF}{A:AS}(h:(MO P s T m k v).eval=aw A):
  ∃id u e,m.ids=[id]/\s.cH id=aw u/\A=s.bD id e/\∀t:AS,t.cH id=s.cH id->(MO P t T m k v).eval=aw (t.bD id e):=by
 unfold MO at h;split at h
 .rename_i K V kt vt id I M;obtain⟨l,B,h⟩:=aI.1 h;obtain⟨kx,J,h⟩:=aI.1 h;obtain⟨vx,L,h⟩:=aI.1 h;obtain⟨hu,h⟩:=ba.1 h;obtain rfl:=aM.1 h;obtain⟨u,j⟩:=aut B;refine⟨id,u,_,rfl,j,rfl,λt O=> ?_⟩;unfold MO;grind [aI,ahc,ba,Wn,aM]
 grind [aG]
def arM{T:bk}{m k:aF}{A:AS}(h:(MN P s T m k).eval=aw A):
  ∃id u e,m.ids=[id]/\s.cH id=aw u/\A=s.bD id e/\∀t:AS,t.cH id=s.cH id->(MN P t T m k).eval=aw (t.bD id e):=by
 unfold MN at h;split at h
 .rename_i K V kt vt id I L;obtain⟨l,B,h⟩:=aI.1 h;obtain⟨kx,J,h⟩:=aI.1 h;obtain⟨O,h⟩:=ba.1 h;obtain rfl:=aM.1 h;obtain⟨u,j⟩:=aut B;refine⟨id,u,_,rfl,j,rfl,λt M=> ?_⟩;unfold MN;grind [aI,ahc,ba,Wn,aM]
 grind [aG]
def atp{s':AS}(A:(Ak P Γ cd o s).eval=aw s'):ads P Γ cd ops o s s':=by
 have B:=A;have L:∀x,o.op.operands= #[x]->∀t,pd (iw Γ ops s o) s t->t.ev x=s.ev x/\(auv o.op=aZ->∀id∈(s.ev x).ids,G5 (t.cH id) (s.cH id)):=λx I t u=>
  have hm:x∈o.op.operands.toList:=by rw[I];simp
  ⟨u.ev hm,λhn _ eH=>u.aLq hn hm eH⟩
 unfold Ak at A;split at A
 .rename_i x j;obtain rfl:=aM.1 A;refine vM λt u=> ?_
  unfold Ak;rw[j];simp only;rw[(L x (by rw[j];rfl) t u).1];rfl
 .rename_i x j;obtain rfl:=aM.1 A;refine vM λt u=> ?_
  unfold Ak;rw[j];simp only;rw[(L x (by rw[j];rfl) t u).1];rfl
 .rename_i c x y j;refine uf (F:=λt=>aNT (t.ev c) (t.ev x) (t.ev y)) (λt=>by unfold Ak;rw[j]) (λt u=> ?_) B;rw[u.ev (by rw[j];simp[cX]),u.ev (by rw[j];simp[cX]),u.ev (by rw[j];simp[cX])]
 .rename_i T j;split at A
  .rename_i z q hz hq;obtain⟨J,M⟩:=ba.1 A;obtain rfl:=aM.1 M;simp only[aQ]at J;refine Gi (ids:=[]) hq J.1 (λ_ h=>by cases h) λt u hv=> ?_
   unfold Ak;rw[j];simp only[hz,hq];exact ba.2 ⟨by simp[hv,J.2],aM.2 rfl⟩
  .exact(aG.1 A).elim
 .rename_i T x j;exact aPG j A
 .rename_i T parts j;exact aBz j A
 .rename_i T n parts j;exact adL j A
 .rename_i T x j;refine uf (F:=λt=>aaI P t T (t.ev x)) (λt=>by unfold Ak;rw[j]) (λt u=> ?_) B;obtain⟨J,M⟩:=L x (by rw[j];rfl) t u;rw[J,aDk (M (aJj j rfl))]
 .rename_i T x v j;obtain⟨s1,J,M⟩:=aI.1 A;obtain rfl:=aM.1 M;obtain⟨id,e0,e,eH,hs,rfl,hl⟩:=az1 J;refine aaJ hs ?_ λt u bjo=> ?_
  .show id∈writes Γ s o;unfold writes;rw[j];simp only[eH,bM]
  .unfold Ak;rw[j];simp only;rw[u.ev (x:=x) (by rw[j];simp[cX]),u.ev (x:=v) (by rw[j];simp[cX])];exact aI.2 ⟨_,hl t bjo,aM.2 rfl⟩
 .rename_i x j;split at A
  .rename_i id v p n I;obtain rfl:=aM.1 A;refine vM λt u=> ?_
   unfold Ak;rw[j];simp only[(L x (by rw[j];rfl) t u).1,I];rfl
  .rename_i ty y I;obtain rfl:=aM.1 A;refine vM λt u=> ?_
   unfold Ak;rw[j];simp only[(L x (by rw[j];rfl) t u).1,I];rfl
  .rename_i f c I;obtain rfl:=aM.1 A;refine vM λt u=> ?_
   unfold Ak;rw[j];simp only[(L x (by rw[j];rfl) t u).1,I];rfl
  .exact(aG.1 A).elim
 .rename_i op T x y U j;have blW:x∈o.op.operands.toList:=by rw[j];simp[cX]
  have boJ:y∈o.op.operands.toList:=by rw[j];simp[cX]
  obtain⟨v,J,M⟩:=aI.1 A;obtain rfl:=aM.1 M;refine vM λt u=> ?_
  unfold Ak;rw[j];simp only[u.ev blW,u.ev boJ];exact aI.2 ⟨v,J,rfl⟩
 .rename_i op T x j;refine uf (F:=λt=>bnL op (t.ev x)) (λt=>by unfold Ak;rw[j]) (λt u=> ?_) B;rw[(L x (by rw[j];rfl) t u).1]
 .rename_i T U x j;obtain⟨v,J,M⟩:=aI.1 A;obtain rfl:=aM.1 M;refine vM λt u=> ?_
  obtain⟨h3,h4⟩:=L x (by rw[j];rfl) t u;unfold Ak;rw[j];simp only[h3];exact aI.2 ⟨v,by rw[aBW (h4 (aJj j rfl))];exact J,rfl⟩
 .rename_i f first caps j
  obtain⟨J,M⟩:=ba.1 A;obtain rfl:=aM.1 M;refine vM λt u=> ?_
  have hc:yH t caps.toList=yH s caps.toList:=ZD _ λx I=>u.ev (by rw[j];simp only[cX,eV];exact bZ.2 (.inr I))
  unfold Ak;rw[j];simp only[hc];exact ba.2 ⟨J,aM.2 rfl⟩
 .rename_i T l c j;obtain⟨n,J,M⟩:=aI.1 A;obtain⟨m,h3,h4⟩:=aI.1 M;exact ai6 j J h3 h4
 .rename_i T x lo hi j;refine uf (F:=λt=>YC P t T (t.ev x) lo hi) (λt=>by unfold Ak;rw[j]) (λt u=> ?_) B;have hm:∀z,(z=x\/lo=aw z\/hi=aw z)->z∈o.op.operands.toList:=λz hz=>by
   rw[j];simp only[cX,eV,bZ];rcases hz with rfl | rfl | rfl
   .left;left;left;simp
   .left;left;right;simp
   .left;right;simp
  have I:=hm x (.inl rfl);rw[u.ev I];exact azV (λid eH=>u.aLq (aJj j rfl) I eH) (λy hy=>u.ev (hm y (.inr (.inl hy)))) (λy hy=>u.ev (hm y (.inr (.inr hy))))
 .rename_i T x f j;refine uf (F:=λt=>ME P T (t.ev x) f) (λt=>by unfold Ak;rw[j]) (λt u=> ?_) B;rw[(L x (by rw[j];rfl) t u).1]
 .rename_i T x f j;refine uf (F:=λt=>axJ P T (t.ev x) f) (λt=>by unfold Ak;rw[j]) (λt u=> ?_) B;rw[(L x (by rw[j];rfl) t u).1]
 .rename_i T x i j;refine uf (F:=λt=>(asInt (t.ev i)).bind λi=>wN P t T (t.ev x) i) (λt=>by unfold Ak;rw[j,Out.bind_assoc]) (λt u=> ?_) B;have I:x∈o.op.operands.toList:=by rw[j];simp[cX]
  rw[u.ev (x:=i) (by rw[j];simp[cX]),u.ev I];congr 1;funext i;exact aej λid eH=>u.aLq (aJj j rfl) I eH
 .rename_i T x i j;refine uf (F:=λt=>(asInt (t.ev i)).bind λi=>ax8 P T (t.ev x) i) (λt=>by unfold Ak;rw[j,Out.bind_assoc]) (λt u=> ?_) B;rw[u.ev (x:=i) (by rw[j];simp[cX]),u.ev (x:=x) (by rw[j];simp[cX])]
 .rename_i x i j;refine uf (F:=λt=>Out.opt ((t.ev x).list[i]?)) (λt=>by unfold Ak;rw[j]) (λt u=> ?_) B;rw[(L x (by rw[j];rfl) t u).1]
 .rename_i T j;have agV:=A;unfold Qw at agV;split at agV
  .rename_i K V kt vt q hm hd;obtain⟨J,M⟩:=ba.1 agV;obtain rfl:=aM.1 M;refine Gi (ids:=[]) hd J (λ_ h=>by cases h) λt u hv=> ?_
   unfold Ak;rw[j];simp only;unfold Qw;simp only[hm,hd];exact ba.2 ⟨hv,aM.2 rfl⟩
  .exact(aG.1 agV).elim
 .rename_i T x i ok j;refine uf (F:=λt=>MJ P t T (t.ev x) (t.ev i) ok) (λt=>by unfold Ak;rw[j]) (λt u=> ?_) B;have I:x∈o.op.operands.toList:=by rw[j];simp[cX]
  rw[u.ev (x:=i) (by rw[j];simp[cX]),u.ev I];exact arI λid eH=>u.aLq (aJj j rfl) I eH
 .rename_i T m k x j;obtain⟨s1,J,M⟩:=aI.1 A;obtain rfl:=aM.1 M;obtain⟨id,e0,e,eH,hs,rfl,hl⟩:=arN J;refine aaJ hs ?_ λt u bjo=> ?_
  .show id∈writes Γ s o;unfold writes;rw[j];simp only[eH,bM]
  .unfold Ak;rw[j];simp only;rw[u.ev (x:=m) (by rw[j];simp[cX]),u.ev (x:=k) (by rw[j];simp[cX]),u.ev (x:=x) (by rw[j];simp[cX])];exact aI.2 ⟨_,hl t bjo,aM.2 rfl⟩
 .rename_i c j;obtain⟨cal,args,tys⟩:=c;simp only at A;split at A
  .split at A
   .rename_i m k T T2 ha O;have boH:m∈o.op.operands.toList:=by rw[j];simp only[cX,Call.operands,bf,eV,ha];simp
    have bhE:k∈o.op.operands.toList:=by rw[j];simp only[cX,Call.operands,bf,eV,ha];simp
    obtain⟨s1,J,M⟩:=aI.1 A;obtain rfl:=aM.1 M;obtain⟨id,e0,e,eH,hs,rfl,hl⟩:=arM J;refine aaJ hs ?_ λt u bjo=> ?_
    .show id∈writes Γ s o;unfold writes;rw[j];simp only[ha,eH,bM]
    .unfold Ak;rw[j];simp only[ha,O];rw[u.ev boH,u.ev bhE];exact aI.2 ⟨_,hl t bjo,aM.2 rfl⟩
   .exact(aG.1 A).elim
  .split at A
   .rename_i x y T X ha O;exact aH1 j rfl ha O A
   .exact(aG.1 A).elim
  .split at A
   .rename_i x T ha O;refine uf (F:=λt=>bfp P T (t.ev x)) (λt=>by unfold Ak;rw[j];simp only[ha,O]) (λt u=> ?_) B;rw[u.ev (by rw[j];simp only[cX,Call.operands,bf,eV,ha];simp)]
   .exact(aG.1 A).elim
  .split at A
   .rename_i x y T X ha O;have blW:x∈o.op.operands.toList:=by rw[j];simp only[cX,Call.operands,bf,eV,ha];simp
    have boJ:y∈o.op.operands.toList:=by rw[j];simp only[cX,Call.operands,bf,eV,ha];simp
    split at A
    .rename_i k n I hy;have agV:=A;unfold aCK at agV;split at agV
     .rename_i e t0 b q kn ajP hd hX;obtain⟨J,M⟩:=ba.1 agV;obtain⟨h3,h4⟩:=cV.1 M;obtain rfl:=aM.1 h4;refine Gi (ids:=[]) hd J (λ_ h=>by cases h) λt u hv=> ?_
      unfold Ak;rw[j];simp only[ha,O,u.ev blW,u.ev boJ,I,hy];unfold aCK;simp only[ajP,hd,hX];exact ba.2 ⟨hv,cV.2 ⟨h3,aM.2 rfl⟩⟩
     .exact(aG.1 agV).elim
    .rename_i jV;exact awD j rfl ha O jV A
   .exact(aG.1 A).elim
  .split at A
   .rename_i x T ha O;have blW:x∈o.op.operands.toList:=by rw[j];simp only[cX,Call.operands,bf,eV,ha];simp
    split at A
    .rename_i e I hT;obtain rfl:=aM.1 A;refine vM λt u=> ?_
     unfold Ak;rw[j];simp only[ha,O,u.ev blW,I,hT];rfl
    .exact(aG.1 A).elim
   .exact(aG.1 A).elim
  .refine uf (F:=λt=>aRm bn (args.toList.map t.ev)) (λt=>by unfold Ak;rw[j]) (λt u=> ?_) B;congr 1;exact eE λx I=>u.ev (by rw[j];simp only[cX,Call.operands,bf,eV];exact I)
  .refine uf (F:=λt=>aRm aZ (args.toList.map t.ev)) (λt=>by unfold Ak;rw[j]) (λt u=> ?_) B;congr 1;exact eE λx I=>u.ev (by rw[j];simp only[cX,Call.operands,bf,eV];exact I)
  .rename_i F _;split at A
   .rename_i f caps hF;split at A
    .rename_i en aQQ;obtain⟨gF,A⟩:=ba.1 A;exact aHH j rfl hF aQQ gF A
    .exact(aG.1 A).elim
   .exact(aG.1 A).elim
  .exact(aG.1 A).elim
 .exact(aG.1 A).elim
end
end Go.Ab
namespace Go.Ab
section
variable {P:bg} {Γ:qN} {cd:List Nat} {ops:Array Oper} {o:Oper} {s t:AS}
def Loc(P:bg)(Γ:qN)(cd:List Nat)(ops:Array Oper)(o:Oper)(s u:AS):Prop:=∃E,App o.dst E s u/\awy (iw Γ ops s o) s E/\∀t,pd (iw Γ ops s o) s t->∃j,Ue P Γ cd ops o t=aw j/\App o.dst E t j
def al4{K:AS}(u:Ue P Γ cd ops o s=aw K):Loc P Γ cd ops o s K:=by
 unfold Ue at u;split at u
 .obtain⟨E,L,M,O⟩:=atp (ops:=ops) u;grind [Ue,Loc]
 .rename_i j B T;split at u
  .rename_i q hq;split at u
   .rename_i b J;have I:∀t,pd (iw Γ ops s o) s t->t.slot q= .d .bool b:=λt A=>by rw[A.cR q (bZ.2 (.inr (by grind [ad9])))];exact J
    by_cases e:b=B
    .rw[av e]at u;obtain⟨E,L,M,O⟩:=atp (ops:=ops) u;grind [Ue,Loc]
    .rw[au e]at u;simp at u;subst u;exact⟨⟨.nil,λ_=>aC,[]⟩,App.TK _ _ _,⟨λ_ _ h=>by grind,λ_ h=>by grind⟩,λt A=>⟨_,by grind [Ue],App.TK _ _ _⟩⟩
   .rename_i J;have I:∀t,pd (iw Γ ops s o) s t->t.slot q= .nil:=λt A=>by rw[A.cR q (bZ.2 (.inr (by grind [ad9])))];exact J
    simp at u;subst u;exact⟨⟨.nil,λ_=>aC,[]⟩,App.TK _ _ _,⟨λ_ _ h=>by grind,λ_ h=>by grind⟩,λt A=>⟨_,by grind [Ue],App.TK _ _ _⟩⟩
   grind
  grind
def aAE(h:pd (iw Γ ops s o) s t):writes Γ t o=writes Γ s o:=by
 have j:∀id∈writes Γ s o,t.cH id=s.cH id:=h.ws;unfold writes at j ⊢;split
 .rw[h.ev (by grind [cX])]
 .rw[h.ev (by grind [cX])]
 .rename_i c J;obtain⟨A,args,I⟩:=c;simp;split
  .split
   .rw[h.ev (by grind [cX,Call.operands])]
   .rfl
  .split
   .rw[h.ev (by grind [cX,Call.operands])]
   .rfl
  .split
   .rw[h.ev (by grind [cX,Call.operands])]
   .rfl
  .rename_i F;have u:∀z,z=F\/z∈args.toList->z∈o.op.operands.toList:=λz M=>by grind [cX,Call.operands]
   have K:=h.ev (u F (.inl rfl));have L:=eE λx B=>h.ev (u x (.inr B))
   split
   all_goals grind [CH]
  .rfl
 .rfl
def alV(h:pd (iw Γ ops s o) s t):iw Γ ops t o=iw Γ ops s o:=by
 have u:=aAE h;have A:aDQ t o=aDQ s o:=by
  unfold aDQ;split
  .rfl
  unfold List.flatMap;congr 1;exact eE λi j=>by rw[h.cR i (bZ.2 (.inl j))]
 grind [iw]
theorem H7{j u:List Id}(h:meets j u=aZ){id:Id}(A:id∈j):id ∉ u:=by grind [meets]
theorem E7{d:Option Tmp}{ids:List Id}(h:afM d ids=aZ){q:Nat}(u:d=aw q)(j:Nat):Id.new q j ∉ ids:=by grind [afM]
def TD{f g:Py}(h:f.blS g=aZ){q:Nat}(j:f.dst=aw q):q ∉ g.cR/\g.dst≠aw q:=by grind [Py.blS]
def aFZ(s:AS)(d:Option Tmp)(v:aF)(i:Nat)(h:d≠aw i):(s.put d v).slot i=s.slot i:=by
 cases d with
 |none=>rfl
 |some q=>grind [apZ]
def App.slot{d:Option Tmp}{E:bk6}{s j:AS}(h:App d E s j)(i:Nat)(u:d≠aw i):j.slot i=s.slot i:=by rw[<-aFZ s d E.v i u];simp[AS.slot,h.cR]
def aAY{f f':Py}{E:bk6}{s u:AS}(A:App f.dst E s u)(K:awy f s E)(M:∀id∈f'.ws,id∈f'.rs)(L:f.blS f'=aZ)(h2:meets f.ws f'.rs=aZ)(T:meets f'.ws f.rs=aZ)
  (h4:afM f.dst f'.rs=aZ):(∀i∈f'.cR,u.slot i=s.slot i)/\(∀id∈f'.ws,u.cH id=s.cH id)/\(∀id∈f'.rs,G5 (u.cH id) (s.cH id))/\∀q,f'.dst=aw q->u.ff q=s.ff q:=by
 have O:∀id∈f'.rs,E.up id=aC:=λid I=>by
  cases J:E.up id with
  |none=>rfl
  |some e=>
   rcases K.up id e J with⟨h,_⟩ | ⟨q,j,B,rfl⟩
   all_goals grind [meets,afM]
 refine⟨λi hi=>A.slot i λB=>(TD L B).1 hi,λid I=> ?_,λid I=> ?_,λq hq=> ?_⟩
 .rw[A.cH];have:=λhz=>H7 T I (K.fz id hz)
  grind
 .rw[A.cH];grind [aTs,aTt]
 .have jV:∀j,(u.cH (.new q j)=aC↔s.cH (.new q j)=aC):=λj=>by
   rw[A.cH];cases J:E.up (.new q j) with
   |none=>
    simp;split <;> simp
   |some e=>
    rcases K.up _ e J with⟨_,h⟩ | ⟨q',j',B,he⟩
    .simp[h]
    .obtain⟨rfl,_⟩:=he;exact absurd hq (TD L B).2
  rw[Bool.eq_iff_iff,N7,N7,A.len];grind
def aCH(s:AS)(o:Oper):∀id∈(iw Γ ops s o).ws,id∈(iw Γ ops s o).rs:=λ_ j=>bZ.2 (.inr j)
theorem swap{A:Oper}{B s2:AS}(h1:Ue P Γ cd ops o s=aw B)(h2:Ue P Γ cd ops A B=aw s2)(hi:(iw Γ ops s o).indep (iw Γ ops B A)=bn):
  ∃I,Ue P Γ cd ops A s=aw I/\Ue P Γ cd ops o I=aw s2/\iw Γ ops s A=iw Γ ops B A/\iw Γ ops I o=iw Γ ops s o:=by
 unfold Py.indep at hi;simp at hi;obtain⟨⟨⟨⟨⟨i1,i2⟩,i3⟩,i4⟩,i5⟩,i6⟩:=hi;obtain⟨E,a1,w1,l1⟩:=al4 h1;obtain⟨E',a2,L,l2⟩:=al4 h2;obtain⟨g1,g2,g3,g4⟩:=aAY (f:=iw Γ ops s o) (f':=iw Γ ops B A) a1 w1 (aCH _ _) i1 i3 i4 i5;have O:pd (iw Γ ops B A) B s:=⟨λi hi=>(g1 i hi).symm,λid eH=>(g2 id eH).symm,λid eH=>by
  have:=g3 id eH
  revert this
  cases B.cH id <;> cases s.cH id <;> simp[G5] <;> intro h <;> first | trivial | exact h | skip
  rename_i a b;cases a <;> cases b <;> simp_all [dR.aLq],λq hq=>(g4 q hq).symm⟩
 obtain⟨I,k1,k2⟩:=l2 s O;have hf':=alV O;have w2':awy (iw Γ ops B A) s E':=⟨λid e hu=>by
  rcases L.up id e hu with⟨h,hn⟩ | h
  all_goals grind,L.fz⟩
 obtain⟨m1,m2,m3,m4⟩:=aAY (f:=iw Γ ops B A) (f':=iw Γ ops s o) k2 w2' (aCH _ _) i2 i4 i3 i6;have T:pd (iw Γ ops s o) s I:=⟨m1,m2,m3,m4⟩;obtain⟨t2,k3,k4⟩:=l1 I T;refine⟨I,k1,?_,hf',alV T⟩;rw[k3];congr 1;have brP:∀id e,E.up id=aw e->E'.up id=aC/\id ∉ E'.fz:=λid e hu=>by
  rcases w1.up id e hu with⟨h,hn⟩ | ⟨q,j,J,rfl⟩
  .refine⟨?_,λM=>H7 i3 h (L.fz id M)⟩;cases K:E'.up id with
   |none=>rfl
   |some e'=>
    rcases L.up id e' K with⟨h',_⟩ | ⟨q,j,J,rfl⟩
    all_goals grind [H7,E7,iw]
  .refine⟨?_,λM=>E7 i5 J j (L.fz _ M)⟩;cases K:E'.up (.new q j) with
   |none=>rfl
   |some e'=>
    rcases L.up _ e' K with⟨h',_⟩ | ⟨q',j',hd',he⟩
    .grind [E7,iw]
    .obtain⟨rfl,_⟩:=he;exact absurd hd' (TD i1 J).2
 have brQ:∀id e,E'.up id=aw e->E.up id=aC/\id ∉ E.fz:=λid e hu=>by
  have hn:E.up id=aC:=by
   cases bsG:E.up id with
   |none=>rfl
   |some e1=>grind
  refine⟨hn,λM=> ?_⟩;rcases L.up id e hu with⟨h,_⟩ | ⟨q,j,J,rfl⟩
  .exact H7 i4 h (w1.fz id M)
  .exact E7 i6 J j (w1.fz _ M)
 refine AS.biN ?_ (by rw[k4.len,k2.len,a2.len,a1.len]) λid=> ?_
 .have e1:∀(u u':AS) (d:Option Tmp) (v:aF),u.cR=u'.cR->(u.put d v).cR=(u'.put d v).cR:=λu u' d v h=>by cases d <;> simp[AS.put,h]
  rw[k4.cR,a2.cR,e1 I (s.put A.dst E'.v) _ _ k2.cR,e1 B (s.put o.dst E.v) _ _ a1.cR];cases J:o.dst with
  |none=>simp[AS.put]
  |some q=>
   cases hd':A.dst with
   |none=>rfl
   |some q'=>
    have jV:q'≠q:=λe=>(TD (f:=iw Γ ops s o) i1 J).2 (by grind [iw])
    grind [AS.put,List.set_comm]
 .rw[k4.cH,k2.cH,a2.cH,a1.cH];grind
end
end Go.Ab
namespace Go.Ab
section
variable {P:bg} {Γ:qN} {cd:List Nat} {ops:Array Oper}
def are(P:bg)(Γ:qN)(cd:List Nat)(ops:Array Oper)(fs:Nat->Py):List Nat->AS->AS->Prop
 |[],s,sn=>s=sn
 |i::l,s,sn=>∃o,ops[i]? =aw o/\iw Γ ops s o=fs i/\∃j,Ue P Γ cd ops o s=aw j/\are P Γ cd ops fs l j sn
def are.aV6{fs:Nat->Py}{i:Nat}{A:List Nat}{sn:AS}:∀(u:List Nat) {s:AS},are P Γ cd ops fs (u++i::A) s sn->(∀j∈u,(fs j).indep (fs i)=bn)->are P Γ cd ops fs (i::(u++A)) s sn
 |[],_,h,_=>h
 |j::u,s,h,hi=>by
  obtain⟨oj,J,K,s1,L,B⟩:=h;obtain⟨oi,M,O,s2,T,h8⟩:=are.aV6 u B λj I=>hi j (aT _ I)
  grind [swap,are]
def at9{R:Type}{u:List Nat}{k:AS->Option R}{r:R}:∀(l:List Oper) (i:Nat) (acc:List (Nat×Py)) (s:AS) (A:Nat->Py),(∀n o,l[n]? =aw o->ops[i+n]? =aw o)->(∀x∈acc,A x.1=x.2/\x.1 < i)->
  at8 P Γ cd ops u i l acc s k=aw r->∃fs sn,(∀j,j < i->fs j=A j)/\are P Γ cd ops fs (List.range' i (aa l)) s sn/\k sn=aw r/\
   (∀x∈acc,∀m,i<=m->m < i+aa l->(u.getD m 0).testBit x.1=bn\/x.2.indep (fs m)=bn)/\(∀B I,i<=B->B < I->I < i+aa l->(u.getD I 0).testBit B=bn\/(fs B).indep (fs I)=bn)
 |[],i,acc,s,A,_,_,h=>⟨A,s,λ_ _=>rfl,rfl,h,λ_ _ m L M=>by grind,λ_ _ L M O=>by grind⟩
 |o::l,i,acc,s,A,ho,hf,h=>by
  unfold at8 at h;split at h
  .simp[AS.acA]at h;obtain⟨J,L,M⟩:=aCJ (k:=λJ=>at8 P Γ cd ops u (i+1) l ((i,iw Γ ops s o)::acc) J k) h;have K:∀x∈(i,iw Γ ops s o)::acc,(if x.1=i then iw Γ ops s o else A x.1)=x.2/\x.1 < i+1:=λx hx=>by grind
   obtain⟨fs,sn,g1,T,g3,g4,g5⟩:=at9 l (i+1) ((i,iw Γ ops s o)::acc) J (λn=>if n=i then iw Γ ops s o else A n)
    (λn o' hn=>by have:=ho (n+1) o' (by grind);grind) K M
   have gi:fs i=iw Γ ops s o:=by grind
   refine⟨fs,sn,λj hj=>by grind,?_,g3,λx hx m O h4=> ?_,λB I O h4 h5=> ?_⟩
   .exact⟨o,ho 0 o rfl,gi.symm,J,L,T⟩
   all_goals grind [aY]
  grind
def aA4{acc:List Nat}{j:Nat}:∀ {l:List Edge},(l.foldr (λe m=>Nat.lor (Nat.lor (Nat.pow 2 e.on) (acc.getD e.on 0)) m) 0).testBit j=bn->∃e∈l,j=e.on\/(acc.getD e.on 0).testBit j=bn
 |[],h=>by grind
 |e::l,h=>by
  simp at h;rcases h with(h | h) | h
  .grind
  .grind
  .obtain⟨u,A,B⟩:=aA4 h;grind
def ato:∀(l:List Oper) (acc:List Nat),(∀i,i < aa acc->(l.foldl (λacc o=>acc++ [aA3 acc o]) acc)[i]? =acc[i]?)/\
  ∀i o,l[i]? =aw o->(l.foldl (λacc o=>acc++ [aA3 acc o]) acc)[aa acc+i]? =aw (aA3 ((l.foldl (λacc o=>acc++ [aA3 acc o]) acc).take (aa acc+i)) o)
 |[],acc=>⟨λ_ _=>rfl,λi o h=>by grind⟩
 |x::l,acc=>by
  obtain⟨u,A⟩:=ato l (acc++ [aA3 acc x]);refine⟨λi j=> ?_,λi o j=> ?_⟩
  .grind
  .cases i with
   |zero=>
    grind [aA3]
   |succ i=>
    grind
def aVj{l:List Oper}{i:Nat}{o:Oper}(A:l[i]? =aw o){j:Nat}(u:((aA5 l).getD i 0).testBit j=bn):∃e∈o.after.toList,Region.binds .any e=bn/\(j=e.on\/((aA5 l).getD e.on 0).testBit j=bn):=by have h:=(ato l []).2 i o A;have e:aA5 l=l.foldl (λacc o=>acc++ [aA3 acc o]) []:=rfl;rw[<-e]at h;simp at h;rw[dH,h]at u;obtain⟨e,B,I⟩:=aA4 u;grind
def as1(n:Nat)(j:Array Bool):List Nat:=(List.range n).filter λi=> !j.getD i bn
def ayw{n:Nat}{j:Array Bool}{i:Nat}:i∈as1 n j↔i < n/\j.getD i bn=aZ:=by simp[as1]
def YR(n:Nat)(j:Array Bool):(as1 n j).Pairwise (· < ·):=(List.pairwise_lt_range).filter _
def al1{u:Array Bool}{i j:Nat}(d:Bool)(A:i < u.size):(u.setIfInBounds i bn).getD j d=if j=i then bn else u.getD j d:=by simp;grind
theorem bg7{u:Array Bool}{i:Nat}(J:i < u.size){B I:List Nat}(h:as1 u.size u=B++i::I):as1 u.size (u.setIfInBounds i bn)=B++I:=by
 have A:=YR u.size u;rw[h]at A;obtain⟨L,K,M⟩:=rU.1 A;obtain⟨O,_⟩:=gQ.1 K;have e:as1 u.size (u.setIfInBounds i bn)=(as1 u.size u).filter λj=>decide (j≠i):=by
  unfold as1;rw[List.filter_filter];refine List.filter_congr λj _=> ?_
  rw[al1 bn J];grind
 grind [List.filter_eq_self]
def aO6{rd:Option Nat}{n:Nat}{C:Ctx}(hΓ:Sound P Γ){fs:Nat->Py}{sn:AS}{Q:Exit->Act->cG->Prop}(hE:axy ops.toList=bn)
  (bou:∀m1 m2,m1 < m2->m2 < ops.size->((aA5 ops.toList).getD m2 0).testBit m1=bn\/(fs m1).indep (fs m2)=bn) (hQ:∀a w,jO C sn a w->Q .normal a w):
  ∀(A:Nat) (u:Array Bool) (s:AS) (a:Act) (w:cG),u.size=ops.size->aa (as1 ops.size u)=A->
   (∀i,i < ops.size->u.getD i bn=bn->∀j,((aA5 ops.toList).getD i 0).testBit j=bn->u.getD j aZ=bn)->are P Γ cd ops fs (as1 ops.size u) s sn->jO C s a w->wpAnyIn (Fr rd) n P .any ops Q A u a w:=by
 have blN:∀i o,ops[i]? =aw o->∀e∈o.after.toList,Region.binds .any e=bn->e.on < i:=λi o O e he M=>by have:=eA.1 hE (o,i) (List.mem_zipIdx_iff_getElem?.2 (by grind));grind
 have K:∀(u:Array Bool),u.size=ops.size->∀i,i∈Region.ready .any ops u↔i∈as1 ops.size u/\∀o,ops[i]? =aw o->∀e∈o.after.toList,Region.binds .any e=bn->u.getD e.on aZ=bn:=λu _ i=>by grind [Region.ready,Array.all_eq_true',as1]
 have Gf:∀(u:Array Bool),u.size=ops.size->Region.ready .any ops u=[]->as1 ops.size u=[]:=λu hs hr=>by
  cases hu:as1 ops.size u with
  |nil=>rfl
  |cons i l=>
   exfalso;have O:i∈as1 ops.size u:=by grind
   have B:=YR ops.size u;rw[hu]at B;have:i∈Region.ready .any ops u:=(K u hs i).2 ⟨O,λo ho e he M=>by
    have gF:=blN i o ho e he M;have I:=(ayw.1 O).1;cases hl:u.getD e.on bn with
    |false=>
     have hm:e.on∈as1 ops.size u:=ayw.2 ⟨aq,hl⟩;grind [gQ]
    |true=>
     grind⟩
   grind
 intro A
 induction A with
 |zero=>
  intro u s a w hs hl _ hr u7;refine⟨?_,?_⟩
  .cases brJ:Region.ready .any ops u with
   |nil=>rfl
   |cons i l=>
    grind [aY]
  grind [are]
 |succ A ih=>
  intro u s a w hs hl bi7 hr u7;refine⟨λbrJ=> ?_,λi O=> ?_⟩
  .grind
  .obtain⟨hu,brb⟩:=(K u hs i).1 O;obtain⟨I,bsA⟩:=ayw.1 hu;obtain⟨o,ho⟩:∃o,ops[i]? =aw o:=⟨ops[i],by grind⟩
   obtain⟨l1,l2,J⟩:=List.append_of_mem hu;have B:=YR ops.size u;rw[J]at B;have bod:∀j,((aA5 ops.toList).getD i 0).testBit j=bn->u.getD j aZ=bn:=λj hj=>by
    obtain⟨e,he,M,h | h⟩:=aVj (by simpa using ho) hj
    all_goals grind
   rw[J]at hr;have M:=are.aV6 l1 hr λj hj=>by
    have gF:j < i:=(rU.1 B).2.2 j hj i (aY ..);rcases bou j i gF I with h | h
    .have h1:=bod j h;have bsy:j∈as1 ops.size u:=by grind
     grind [as1]
    grind
   obtain⟨o',ho',hf,s',hg,vg⟩:=M;obtain rfl:o=o':=by grind
   have ax3:as1 ops.size (u.setIfInBounds i bn)=l1++l2:=by grind [bg7]
   refine((at7 hΓ u7 hg).mono λa' w' T=>ih (u.setIfInBounds i bn) s' a' w' (by grind) ?_ ?_ (by grind) T).wpOpIn ho
   .grind
   .intro m hm L j hj;rw[al1 aZ aq];split
    .rfl
    .rw[al1 bn aq]at L;split at L
     all_goals grind
theorem aFf{rd:Option Nat}{n:Nat}{C:Ctx}(M:P.follows .mixedOrders=bn)(hΓ:Sound P Γ){id:Nat}{R:Type}{Q:Exit->Act->cG->Prop}{s:AS}{a:Act}{w:cG}{k:AS->Option R}{r:R}(h:jO C s a w)(J:axy ops.toList=bn)
  (K:at8 P Γ cd ops (aA5 ops.toList) 0 ops.toList [] s k=aw r) (L:∀u j w',jO C u j w'->k u=aw r->Q .normal j w'):(Code.region id ops bn).wpIn (Fr rd) n P Q a w:=by
 obtain⟨fs,sn,_,g2,A,_,B⟩:=at9 ops.toList 0 [] s (λ_=>⟨aC,[],[],[]⟩) (λn o hn=>by grind) (λ_ T=>by cases T) K;refine wpIn_region_any M ?_
 obtain⟨g,β,h⟩:=h;have hu:as1 ops.size (Array.replicate ops.size aZ)=List.range' 0 (aa ops.toList):=by simp_all [as1,List.range_eq_range']
 refine aO6 (cd:=cd) hΓ J (fs:=fs) (sn:=sn) (λm1 m2 I h2=>B m1 m2 (az _) I (by grind)) (λj w' O=>L sn j w' O A) ops.size _ s a _ (by simp) (by grind) (λi hi hl=> ?_) (by grind) ⟨g,β,h.drew⟩;simp_all
end
end Go.Ab
namespace Go.Ab
def CK{ρ:Ren}{s:AS}(h:∀id,(s.obj id).isSome=bn->∀u,ρ id u=aw (id,u)):∀(v:aF),v.there s=bn->v.jz ρ=v
 | .ptr id u p n,j=>by grind [aF.jz,aF.there]
 | .dq id u p c i A,j=>by grind [aF.jz,aF.there]
 | .pr a b,j=>by simp[aF.there]at j;simp only[aF.jz];rw[CK h a j.1,CK h b j.2]
 | .cons a b,j=>by simp[aF.there]at j;simp only[aF.jz];rw[CK h a j.1,CK h b j.2]
 | .fn f c,j=>by simp[aF.jz];rw[CK h c j]
 | .bx e z c,j=>by simp[aF.jz];rw[CK h c j]
 | .iI id u,j=>by grind [aF.jz,aF.there]
 | .yl id u,j=>by grind [aF.jz,aF.there]
 | .BO k f p,j=>by simp[aF.jz];rw[CK h f j]
 | .xB ..,j=>by cases j
 | .undef,_ | .gone,_ | .fR,_ | .qW,_ | .Cw,_ | .JA,_ | .d _ _,_ | .iU _ _,_ | .nil,_ | .vec ..,_ | .mp ..,_ | .sb _,_=>rfl
def bid.aX{E E':Env}(L:yA E E')(hh:∀b:Nat,E'.w.heap[b]? =E.w.heap[b]?){i q:Id}{B:Nat}{J vt:Ty}{u:List (J.den×vt.den)}{cur:Option (J.den×vt.den)}(h:bid E i q B J vt u cur)(hβ:E'.β i=E.β i)
  (hg:∀pl,E.β i=aw pl->E.g pl.b= .own (.id i) 0->E'.g pl.b= .own (.id i) 0)
  (hq:∀j,B=j+1->(E.Oi q j->E'.Oi q j/\(E'.cur q j->E.cur q j/\E'.β q=E.β q))/\(∀k v l,E.s q=aw (.obj j bn (.mp k v l))->E'.s q=aw (.obj j bn (.mp k v l)))/\
   ∀pl,E.β q=aw pl->E.g pl.b= .own (.id q) 0->E'.g pl.b= .own (.id q) 0):bid E' i q B J vt u cur:=by
 obtain⟨pl,mb,since,seen,c0,h1,h2,h3,h4⟩:=h;refine⟨pl,mb,since,seen,c0,by grind,by grind,hg pl h1 h3,λj I=> ?_⟩;obtain⟨h5,h6⟩:=h4 j I;obtain⟨q1,q2,q3⟩:=hq j I;obtain⟨b1,b2⟩:=q1 h5;refine⟨b1,λhc=> ?_⟩;obtain⟨c1,c2⟩:=b2 hc;obtain⟨⟨k,v,l,k0⟩,K,es,A,k1,k2,k3,k4,k5,k6,k7,k8,k9⟩:=h6 c1;exact⟨⟨k,v,l,q2 _ _ _ k0⟩,K,es,A,by grind,k2,by grind,q3 _ k1 k4,k5,k6,k7,k8.mono L,λx hx=>
  let⟨e,se,M,O,T,a4⟩:=k9 x hx
  ⟨e,se,M,O,T,a4.mono L⟩⟩
def aIO(c:aF):(∃q j k v l u,c= .xB q j k v l u)\/(∀ρ A,c.aSW ρ A=c.jz ρ)/\∀s v fr,dR.there s (.obj v fr c)=c.there s:=by cases c <;> first | exact .inl ⟨_,_,_,_,_,_,rfl⟩ | exact .inr ⟨λ_ _=>rfl,λ_ _ _=>rfl⟩
section
variable {P:bg} {C:Ctx} {g:Nat->pP} {β:Id->Option Pl} {s:AS} {a:Act} {w:cG}
def Inv.afh(h:Inv C g β s a w)(hC:C.ok){B:AS}{I:Nat->pP}{β1:Id->Option Pl}(ρ:Ren)(O:aa B.cR=aa s.cR)(ht:Trans w w g I)(hle:FK ρ (s.env w g β) (B.env w I β1))
  (al7:∀i,VS (B.env w I β1) (B.slot i) (a.tmps.getD i undef))
  (eG:∀id u fr c,B.cH id=aw (.obj u fr c)->FJ (B.env w I β1) id fr c\/∃A v0 c0,s.cH A=aw (.obj v0 fr c0)/\c0.jz ρ=c/\β1 id=β A/\∀pl,β A=aw pl->(∀k,g pl.b= .own (.id A) k->I pl.b= .own (.id id) k)/\(g pl.b= .free->I pl.b= .free))
  (J:∀k,(s.cH (.dx k)≠aC->B.cH (.dx k)≠aC)/\(∀v fr c,B.cH (.dx k)=aw (.obj v fr c)->∃c0,s.cH (.dx k)=aw (.obj v fr c0))/\β1 (.dx k)=β (.dx k)):Inv C I β1 B a w:=by
 refine⟨h.defers.mono ht,by rw[O];exact h.size,al7,λid u fr c eH=> ?_,h.trans.trans ht,?_⟩
 .rcases eG id u fr c eH with ho | ⟨A,v0,c0,M,T,h3,h4⟩
  .exact ho
  have:=Cj hle (h.cd A v0 fr c0 M) (id':=id) h3 λpl hp=>⟨rfl,(h4 pl hp).1,(h4 pl hp).2⟩
  grind
 .have hl:=h.le;have ho:∀id u,C.E.Oi id u->∃k,id= .dx k:=λid u L=>by
   cases id with
   |dx k=>grind
   |new i j=>exact absurd (hC.1 i j) L.1
  refine⟨hl.mem.trans (Trans.mem (E:=s.env w g β) (E':=B.env w I β1) ht),λid u L=> ?_,λid u L hc=> ?_⟩
  .obtain⟨k,rfl⟩:=ho id u L;obtain⟨M,T⟩:=hl.Oi _ u L;obtain⟨e1,e2,_⟩:=J k;exact⟨e1 M,λv fr c hh=>let⟨c0,K⟩:=e2 v fr c hh;T v fr c0 K⟩
  .obtain⟨k,rfl⟩:=ho id u L;obtain⟨fr,c,hc⟩:=hc;obtain⟨_,e2,e3⟩:=J k;obtain⟨c0,K⟩:=e2 _ _ _ hc;obtain⟨M,T⟩:=hl.cur _ u L ⟨fr,c0,K⟩;exact⟨M,e3.trans T⟩
def Inv.renamed(h:Inv C g β s a w)(hC:C.ok){u:AS}{β1:Id->Option Pl}(ρ:Ren)(B:aa u.cR=aa s.cR)(J:FK ρ (s.env w g β) (u.env w g β1))
  (I:∀i,VS (u.env w g β1) (u.slot i) (a.tmps.getD i undef)) (L:∀id A fr c,u.cH id=aw (.obj A fr c)->FJ (u.env w g β1) id fr c\/∃v0,s.cH id=aw (.obj v0 fr c)/\c.jz ρ=c/\β1 id=β id)
  (j:∀k,u.cH (.dx k)=s.cH (.dx k)/\β1 (.dx k)=β (.dx k)):Inv C g β1 u a w:=
 h.afh hC ρ B (Trans.refl w g) J I (λid A fr c M=>(L id A fr c M).imp (λh=>h) λ⟨v0,O,T,h3⟩=>⟨id,v0,c,O,T,h3,λ_ _=>⟨λ_ h=>h,λh=>h⟩⟩)
  λk=>⟨λK=>by grind,λv fr c K=>⟨c,(j k).1.symm.trans K⟩,(j k).2⟩
def Inv.bmD(h:Inv C g β s a w)(j:Nat){v:aF}(u:VS (s.env w g β) v (a.tmps.getD j undef)):Inv C g β (s.put (aw j) v) a w:=by
 refine⟨h.defers,by simpa[AS.put]using h.size,λi=> ?_,by simpa using h.cd,h.trans,by simpa using h.le⟩;rw[bem,apZ];split
 .grind
 .exact h.cR i
def afN(aX:List Nat):∀(l:List aF) (n i:Nat),(fD aX n l).getD i .undef= .undef\/(fD aX n l).getD i .undef=l.getD i .undef
 |[],n,i=>by simp[fD]
 |v::l,n,0=>by grind [fD]
 |v::l,n,i+1=>by exact afN aX l (n+1) i
def Ju(aX:List Nat):∀(l:List aF) (n:Nat),aa (fD aX n l)=aa l
 |[],n=>rfl
 |v::l,n=>by simp[fD,Ju aX l]
theorem av3(aX:List Nat):∀(l:List (List dR)) (n i:Nat),(xC aX n l).getD i []=[]\/(xC aX n l).getD i []=l.getD i []
 |[],n,i=>by simp[xC]
 |v::l,n,0=>by grind [xC]
 |v::l,n,i+1=>by exact av3 aX l (n+1) i
def aRl{s:AS}(i:Nat):s.slot i= .undef\/s.slot i∈s.cR:=by grind [AS.slot]
theorem bel{s:AS}{id:Id}{e:dR}(h:s.cH id=aw e):e∈s.cO\/∃u∈s.news,e∈u:=by
 cases id with
 |dx k=>grind [AS.cH]
 |new i j=>
  simp[AS.cH]at h;cases A:s.news[i]? with
  |none=>grind
  |some u=>rw[A]at h;exact .inr ⟨u,eK A,eK h⟩
def Inv.aX(h:Inv C g β s a w)(hC:C.ok){an:rM}(ht:(aaB an s).aA1=bn):Inv C g β (aaB an s) a w:=by
 obtain⟨L,kt,_,_,_⟩:=an;obtain⟨u,I⟩:∃u:AS,u= {cR:=fD L 0 s.cR,cO:=s.cO,news:=xC kt 0 s.news}:=⟨_,rfl⟩;have e1:u.cR=fD L 0 s.cR:=by rw[I]
 have ht:(u.cR.all (aF.there u) && u.cO.all (dR.there u) && u.news.all λes=>es.all (dR.there u))=bn:=by rw[I];exact ht
 show Inv C g β {cR:=fD L 0 s.cR,cO:=s.cO,news:=xC kt 0 s.news} a w;rw[<-I];have eG:∀id,u.cH id=aC\/u.cH id=s.cH id:=λid=>by
  cases id with
  |dx k=>grind [AS.cH]
  |new i j=>
   grind [AS.cH,av3]
 have J:∀id,(u.obj id).isSome=bn->u.cH id=s.cH id:=λid hi=>by grind [AS.obj]
 let ρ:Ren:=λid A=>if(u.obj id).isSome=bn then aw (id,A) else aC
 have hρ:∀v:aF,v.there u=bn->v.jz ρ=v:=CK λid M A=>av M
 have B:FK ρ (s.env w g β) (u.env w g β):=by
  refine⟨⟨λ_ _ _ h=>h,λ_ _ h h'=>⟨h,h'⟩⟩,λid A r T O=> ?_⟩;by_cases hi:(u.obj id).isSome=bn
  .have:ρ id A=aw (id,A):=av hi;rw[this,cn]at T;subst T;have e:=J id hi;obtain⟨b1,b2⟩:=O;exact⟨⟨by show u.cH id≠aC;grind [AS.obj],λv fr c hh=>b2 v fr c (e.symm.trans hh)⟩,λ⟨fr,c,K⟩=>⟨⟨fr,c,e.symm.trans K⟩,rfl⟩⟩
  grind
 refine h.renamed hC ρ (by rw[e1,Ju]) B (λi=> ?_) (λid A fr c M=> ?_) λk=>⟨by grind [AS.cH],rfl⟩
 .rcases aRl (s:=u) i with hi | hi
  .grind [VS.undef]
  .rcases afN L s.cR 0 i with h1 | h1
   .grind [AS.slot,VS.undef]
   .have:u.slot i=s.slot i:=by grind [AS.slot]
    have hv:=Pz B (h.cR i);grind
 .have:u.cH id=s.cH id:=by grind
  have K:dR.there u (.obj A fr c)=bn:=by grind [bel]
  rcases aIO c with⟨q,vq,k,v,l,cu,rfl⟩ | ⟨_,bsF⟩
  .have e:=J q K;refine .inl (bid.aX B.mem (λ_=>rfl) (h.cd id A fr _ (this.symm.trans M)) rfl (λ_ _ h=>h) λvr _=>⟨λO=>B.ref q vr (q,vr) (av K) O,λk v l hk=>e.trans hk,λ_ _ h=>h⟩)
  grind
def Inv.drop(h:Inv C g β s a w)(j:List Nat):Inv C g β (s.drop j) a w:=by
 refine⟨h.defers,by simpa[AS.drop,Ju]using h.size,λi=> ?_,h.cd,h.trans,h.le⟩;rcases afN j s.cR 0 i with h1 | h1
 .have:(s.drop j).slot i= .undef:=h1;grind [VS.undef]
 .have:(s.drop j).slot i=s.slot i:=h1;rw[this];exact h.cR i
def J7(b q:Nat):pP->pP
 | .own (.id (.new x j)) k=>if x=b then .own (.id (.new q j)) k else .own (.id (.new x j)) k
 |l=>l
def Trans.bmB(w:cG)(g:Nat->pP)(b q:Nat):Trans w w g λx=>J7 b q (g x):=by
 refine⟨rfl,rfl,⟨rfl,ax _⟩,ax _,λy _=> ?_⟩;cases u:g y with
 |free=>simp[J7]
 |own o k=>cases o with
  |gK=>simp[J7]
  |id x=>
   cases x with
   |dx m=>grind [J7]
   |new x j=>
    grind [J7]
def aFY(f:aF->aF)(j:f .undef= .undef)(l:List aF)(i:Nat):(l.map f).getD i .undef=f (l.getD i .undef):=by grind
def Inv.RQ(h:Inv C g β s a w)(hC:C.ok){b q:Nat}(bi4:b < aa s.news)(brI:q < aa s.news):
  ∃g1 β1,Inv C g1 β1 (s.RQ b q (s.news.getD b [])) a w:=by
 generalize bre:s.news.getD b []=es;have boo:∀j,s.cH (.new b j)=es[j]? :=λj=>by rw[<-bre];rfl
 let ρ:Ren:=V1 es b q
 let I:=s.RQ b q es
 have vh:∀u,I.cH (.new q u)=(es[u]?).map (dR.aFg ρ):=λu=>by grind [AS.RQ,AS.cH]
 have bqd:b≠q->∀u,I.cH (.new b u)=aC:=λbp4 u=>by grind [AS.RQ,AS.cH]
 have O:∀i,(∀u,i≠ .new q u)->(∀u,i≠ .new b u)->I.cH i=(s.cH i).map (dR.asy ρ (TL b q)):=λi hi hi'=>by
  cases i with
  |dx k=>grind [AS.RQ,AS.cH]
  |new x y=>
   grind [AS.RQ,AS.cH]
 let g1:Nat->pP:=λx=>J7 b q (g x)
 let β1:Id->Option Pl:=λi=>match i with | .new x j=>if x=q then β (.new b j) else β (.new x j) | .dx k=>β (.dx k)
 have hβ1:∀i,(∀u,i≠ .new q u)->β1 i=β i:=λi hi=>by grind
 have ht:Trans w w g g1:=Trans.bmB w g _ _;have hρ:∀i A r,ρ i A=aw r->(∃j fr c,i= .new b j/\es[j]? =aw (.obj A fr c)/\r=(.new q j,0))\/((∀u,i≠ .new q u)/\(∀u,i≠ .new b u)/\r=(i,A)):=λi A r hr=>by
  replace hr:V1 es b q i A=aw r:=hr
  cases i with
  |dx k=>grind [V1]
  |new x j=>
   grind [V1]
 have hle:FK ρ (s.env w g β) (I.env w g1 β1):=by
  refine⟨Trans.mem (E:=s.env w g β) (E':=I.env w g1 β1) ht,λi A r hr aCN=> ?_⟩;rcases hρ i A r hr with⟨j,fr,c,rfl,he,rfl⟩ | ⟨hi,hi',rfl⟩
  .refine⟨⟨by show I.cH (.new q j)≠aC;grind,λ_ _ _ _=>az _⟩,λ_=>⟨⟨fr,c,(boo j).trans he⟩,av rfl⟩⟩
  .obtain⟨k1,k2⟩:=aCN;have k1:s.cH i≠aC:=k1;have e:I.cH i=(s.cH i).map (dR.asy ρ (TL b q)):=O i hi hi';have back:∀v' fr' c',I.cH i=aw (.obj v' fr' c')->∃c0,s.cH i=aw (.obj v' fr' c0):=λv' fr' c' J=>by
    rw[e]at J;cases hs:s.cH i with
    |none=>grind
    |some en=>
     rw[hs]at J;cases en with
     |dead=>grind [dR.asy]
     |obj v0 T c0=>
      grind [dR.asy]
   refine⟨⟨by
    show I.cH i≠aC;simp_all,λv' fr' c' J=> ?_⟩,λ⟨fr',c',J⟩=> ?_⟩
   .obtain⟨c0,aAN⟩:=back v' fr' c' J;exact k2 v' fr' c0 aAN
   .obtain⟨c0,aAN⟩:=back A fr' c' J;exact⟨⟨fr',c0,aAN⟩,hβ1 i hi⟩
 have bos:∀(i:Id),(∀u,i≠ .new b u)->∀(x:Nat) (k:Nat),g x= .own (.id i) k->g1 x= .own (.id i) k:=λi hi x k L=>by
  show J7 b q (g x)=_;rw[L];cases i with
  |dx m=>rfl
  |new y j=>grind [J7]
 refine⟨g1,β1,h.afh hC ρ (by simp[AS.RQ]) ht hle (λi=> ?_) (λid A fr' c' eH=> ?_) λk=>⟨λL=> ?_,λv' fr' c' J=> ?_,rfl⟩⟩
 .have:(s.RQ b q es).slot i=(s.slot i).jz ρ:=aFY _ rfl _ _;rw[this];exact Pz hle (h.cR i)
 .have eH:I.cH id=aw (.obj A fr' c'):=eH;by_cases hi:∃u,id= .new q u
  .obtain⟨u,rfl⟩:=hi;rw[vh]at eH;cases he:es[u]? with
   |none=>grind
   |some en=>
    rw[he]at eH;cases en with
    |dead=>grind [dR.aFg]
    |obj v0 T c0=>
     grind [dR.aFg,J7]
  .by_cases hi':∃u,id= .new b u
   .grind
   .have boK:∀u,id≠ .new q u:=λu e=>hi ⟨u,e⟩
    have K:∀u,id≠ .new b u:=λu e=>hi' ⟨u,e⟩
    have e:=O id boK K;rw[e]at eH;cases hs:s.cH id with
    |none=>grind
    |some en=>
     rw[hs]at eH;cases en with
     |dead=>grind [dR.asy]
     |obj v0 T c0=>
      simp only[kB,dR.asy,cn,dR.obj.injEq]at eH;obtain⟨rfl,rfl,rfl⟩:=eH;rcases aIO c0 with⟨B,vq,k,v2,l,cu,rfl⟩ | ⟨bl8,_⟩
      .have h0:=h.cd id v0 T _ hs;left;simp only[aF.aSW];cases bql:TL b q B with
       |true=>
        have M:(∀u,B≠ .new b u)/\(∀u,B≠ .new q u)/\∀vr,ρ B vr=aw (B,vr):=by
         cases B with
         |dx k=>grind [V1]
         |new x y=>
          grind [TL,V1]
        obtain⟨M,aGW,hρq⟩:=M;refine bid.aX hle.mem (λ_=>rfl) h0 (hβ1 id boK) (λpl _ L=>bos id K _ _ L) λvr _=>⟨λhb=>hle.ref B vr (B,vr) (hρq vr) hb,λk v l L=> ?_,λpl _ L=>bos B M _ _ L⟩
        have L:s.cH B=aw (.obj vr bn (.mp k v l)):=L;show I.cH B=_;rw[O B aGW M,L];rfl
       |false=>
        obtain⟨pl,mb,since,seen,c0,h1,h2,h3,h4⟩:=h0;exact⟨pl,mb,since,seen,c0,(hβ1 id boK).trans h1,h2,bos id K _ _ h3,λvr ax5=>aq⟩
      grind [J7]
 .grind [AS.cH]
 .have e:=O (.dx k) (λ_=>by simp) (λ_=>by simp);have J:I.cH (.dx k)=aw (.obj v' fr' c'):=J;rw[e]at J;cases hs:s.cH (.dx k) with
  |none=>grind
  |some en=>
   rw[hs]at J;cases en with
   |dead=>grind [dR.asy]
   |obj v0 T c0=>
    grind [dR.asy]
def aqQ{k t:Ty}{l:List (k.den×t.den)}:∀ {p:List Uv} {x c':aF},¬(Dj (.mp k t l) p x).eval=aw c'
 |[],x,c',h=>by grind [Dj,aG]
 | .arr::p,x,c',h=>by simp[Dj]at h;exact aqQ h
 | .idx i::p,x,c',h=>by grind [Dj,aG]
 | .fst::p,x,c',h=>by grind [Dj,aG]
 | .snd::p,x,c',h=>by grind [Dj,aG]
def aAo{q:Id}{u:Nat}{k t:Ty}{l:List (k.den×t.den)}{j:Option (k.den×t.den)}:∀ {p:List Uv} {x c':aF},¬(Dj (.xB q u k t l j) p x).eval=aw c'
 |[],x,c',h=>by grind [Dj,aG]
 | .arr::p,x,c',h=>by simp[Dj]at h;exact aAo h
 | .idx i::p,x,c',h=>by grind [Dj,aG]
 | .fst::p,x,c',h=>by grind [Dj,aG]
 | .snd::p,x,c',h=>by grind [Dj,aG]
def aAp{k:Ax}{f:aF}{m:Nat}:∀ {p:List Uv} {x c':aF},¬(Dj (.BO k f m) p x).eval=aw c'
 |[],x,c',h=>by grind [Dj,aG]
 | .arr::p,x,c',h=>by simp[Dj]at h;exact aAp h
 | .idx i::p,x,c',h=>by grind [Dj,aG]
 | .fst::p,x,c',h=>by grind [Dj,aG]
 | .snd::p,x,c',h=>by grind [Dj,aG]
def ait{l:List bh}{n:Nat}{vs:List bh}(h:(l.drop n).take (aa vs)=vs):dP l n vs=l:=by grind [dP,ee,iH]
def Inv.bmv(h:Inv C g β s a w){j:Nat}{p:List Uv}(A:(s.at j p).eval=aw .fR){q:Nat}(hq:s.ff q=bn){e:bk}{t:Ty}(hz:0 < t.size){s':AS}
  (I:((s.born q [.obj 0 aZ (.vec e t [])]).putAt j (.dq (.new q 0) 0 [] 0 0 0) p).eval=aw s'):jO C s' a w:=by
 obtain⟨β',M,h2,h3⟩:=h.aY9 hq (e:=e) hz;cases p with
 |nil=>
  have hj:=aM.1 A;obtain rfl:=aM.1 I;refine⟨g,β',M.bmD j ?_⟩;have:=h.cR j;grind [nv]
 |cons st p=>
  simp[AS.at]at A;simp[AS.putAt]at I;have al7:(s.born q [.obj 0 aZ (.vec e t [])]).slot j=s.slot j:=rfl;rw[al7]at I;split at A
  .rename_i id ver p0 nn hj;split at A
   .rename_i v fr c tW;obtain⟨hv,A⟩:=ba.1 A;obtain⟨⟨n,u⟩,hl,A⟩:=aI.1 A;have hu:=aM.1 A;subst hu;have eG:=gA tW;have K:∀j',id≠ .new q j':=λj' e=>by simp_all [tx]
    have T:(s.born q [.obj 0 aZ (.vec e t [])]).cH id=aw (.obj v fr c):=(j9 _ K).trans eG;have bjn:(s.born q [.obj 0 aZ (.vec e t [])]).obj id=aw (v,fr,c):=by grind [AS.obj]
    simp[hj,bjn]at I;split at I
    .grind [aG]
    .rename_i c1 blH;obtain⟨c',B,I⟩:=aI.1 I;obtain rfl:=aM.1 I;have hn:c.lg=aZ:=by cases c <;> first | rfl | (exact(blH _ _ _ rfl).elim) | (exact absurd B aqQ) | (exact absurd B aAo) | (exact absurd B aAp)
     have hO:=M.cd id v fr c T;obtain⟨pl,cur,e0,hp,hh,hg,hk,O⟩:=hO.box hn;have ht:=Trans.refl w g;have J:=df.bD (s:=s.born q [.obj 0 aZ (.vec e t [])]) (β:=β') (v':=v) (fr':=fr) (c':=c.wrap c') T (ax _) ht (λ_ _=>rfl) (λ_=>rfl);refine⟨g,β',M.step (dF _ _ _) ht J (jH.bD M.cd (by grind) J (λ_ _=>rfl) (λ_ _ _ _ _ _ _ _=>⟨rfl,rfl⟩) ?_ (ue T λk v1 l e=>by subst e;exact absurd B aqQ))⟩;obtain⟨cs,k1,k2⟩:=h3;subst k2;obtain⟨u1,u2,u3⟩:=uR (p0++st::p) c.strip (cur.toList.take (c.FT cur.size)) n .fR _ c' [.slice aC 0 0] (VO.of O) hl k1 B;have L:=u2.to (u3.zb O.zb);have agU:((cur.toList.take (c.FT cur.size)).drop n).take 1=[.slice aC 0 0]:=by
      rcases xF (p0++st::p) c.strip (cur.toList.take (c.FT cur.size)) n .fR (VO.of O) hl with⟨blX,aAN⟩ | ⟨q1,q2⟩
      all_goals grind [V]
     rw[ait (vs:=[.slice aC 0 0]) agU]at L;have Hu:c'.size=c.strip.size:=by have e1:=L.size;have e2:=O.size;omega
     exact Zc.obj ⟨pl,cur,e0,hp,hh,hg,WZ hk L.Gr Hu,by rw[YF c L.Gr,adJ L.Gr Hu];grind [V.mono]⟩
   grind [aG]
  grind [aG]
def U1:∀(ids:List Id) {s:AS} {i:Id} {v:Nat} {fr:Bool} {c:aF},s.cH i=aw (.obj v fr c)->∃fr',(s.bP ids).cH i=aw (.obj v fr' c)
 |[],s,i,v,fr,c,h=>⟨fr,h⟩
 |id::ids,s,i,v,fr,c,h=>by obtain⟨fr',j⟩:=alK (id:=id) h;exact U1 ids j
def Inv.blm(h:Inv C g β s a w){j:Nat}{p:List Uv}{u:aF}(B:(s.at j p).eval=aw u){t:Ty}{x:t.den}(ht:(s.kU t u).eval=aw x){s':AS}
  (L:((s.bP u.shared).putAt j (.d t x) p).eval=aw s'):jO C s' a w:=by
 cases p with
 |nil=>
  have hj:=aM.1 B;obtain rfl:=aM.1 L;have hs:=h.cR j;rw[hj]at hs;obtain⟨T,i1,_,_,cs,hR,hO⟩:=NS h hs ht;exact⟨T,β,i1.bmD j (VS.of (a:= .d t x) (cs:=cs) (by grind [V]) hO)⟩
 |cons st p=>
  simp[AS.at]at B;simp[AS.putAt]at L;have al7:(s.bP u.shared).slot j=s.slot j:=by simp[AS.slot,qZ]
  rw[al7]at L;split at B
  .rename_i id ver p0 nn hj;split at B
   .rename_i v fr c tW;obtain⟨hv,B⟩:=ba.1 B;obtain⟨⟨n,K⟩,hl,B⟩:=aI.1 B;have hu:=aM.1 B;subst hu;have eG:=gA tW;obtain⟨T,h1,h2,h3,h4⟩:=fZ K.shared h;obtain⟨fr',Qe⟩:=U1 K.shared eG;have bjn:(s.bP K.shared).obj id=aw (v,fr',c):=by grind [AS.obj]
    simp[hj,bjn]at L;split at L
    .grind [aG]
    .rename_i c1 blH;obtain⟨c',I,L⟩:=aI.1 L;obtain rfl:=aM.1 L;have hn:c.lg=aZ:=by cases c <;> first | rfl | (exact(blH _ _ _ rfl).elim) | (exact absurd I aqQ) | (exact absurd I aAo) | (exact absurd I aAp)
     obtain⟨J,A,e00,M,O,bor,blT,hV0⟩:=(h.cd id v fr c eG).box hn;obtain⟨pl,cur,e0,hp,hh,hg,hk,hV⟩:=(h1.cd id v fr' c Qe).box hn;have adq:J=pl:=by have M:β id=aw J:=M;have hp:β id=aw pl:=hp;grind
     subst adq;have jU:A=cur:=by
      have O:w.heap[J.b]? =_:=O
      have hh:w.heap[J.b]? =_:=hh
      grind
     subst jU;obtain⟨cs,hVu,agU⟩:∃cs,V (s.env w g β) K cs/\((A.toList.take (c.FT A.size)).drop n).take (aa cs)=cs:=by
      rcases xF (p0++st::p) c.strip (A.toList.take (c.FT A.size)) n K (VO.of hV0) hl with⟨blX,aAN⟩ | ⟨q1,q2⟩
      all_goals grind
     have hR:=Hd rfl h.cd h2 K t x cs hVu ht h4;have hVx:V ((s.bP K.shared).env w T β) (.d t x) cs:=by grind [V]
     have ht':=Trans.refl w T;have hle:=df.bD (s:=s.bP K.shared) (β:=β) (v':=v) (fr':=fr') (c':=c.wrap c') Qe (ax _) ht' (λ_ _=>rfl) (λ_=>rfl);refine⟨T,β,h1.step (dF _ _ _) ht' hle (jH.bD h1.cd (by grind) hle (λ_ _=>rfl) (λ_ _ _ _ _ _ _ _=>⟨rfl,rfl⟩) ?_ (ue Qe λk v1 l e=>by subst e;exact absurd I aqQ))⟩;obtain⟨u1,u2,u3⟩:=uR (p0++st::p) c.strip (A.toList.take (c.FT A.size)) n K _ c' cs (VO.of hV) hl hVx I;have u4:=u2.to (u3.zb hV.zb);rw[ait (vs:=cs) agU]at u4;have Hu:c'.size=c.strip.size:=by have e1:=u4.size;have e2:=hV.size;omega
     exact Zc.obj ⟨J,A,e0,hp,hh,hg,WZ hk u4.Gr Hu,by rw[YF c u4.Gr,adJ u4.Gr Hu];grind [V.mono]⟩
   grind [aG]
  grind [aG]
def Xt{E:Env}:∀(t:Ty) (x:t.den) (u:aF),(ai1 t x).eval=aw u->∀cs,dU E t cs x->V E u cs
 | .jj t,x,u,h,cs,j=>by grind [ai1,cV,aM,dU,V,Option.isNone_iff_eq_none]
 | .pair a b,x,u,h,cs,j=>by obtain⟨T,I,J⟩:=aI.1 h;obtain⟨u2,K,L⟩:=aI.1 J;obtain rfl:=aM.1 L;obtain⟨A,B,rfl,M,O⟩:=j;exact aG5 (Xt a x.1 T I A M) (Xt b x.2 u2 K B O)
 | .int k,x,u,h,cs,j=>by grind [ai1,aM,V]
 | .bool,x,u,h,cs,j=>by grind [ai1,aM,V]
 | .str,x,u,h,cs,j=>by grind [ai1,aM,V]
 | .slice t,x,u,h,cs,j=>by grind [ai1,aM,V]
 | .unit,x,u,h,cs,j=>by grind [ai1,aM,V]
 | .arr n t,x,u,h,cs,j=>by grind [ai1,aM,V]
def aPF{e:bk}{z:Nat}{c:aF}{pl:Pl}{n:Nat}(B:0 < z)(j:n=pl.cap*z)(u:pl.cap<=maxLen)(A:c.size<=n):(aF.bx e z c).PQ pl n e:=by
 cases z with
 |zero=>omega
 |succ z=>exact⟨rfl,j,u,A⟩
def aBw{e:bk}{z:Nat}{c:aF}{n:Nat}(j:0 < z):(aF.bx e z c).FT n=c.size:=by
 cases z with
 |zero=>omega
 |succ z=>rfl
def ayE{e j:bk}{z:Nat}{c:aF}{pl:Pl}{n:Nat}(u:0 < z)(h:(aF.bx e z c).PQ pl n j):j=e/\n=pl.cap*z/\pl.cap<=maxLen/\c.size<=n:=by
 cases z with
 |zero=>omega
 |succ z=>exact h
theorem aD9{E:Env}{id:Id}{j n:Nat}{p A:List Uv}{y:bh}(h:VS E (.ptr id j p n) y):VS E (.ptr id j A n) y:=by obtain⟨cs,B,u⟩:=h;exact⟨cs,by grind [V],u⟩
def Inv.blr(h:Inv C g β s a w){j:Nat}{id:Id}{I n k v:Nat}{p p':List Uv}(hj:s.slot j= .ptr id I p n){e:bk}{t:Ty}{r:List t.den}(tW:s.obj id=aw (v,aZ,.vec e t r))
  (hk:k < aa r) {u:aF} (hu:(ai1 t (nth t r k)).eval=aw u):
  jO C ((s.bD id (.obj v aZ (.bx e t.size (.pr (.d (.arr k t) (r.take k)) (.pr u (.d (.arr (aa (r.drop (k+1))) t) (r.drop (k+1)))))))).put (aw j) (.ptr id I p' n)) a w:=by
 have O:=gA tW;obtain⟨hz,J⟩:FJ (s.env w g β) id aZ (.vec e t r):=h.cd id v aZ _ O;have J:(match β id with
  |none=>r=[]
  |some pl=>∃cur k,w.heap[pl.b]? =aw (.cells cur e (0,0))/\cur.size=pl.cap*t.size/\aa r<=pl.cap/\pl.cap<=maxLen/\g pl.b= .own (.id id) k/\
    k<=aa r*t.size/\(aZ=aZ->k=0)/\bR (dU (s.env w g β) t) (cur.toList.take (aa r*t.size)) r):=J
 have ht:=Trans.refl w g
 have B:df (s.env w g β) ((s.bD id (.obj v aZ (.bx e t.size (.pr (.d (.arr k t) (r.take k)) (.pr u (.d (.arr (aa (r.drop (k+1))) t) (r.drop (k+1)))))))).env w g β):=
  df.bD O (ax _) ht (λ_ _=>rfl) (λ_=>rfl)
 have hI:=h.step (dF _ _ _) ht B (jH.bD h.cd (by grind) B (λ_ _=>rfl) (λ_ _ _ _ _ _ _ _=>⟨rfl,rfl⟩) (axU:=ajX O) (by
  cases hp:β id with
  |none=>grind
  |some pl=>
   rw[hp]at J;obtain⟨cur,k0,q1,q2,q3,q4,q5,q6,q7,K⟩:=J;have M:=q7 rfl;subst M;have A:∀c x,dU (s.env w g β) t c x->aa c=t.size:=λc x hx=>hx.size
   have c1:=bR.take A k K;have c2:=(K.get A k hk);have c3:=bR.drop A (k+1) K;have L:=Xt t _ u (by grind [nth]) _ c2;have bsH:=L.size;have T:=bR.length A K;have aNi:=Nat.succ_mul k t.size;have hm:aa (r.drop (k+1))*t.size=aa r*t.size - (k+1)*t.size:=by grind
   have bnb:(aF.pr (.d (.arr k t) (r.take k)) (.pr u (.d (.arr (aa (r.drop (k+1))) t) (r.drop (k+1))))).size=aa r*t.size:=by grind [aF.size,Ty.size]
   refine Zc.obj ⟨pl,cur,e,hp,q1,q5,aPF hz q2 q4 (by grind),?_⟩;rw[aBw hz];refine V.mono B ?_
   show V _ (.pr (.d (.arr k t) (r.take k)) (.pr u (.d (.arr (aa (r.drop (k+1))) t) (r.drop (k+1))))) _;simp[V];grind [ee,dU,iH]))
 refine⟨g,β,hI.bmD j ?_⟩;have:=h.cR j;grind [aD9,VS.mono]
def ad6:∀(l:List Nat) {s B:AS},jO C s a w->(aQB s l).eval=aw B->jO C B a w
 |[],s,B,h,A=>by grind [aQB,aM]
 |j::l,s,B,h,A=>by
  obtain⟨g,β,h⟩:=h;simp[aQB]at A;split at A
  .rename_i id M k p n K;split at A
   .rename_i v e t r L;obtain⟨O,A⟩:=ba.1 A;obtain⟨I,A⟩:=cV.1 A;obtain⟨u,J,A⟩:=aI.1 A;exact ad6 l (h.blr K L (nw I) J) A
   grind [aG]
  .exact ad6 l ⟨g,β,h⟩ A
  grind [aG]
def ad1{s:AS}{id i:Id}(h:i≠id):(s.freeze id).cH i=s.cH i:=by grind [AS.freeze,dz]
def Dw:∀(ids:List Id) {s:AS} {i:Id},i ∉ ids->(s.bP ids).cH i=s.cH i
 |[],_,_,_=>rfl
 |id::ids,s,i,h=>by
  have j:i≠id:=λe=>h (by grind)
  exact(Dw ids λu=>h (aT _ u)).trans (ad1 j)
def Inv.bmQ(h:Inv C g β s a w){j:Nat}{id:Id}{ver n k m v z:Nat}{p p':List Uv}(hj:s.slot j= .ptr id ver p n){e:bk}{t:Ty}{K L:List t.den}{u:aF}
  (tW:s.obj id=aw (v,aZ,.bx e z (.pr (.d (.arr k t) K) (.pr u (.d (.arr m t) L))))) (hz:z=t.size) (O:0 < z) (eH:id ∉ u.shared) {x:t.den} (A:(s.kU t u).eval=aw x):
  jO C (((s.bP u.shared).bD id (.obj v aZ (.vec e t (K++x::L)))).put (aw j) (.ptr id ver p' n)) a w:=by
 have eG:=gA tW;obtain⟨B,I,e0,T,blO,bor,blT,hV0⟩:=(h.cd id v aZ _ eG).box rfl;obtain⟨M,h1,h2,h3,h4⟩:=fZ u.shared h;have Qe:=(Dw _ eH).trans eG;obtain⟨pl,cur,e1,hp,hh,hg,hk,hV⟩:=(h1.cd id v aZ _ Qe).box rfl;have hp:β id=aw pl:=hp;have adq:B=pl:=by have T:β id=aw B:=T;grind
 subst adq;have jU:I=cur:=by
  have blO:w.heap[B.b]? =_:=blO
  have hh:w.heap[B.b]? =_:=hh
  grind
 subst jU;obtain⟨rfl,q2,q4,q3⟩:=ayE O hk;rw[aBw O]at hV0;obtain⟨ca,cb,hR,hA,cu,cc,bi6,hU,hB⟩:=hV0;subst bi6;have hX:=Hd rfl h.cd h2 u t x cu hU A h4;have aGX:∀c x,dU ((s.bP u.shared).env w M β) t c x->aa c=t.size:=λc x A=>A.size
 have cA:=hA.2.mono λ_ _ A=>A.mono h2.mem
 have cB:=hB.2.mono λ_ _ A=>A.mono h2.mem
 have Hr:bR (dU ((s.bP u.shared).env w M β) t) (ca++(cu++cc)) (K++x::L):=bR.append cA ⟨cu,cc,rfl,hX,cB⟩;have hlen:=bR.length aGX Hr;have bnb:(aF.pr (.d (.arr k t) K) (.pr u (.d (.arr m t) L))).size=aa (K++x::L)*t.size:=by grind
 rw[bnb]at hR q3;rw[hz]at q2;have aIx:=by rw[q2]at q3;exact Nat.le_of_mul_le_mul_right q3 aq
 have ht:=Trans.refl w M;have J:df ((s.bP u.shared).env w M β) (((s.bP u.shared).bD id (.obj v aZ (.vec e1 t (K++x::L)))).env w M β):=df.bD Qe (ax _) ht (λ_ _=>rfl) (λ_=>rfl);have hI:=h1.step (dF _ _ _) ht J (jH.bD h1.cd (by grind) J (λ_ _=>rfl) (λ_ _ _ _ _ _ _ _=>⟨rfl,rfl⟩) (axU:=ue Qe λ_ _ _ e=>by cases e) (by
  refine⟨aq,?_⟩;show(match β id with
   |none=>K++x::L=[]
   |some pl=>_)
  rw[hp];exact⟨I,0,hh,q2,aIx,q4,hg,az _,λ_=>rfl,by rw[hR];exact Hr.mono λ_ _ A=>A.mono J.mem⟩))
 refine⟨M,β,hI.bmD j ?_⟩;have:=h.cR j;grind [aD9,VS.mono]
def awh:∀(l:List Nat) {s B:AS},jO C s a w->(bci s l).eval=aw B->jO C B a w
 |[],s,B,h,A=>by grind [bci,aM]
 |j::l,s,B,h,A=>by
  obtain⟨g,β,h⟩:=h;simp[bci]at A;split at A
  .rename_i id ver p n O;split at A
   .rename_i v e z k t l1 u m t' l2 tW;obtain⟨J,A⟩:=ba.1 A;obtain⟨l2',K,A⟩:=aI.1 A;obtain⟨x,L,A⟩:=aI.1 A;simp at J;obtain⟨⟨⟨h5,M⟩,h7⟩,h8⟩:=J;obtain⟨et,T⟩:=lf (l7.1 K);have I:t'=t:=by grind
    subst I;subst T;refine awh l (h.bmQ O tW M aq (λhi=> ?_) L) A;grind
   grind [aG]
  grind [aG]
def F7:∀(l:List bm3) {s A:AS},jO C s a w->(agL s l).eval=aw A->jO C A a w
 |[],s,A,h,j=>by grind [agL,aM]
 |o::l,s,A,h,j=>by
  obtain⟨g,β,h⟩:=h;unfold agL at j;split at j
  .exact F7 l ⟨g,β,h⟩ j
  obtain⟨u,I,j⟩:=aI.1 j;obtain⟨x,J,j⟩:=aI.1 j;obtain⟨K,B,j⟩:=aI.1 j;exact F7 l (h.blm I J B) j
def oc(B:C.ok):∀(l:List aU7) {s I:AS},jO C s a w->(Bx P s l).eval=aw I->jO C I a w
 |[],s,I,h,A=>by grind [Bx,aM]
 |o::l,s,I,h,A=>by
  obtain⟨g,β,h⟩:=h;unfold Bx at A;split at A
  .exact oc B l ⟨g,β,h⟩ A
  obtain⟨u,hu,A⟩:=aI.1 A;split at A
  .split at A
   .rename_i e t b J hv;obtain⟨s',L,T⟩:=aI.1 A;exact oc B l (h.bmv hu hv (arw J) L) T
   grind [aG]
  .split at A
   .rename_i b j ver M;split at A
    .rename_i v fr c tW hm;split at A
     .have K:b < aa s.news:=by have:=gA tW;grind [AS.cH]
      obtain⟨O,β1,L⟩:=h.RQ B K (by simpa using hm);exact oc B l ⟨O,β1,L⟩ A
     grind [aG]
    grind [aG]
   grind [aG]
def YP:∀(l:List Nat) {s K:AS},jO C s a w->(awf s l).eval=aw K->jO C K a w
 |[],s,K,h,I=>by grind [awf,aM]
 |j::l,s,K,h,I=>by
  obtain⟨g,β,h⟩:=h;simp[awf]at I;split at I
  .rename_i id ver u hj;split at I
   .rename_i v e t r tW;split at I
    .obtain⟨O,h2⟩:=cV.1 I;have O:u<=aa r:=by grind
     refine YP l ?_ h2
     have L:=gA tW;have B:=h.cd id v aZ _ L;have T:=Trans.refl w g;have A:df (s.env w g β) ((s.bD id (.obj v aZ (.vec e t (r.take u)))).env w g β):=df.bD L (ax _) T (λ_ _=>rfl) (λ_=>rfl);refine⟨g,β,h.step (dF _ _ _) T A (jH.bD h.cd (by grind) A (λ_ _=>rfl) (λ_ _ _ _ _ _ _ _=>⟨rfl,rfl⟩) ?_ (ajX L))⟩;obtain⟨hz,B⟩:=B;refine⟨hz,?_⟩;have B:(match β id with
      |none=>r=[]
      |some pl=>∃cur k,w.heap[pl.b]? =aw (.cells cur e (0,0))/\cur.size=pl.cap*t.size/\aa r<=pl.cap/\pl.cap<=maxLen/\g pl.b= .own (.id id) k/\
        k<=aa r*t.size/\(aZ=aZ->k=0)/\bR (dU (s.env w g β) t) (cur.toList.take (aa r*t.size)) r):=B
     show(match β id with
      |none=>r.take u=[]
      |some pl=>_)
     cases hp:β id with
     |none=>grind
     |some pl=>
      rw[hp]at B;obtain⟨cur,k,q1,q2,q3,q4,q5,q6,q7,q8⟩:=B;have hk:=q7 rfl;subst hk;have J:aa (r.take u)=u:=by grind
      refine⟨cur,0,q1,q2,aq,q4,q5,az _,λ_=>rfl,?_⟩;have:=bR.take (λ_ _ M=>dU.size M) u q8;rw[rV,qS (eL _ O)]at this;rw[J];exact this.mono λ_ _ M=>M.mono A.mem
    grind [aG]
   grind [aG]
  grind [aG]
def Zl:∀(l:List (Nat×Ty)) {s u:AS},jO C s a w->(asData s l).eval=aw u->jO C u a w
 |[],s,u,h,A=>by grind [asData,aM]
 | (j,t)::l,s,u,h,A=>by obtain⟨g,β,h⟩:=h;obtain⟨x,I,J⟩:=aI.1 A;obtain⟨B,L,_,_,cs,M,K⟩:=NS h (h.cR j) I;exact Zl l ⟨B,β,L.bmD j (VS.of (a:= .d t x) (cs:=cs) (by grind [V]) K)⟩ J
def Inv.still:∀(l:List Nat) {s:AS},Inv C g β s a w->Inv C g β (s.still l) a w
 |[],s,h=>h
 |q::l,s,h=>by
  simp[AS.still];split
  .rename_i v fr i u k t r A j;exact Inv.still l (h.bhK (gA j) (.inr ⟨rfl,rfl,rfl⟩))
  .exact Inv.still l h
def Cn{α:Type}(l:List α):(jJ l).Perm l:=Quotient.exact (s:=aD4 α) (Quotient.exists_rep (Quotient.mk (aD4 α) l)).choose_spec
def aty{α:Type}{l j:List α}(h:l.Perm j):jJ l=jJ j:=by have e:Quotient.mk (aD4 α) l=Quotient.mk (aD4 α) j:=Quotient.sound h;grind [jJ]
def Inv.canon:∀(l:List Id) {s:AS},Inv C g β s a w->Inv C g β (s.canon l) a w
 |[],s,h=>h
 |id::l,s,h=>by
  simp[AS.canon];split
  .rename_i v fr k t r tW;have A:=gA tW;have B:=Trans.refl w g;have u:df (s.env w g β) ((s.bD id (.obj v fr (.mp k t (jJ r)))).env w g β):=df.bD A (ax _) B (λ_ _=>rfl) (λ_=>rfl);obtain⟨pl,I,j,J,K,L,⟨⟨l',M,O⟩,T⟩,h7⟩:=h.cd id v fr _ A
   refine Inv.canon l (h.step (dF _ _ _) B u (jH.bD h.cd (by grind) u (λ_ _=>rfl) (λ_ _ _ _ _ _ _ _=>⟨rfl,rfl⟩)
    ⟨pl,I,j,J,K,L,⟨⟨l',M.mono λ_ _ he=>he.mono u.mem,O.trans (Cn r).symm⟩,(((Cn r).map _).nodup_iff).2 T⟩,h7⟩ ?_))
   grind
  .exact Inv.canon l h
theorem agt(k v n:Nat)(i:Id)(u:Nat):(i= .dx k/\u=v/\yG k v n i u=aw (.dx k,n))\/(i= .dx k/\yG k v n i u=aC)\/(i≠ .dx k/\yG k v n i u=aw (i,u)):=by
 cases i with
 |new x j=>simp[yG]
 |dx j=>
  simp[yG];cases A:jR j k with
  |false=>exact .inr (.inr ⟨λe=>by simp_all,rfl⟩)
  |true=>
   grind [jB]
def aBA(hC:C.ok){s I:AS}(h:Inv C g β s a w){k n:Nat}(he:(s.aV7 k n).eval=aw I):Inv C g β I a w:=by
 unfold AS.aV7 at he;split at he;rotate_left
 .grind [aG]
 rename_i v fr c hk;obtain⟨bqy,he⟩:=ba.1 he;have bqy:=(Bool.or_eq_true_iff.1 bqy).imp fG fG;have hz:∀u,C.E.Oi (.dx k) u->u=0:=λu L=>by
  obtain⟨h1,h2⟩:=L;cases hs:C.E.s (.dx k) with
  |none=>grind
  |some en=>
   cases en with
   |dead=>
    have:=(h.le.Oi (.dx k) (v+1) ⟨h1,λv' fr' c' J=>by grind⟩).2 _ _ _ hk;omega
   |obj v0 fr0 c0=>
    have:=hC.2 _ _ _ _ hs;grind
 obtain rfl:=aM.1 he;generalize ax2:({cR:=s.cR.map (aF.jz (yG k v n)),cO:=(s.cO.map (dR.aKR (yG k v n) (Qk k))).set k (.obj n fr (c.jz (yG k v n))),news:=s.news.map λes=>es.map (dR.aKR (yG k v n) (Qk k))}:AS)=I;have e0:I.cH (.dx k)=aw (.obj n fr (c.jz (yG k v n))):=by grind [AS.cH]
 have e1:∀i,i≠ .dx k->I.cH i=(s.cH i).map (dR.aKR (yG k v n) (Qk k)):=λi A=>by
  cases i with
  |dx j=>
   grind [AS.cH]
  |new x j=>
   grind [AS.cH]
 have e2:∀i v' fr' c',i≠ .dx k->I.cH i=aw (.obj v' fr' c')->∃c0,s.cH i=aw (.obj v' fr' c0)/\c'=c0.aSW (yG k v n) (Qk k):=λi v' fr' c' A J=>by
  rw[e1 i A]at J;cases hs:s.cH i with
  |none=>grind
  |some en=>
   cases en with
   |dead=>grind [dR.aKR]
   |obj v0 fr0 c0=>
    grind [dR.aKR]
 have e3:∀i,i≠ .dx k->s.cH i≠aC->I.cH i≠aC:=λi A J=>by
  rw[e1 i A];cases hs:s.cH i with
  |none=>grind
  |some en=>simp
 have K:FK (yG k v n) (s.env w g β) (I.env w g β):=by
  refine⟨Trans.mem (E:=s.env w g β) (E':=I.env w g β) (Trans.refl w g),λi u r hr aCN=> ?_⟩;rcases agt k v n i u with⟨rfl,rfl,e⟩ | ⟨rfl,e⟩ | ⟨A,e⟩
  .rw[e]at hr;obtain rfl:=cj hr;refine⟨⟨by show I.cH (.dx k)≠aC;grind,λv' fr' c' J=> ?_⟩,λ_=>⟨⟨fr,c,hk⟩,rfl⟩⟩;have J:I.cH (.dx k)=aw (.obj v' fr' c'):=J;grind
  .grind
  .rw[e]at hr;obtain rfl:=cj hr;obtain⟨k1,k2⟩:=aCN;have k2:∀v' fr' c',s.cH i=aw (.obj v' fr' c')->u<=v':=k2;refine⟨⟨e3 i A k1,λv' fr' c' J=> ?_⟩,λ⟨fr',c',J⟩=> ?_⟩
   .obtain⟨c0,B,_⟩:=e2 i v' fr' c' A J;grind
   .obtain⟨c0,B,_⟩:=e2 i u fr' c' A J;exact⟨⟨fr',c0,B⟩,rfl⟩
 refine⟨h.defers,by rw[<-ax2];simpa using h.size,λi=> ?_,λid u fr' c' eH=> ?_,h.trans,?_⟩
 .have:I.slot i=(s.slot i).jz (yG k v n):=by rw[<-ax2];exact aFY _ rfl _ _
  rw[this];exact Pz K (h.cR i)
 .have eH:I.cH id=aw (.obj u fr' c'):=eH;by_cases A:id= .dx k
  .subst A;rw[e0]at eH;obtain⟨rfl,rfl,rfl⟩:=eH;exact Cj K (h.cd (.dx k) v fr c hk) (id':= .dx k) rfl λpl _=>⟨rfl,λ_ h=>h,λh=>h⟩
  .obtain⟨c0,B,rfl⟩:=e2 id u fr' c' A eH;have h0:=h.cd id u fr' c0 B;rcases aIO c0 with⟨M,vq,kt,vt,l,cu,rfl⟩ | ⟨bl8,_⟩
   .simp only[aF.aSW];cases bql:Qk k M with
    |true=>
     have jV:M≠ .dx k:=λe=>by subst e;simp[Qk]at bql
     have hρq:∀O,yG k v n M O=aw (M,O):=λO=>by grind [agt]
     refine bid.aX K.mem (λ_=>rfl) h0 rfl (λ_ _ h=>h) λO _=>⟨λL=>K.ref M O (M,O) (hρq O) L,λkt vt l T=> ?_,λ_ _ h=>h⟩
     have T:s.cH M=aw (.obj O bn (.mp kt vt l)):=T;show I.cH M=_;rw[e1 M jV,T];rfl
    |false=>
     obtain⟨pl,mb,since,seen,c0,h1,h2,h3,h4⟩:=h0;exact⟨pl,mb,since,seen,c0,h1,h2,h3,λO ax5=>aq⟩
   .rw[bl8];exact Cj K h0 (id':=id) rfl λpl _=>⟨rfl,λ_ h=>h,λh=>h⟩
 .have hl:=h.le;refine⟨hl.mem.trans (Trans.mem (E:=s.env w g β) (E':=I.env w g β) (Trans.refl w g)),λid u L=> ?_,λid u L hc=> ?_⟩
  .obtain⟨h1,h2⟩:=hl.Oi _ u L;by_cases A:id= .dx k
   .subst A;obtain rfl:=hz u L;exact⟨by show I.cH (.dx k)≠aC;grind,λv' fr' c' J=>az _⟩
   .exact⟨e3 id A h1,λv' fr' c' J=>let⟨c0,B,_⟩:=e2 id v' fr' c' A J;h2 _ _ _ B⟩
  .obtain⟨fr',c',hc⟩:=hc;have hc:I.cH id=aw (.obj u fr' c'):=hc;by_cases A:id= .dx k
   .subst A;obtain rfl:=hz u L;rw[e0]at hc;simp at hc;obtain rfl:v=0:=aq;exact hl.cur _ _ L ⟨fr,c,hk⟩
   .obtain⟨c0,B,_⟩:=e2 id u fr' c' A hc;exact hl.cur _ _ L ⟨fr',c0,B⟩
def Mc(u:C.ok):∀(l:List (Nat×Nat)) {s j:AS},Inv C g β s a w->(atx s l).eval=aw j->Inv C g β j a w
 |[],s,j,h,A=>by grind [aM,atx]
 |x::l,s,j,h,A=>by obtain⟨J,B,I⟩:=aI.1 A;exact Mc u l (aBA u h B) I
def ai5(ids:List Id)(q:Nat):pP->pP
 | .own (.id (.new x y)) k=>match idxOf (.new x y) ids with | some m=> .own (.id (.new q m)) k | none=> .free
 |l=>l
def aZE(β:Id->Option Pl)(ids:List Id)(q:Nat):Id->Option Pl
 | .dx k=>β (.dx k)
 | .new x y=>if x=q then(ids[y]?).bind β else aC
def Trans.ai5(w:cG)(g:Nat->pP)(ids:List Id)(q:Nat):Trans w w g λx=>ai5 ids q (g x):=by
 refine⟨rfl,rfl,⟨rfl,ax _⟩,ax _,λy _=> ?_⟩;cases u:g y with
 |free=>simp[Ab.ai5]
 |own o k=>cases o with
  |gK=>simp[Ab.ai5]
  |id x=>
   cases x with
   |dx m=>grind [Ab.ai5]
   |new x j=>
    grind [Ab.ai5]
def Inv.axO(h:Inv C g β s a w)(hC:C.ok){ids:List Id}{q:Nat}(hn:ids.Nodup)(ai2:∀id∈ids,∃i j,id= .new i j)(brI:q < aa s.news):
  ∃O β1,Inv C O β1 (s.KM ids q) a w:=by
 let ρ:Ren:=aIo s ids q
 obtain⟨B,T⟩:∃B,B=s.KM ids q:=⟨_,rfl⟩;have K:∀k,B.cH (.dx k)=(s.cH (.dx k)).map (dR.bgk ρ):=λk=>by grind [AS.KM,AS.cH]
 have vh:∀j,B.cH (.new q j)=(ids[j]?).map λid=>((s.cH id).getD .dead).aFg ρ:=λj=>by grind [AS.KM,AS.cH]
 have ai3:∀x j,x≠q->B.cH (.new x j)=aC:=λx j hx=>by grind [AS.KM,AS.cH]
 let O:Nat->pP:=λx=>ai5 ids q (g x)
 let β1:=aZE β ids q
 have ht:Trans w w g O:=Trans.ai5 w g ids q;have hβ:∀j,β1 (.new q j)=(ids[j]?).bind β:=λj=>av rfl
 have hρ:∀i u r,ρ i u=aw r->(∃k,i= .dx k/\r=(i,u))\/∃j fr c,ids[j]? =aw i/\s.cH i=aw (.obj u fr c)/\r=(.new q j,0):=λi u r J=>by
  replace J:aIo s ids q i u=aw r:=J
  cases i with
  |dx k=>grind [aIo]
  |new x y=>
   unfold aIo at J;simp only at J;split at J
   .rename_i j v fr c hj ho;split at J
    .rename_i hv;have hv:u=v:=by grind
     subst hv;exact .inr ⟨j,fr,c,sG hj,gA ho,(cj J).symm⟩
    grind
   grind
 have I:∀e v fr c,dR.bgk ρ e= .obj v fr c->∃c0,e= .obj v fr c0/\c0.jz ρ=c:=λe v fr c M=>by
  cases e with
  |dead=>cases M
  |obj v0 fr0 c0=>
   grind [dR.bgk]
 have hle:FK ρ (s.env w g β) (B.env w O β1):=by
  refine⟨Trans.mem (E:=s.env w g β) (E':=B.env w O β1) ht,λi u r J aCN=> ?_⟩;rcases hρ i u r J with⟨k,rfl,rfl⟩ | ⟨j,fr,c,hj,M,rfl⟩
  .obtain⟨k1,k2⟩:=aCN;have k1:s.cH (.dx k)≠aC:=k1;refine⟨⟨?_,λv' fr' c' A=> ?_⟩,λ⟨fr',c',A⟩=>⟨?_,rfl⟩⟩
   .show B.cH (.dx k)≠aC;simp_all
   .have A:B.cH (.dx k)=aw (.obj v' fr' c'):=A;rw[K,fb]at A;obtain⟨e,M,A⟩:=A;obtain⟨c0,rfl,_⟩:=I _ _ _ _ A;exact k2 v' fr' c0 M
   .have A:B.cH (.dx k)=aw (.obj u fr' c'):=A;rw[K,fb]at A;obtain⟨e,M,A⟩:=A;obtain⟨c0,rfl,_⟩:=I _ _ _ _ A;exact⟨fr',c0,M⟩
  .refine⟨⟨by show B.cH (.new q j)≠aC;grind,λ_ _ _ _=>az _⟩,λ_=>⟨⟨fr,c,M⟩,?_⟩⟩;show β1 (.new q j)=β i;grind
 have e1:B.cR=s.cR.map (aF.jz ρ):=by rw[T];rfl
 rw[<-T];refine⟨O,β1,h.afh hC ρ (by grind) ht hle (λi=> ?_) (λid u fr c L=> .inr ?_) λk=>⟨λhk=> ?_,λv' fr' c' A=> ?_,rfl⟩⟩
 .have:B.slot i=(s.slot i).jz ρ:=by grind [AS.slot,aF.jz]
  rw[this];exact Pz hle (h.cR i)
 .cases id with
  |dx k=>
   grind [ai5,AS.cH,aZE]
  |new x y=>
   by_cases hx:x=q
   .subst hx;rw[vh,fb]at L;obtain⟨i,hi,L⟩:=L;obtain⟨i0,j0,rfl⟩:=ai2 i (eK hi);cases hs:s.cH (.new i0 j0) with
    |none=>grind [dR.aFg]
    |some e=>
     rw[hs]at L;cases e with
     |dead=>cases L
     |obj v0 fr0 c0=>
      simp only[lJ,dR.aFg,dR.obj.injEq]at L;obtain⟨_,rfl,hc⟩:=L;refine⟨.new i0 j0,v0,c0,hs,hc,by grind,λpl _=>⟨λn hg=> ?_,λhg=>by grind [ai5]⟩⟩;show ai5 ids _ (g pl.b)=_;rw[hg];simp only[ai5,Cs hn hi]
   grind
 all_goals grind [AS.cH]
def axP(J:C.ok){s u:AS}{o:Option Nat}(h:jO C s a w)(j:(s.axO o).eval=aw u):jO C u a w:=by
 cases o with
 |none=>
  obtain rfl:=aM.1 j;exact h
 |some q=>
  obtain⟨B,I⟩:=ba.1 j;obtain rfl:=aM.1 I;obtain⟨g,β,h⟩:=h;obtain⟨K,β1,L⟩:=h.axO J (ids:=s.bls) ((xX s _ _ _ (by simp)).filter _) (λid A=>by
   have:=(List.mem_filter.1 A).2;grind) (fG B)
  grind [jO]
theorem sQ(u:C.ok){an:rM}{K:AS}(h:jO C s a w)(j:(norm P an s).eval=aw K):jO C K a w:=by obtain⟨sb,B,j⟩:=aI.1 j;obtain⟨su,I,j⟩:=aI.1 j;obtain⟨sd,A,j⟩:=aI.1 j;obtain⟨s0,O,T⟩:=aI.1 j;obtain⟨h3,h4⟩:=ba.1 T;obtain⟨sf,h5,J⟩:=aI.1 h4;obtain⟨sg,J,h7⟩:=aI.1 J;obtain⟨g0,β0,M⟩:=h;obtain⟨L,i1,_⟩:=fZ an.aNb (Mc u _ M B);obtain⟨g,β,h⟩:=Zl _ (F7 _ (awh _ ⟨L,β0,(i1.still an.bnA).canon an.biC⟩ I) A) O;exact axP u (oc u _ (ad6 _ ⟨g,β,h.aX u h3⟩ h5) J) h7
end
end Go.Ab
namespace Go.Ab
section
variable {P:bg} {Γ:qN} {an:yu} {C:Ctx}
open Classical in
def bhW(p:Prop):Option Unit:=if p then aw () else aC
theorem aZi{p:Prop}(h:bhW p=aw ()):p:=by grind [bhW]
def aZh{p:Prop}(h:p):bhW p=aw ():=by grind [bhW]
def aM8{X R:Type}{S:X->Prop}{k:X->Option R}{x:Option R}(j:∃y,S y)(h:∀y,S y->k y=x):alF S k=x:=by
 unfold alF;cases x with
 |none=>grind
 |some r=>
  have u:∃r,(∃x,S x)/\∀x,S x->k x=aw r:=⟨r,j,h⟩;rw[Ed u];grind
def aMw(P:bg)(Γ:qN)(an:yu)(N:Nat)(b:Code):Prop:=∀le,an.eT (ez b)=aw le->(le.set=aC->∀s x,le.run s=aw x->∃n,amx (norm P (an.loops (ez b))) (λe=>norm P (an.outs (ez b) (aDa e))) (ev P Γ an N b) n s (λe j=>aw (e,j))=(le.out x).eval)/\∀S,le.set=aw S->∀s,(∃x,S s x)->∃n,amx (norm P (an.loops (ez b))) (λe=>norm P (an.outs (ez b) (aDa e))) (ev P Γ an N b) n s (λe j=>bhW (∃x,S s x/\(le.out x).eval=aw (e,j)))=aw ()
def kA(P:bg)(Γ:qN)(an:yu)(N:Nat):List Code->Prop
 |[]=>True
 |b::l=>aMw P Γ an N b/\kA P Γ an N l
def kA.append{N:Nat}:∀ {l j:List Code},kA P Γ an N (l++j)->kA P Γ an N l/\kA P Γ an N j
 |[],_,h=>⟨trivial,h⟩
 |_::_,_,⟨h1,h2⟩=>⟨⟨h1,(kA.append h2).1⟩,(kA.append h2).2⟩
def yj{c:Code}{b:Frame}{a:Act}{k:List Item}{cs:List Frame}{w:cG}:step P (lone (b.atR a (.code (.scope c)::k)) cs w)= .next (lone (b.atR a (.code c:: .inScope c::k)) cs w):=
 step_lone_go (by simp[stepG,stepG.exec,Frame.atR])
def asJ{c:Code}{b:Frame}{a:Act}{k:List Item}{cs:List Frame}{w:cG}:step P (lone (b.atR a (.inScope c::k)) cs w)= .next (lone (b.atR a k) cs w):=
 step_lone_go (by simp[stepG,stepG.exec,Frame.atR])
def Us{F:Fence}{n:Nat}{Q:Exit->Act->cG->Prop}{a:Act}{w:cG}{c:Code}(h:c.wpIn F n P (Exit.noGoto Q) a w):(Code.scope c).wpIn F n P Q a w:=by
 intro b k cs J K M;have j:(lone (b.atR a (.code (.scope c)::k)) cs w).fenced P F:=fenced_calm K M rfl;obtain⟨e,B,I,u,A⟩:=h b (.inScope c::k) cs J K M;cases e with
 |normal=>exact⟨.normal,B,I,u,.head j yj (StepsIn.trans A (.one (fenced_calm K M rfl) asJ))⟩
 |exit i=>
  have O:exitTo i (.inScope c::k)=exitTo i k:=by simp[exitTo]
  exact⟨.exit i,B,I,u,λk' L=> .head j yj (A.1 k' (O.trans L)),λT L=>let⟨k2,h2,h3⟩:=A.2 T (O.trans L);⟨k2,h2,.head j yj h3⟩⟩
 |goto l=>exact u.elim
 |ret=>exact⟨_,B,I,u,.of_steps (.one j yj) A⟩
 |panic ch=>exact⟨_,B,I,u,.of_steps (.one j yj) A⟩
 |outgrown=>exact⟨_,B,I,u,.of_steps (.one j yj) A⟩
def MK{rd:Option Nat}{m:Nat}{R:Type}{r:R}{b:Code}{K:AS->Out AS}{j:Exit->AS->Out AS}{body:AS->(Exit->AS->Option R)->Option R}
  (O:∀s B a w,jO C s a w->(K s).eval=aw B->jO C B a w) (hx:∀e s B a w,jO C s a w->(j e s).eval=aw B->jO C B a w)
  (M:∀(s:AS) (a:Act) (w:cG) (k:Exit->AS->Option R) (Q:Exit->Act->cG->Prop),jO C s a w->body s k=aw r->(∀e A u w',jO C A u w'->k e A=aw r->Q e u w')->b.wpIn (Fr rd) m P Q a w)
  {k:Exit->AS->Option R} {Q:Exit->Act->cG->Prop} (hk:∀e A u w',jO C A u w'->k e A=aw r->Q e u w'):
  ∀(n:Nat) (s:AS) (a:Act) (w:cG),jO C s a w->amx K j body n s k=aw r->Code.roundsIn (Fr rd) m P b Q n a w
 | 0,s,a,w,_,h=>by grind [amx]
 |n+1,s,a,w,hs,h=>by
  refine M s a w _ _ hs h λe A u w' L I=> ?_
  have J:∀e,(j e A).run (k e)=aw r->Q e u w':=λe I=>by grind [jE]
  cases e with
  |normal=>
   obtain⟨B,T,h2⟩:=jE.1 I;exact MK O hx M hk n B u w' (O A B u w' L T) h2
  |_=>exact J _ I
theorem aaA{rd:Option Nat}{n:Nat}(O:C.ok){j:Option iO}{run: {R:Type}->(Exit->AS->Option R)->Option R}{c:Code}{a:Act}{w:cG}
  (L:∀ {R:Type} {r:R} (k:Exit->AS->Option R) (Q:Exit->Act->cG->Prop),run k=aw r->(∀e A u w',jO C A u w'->k e A=aw r->Q e u w')->c.wpIn (Fr rd) n P Q a w)
  {R:Type} {r:R} {k:Exit->AS->Option R} {Q:Exit->Act->cG->Prop} (h:XK P j run k=aw r) (hk:∀e A u w',jO C A u w'->k e A=aw r->Q e u w'):c.wpIn (Fr rd) n P Q a w:=by
 cases j with
 |none=>grind [XK]
 |some j=>
  simp[XK]at h;cases B:run λe s=>(norm P j.an s).run (j.amf e) with
  |none=>grind [ao]
  |some x=>
   rw[B]at h;obtain⟨y,hy,h⟩:=jE.1 h;refine L _ Q B λe A u w' K J=> ?_
   obtain⟨s1,M,I⟩:=jE.1 J;have T:=j.ok _ _ _ I;grind [sQ]
def Inv.aO5{g:Nat->pP}{β:Id->Option Pl}{s:AS}{a:Act}{w:cG}(h:Inv C g β s a w):
  Inv C (nX g w.heap.size (.own .gK 0)) β s {a with defers:=C2 w.heap.size::a.defers} (w.alloc (.deferred (aw []))):=by
 have B:=Trans.alloc w g (.deferred (aw [])) (.own .gK 0);have A:df (s.env w g β) (s.env (w.alloc (.deferred (aw []))) (nX g w.heap.size (.own .gK 0)) β):=df.same B;have j:=h.step rfl B A (jH.same h.cd A λi u fr c pl I M=>by
  have J:=((h.cd i u fr c I).label (pl:=pl) M).1;have K:pl.b < w.heap.size:=J;grind [vb,nX])
 refine⟨⟨db.2 ⟨λL=> ?_,j.defers.1⟩,λd hd=> ?_⟩,j.size,j.cR,j.cd,j.trans,j.le⟩
 .obtain⟨D,e,_,O,_⟩:=h.defers.2 _ L;grind [C2]
 .rcases cr.1 hd with rfl | hd
  .exact⟨w.heap.size,rfl,h.trans.size,yC w _,lR _ _ _⟩
  .exact j.defers.2 d hd
def W9:∀l:List aF,(Dv l).list=l
 |[]=>rfl
 |a::l=>by simp[Dv,aF.list,W9 l]
def KQ(aX:List Nat):∀(i:Nat) (l:List aF),aa (fD aX i l)=aa l
 |_,[]=>rfl
 |i,_::l=>by simp[fD,KQ aX (i+1) l]
def Vd(aX:List Nat):∀(l:List aF) (i j:Nat),(fD aX i l).getD j .undef=l.getD j .undef\/(fD aX i l).getD j .undef= .undef
 |[],_,_=> .inl rfl
 |v::l,i,0=>by grind [fD]
 |v::l,i,j+1=>by simpa[fD]using Vd aX l (i+1) j
def Inv.frame{g:Nat->pP}{β:Id->Option Pl}{s:AS}{a:Act}{w:cG}(h:Inv C g β s a w)(aX:List Nat):Jh (s.env w g β) (Dv (fD aX 0 s.cR)) a.tmps:=by
 refine⟨by rw[W9,KQ,h.size],λi=> ?_⟩;rw[W9];rcases Vd aX s.cR 0 i with e | e
 .rw[e];exact h.cR i
 grind [VS.undef]
theorem bf2(a:Act)(q:Nat)(x:bh):(a.put (aw q) x).put (aw q) (a.tmps.getD q undef)=a:=by
 obtain⟨t,d⟩:=a;simp[Act.put];apply Array.ext_getElem?;intro i;by_cases h:q=i
 .by_cases j:q < t.size
  all_goals simp_all
 grind
def ab3{g:Nat->pP}{β:Id->Option Pl}{s s':AS}{a:Act}{w:cG}{q p:Nat}(h:Inv C g β s a w)(B:s.afe q p=aw s'):∃pl r,β (.dx 0)=aw pl/\(s.env w g β).cur (.dx 0) 0/\w.heap[pl.b]? =aw (.loop r)/\LH q r.state r.pending/\
  ∀j:Loop,j.params=r.params->j.assign=r.assign->j.body=r.body->j.tmps=r.tmps->LH p j.state j.pending->Inv C g β s' a (w.putObj pl.b (.loop j)):=by
 unfold AS.afe at B;split at B;rotate_left
 .cases B
 rename_i c f q' J;split at B;rotate_left
 .cases B
 rename_i hq;obtain rfl:q=q':=jB hq;obtain rfl:=cj B;obtain⟨pl,r,hp,hb,K,⟨q1,q2,q3⟩,L,u7⟩:=h.cd (.dx 0) 0 aZ _ J;have K:g pl.b= .own (.id (.dx 0)) 0:=K;refine⟨pl,r,hp,⟨aZ,_,J⟩,hb,u7,λj e1 e2 e3 e4 T=> ?_⟩;have gF:=(dV.1 hb).1;have u:∀I,I≠pl.b->(w.putObj pl.b (.loop j)).heap[I]? =w.heap[I]? :=λI jV=>World.putObj_heap_other jV
 have ht:Trans w (w.putObj pl.b (.loop j)) g g:=by refine⟨rfl,rfl,⟨rfl,ax _⟩,by simp,λI _=> ?_⟩;grind [gh]
 have A:df (s.env w g β) ((s.bD (.dx 0) (.obj 0 aZ (.BO c f p))).env (w.putObj pl.b (.loop j)) g β):=df.bD J (ax _) ht (λ_ _=>rfl) (λ_=>rfl);refine h.step (dF _ _ _) ht A (jH.bD h.cd (by grind) A (λ_ _=>rfl) (λi ver fr c pl2 hi O M=>⟨u _ (h.apart K hi O M),rfl⟩) ?_ (ajX J));exact⟨pl,j,hp,World.putObj_heap_same gF,K,⟨e1.trans q1,e2.trans q2,e3.trans q3⟩,by rw[e4];exact L.mono A,T⟩
theorem ajw{n:Nat}(hΓ:Sound P Γ){f:cD}{J:Array Tmp}{as b:Code}{R:Type}{r:R}{k:Exit->AS->Option R}{Q:Exit->Act->cG->Prop}{s:AS}{a:Act}{w:cG}(h:jO C s a w)
  (A:Np P Γ an s f J as b k=aw r) (hk:∀e s' a' w',jO C s' a' w'->k e s'=aw r->Q e a' w'):(Code.rangeFunc f J as b).wpIn (Fr aC) n P Q a w:=by
 obtain⟨g,β,h⟩:=h;unfold Np at A;split at A;rotate_left
 .cases A
 rename_i y aX M L brL bsD hF;split at A;rotate_left
 .cases A
 rename_i en blJ aQQ;simp only[aQ]at blJ;obtain⟨⟨⟨I,aX2⟩,hq⟩,gF⟩:=blJ;have hd:=(hΓ _ _ _ aQQ).1 gF;have hdR:=(hΓ _ _ _ aQQ).2.2 gF;generalize boP:J.getD 0 0=q at aX2 hq A aQQ;have hq:q < aa s.cR:=fG hq;obtain⟨vs,hy,bnw⟩:=alU (hF▸h.ev f);refine wpIn_rangeFunc λfn _=> ?_
 have eG:=run_enterLoop_outer (P:=P) (w:=w) fn a.tmps J as b;have i1:=h.aO5;generalize bsI:w.alloc (.deferred (aw []))=j at i1 eG;have Hu:j.heap.size=w.heap.size+1:=by grind [World.size_alloc]
 generalize boQ:({state:= .ready,pending:=aC,fn,tmps:=a.tmps,params:=J,assign:=as,body:=b,defers:=w.heap.size}:Loop)=r0 at eG;have ht:=Trans.alloc j (nX g w.heap.size (.own .gK 0)) (.loop r0) (.own (.id (.new q 0)) 0);obtain⟨i2,e2⟩:=i1.adI aX2 (c:= .BO ⟨y,J,as,b⟩ (Dv (fD aX 0 s.cR)) 0) (p:=aw ⟨j.heap.size,0⟩) ht (λb hb=>⟨vb j _ hb,my _ _ _ aq⟩) (λA=>
  ⟨⟨j.heap.size,0⟩,r0,oZ _ _ _,yC j _,lR _ _ _,by grind,by subst boQ;exact(i1.frame aX).mono A,by grind [LH]⟩)
 generalize nX (nX g w.heap.size (.own .gK 0)) j.heap.size (.own (.id (.new q 0)) 0)=g2 at i2 e2;generalize hβ2:SR β (.new q 0) (aw ⟨j.heap.size,0⟩)=β2 at i2 e2;generalize aUY:j.alloc (.loop r0)=T at i2 e2 eG;have brV:VS ((s.born q [.obj 0 aZ (.BO ⟨y,J,as,b⟩ (Dv (fD aX 0 s.cR)) 0)]).env T g2 β2) (.yl (.new q 0) 0) (.func (.yield j.heap.size) #[] #[]):=by refine⟨[.func (.yield j.heap.size) #[] #[]],?_,rfl⟩;simp only[V];exact⟨_,rfl,tT aX2 _ _ _ _,λ_=>⟨⟨j.heap.size,0⟩,by rw[<-hβ2];exact oZ _ _ _,rfl⟩⟩
 have i3:=i2.put (aw q) brV;have hF2:(s.born q [.obj 0 aZ (.BO ⟨y,J,as,b⟩ (Dv (fD aX 0 s.cR)) 0)]).ev f= .fn M L:=by rw[<-hF];cases f <;> rfl
 obtain⟨u,bmn,brS⟩:=alU (hF2▸i2.ev f);have aCZ:u=vs:=by
  have e:Value.func (.func M) #[] u.toArray= .func (.func M) #[] vs.toArray:=by rw[<-bmn,<-hy];cases f <;> rfl
  grind
 subst aCZ;have U7:CW (((s.born q [.obj 0 aZ (.BO ⟨y,J,as,b⟩ (Dv (fD aX 0 s.cR)) 0)]).put (aw q) (.yl (.new q 0) 0)).env T g2 β2) (.yl (.new q 0) 0::L.list) (.func (.yield j.heap.size) #[] #[]::u):=by simp_all [aww,CW]
 have bq8:∀args:Array bh,(callFunc M args).run P T= .ok (.enter M args) T:=λargs=>by
  unfold aFi at I;split at I
  .rename_i fn' bnj;simp only[aQ,fu,beq_eq_false_iff_ne]at I;obtain⟨c,hc⟩:=dA.1 I.2;simp_all [callFunc]
  grind
 have post:∀ {s3:AS} {w3:cG} {v:bh},jO C s3 ((({a with defers:=C2 w.heap.size::a.defers}:Act).put (aw q) (.func (.yield j.heap.size) #[] #[])).put aC v) w3->∀ {c:Ax} {fr:aF} {p:Nat},s3.cH (.new q 0)=aw (.obj 0 aZ (.BO c fr p))->s3.slot q= .yl (.new q 0) 0->p≠1->
   ∃B w4,(Instr.endLoop j.heap.size).run P w3= .ok B w4/\LH p (if p=0 then .ready else .done) B/\jO C ((s3.bD (.new q 0) .dead).put (aw q) .undef) {a with defers:=C2 w.heap.size::a.defers} w4:=by
  intro s3 w3 v bnr c fr p aXS boS bkM;obtain⟨g3,β3,i5⟩:=bnr;obtain⟨pl,r3,hp,hb,hg,_,_,O⟩:=i5.cd (.new q 0) 0 aZ _ aXS;have hp:β3 (.new q 0)=aw pl:=hp;have hb:w3.heap[pl.b]? =aw (.loop r3):=hb
  have hg:g3 pl.b= .own (.id (.new q 0)) 0:=hg;have bmh:=i5.cR q;rw[boS]at bmh;obtain⟨cs,hV,hO⟩:=bmh;simp only[V]at hV;obtain⟨l,rfl,_,jU⟩:=hV;obtain⟨pl',hp',rfl⟩:=jU ⟨aZ,_,aXS⟩;have hp':β3 (.new q 0)=aw pl':=hp';rw[hp]at hp';obtain rfl:pl=pl':=by grind
  have hO: [Value.func (.yield pl.b) #[] #[]]=[((({a with defers:=C2 w.heap.size::a.defers}:Act).put (aw q) (.func (.yield j.heap.size) #[] #[])).put aC v).tmps.getD q undef]:=hO;have ax1:q < ({a with defers:=C2 w.heap.size::a.defers}:Act).tmps.size:=by grind [undef,Act.put]
  have hO2:((({a with defers:=C2 w.heap.size::a.defers}:Act).put (aw q) (.func (.yield j.heap.size) #[] #[])).put aC v).tmps.getD q undef= .func (.yield j.heap.size) #[] #[]:=by simp_all [Act.put]
  rw[hO2]at hO;have hl:pl.b=j.heap.size:=by grind
  have blG:r3.state≠ .busy:=by
   match p,O,bkM with
   | 0,O,_=>grind [LH]
   | 1,_,h=>grind
   | 2,O,_=>grind [LH]
   |_+3,O,_=>grind [LH]
  have gF:pl.b < w3.heap.size:=(dV.1 hb).1;refine⟨r3.pending,_,by rw[<-hl];exact run_endLoop hb blG,?_,?_⟩
  .match p,O,bkM with
   | 0,O,_=>grind [LH]
   | 1,_,h=>grind
   | 2,O,_=>grind [LH]
   |_+3,O,_=>grind [LH]
  .have i6:=i5.kill aXS hg (w':=w3.putObj pl.b (.loop {r3 with state:= .exhausted})) rfl rfl ⟨rfl,ax _⟩ (by simp) (λb' hb'=>World.putObj_heap_other hb');have i7:=i6.put (aw q) (v:= .undef) (x:=({a with defers:=C2 w.heap.size::a.defers}:Act).tmps.getD q undef) VS.undef;grind [bf2,Act.put,jO]
 generalize hK:(λs3:AS=>(match s3.cH (.new q 0),s3.slot q with
   |some (.obj 0 aZ (.BO _ _ p)),.yl (.new q' 0) 0=>match jR q' q,p with
    |true,0=>k .normal ((s3.bD (.new q 0) .dead).put (aw q) .undef)
    |true,2=>k .ret ((s3.bD (.new q 0) .dead).put (aw q) .undef)
    |true,i+3=>k (.exit i) ((s3.bD (.new q 0) .dead).put (aw q) .undef)
    |_,_=>aC
   |_,_=>aC))=K at A
 have hc:=by
  unfold AS.bhs at A;split at A
  .exact(agu (o:= {(default:Oper) with dst:=aC}) i3 hdR U7 A).2
  .obtain⟨s3,bhC,A⟩:=jE.1 A;unfold AS.call at bhC;obtain⟨r2,h1,h2⟩:=aI.1 bhC;obtain⟨g',i4,e4,_,f1⟩:=fZ r2.2 i3;obtain⟨x,hx,k1,k2,key⟩:=ad2 (o:= {(default:Oper) with dst:=aC}) i4 (H5 _ _) (KG rfl i3.cd e4 _ _ _ r2 U7 h1 f1) h2;rcases hd _ _ _ _ _ _ _ k1 k2 hx with⟨_,hc⟩ | ⟨v,w',brR,_⟩
   .exact hc.mono λe w' ⟨v,aua,ha⟩=>⟨v,aua,s3,key v w' ha,A⟩
   grind
 refine⟨j.heap.size,[C2 w.heap.size],T,⟨.fn (.func M) u.toArray,#[.func (.yield j.heap.size) #[] #[]]⟩,T,M,(.func (.yield j.heap.size) #[] #[]::u).toArray,T,?_,?_,λ_ _=>trivial,?_,λh=>(by cases h),?_⟩
 .grind [Fr,C2]
 .have e:resolve a.eval (rangeCall f j.heap.size) 0=Deferred.ofValue (a.eval f) #[.func (.yield j.heap.size) #[] #[]]:=by simp[resolve,Act.eval]
  rw[e,hy];simp[Deferred.ofValue]
 .have e:(#[.func (.yield j.heap.size) #[] #[]]++u.toArray:Array bh)=(.func (.yield j.heap.size) #[] #[]::u).toArray:=by simp
  rw[<-bq8,<-e];rfl
 .have h1:CallsIn (Fr aC) (n - 1) P M (.func (.yield j.heap.size) #[] #[]::u).toArray T _:=callsIn_wide.2 hc;refine h1.mono λe w3 ⟨v,aua,s3,bnr,A⟩=> ?_
  subst aua;subst hK;show ∃B w4,_/\_;grind [jB,wpIn_ret,wpIn_exit,LH]
def qV{rd:Option Nat}{n:Nat}(hm:P.follows .mixedOrders=bn)(hΓ:Sound P Γ)(B:C.ok){N:Nat}(A:rd=aC\/an.lS.isSome=bn):∀(c:Code),kA P Γ an N (kQ c)->∀ {R:Type} {r:R} (s:AS) (a:Act) (w:cG) (k:Exit->AS->Option R) (Q:Exit->Act->cG->Prop),
  jO C s a w->ev P Γ an N c s k=aw r->(∀e T O w',jO C T O w'->k e T=aw r->Q e O w')->c.wpIn (Fr rd) n P Q a w
 | .skip,I,_,_,s,a,w,k,Q,j,h,u=>wpIn_skip (u _ _ _ _ j h)
 | .region id ops draw,I,_,_,s,a,w,k,Q,j,h,u=>by grind [ev,aaA,aFf,wpIn_region_list,agS]
 | .seq x y,I,_,_,s,a,w,k,Q,j,h,u=>by
  refine wpIn_seq (aaA B (λk Q h u=>qV hm hΓ B A x I.append.1 s a w k Q j h u) h λe T O w' K M=> ?_);cases e with
  |normal=>exact qV hm hΓ B A y I.append.2 T O w' k Q K M u
  |_=>exact u _ T O w' K M
 | .cond c x y,I,_,_,s,a,w,k,Q,j,h,u=>by
  simp[ev]at h;split at h
  .rename_i b hb;have hc:a.eval c= .bool b:=by obtain⟨g,β,hi⟩:=j;have:=hi.ev c;grind [ajF]
   refine wpIn_cond hc ?_
   cases b with
   |true=>exact qV hm hΓ B A x I.append.1 s a w k Q j h u
   |false=>exact qV hm hΓ B A y I.append.2 s a w k Q j h u
  grind
 | .block id b,I,_,_,s,a,w,k,Q,j,h,u=>by refine wpIn_block (qV hm hΓ B A b I s a w _ _ j h λe T O w' K M=> ?_);grind [Exit.inBlock]
 | .loop b,I,R,r,s,a,w,k,Q,j,h,u=>by
  obtain⟨L,h1,h⟩:=jE.1 h;have ax2:=sQ B j h1;obtain⟨hL1,hL2⟩:=(I:aMw P Γ an N b/\kA P Γ an N (kQ b));split at h
  .rename_i le hle;unfold bck at h;cases ax3:le.set with
   |some S=>
    rw[ax3]at h;obtain⟨h2,h3⟩:=atV h;obtain⟨n,J⟩:=(hL1 le hle).2 S ax3 L h2;refine wpIn_loop_rounds n (MK (λs L a w j J=>sQ B j J) (λe s L a w j J=>sQ B j J) (λs a w k Q j hb u=>qV hm hΓ B A b hL2 s a w k Q j hb u) (λe T O w' K he=> ?_) n L a w ax2 J);grind [aZi,jE]
   |none=>
   rw[ax3]at h;cases hr:le.run L with
   |none=>grind [ao]
   |some x=>
    rw[hr]at h;obtain⟨y,hy,h⟩:=jE.1 h;obtain⟨n,J⟩:=(hL1 le hle).1 ax3 L x hr;rw[hy]at J;refine wpIn_loop_rounds n (MK (λs L a w j J=>sQ B j J) (λe s L a w j J=>sQ B j J) (λs a w k Q j hb u=>qV hm hΓ B A b hL2 s a w k Q j hb u) (λe T O w' K he=> ?_) n L a w ax2 J);grind
  .exact wpIn_loop_rounds N (MK (λs L a w j J=>sQ B j J) (λe s L a w j J=>sQ B j J) (λs a w k Q j hb u=>qV hm hΓ B A b hL2 s a w k Q j hb u) u N L a w ax2 h)
 | .exit id,I,_,_,s,a,w,k,Q,j,h,u=>wpIn_exit (u _ _ _ _ j h)
 | .ret,I,_,_,s,a,w,k,Q,j,h,u=>wpIn_ret (u _ _ _ _ j h)
 | .rangeFunc f ps as b,_,_,_,s,a,w,k,Q,j,h,u=>by obtain⟨L,h1,h⟩:=jE.1 h;have j:=oc B _ j h1;grind [ajw,Np]
 | .scope b,I,_,_,s,a,w,k,Q,j,h,u=>by
  refine Us (qV hm hΓ B A b I s a w _ _ j h λe T O w' K M=> ?_);cases e with
  |goto l=>grind
  |_=>exact u _ T O w' K M
 | .label _,I,_,_,s,a,w,k,Q,j,h,u=>wpIn_label (u _ _ _ _ j h)
 | .goto _,_,_,_,_,_,_,_,_,_,h,_=>by grind [ev]
 | .refuse _,_,_,_,_,_,_,_,_,_,h,_=>by grind [ev]
variable {g:Nat->pP} {β:Id->Option Pl} {s:AS} {a:Act} {w:cG}
def apr(tmps:Array bh)(r:ResultVar):Sem bh:=
 match r with
 | .tmp t=>pure (tmps.getD t undef)
 | .cell a t=>do loadVar t (<-asAddr (tmps.getD a undef))
theorem ab8(h:Inv C g β s a w){r:ResultVar}{v:aF}(j:(aKS P s r).eval=aw v):∃x,(apr a.tmps r).run P w= .ok x w/\VS (s.env w g β) v x:=by
 cases r with
 |tmp t=>
  obtain rfl:=aM.1 j;exact⟨_,by simp[apr],h.cR t⟩
 |cell t T=>
  obtain⟨u,z,I,A,B⟩:=amt h (h.cR t) j;grind [apr,asAddr]
def ab7(h:Inv C g β s a w){r:ResultVar}{o:Option Ty}{y:AS×aF}(L:(azA P s r o).eval=aw y):
  ∃x j,(apr a.tmps r).run P w= .ok x w/\Inv C j β y.1 a w/\df (s.env w g β) (y.1.env w j β)/\VS (y.1.env w j β) y.2 x:=by
 cases o with
 |none=>
  grind [azA,aI,aM,ab8,df.refl]
 |some t=>
  obtain⟨v,A,B⟩:=aI.1 L;obtain⟨d,I,J⟩:=aI.1 B;obtain rfl:=aM.1 J;obtain⟨x,O,M⟩:=ab8 h A;obtain⟨j,T,u,_,cs,hR,K⟩:=NS h M I;exact⟨x,j,O,T,u,VS.of (a:= .d t d) (cs:=cs) (by grind [V]) K⟩
theorem V2:∀(l:List ResultVar) (A:List (Option Ty)) {s:AS} {g:Nat->pP} (_:Inv C g β s a w) {y:AS×aF},(azB P s l A).eval=aw y->
  ∃(j:List bh) (B:Nat->pP),(l.mapM (apr a.tmps)).run P w= .ok j w/\Inv C B β y.1 a w/\df (s.env w g β) (y.1.env w B β)/\VC (y.1.env w B β) y.2 j/\aa j=aa l
 |[],A,s,g,h,y,J=>by obtain rfl:=aM.1 J;exact⟨[],g,by simp,h,df.refl _,by simp[VC],rfl⟩
 |r::l,A,s,g,h,y,J=>by obtain⟨u,h1,I⟩:=aI.1 J;obtain⟨hc,I⟩:=ba.1 I;obtain⟨us,h3,h4⟩:=aI.1 I;obtain rfl:=aM.1 h4;obtain⟨x,g1,hx,i1,O,hv⟩:=ab7 h h1;obtain⟨j,T,M,i2,K,L,hl⟩:=V2 l A.tail i1 h3;obtain⟨cs,hV,hO⟩:=(hv.mono K).fF hc;refine⟨x::j,T,?_,i2,O.trans K,by grind [VC],by simp[hl]⟩;simp_all
theorem aVc{E:Env}{v:aF}{j:List bh}(h:VC E v j):VS E v (.tuple j.toArray):=by
 cases v <;> first
  | (done)
  |grind [VS]
  |grind [VC,VS]
def asz(h:Inv C g β s a w){fn:Func}{K:List (Option Ty)}{y:AS×aF}(A:(azC P fn K s).eval=aw y):
  ∃x u,(results fn a.tmps).run P w= .ok x w/\Inv C u β y.1 a w/\VS (y.1.env w u β) y.2 x:=by
 have key:∀j,(fn.results.toList.mapM (apr a.tmps)).run P w= .ok j w->(results fn a.tmps).run P w= .ok (if h:aa j=1 then j[0] else .tuple j.toArray) w:=λj B=>by
  have e:results fn a.tmps=(do
   let vs <-fn.results.mapM (apr a.tmps)
   pure (if h:vs.size=1 then vs[0] else .tuple vs)):=rfl
  grind [Array.mapM_eq_mapM_toList,map_eq_pure_bind,fe,dL,Sem.run_pure]
 unfold azC at A;split at A
 .obtain⟨x,u,L,I,_,J⟩:=ab7 h A;refine⟨x,u,?_,I,J⟩;simp_all
 grind [V2,aVc,List.length_eq_one_iff]
end
end Go.Ab
namespace Go.Ab
def rH(ids:List Id):pP->pP
 | .own (.id (.new i j)) k=> .own (.id (match idxOf (.new i j) ids with | some m=> .new 0 m | none=> .new 1 0)) k
 |l=>l
def aZD(β:Id->Option Pl)(ids:List Id):Id->Option Pl
 | .dx k=>β (.dx k)
 | .new 0 m=>(ids[m]?).bind β
 | .new (_+1) _=>aC
def aQ4{ids:List Id}{g:Nat->pP}{b off:Nat}(h:EF g b off):EF (λb=>rH ids (g b)) b off:=by
 unfold EF at*;simp;cases j:g b with
 |free=>simp[rH]
 |own o k=>
  rw[j]at h;cases o with
  |gK=>exact h
  |id i=>cases i <;> exact h
def axK(s:AS)(v:aF):(s.ad5 v).Nodup:=(xX s _ _ _ (by simp)).filter _
def aIi{s:AS}{v:aF}{id:Id}(h:id∈s.ad5 v):∃i j,id= .new i j:=by
 unfold AS.ad5 at h;cases id with
 |dx k=>grind [Id.bhN]
 |new i j=>grind
section
variable {P:bg} {Γ:qN} {C:Ctx} {g:Nat->pP} {β:Id->Option Pl} {s:AS} {a:Act} {w:cG}
def at2(h:Inv C g β s a w)(hC:C.ok){v:aF}{x:bh}(hv:VS (s.env w g β) v x):Ao C.E (s.fin v) x w:=by
 unfold AS.fin;have hn:=axK s v;have ai2:∀id∈s.ad5 v,∃i j,id= .new i j:=λid I=>aIi I
 generalize s.ad5 v=ids at hn ai2;generalize hG:s.bhw ids v=G;have Hv:G.val=v.jz (Xy ids):=by rw[<-hG];rfl
 have T:∀k,G.st.cH (.dx k)=(s.cH (.dx k)).map (dR.fin ids):=λk=>by
  rw[<-hG];show(s.cO.map (dR.fin ids))[k]? =_
  simp[AS.cH]
 have brA:∀m,G.st.cH (.new 0 m)=(ids[m]?).map λid=>((s.cH id).getD .dead).fin ids:=λm=>by
  rw[<-hG];show(ids.map λid=>((s.cH id).getD .dead).fin ids)[m]? =_
  grind
 have bsC:∀i m,G.st.cH (.new (i+1) m)=aC:=λi m=>by simp[hZ.st,AS.cH]
 let g':Nat->pP:=λb=>rH ids (g b)
 let β':=aZD β ids
 have L:∀e u fr c,dR.fin ids e= .obj u fr c->∃c0,e= .obj u fr c0/\c=c0.jz (Xy ids):=λe u fr c O=>by
  cases e with
  |dead=>cases O
  |obj v0 fr0 c0=>
   grind [dR.fin]
 have M:FK (Xy ids) (s.env w g β) (G.st.env w g' β'):=by
  refine⟨⟨λb off v ⟨K,h2⟩=>⟨K,aQ4 h2⟩,λb ob K h2=>⟨by show rH ids (g b)= .free;have K:g b= .free:=K;rw[K];rfl,h2⟩⟩,λid u r hr J=> ?_⟩;obtain⟨adp,aea⟩:=J;have adp:s.cH id≠aC:=adp;have aea:∀v fr c,s.cH id=aw (.obj v fr c)->u<=v:=aea;cases id with
  |dx k=>
   simp only[Xy,cn]at hr;subst hr;refine⟨⟨?_,λv fr c B=> ?_⟩,λ⟨fr,c,B⟩=>⟨?_,rfl⟩⟩
   .show G.st.cH (.dx k)≠aC;simp_all
   .have B:G.st.cH (.dx k)=aw (.obj v fr c):=B;grind [AS.cH]
   .have B:G.st.cH (.dx k)=aw (.obj u fr c):=B;rw[T,fb]at B;obtain⟨e,O,B⟩:=B;obtain⟨c0,rfl,_⟩:=L _ _ _ _ B;exact⟨fr,c0,O⟩
  |new i j=>
   simp only[Xy]at hr;split at hr
   .rename_i m hm;simp only[cn]at hr;subst hr;have I:=sG hm;obtain⟨e,O⟩:=Option.ne_none_iff_exists'.1 adp;have A:G.st.cH (.new 0 m)=aw (e.fin ids):=by grind
    refine⟨⟨?_,λv fr c B=> ?_⟩,λ⟨fr,c,B⟩=>⟨?_,?_⟩⟩
    .show G.st.cH (.new 0 m)≠aC;grind
    .have B:G.st.cH (.new 0 m)=aw (.obj v fr c):=B;grind
    .have B:G.st.cH (.new 0 m)=aw (.obj u fr c):=B;rw[A,cn]at B;obtain⟨c0,rfl,_⟩:=L _ _ _ _ B;exact⟨fr,c0,O⟩
    .show(ids[m]?).bind β=β (.new i j);grind
   grind
 have aIF:Trans C.E.w w C.E.g g':=by
  have h0:=h.trans;refine⟨h0.os,h0.tape,h0.output,h0.size,λb J=> ?_⟩;have K:=h0.aiW b J;show match C.E.g b with | .free=>rH ids (g b)= .free/\_ | .own .gK k=>rH ids (g b)= .own .gK k/\_ | .own (.id _) k=>(rH ids (g b)= .free\/∃i k',rH ids (g b)= .own (.id i) k'/\k<=k')/\_
  cases bjb:C.E.g b with
  |free=>grind [rH]
  |own o k=>cases o with
   |gK=>grind [rH]
   |id i=>
    simp only[bjb]at K ⊢;refine⟨?_,K.2⟩;rcases K.1 with h2 | ⟨i',k',h2,h3⟩
    .grind [rH]
    .rw[h2];right;cases i' with
     |dx m=>grind [rH]
     |new i j=>grind [rH]
 have beR:jH (G.st.env w g' β'):=by
  intro id u fr c I;have I:G.st.cH id=aw (.obj u fr c):=I;cases id with
  |dx k=>
   rw[T,fb]at I;obtain⟨e,O,I⟩:=I;obtain⟨c0,rfl,rfl⟩:=L _ _ _ _ I;refine Cj M (h.cd (.dx k) u fr c0 O) rfl λpl _=>⟨rfl,λn A=> ?_,λA=> ?_⟩
   .have A:g pl.b= .own (.id (.dx k)) n:=A;show rH ids (g pl.b)=_;rw[A];rfl
   .have A:g pl.b= .free:=A;show rH ids (g pl.b)=_;rw[A];rfl
  |new i m=>
   cases i with
   |succ i=>grind
   |zero=>
    rw[brA,fb]at I;obtain⟨id0,bjf,I⟩:=I;obtain⟨c0,O,rfl⟩:=L _ _ _ _ I;have eG:s.cH id0=aw (.obj u fr c0):=by
     cases hs:s.cH id0 with
     |none=>grind
     |some e=>grind
    obtain⟨i0,j0,rfl⟩:=ai2 id0 (eK bjf);refine Cj M (h.cd (.new i0 j0) u fr c0 eG) (by show(ids[m]?).bind β=_;rw[bjf];rfl) λpl _=>⟨rfl,λn A=> ?_,λA=> ?_⟩
    .have A:g pl.b= .own (.id (.new i0 j0)) n:=A;show rH ids (g pl.b)=_;rw[A];simp only[rH,Cs hn bjf]
    .have A:g pl.b= .free:=A;show rH ids (g pl.b)=_;rw[A];rfl
 have ho:∀id u,C.E.Oi id u->∃k,id= .dx k:=λid u J=>by
  cases id with
  |dx k=>grind
  |new i j=>exact absurd (hC.1 i j) J.1
 refine⟨g',β',by grind [Pz],beR,aIF,Trans.mem (E:=C.E) (E':=G.st.env w g' β') aIF,λid u J=> ?_,λid u J hc=> ?_⟩
 .obtain⟨k,rfl⟩:=ho id u J;exact(M.ref (.dx k) u (.dx k,u) rfl (h.le.Oi _ _ J)).1
 .obtain⟨k,rfl⟩:=ho id u J;obtain⟨K,h2⟩:=(M.ref (.dx k) u (.dx k,u) rfl (h.le.Oi _ _ J)).2 hc;obtain⟨h3,h4⟩:=h.le.cur _ _ J K;grind
def CW.len{E:Env}:∀ {as:List aF} {vs:List bh},CW E as vs->aa as=aa vs
 |[],[],_=>rfl
 |_::_,_::_,⟨_,h⟩=>by simp[CW.len h]
 |[],_::_,h=>h.elim
 |_::_,[],h=>h.elim
def CW.get{E:Env}:∀ {as:List aF} {vs:List bh},CW E as vs->∀i,VS E (as.getD i .undef) (vs.getD i undef)
 |[],[],_,i=>by simp[VS]
 |_::_,_::_,⟨h,_⟩,0=>by grind
 |_::_,_::_,⟨_,h⟩,i+1=>by simpa using CW.get h i
 |[],_::_,h,_=>h.elim
 |_::_,[],h,_=>h.elim
def aTG{w:cG}{g:Nat->pP}{β:Id->Option Pl}{fn:Func}{args:List aF}{cO:List dR}{u:List bh}(B:CW ((gz cO).env w g β) args u)(M:jH ((gz cO).env w g β)):
  Inv ⟨(gz cO).env w g β⟩ g β (start fn args cO) {tmps:=u.toArray++Array.replicate (fn.ntmps - u.toArray.size) undef,defers:=[]} w:=by
 have L:=B.len;have K:(start fn args cO).cH=(gz cO).cH:=by
  funext id;cases id with
  |dx k=>rfl
  |new i j=>
   grind [start,gz,AS.cH]
 have A:(start fn args cO).env w g β=(gz cO).env w g β:=by grind [AS.env]
 refine⟨⟨gO,λ_ h=>by cases h⟩,by grind [start],λi=> ?_,by grind,Trans.refl _ _,by grind [df.refl]⟩;rw[A];have I:(start fn args cO).slot i=args.getD i .undef:=by grind [start,AS.slot]
 have J:(u.toArray++Array.replicate (fn.ntmps - u.toArray.size) undef).getD i undef=u.getD i undef:=by simp;grind
 rw[I,J];exact B.get i
def Inv.bkm{C:Ctx}{g:Nat->pP}{β:Id->Option Pl}{s:AS}{a:Act}{w:cG}(h:Inv C g β s a w){D:Nat}{T:List Deferred}(hd:a.defers=C2 D::T):
  (Instr.takeDeferred D).run P w= .ok [] (w.putObj D (.deferred aC))/\Inv C g β s {a with defers:=T} (w.putObj D (.deferred aC)):=by
 obtain⟨hn,B⟩:=h.defers;rw[hd]at hn B;obtain⟨D',e,hD,hh,hg⟩:=B _ (aY ..);injection e with e _
 injection e with e
 subst e;refine⟨run_takeDeferred hh,?_⟩;have j:∀b,b≠D->(w.putObj D (.deferred aC)).heap[b]? =w.heap[b]? :=λb M=>World.putObj_heap_other M
 have Ge:yA (s.env w g β) (s.env (w.putObj D (.deferred aC)) g β):=by
  refine⟨λb off v ⟨u,J⟩=>⟨?_,J⟩,λb ob u J=>⟨u,?_⟩⟩
  .have u:w.cell? ⟨b,off,aC⟩=aw v:=u;show(w.putObj D (.deferred aC)).cell? ⟨b,off,aC⟩=aw v;grind [gh]
  .have u:g b= .free:=u;have J:w.heap[b]? =aw ob:=J
   show(w.putObj D (.deferred aC)).heap[b]? =aw ob
   grind
 have A:df (s.env w g β) (s.env (w.putObj D (.deferred aC)) g β):=⟨Ge,λ_ _ h=>h,λ_ _ _ h=>⟨h,rfl⟩⟩;have jV:∀ {id:Id} {v:Nat} {fr:Bool} {c:aF} {pl:Pl},s.cH id=aw (.obj v fr c)->β id=aw pl->pl.b≠D:=λK I e=>by have:=((h.cd _ _ _ _ K).label I).2;have this:(∃k,g _= .own (.id _) k)\/(_/\g _= .free):=this;grind
 refine⟨⟨(db.1 hn).2,λd hd'=> ?_⟩,h.size,λi=>(h.cR i).mono A,λid O fr c K=> ?_,?_,h.le.trans A⟩
 .grind
 .exact FJ.mono A (h.cd id O fr c K) rfl (λpl I=>⟨j _ (jV K I),rfl⟩) λq vq k v l hq _=>⟨⟨k,v,l,hq⟩,λpl I=>⟨j _ (jV hq I),rfl⟩⟩
 .have L:=h.trans;refine⟨L.os,L.tape,L.output,?_,λb M=> ?_⟩
  .grind [World.putObj]
  .have u:=L.aiW b M;grind [gh]
def ahd{C:Ctx}{g:Nat->pP}{β:Id->Option Pl}{s:AS}{fn:Func}{R:Ending->cG->Prop}:∀(j:List Deferred) {a:Act} {w:cG},Inv C g β s a w->a.defers=j->
  (∀B u,Inv C g β s B u->B.tmps=a.tmps->∃v,(results fn a.tmps).run P u= .ok v u/\R (.returned v) u)->LeavesInM Fence.wide 0 P fn a.tmps R j .returning w
 |[],a,w,h,I,A=>A a w h rfl
 |d::j,a,w,h,I,A=>by obtain⟨D,e,_⟩:=h.defers.2 d (by grind);subst e;obtain⟨J,K⟩:=h.bkm (P:=P) I;exact⟨by simp,.inl ⟨D,_,rfl,J,ahd (fn:=fn) (R:=R) j (a:= {a with defers:=j}) K rfl A⟩⟩
def aCE{cO:List dR}{w:cG}{g:Nat->pP}{β:Id->Option Pl}(h:cO.all dR.first=bn){k v:Nat}{fr:Bool}{c:aF}(j:((gz cO).env w g β).s (.dx k)=aw (.obj v fr c)):v=0:=by have:=eA.1 h _ (eK j);exact jB this
theorem ZC(hm:P.follows .mixedOrders=bn)(hΓ:Sound P Γ){f:fX}{fn:Func}(hf:P.funcs[f]? =aw fn)(hb:fn.body.isSome=bn)(U9:(fn.name== "runtime.NumGoroutine")=aZ){an:yu}{N:Nat}(hL:∀c,fn.body=aw c->kA P Γ an N (kQ c))
  {args:List aF} {cO:List dR} {R:Type} {k:hZ->Option R} {r:R} (u:aBa P Γ an N fn args cO k=aw r) (M:an.lS=aC)
  {K:List bh} (hv:CW ((gz cO).env w g β) args K) (ho:jH ((gz cO).env w g β)):(callFunc f K.toArray).run P w= .ok (.enter f K.toArray) w/\
   Calls P f K.toArray w λe w'=>∃v G,e= .returned v/\k G=aw r/\Ao ((gz cO).env w g β) G v w':=by
 obtain⟨c,hc⟩:=dA.1 hb;refine⟨?_,?_⟩
 .simp_all [callFunc]
 .unfold aBa at u;rw[M,hc]at u;simp at u;split at u
  .cases u
  rename_i hF;have J:(Ctx.mk ((gz cO).env w g β)).ok:=⟨λi j=>by simp[AS.env,gz,AS.cH],λk v fr c hk=>aCE hF hk⟩;refine callsIn_wide.1 (callsIn_of_wp_marks (F:=Fence.wide) (n:=0) hf hc trivial (qV (rd:=aC) (C:=⟨(gz cO).env w g β⟩) hm hΓ J (.inl rfl) c (hL c hc) _ _ w _ _ ⟨g,β,aTG hv ho⟩ u λe s' L w' hs' I=> ?_));have A:(finish P an fn s').run k=aw r->LeavesInM Fence.wide 0 P fn L.tmps (λe w'=>∃v G,e= .returned v/\k G=aw r/\Ao ((gz cO).env w g β) G v w') L.defers .returning w':=λhr=>by
   obtain⟨G,h1,h2⟩:=jE.1 hr;obtain⟨sd,bn7,h1⟩:=aI.1 h1;obtain⟨s2,h3,B⟩:=aI.1 h1;obtain⟨s3,bq4,B⟩:=aI.1 B;obtain⟨s4,bq5,B⟩:=aI.1 B;obtain⟨y,h5,h6⟩:=aI.1 B;obtain⟨g1,β1,bjd⟩:=hs';refine ahd L.defers bjd rfl λa2 w2 T bqx=> ?_
   obtain⟨g0,β0,O⟩:=F7 _ ⟨g1,β1,T⟩ bn7;obtain⟨g',β',hi⟩:=YP _ (oc J _ ⟨g0,β0,O.drop _⟩ h3) bq4;have hi:=Mc J _ hi bq5;obtain⟨z,g2,h7,h8,h9⟩:=asz hi h5;refine⟨z,by grind,z,G,rfl,h2,?_⟩;rw[<-aM.1 h6];exact at2 h8 J h9
  cases e with
  |normal=>exact A I
  |ret=>exact A I
  |_=>grind
def tD.AI(K:P.follows .mixedOrders=bn)(hΓ:Sound P Γ){f:fX}{fn:Func}(J:P.funcs[f]? =aw fn)(I:fn.body.isSome=bn)(A:(fn.name== "runtime.NumGoroutine")=aZ){j:Entry}{an:yu}{N:Nat}(B:∀c,fn.body=aw c->kA P Γ an N (kQ c))
  (h:∀args cO x,j.run args cO=aw x->aBa P Γ an N fn args cO aw=aw (j.out args cO x)) (u:an.lS=aC):tD P f j:=by
 grind [ZC,tD]
def Zd.AI(M:P.follows .mixedOrders=bn)(hΓ:Sound P Γ){f:fX}{fn:Func}(L:P.funcs[f]? =aw fn)(K:fn.body.isSome=bn)(A:(fn.name== "runtime.NumGoroutine")=aZ){j:Entry}{an:yu}{N:Nat}(J:∀c,fn.body=aw c->kA P Γ an N (kQ c))
  (h:∀args cO,(∃x,j.set args cO x)->aBa P Γ an N fn args cO (λG=>bhW (∃x,j.set args cO x/\G=j.out args cO x))=aw ()) (u:an.lS=aC):Zd P f j:=by
 intro w g β args cO kK T O hx;obtain⟨B,I⟩:=ZC M hΓ L K A J (h args cO hx) u T O;refine⟨B,I.mono λe w' ⟨v,G,e1,e2,e3⟩=> ?_⟩;grind [bhW]
def V8:∀(l:List (Tmp×bh)) (t:Array bh),(l.foldl (λtmps (x:Tmp×bh)=>tmps.setIfInBounds x.1 x.2) t).size=t.size
 |[],_=>rfl
 |x::l,t=>by rw[bN,V8 l];simp
def R9:∀(l:List (Tmp×aF)) (fs:List aF),aa (I4 l fs)=aa fs
 |[],_=>rfl
 |x::l,fs=>by rw[I4,R9 l];simp
def V9{E:Env}:∀(j:List Tmp) (vs:List aF) (A:List bh) (fs:List aF) (t:Array bh),CW E vs A->aa fs=t.size->(∀i,VS E (fs.getD i .undef) (t.getD i undef))->
  ∀i,VS E ((I4 (j.zip vs) fs).getD i .undef) (((j.zip A).foldl (λtmps (x:Tmp×bh)=>tmps.setIfInBounds x.1 x.2) t).getD i undef)
 |[],_,_,fs,t,_,_,h=>by simp_all [I4]
 |_::_,[],[],fs,t,_,_,h=>by simp_all [I4]
 |_::_,[],_::_,_,_,h,_,_=>h.elim
 |_::_,_::_,[],_,_,h,_,_=>h.elim
 |p::j,v::vs,u::A,fs,t,⟨h1,h2⟩,hl,h=>by
  refine V9 j vs A _ _ h2 (by grind) λi=> ?_
  simp;grind [Array.getD_eq_getD_getElem?]
def CW.split{E:Env}:∀(n:Nat) {as:List aF} {A j:List bh},aa A=n->CW E as (A++j)->CW E (as.take n) A/\CW E (as.drop n) j
 | 0,as,[],j,_,h=>by grind [CW]
 | 0,as,_::_,j,B,h=>by grind
 |n+1,as,[],j,B,h=>by grind
 |n+1,[],u::A,j,_,h=>h.elim
 |n+1,a::as,u::A,j,B,⟨h1,h2⟩=>by have:=CW.split n (by grind) h2;grind [CW]
def aLG{w:cG}{g:Nat->pP}{β:Id->Option Pl}{u:Array Tmp}{args:List aF}{cO:List dR}{A B:List bh}(T:aa A=u.size)(M:CW ((gz cO).env w g β) args (A++B))(ho:jH ((gz cO).env w g β)):
  Inv ⟨(gz cO).env w g β⟩ g β (ap6 u.toList args cO) {tmps:=(u.zip A.toArray).foldl (λtmps (t,a)=>tmps.setIfInBounds t a) B.toArray,defers:=[]} w:=by
 obtain⟨L,J⟩:=CW.split (aa u.toList) (by grind) M;have O:(ap6 u.toList args cO).cH=(gz cO).cH:=by
  funext id;cases id with
  |dx k=>rfl
  |new i j=>
   grind [ap6,gz,AS.cH]
 have I:(ap6 u.toList args cO).env w g β=(gz cO).env w g β:=by grind [AS.env]
 have e:(u.zip A.toArray).foldl (λtmps (x:Tmp×bh)=>tmps.setIfInBounds x.1 x.2) B.toArray=(u.toList.zip A).foldl (λtmps (x:Tmp×bh)=>tmps.setIfInBounds x.1 x.2) B.toArray:=by grind [Array.toList_zip]
 have K:=e;rw[K];refine⟨⟨gO,λ_ h=>by cases h⟩,?_,λi=> ?_,by grind,Trans.refl _ _,by grind [df.refl]⟩
 .show Array.size _=aa (I4 _ _);rw[V8,R9];simpa using J.len.symm
 .rw[I];exact V9 u.toList _ A _ _ L (by simpa using J.len) (λi=>by simpa[dH]using J.get i) i
def Ob.AI(hm:P.follows .mixedOrders=bn)(hΓ:Sound P Γ){y:Nat}{fn:Func}{en:Entry}{an:yu}{N:Nat}(hL:kA P Γ an N (kQ (Hw P y).as++kQ (Hw P y).b))
  (h:∀args cO x,en.run args cO=aw x->aBa P Γ an N fn args cO aw=aw (en.out args cO x)) (ajQ:an.lS=aw y):Ob P y en:=by
 intro w g β args cO kK x hv ho hx l us ts f rd n bmc Hu;have J:=h args cO x hx;unfold aBa at J;rw[ajQ]at J;simp at J;unfold ba7 at J;split at J;rotate_left
 .cases J
 rename_i args;split at J
 .cases J
 rename_i hF;subst bmc;obtain⟨bo0,aue⟩:=hv;have hC:(Ctx.mk ((gz cO).env w g β)).ok:=⟨λi j=>by simp[AS.env,gz,AS.cH],λk v fr c hk=>aCE hF hk⟩;obtain⟨cs,hV,hO⟩:=bo0;obtain⟨l',rfl,aCN,jU⟩:=hV;have hl:l'=l:=by grind [gv,aF.agg]
 subst hl;have K:∀ {s:AS} {g1:Nat->pP} {β1:Id->Option Pl} {a:Act} {w1:cG} {pl:Pl},Inv ⟨(gz cO).env w g β⟩ g1 β1 s a w1->(s.env w1 g1 β1).cur (.dx 0) 0->β1 (.dx 0)=aw pl->pl.b=l':=by intro s g1 β1 a w1 pl hi hc hp;obtain⟨c1,c2⟩:=hi.le.cur _ _ aCN hc;grind [AS.env]
 refine roundIn_of_wpIn (F:=Fr rd) trivial ?_
 have O:aw l'=aC\/an.lS.isSome=bn:= .inr (by grind);refine qV (rd:=aw l') hm hΓ hC O _ hL.append.1 _ _ w _ _ ⟨g,β,aLG Hu aue ho⟩ J λe s1 a1 w1 ax2 L=> ?_
 cases e with
 |normal=>
  cases h1:s1.afe 0 1 with
  |none=>grind [ao]
  |some s2=>
   rw[h1]at L;simp[ao]at L;obtain⟨g1,β1,T⟩:=ax2;obtain⟨pl,r,hp,hc,hb,u7,blY⟩:=ab3 T h1;have:=K T hc hp;subst this;refine⟨_,run_beginRound hb u7.1,?_⟩;have beM:=blY {r with state:= .busy} rfl rfl rfl rfl rfl;refine qV (rd:=aw pl.b) hm hΓ hC O _ hL.append.2 _ _ _ _ _ ⟨_,_,beM⟩ L λe s3 a3 w3 bnr I=> ?_
   cases A:bhv e with
   |none=>grind
   |some p=>
    rw[A]at I;simp at I;cases h4:s3.afe 1 p with
    |none=>grind
    |some s4=>
     rw[h4]at I;obtain⟨g3,β3,bqh⟩:=bnr;obtain⟨pl3,r3,boN,bi5,blC,brN,B⟩:=ab3 bqh h4;have brt:=K bqh bi5 boN;rw[brt]at blC B
     have M:∀(u:Option Code) (b:Bool),jR p 0=u.isNone->LH p (if u.isNone then .ready else .done) u->
       ∃v w',(Instr.endRound pl.b u).run P w3= .ok v w'/\∃v',Ending.returned v= .returned v'/\Ao ((gz cO).env w g β) (en.out (.yl (.dx 0) 0::args) cO x) v' w':=λu b hb hr=>by
      have brm:=B {r3 with state:=if u.isNone then .ready else .done,pending:=u} rfl rfl rfl rfl hr;refine⟨_,_,run_endRound u blC,_,rfl,?_⟩;obtain⟨G,k1,k2⟩:=jE.1 I;simp at k2;subst k2;obtain⟨sd,m1,k1⟩:=aI.1 k1;obtain⟨s5,m2,k1⟩:=aI.1 k1;obtain⟨s6,m3,k1⟩:=aI.1 k1;obtain⟨s7,m4,k1⟩:=aI.1 k1;obtain⟨g0,β0,beL⟩:=F7 _ ⟨_,_,brm⟩ m1;obtain⟨g',β',hi⟩:=YP _ (oc hC _ ⟨g0,β0,beL.drop _⟩ m2) m3;have hi:=Mc hC _ hi m4;rw[<-aM.1 k1,hb];exact at2 hi hC (Hz _)
     cases e with
     |normal=>
      obtain rfl:=cj A;exact M aC bn rfl ⟨rfl,rfl⟩
     |ret=>
      obtain rfl:=cj A;exact M (aw .ret) aZ rfl ⟨rfl,rfl⟩
     |exit i=>
      obtain rfl:=cj A;exact M (aw (.exit i)) aZ rfl ⟨rfl,rfl⟩
     |goto _=>cases A
     |panic _=>cases A
     |outgrown=>cases A
 |_=>grind
end
end Go.Ab
namespace Go.Ab
def eD(k:mA)(n:Int):Int:=k.wrap n
def bC(k:mA)(x y:Int):Int:=k.wrap (x+y)
def cY(k:mA)(x y:Int):Int:=k.wrap (x - y)
def fO(k:mA)(x y:Int):Int:=k.wrap (x*y)
def yp(k:mA)(x y:Int):Int:=k.wrap (x.tdiv y)
def kJ(x y:Int):Int:=x.tmod y
def oO(k:mA)(x y:Int):Int:=k.wrap (x*2^(min y.toNat k.bits))
def cI(k:mA)(x y:Int):Int:=x.fdiv (2^(min y.toNat k.bits))
def bfg(k:mA)(x:Int):Int:=cE .xor k (if k.signed then -1 else k.max) x
def oC(x y:Int):Bool:=x==y
def pb(x y:Int):Bool:=x !=y
def fj(x y:Int):Bool:=decide (x < y)
def arD(x y:Int):Bool:=decide (x<=y)
def qi(x y:Int):Bool:=decide (x > y)
def DA(x y:Int):Bool:=decide (x>=y)
def seq(x y:ByteArray):Bool:=x.toList==y.toList
def aFT(a:ByteArray)(i:Int):Int:=((a.data.toList.getD i.toNat 0).toNat:Int)
def dB(i n:Int):Bool:=decide (0<=i/\i < n)
def inc(i n:Int):Bool:=decide (0<=i/\i<=n)
def oQ(y:Int):Bool:=decide (0<=y)
def vO(y:Int):Bool:= !(decide (y=0))
open Classical in
def cQ.of{D X:Type}(u:D->AS)(j:D->Prop)(F:D->X)(out:X->Out (Exit×AS)):cQ:= {X,run:=λs=>if h:∃d,u d=s/\j d then aw (F h.choose) else aC,out}
open Classical in
def cQ.AI{D X:Type}{u:D->AS}{B:D->Prop}{F:D->X}{out:X->Out (Exit×AS)}(I:∀d j,u d=u j->d=j){d:D}(h:B d):(cQ.of u B F out).run (u d)=aw (F d):=by have A:∃j,u j=u d/\B j:=⟨d,rfl,h⟩;show(if h:∃j,u j=u d/\B j then aw (F h.choose) else aC)=_;rw[Ed A,I _ _ A.choose_spec.1]
open Classical in
def iO.of{X:Type}(an:rM)(u:X->AS):iO:=
 {an,X,amf:=λe s=>if h:e= .normal/\∃x,u x=s then aw h.2.choose else aC,out:=λx=> .ok (.normal,u x),
  ok:=λe s x h=>by
   by_cases j:e= .normal/\∃x,u x=s
   .rw[Ed j]at h;have A:=j.2.choose_spec;rw[cj h]at A;rw[j.1,<-A];rfl
   .rw[dif_neg j]at h;cases h}
open Classical in
def iO.rJ{X:Type}{an:rM}{j:X->AS}(A:∀d B,j d=j B->d=B)(x:X):(iO.of an j).amf .normal (j x)=aw x:=by have u:Exit.normal= .normal/\∃y,j y=j x:=⟨rfl,x,rfl⟩;show(if h:Exit.normal= .normal/\∃y,j y=j x then aw h.2.choose else aC)=_;rw[Ed u,A _ _ u.2.choose_spec]
open Classical in
def aMw.of{P:bg}{Γ:qN}{an:yu}{N:Nat}{fn:Func}{i:Nat}{D X:Type}{J:D->AS}{A:D->Prop}{F:D->X}{out:X->Out (Exit×AS)}
  (I:an.eT (ez (sF fn i))=aw (cQ.of J A F out)) (h:∀d,A d->∃n,aaM P Γ an N fn i n (J d) (λe s=>aw (e,s))=(out (F d)).eval):aMw P Γ an N (sF fn i):=by
 intro le j;rw[I]at j;simp only[cn]at j;subst j;refine⟨λ_ s x u=> ?_,λS T=>by cases T⟩;change (if h:∃K,J K=s/\A K then aw (F h.choose) else aC)=aw x at u;split at u
 .rename_i B;obtain rfl:=cj u;obtain⟨M,O⟩:=B.choose_spec;obtain⟨n,L⟩:=h _ O;refine⟨n,?_⟩;show aaM P Γ an N fn i n s _=_;rw[M]at L;exact L
 .cases u
theorem FA(P:bg)(Γ:qN)(an:yu)(N:Nat)(fn:Func)(i:Nat){R:Type}(n:Nat)(s:AS)(k:Exit->AS->Option R):aaM P Γ an N fn i (n+1) s k=Jx P Γ an N fn i s (λj=>aaM P Γ an N fn i n j k) k:=rfl
def aNA{P:bg}{Γ:qN}{an:yu}{N:Nat}{fn:Func}{i:Nat}{D X:Type}{u:D->AS}{A:D->Prop}{F:D->X}{out:X->Out (Exit×AS)}(μ:D->Nat)
  (h:∀d,A d->(∃j,A j/\μ j < μ d/\F j=F d/\∀ {R:Type} (B:AS->Option R) (I:Exit->AS->Option R),Jx P Γ an N fn i (u d) B I=B (u j))\/
   (∃r,(out (F d)).eval=aw r/\∀ {R:Type} (B:AS->Option R) (I:Exit->AS->Option R),Jx P Γ an N fn i (u d) B I=I r.1 r.2)):
  ∀d,A d->∃n,aaM P Γ an N fn i n (u d) (λe s=>aw (e,s))=(out (F d)).eval:=by
 have key:∀m d,μ d=m->A d->∃n,aaM P Γ an N fn i n (u d) (λe s=>aw (e,s))=(out (F d)).eval:=by
  intro m
  induction m using Nat.strongRecOn with
  |_ m M=>
   intro d hm K;rcases h d K with⟨j,J,O,T,L⟩ | ⟨r,L,hx⟩
   .obtain⟨n,hn⟩:=M (μ j) aq j rfl J;exact⟨n+1,by grind [FA]⟩
   .exact⟨1,by grind [FA]⟩
 grind
open Classical in
def cQ.ai7{D X Y:Type}(B:D->AS)(A:D->Prop)(u:D->Y->X)(j:D->Y->Prop)(out:X->Out (Exit×AS)):cQ:= {X,run:=λ_=>aC,out,set:=aw λs x=>∃d,B d=s/\A d/\∃y,j d y/\x=u d y}
def bj4{D X Y:Type}(A:D->AS)(I:D->Prop)(u:D->Y->X)(j:D->Y->Prop):D->X->Prop:=λB x=>∃d,A d=A B/\I d/\∃y,j d y/\x=u d y
abbrev aO3{D X Y:Type}(set:D->X->Prop)(A:D->Prop)(u:D->Y->X)(j:D->Y->Prop):Prop:=∀ {d:D} {R:Type} {k:X->Option R} {r:Option R},A d->(∃y,j d y)->(∀y,j d y->k (u d y)=r)->alF (set d) k=r
def bpv{D X Y:Type}{A:D->AS}{I:D->Prop}{u:D->Y->X}{j:D->Y->Prop}(J:∀d B,A d=A B->d=B):aO3 (bj4 A I u j) I u j:=λh K M=>by
 obtain⟨y,L⟩:=K;refine aM8 ⟨_,_,rfl,h,y,L,rfl⟩ λx O=> ?_
 grind [bj4]
abbrev aMx(P:bg)(G:qN)(an:yu)(N:Nat)(fn:Func)(i:Nat){D X Y:Type}(B:D->AS)(A:D->Prop)(u:D->Y->X)(j:D->Y->Prop)(out:X->Out (Exit×AS)):Prop:=∀d,A d->∃n,∀k:Exit->AS->Option Unit,(∀y e s,j d y->(out (u d y)).eval=aw (e,s)->k e s=aw ())->aaM P G an N fn i n (B d) k=aw ()
def aMw.ai7{P:bg}{Γ:qN}{an:yu}{N:Nat}{fn:Func}{i:Nat}{D X Y:Type}{L:D->AS}{J:D->Prop}{A:D->Y->X}{u:D->Y->Prop}{out:X->Out (Exit×AS)}
  (h:aMx P Γ an N fn i L J A u out) (I:an.eT (ez (sF fn i))=aw (cQ.ai7 L J A u out)):aMw P Γ an N (sF fn i):=by
 intro le j;rw[I]at j;simp at j;subst j;refine⟨λB=>(by cases B),λS B s hs=> ?_⟩;obtain rfl:=cj B;obtain⟨x,d,rfl,K,y,hy,rfl⟩:=hs;obtain⟨n,T⟩:=h d K;exact⟨n,T _ λy e s M O=>aZh ⟨A d y,⟨d,rfl,K,y,M,rfl⟩,O⟩⟩
def atw{n:Nat}{Q:Nat->Nat->Prop}(h:∀j,j < n->∃N,∀M,N<=M->Q j M):∃N,∀M,N<=M->∀j,j < n->Q j M:=by
 induction n with
 |zero=>simp
 |succ n I=>
  obtain⟨u,J⟩:=I λj B=>h j aq
  obtain⟨A,K⟩:=h n aq;refine⟨max u A,λM L j B=> ?_⟩;grind
def aYT{P:bg}{Γ:qN}{an:yu}{N:Nat}{fn:Func}{i:Nat}{D X:Type}{A:D->AS}{B:D->Prop}{F:D->X}{out:X->Out (Exit×AS)}(μ:D->Nat)
  (h:∀d,B d->(∃(m:Nat) (u:Nat->D),0 < m/\(∀j,j < m->B (u j)/\μ (u j) < μ d/\F (u j)=F d)/\∀ {R:Type} (J:AS->Option R) (K:Exit->AS->Option R),Jx P Γ an N fn i (A d) J K=aXg m λj=>J (A (u j)))\/
   (∃r,(out (F d)).eval=aw r/\∀ {R:Type} (J:AS->Option R) (K:Exit->AS->Option R),Jx P Γ an N fn i (A d) J K=K r.1 r.2)):
  ∀d,B d->∃n,aaM P Γ an N fn i n (A d) (λe s=>aw (e,s))=(out (F d)).eval:=by
 have key:∀m d,μ d=m->B d->∃n,∀M,n<=M->aaM P Γ an N fn i M (A d) (λe s=>aw (e,s))=(out (F d)).eval:=by
  intro m
  induction m using Nat.strongRecOn with
  |_ m ih=>
   intro d hm T;rcases h d T with⟨c,u,hc,hd,hr⟩ | ⟨r,hr,hx⟩
   .obtain⟨n,I⟩:=atw (n:=c) (Q:=λj M=>aaM P Γ an N fn i M (A (u j)) (λe s=>aw (e,s))=(out (F d)).eval) λj O=>by obtain⟨h1,h2,h3⟩:=hd j O;obtain⟨n,I⟩:=ih (μ (u j)) aq (u j) rfl h1;exact⟨n,λM hM=>by grind⟩
    refine⟨n+1,λM hM=> ?_⟩;obtain⟨M,rfl⟩:∃L,M=L+1:=⟨M - 1,aq⟩;rw[FA,hr];exact aXh hc λj O=>I M aq j O
   .refine⟨1,λM hM=> ?_⟩;obtain⟨M,rfl⟩:∃L,M=L+1:=⟨M - 1,aq⟩;grind [FA]
 exact λd T=>let⟨n,I⟩:=key _ d rfl T;⟨n,I n (ax _)⟩
def aYU{P:bg}{Γ:qN}{an:yu}{N:Nat}{fn:Func}{i:Nat}{D X Y:Type}{I:D->AS}{J:D->Prop}{A:D->Y->X}{u:D->Y->Prop}{out:X->Out (Exit×AS)}(μ:D->Nat)
  (h:∀d,J d->(∃(m:Nat) (B:Nat->D),0 < m/\(∀j,j < m->J (B j)/\μ (B j) < μ d/\∀y,u (B j) y->∃y',u d y'/\A (B j) y=A d y')/\∀ {R:Type} (K:AS->Option R) (L:Exit->AS->Option R),Jx P Γ an N fn i (I d) K L=aXg m λj=>K (I (B j)))\/
   (∃y r,u d y/\(out (A d y)).eval=aw r/\∀ {R:Type} (K:AS->Option R) (L:Exit->AS->Option R),Jx P Γ an N fn i (I d) K L=L r.1 r.2)):aMx P Γ an N fn i I J A u out:=by
 have key:∀m d,μ d=m->J d->∃n,∀M,n<=M->∀k,(∀y e s,u d y->(out (A d y)).eval=aw (e,s)->k e s=aw ())->aaM P Γ an N fn i M (I d) k=aw ():=by
  intro m
  induction m using Nat.strongRecOn with
  |_ m ih=>
   intro d hm hp;rcases h d hp with⟨c,B,hc,hd,hr⟩ | ⟨y,r,hy,hr,hx⟩
   .obtain⟨n,hn⟩:=atw (n:=c) (Q:=λj M=>∀k,(∀y e s,u (B j) y->(out (A (B j) y)).eval=aw (e,s)->k e s=aw ())->aaM P Γ an N fn i M (I (B j)) k=aw ()) λj T=>by obtain⟨h1,h2,h3⟩:=hd j T;exact ih (μ (B j)) aq (B j) rfl h1
    refine⟨n+1,λM hM k hk=> ?_⟩;obtain⟨M,rfl⟩:∃O,M=O+1:=⟨M - 1,aq⟩;rw[FA,hr];refine aXh hc λj T=>hn M aq j T k λy e s h1 h2=> ?_
    grind
   .refine⟨1,λM hM k hk=> ?_⟩;obtain⟨M,rfl⟩:∃O,M=O+1:=⟨M - 1,aq⟩;grind [FA]
 exact λd hp=>let⟨n,hn⟩:=key _ d rfl hp;⟨n,hn n (ax _)⟩
def aDu{P:bg}{Γ:qN}{an:yu}{N:Nat}{fn:Func}{i:Nat}{D X:Type}{I:D->AS}{J:D->Prop}{F:D->X}{u:X->Exit×AS}(μ:D->Nat)(h:∀d,J d->(∃j,J j/\μ j < μ d/\F j=F d/\∀ {R:Type} (A:AS->Option R) (B:Exit->AS->Option R),Jx P Γ an N fn i (I d) A B=A (I j))\/(∀ {R:Type} (A:AS->Option R) (B:Exit->AS->Option R),Jx P Γ an N fn i (I d) A B=B (u (F d)).1 (u (F d)).2)):∀d,J d->∃n,aaM P Γ an N fn i n (I d) (λe s=>aw (e,s))=(Out.ok (u (F d))).eval:=aNA (out:=λx=> .ok (u x)) μ λd K=>(h d K).imp id λh=>⟨_,rfl,h⟩
open Classical in
def Entry.of{D X:Type}(params:List (Option Ty))(u:D->List aF×List dR)(j:D->Prop)(F:D->X)(out:X->hZ):Entry:= {params,X,run:=λargs cO=>if h:∃d,u d=(args,cO)/\j d then aw (F h.choose) else aC,out:=λ_ _=>out}
open Classical in
def Entry.AI{D X:Type}{params:List (Option Ty)}{j:D->List aF×List dR}{B:D->Prop}{F:D->X}{out:X->hZ}(I:∀d u,j d=j u->d=u){d:D}(h:B d):
  (Entry.of params j B F out).run (j d).1 (j d).2=aw (F d):=by
 have A:∃u,j u=((j d).1,(j d).2)/\B u:=⟨d,rfl,h⟩;show(if h:∃u,j u=((j d).1,(j d).2)/\B u then aw (F h.choose) else aC)=_;rw[Ed A,I _ _ A.choose_spec.1]
open Classical in
theorem aNJ{D X:Type}{params:List (Option Ty)}{B:D->List aF×List dR}{A:D->Prop}{F:D->X}{out:X->hZ}{args:List aF}{cO:List dR}{x:X}(u:(Entry.of params B A F out).run args cO=aw x):∃d,B d=(args,cO)/\A d/\x=F d:=by
 change (if h:∃I,B I=(args,cO)/\A I then aw (F h.choose) else aC)=aw x at u;split at u
 .rename_i j;obtain rfl:=cj u;exact⟨_,j.choose_spec.1,j.choose_spec.2,rfl⟩
 .cases u
def tD.of{P:bg}{Γ:qN}(L:P.follows .mixedOrders=bn)(hΓ:Sound P Γ){f:fX}{fn:Func}(K:P.funcs[f]? =aw fn)(J:fn.body.isSome=bn)(B:(fn.name== "runtime.NumGoroutine")=aZ){an:yu}{N:Nat}
  (I:∀c,fn.body=aw c->kA P Γ an N (kQ c)) {D X:Type} {params:List (Option Ty)} {u:D->List aF×List dR} {A:D->Prop} {F:D->X} {out:X->hZ}
  (h:∀d,A d->aBa P Γ an N fn (u d).1 (u d).2 aw=aw (out (F d))) (j:an.lS=aC:=by exact rfl):tD P f (Entry.of params u A F out):=by
 refine tD.AI L hΓ K J B I (λargs cO x M=> ?_) j;grind [aNJ,Entry.of]
def aU6(P:bg)(Γ:qN)(an:yu)(N:Nat)(fn:Func):Nat->Nat->Prop
 | 0,_=>True
 |n+1,i=>aMw P Γ an N (sF fn i)/\aU6 P Γ an N fn n (i+1)
def aU6.get{P:bg}{Γ:qN}{an:yu}{N:Nat}{fn:Func}:∀ {n i:Nat},aU6 P Γ an N fn n i->∀j,j < n->aMw P Γ an N (sF fn (i+j))
 | 0,_,_,j,u=>aq
 |n+1,i,h,0,_=>h.1
 |n+1,i,h,j+1,u=>by have:=aU6.get h.2 j aq;grind
def kA.aZg{P:bg}{Γ:qN}{an:yu}{N:Nat}:∀(l:List Code),(∀j,j < aa l->aMw P Γ an N (l.getD j .skip))->kA P Γ an N l
 |[],_=>trivial
 |b::l,h=>⟨h 0 (by simp),kA.aZg l λj u=>by have:=h (j+1) (by grind);grind⟩
def kA.fn{P:bg}{Γ:qN}{an:yu}{N:Nat}{fn:Func}(n:Nat)(u:(match fn.body with | some c=>aa (kQ c) | none=>0)=n)(h:aU6 P Γ an N fn n 0):∀c,fn.body=aw c->kA P Γ an N (kQ c):=by
 intro c A;refine kA.aZg _ λj B=> ?_
 rw[A]at u;simp at u;have:=h.get j aq;grind [sF]
def aMw.none{P:bg}{Γ:qN}{an:yu}{N:Nat}{fn:Func}{i:Nat}(h:an.eT (ez (sF fn i))=aC):aMw P Γ an N (sF fn i):=λle j=>by
 grind
def bi3:qN:=λ_ _=>aC
def Sound.nil(P:bg):Sound P bi3:=λ_ _ _ h=>by cases h
def aNe(f:fX)(p:List aF->Bool)(j:Entry)(Γ:qN):qN:=λg vs=>match jR g f with | true=>(match p vs with | true=>aw j | false=>Γ g vs) | false=>Γ g vs
def Sound.cons{P:bg}{f:fX}{p:List aF->Bool}{j:Entry}{Γ:qN}(h:yw P f j)(hΓ:Sound P Γ):Sound P (aNe f p j Γ):=λg vs e u=>by
 grind [aNe,jB,Sound]
def bhu{t:Ty}{x y:t.den}(h:aF.d t x=aF.d t y):x=y:=by grind
def bg9{e:bk}{t:Ty}{x y:List t.den}(h:aF.vec e t x=aF.vec e t y):x=y:=by grind
def jh:List aF->Bool:=λ_=>bn
def aRw:List aF->Bool | .fR::_=>bn | _=>aZ
def av6:List aF->Bool | .dq .. ::_=>bn | _=>aZ
@[simp] theorem ai{α:Type}(x y:Option α):aA bn x y=x:=rfl
@[simp] theorem al{α:Type}(x y:Option α):aA aZ x y=y:=rfl
@[simp] theorem ah{α β:Type}(x:α)(f:α->Option β):ao (aw x) f=f x:=rfl
@[simp] theorem afH{α:Type}(c:Ax)(x:Option α):same c c x=x:=by simp[same]
@[simp] theorem EB{α:Type}(x:Option α):nd x x=x:=by simp[nd]
structure SG(P:bg) where
 f:fX
 p:List aF->Bool
 e:Entry
 h:yw P f e
def gU{P:bg}:List (SG P)->qN
 |[]=>bi3
 |a::l=>aNe a.f a.p a.e (gU l)
def Sound.gU{P:bg}:∀l:List (SG P),Sound P (gU l)
 |[]=>Sound.nil P
 |a::l=>Sound.cons a.h (Sound.gU l)
abbrev SA:=List aF×List dR
def FI(P:bg)(G:qN)(an:yu)(N:Nat)(fn:Func){D:Type}(j:D->SA){R:Type}(d:D)(k:hZ->Option R):Option R:=aBa P G an N fn (j d).1 (j d).2 k
def dm(P:bg)(G:qN)(an:yu)(N:Nat)(fn:Func)(i:Nat){D:Type}(A:D->AS){R:Type}(d:D)(j:AS->Option R)(u:Exit->AS->Option R):Option R:=Jx P G an N fn i (A d) j u
abbrev WS{D X Y:Type}(A: {R:Type}->D->(hZ->Option R)->Option R)(u:D->Prop)(j:D->Y->X)(F:D->Y)(out:X->hZ):Prop:=∀d,u d->A d aw=aw (out (j d (F d)))
abbrev gr(P:bg)(G:qN)(an:yu)(N:Nat)(fn:Func)(i:Nat){D X Y:Type}(A:D->AS)(u:D->Prop)(j:D->Y->X)(F:D->Y)(out:X->Out (Exit×AS)):Prop:=∀d,u d->∃n,aaM P G an N fn i n (A d) (λe s=>aw (e,s))=(out (j d (F d))).eval
abbrev aiV{D X Y:Type}(R: {R:Type}->D->(AS->Option R)->(Exit->AS->Option R)->Option R)(K:D->AS)(J:D->Prop)(j:D->Y->X)(F:D->Y)(I:X->Exit×AS)(C:Prop):Prop:=∀μ:D->Nat,(∀d,J d->(∃u,J u/\μ u < μ d/\j u (F u)=j d (F d)/\∀ {T:Type} (A:AS->Option T) (B:Exit->AS->Option T),R d A B=A (K u))\/(∀ {T:Type} (A:AS->Option T) (B:Exit->AS->Option T),R d A B=B (I (j d (F d))).1 (I (j d (F d))).2))->C
abbrev iX{D X Y:Type}(R: {R:Type}->D->(AS->Option R)->(Exit->AS->Option R)->Option R)(J:D->AS)(I:D->Prop)(j:D->Y->X)(F:D->Y)(out:X->Out (Exit×AS))(C:Prop):Prop:=∀μ:D->Nat,(∀d,I d->(∃u,I u/\μ u < μ d/\j u (F u)=j d (F d)/\∀ {T:Type} (A:AS->Option T) (B:Exit->AS->Option T),R d A B=A (J u))\/(∃r,(out (j d (F d))).eval=aw r/\∀ {T:Type} (A:AS->Option T) (B:Exit->AS->Option T),R d A B=B r.1 r.2))->C
abbrev bk5{D X Y:Type}(R: {R:Type}->D->(AS->Option R)->(Exit->AS->Option R)->Option R)(L:D->AS)(K:D->Prop)(u:D->Y->X)(F:D->Y)(J:X->Exit×AS)(C:Prop):Prop:=∀μ:D->Nat,(∀d,K d->(∃(m:Nat) (A:Nat->D),0 < m/\(∀j,j < m->K (A j)/\μ (A j) < μ d/\u (A j) (F (A j))=u d (F d))/\∀ {T:Type} (B:AS->Option T) (I:Exit->AS->Option T),R d B I=aXg m λj=>B (L (A j)))\/(∀ {T:Type} (B:AS->Option T) (I:Exit->AS->Option T),R d B I=I (J (u d (F d))).1 (J (u d (F d))).2))->C
def bnZ{P:bg}{G:qN}{an:yu}{N:Nat}{fn:Func}{i:Nat}{D X Y:Type}{A:D->AS}{B:D->Prop}{j:D->Y->X}{F:D->Y}{u:X->Exit×AS}:bk5 (dm P G an N fn i A) A B j F u (gr P G an N fn i A B j F λx=> .ok (u x)):=λ μ h=>aYT (F:=λd=>j d (F d)) (out:=λx=> .ok (u x)) μ λd I=>(h d I).imp id λh=>⟨_,rfl,h⟩
abbrev bhq{D X Y:Type}(R: {R:Type}->D->(AS->Option R)->(Exit->AS->Option R)->Option R)(O:D->AS)(L:D->Prop)(A:D->Y->X)(u:D->Y->Prop)(K:X->Exit×AS)(C:Prop):Prop:=∀μ:D->Nat,(∀d,L d->(∃(m:Nat) (B:Nat->D),0 < m/\(∀j,j < m->L (B j)/\μ (B j) < μ d/\∀y,u (B j) y->∃M,u d M/\A (B j) y=A d M)/\∀ {T:Type} (I:AS->Option T) (J:Exit->AS->Option T),R d I J=aXg m λj=>I (O (B j)))\/(∃y,u d y/\∀ {T:Type} (I:AS->Option T) (J:Exit->AS->Option T),R d I J=J (K (A d y)).1 (K (A d y)).2))->C
def blg{P:bg}{G:qN}{an:yu}{N:Nat}{fn:Func}{i:Nat}{D X Y:Type}{B:D->AS}{I:D->Prop}{u:D->Y->X}{j:D->Y->Prop}{A:X->Exit×AS}:bhq (dm P G an N fn i B) B I u j A (aMx P G an N fn i B I u j λx=> .ok (A x)):=λ μ h=>aYU (out:=λx=> .ok (A x)) μ λd J=>(h d J).imp (λh=>h) λ⟨y,K,h⟩=>⟨y,_,K,rfl,h⟩
def ark{P:bg}{G:qN}{an:yu}{N:Nat}{fn:Func}{i:Nat}{D X Y:Type}{u:D->AS}{B:D->Prop}{j:D->Y->X}{F:D->Y}{A:X->Exit×AS}:aiV (dm P G an N fn i u) u B j F A (gr P G an N fn i u B j F λx=> .ok (A x)):=λ μ h=>aDu (F:=λd=>j d (F d)) μ h
def ji{P:bg}{G:qN}{an:yu}{N:Nat}{fn:Func}{i:Nat}{D X Y:Type}{u:D->AS}{A:D->Prop}{j:D->Y->X}{F:D->Y}{out:X->Out (Exit×AS)}:iX (dm P G an N fn i u) u A j F out (gr P G an N fn i u A j F out):=λ μ h=>aNA (F:=λd=>j d (F d)) (out:=out) μ h
def ko:List (Nat×rM)->Nat->rM
 |[],_=> {}
 |a::l,r=>bif jR r a.1 then a.2 else ko l r
def km:List (Nat×rM×rM)->Nat->Bool->rM
 |[],_,_=> {}
 |a::l,r,b=>bif jR r a.1 then(bif b then a.2.2 else a.2.1) else km l r b
def jW.{v} {α:Type v}:List (Nat×α)->Nat->Option α
 |[],_=>aC
 |a::l,r=>bif jR r a.1 then aw a.2 else jW l r
inductive Lf where
 |d (t:Ty)
 |n
@[reducible] def Lf.den:Lf->Type
 | .d t=>t.den
 | .n=>Nat
@[reducible] def Lf.aT9:List Lf->Type
 |[]=>Unit
 |[a]=>a.den
 |a::b::l=>a.den×Lf.aT9 (b::l)
abbrev bk7:=List (Sigma Lf.den)
def Lf.mk:(ts:List Lf)->Lf.aT9 ts->bk7
 |[],_=> []
 |[a],x=> [⟨a,x⟩]
 |a::b::l,x=>⟨a,x.1⟩::Lf.mk (b::l) x.2
def Lf.mk_inj:∀(j:List Lf) (x y:Lf.aT9 j),Lf.mk j x=Lf.mk j y->x=y
 |[],_,_,_=>rfl
 |[a],x,y,h=>by grind [Lf.mk]
 |a::b::l,(x,u),(y,v),h=>by
  injection h with h A
  injection h with _ h
  have h:x=y:=h;rw[h,Lf.mk_inj (b::l) u v A]
def aF.leaves:aF->bk7
 | .d .unit _=> []
 | .d (.arr _ t) l=> [⟨.d (.slice t),l⟩]
 | .d t x=> [⟨.d t,x⟩]
 | .iU t x=> [⟨.d t,x⟩]
 | .vec _ t l=> [⟨.d (.slice t),l⟩]
 | .mp k v l=> [⟨.d (.slice (.pair k v)),l⟩]
 | .xB _ _ k v l _=> [⟨.d (.slice (.pair k v)),l⟩]
 | .BO _ f _=>f.leaves
 | .dq _ _ _ _ _ n=> [⟨.n,n⟩]
 | .pr a b=>a.leaves++b.leaves
 | .cons a b=>a.leaves++b.leaves
 | .fn _ c=>c.leaves
 | .bx _ _ c=>c.leaves
 |_=> []
def dR.leaves:dR->bk7
 | .obj _ _ c=>c.leaves
 | .dead=> []
def SA.leaves(s:SA):bk7:=s.1.flatMap aF.leaves++s.2.flatMap dR.leaves
def AS.leaves(s:AS):bk7:=s.cR.flatMap aF.leaves++(s.cO.flatMap dR.leaves++s.news.flatMap (·.flatMap dR.leaves))
def Pp(j:List Lf){A:Lf.aT9 j->SA}(h:∀d,SA.leaves (A d)=Lf.mk j d)(d u:Lf.aT9 j)(e:A d=A u):d=u:=Lf.mk_inj j d u (by grind)
def fy(j:List Lf){A:Lf.aT9 j->AS}(h:∀d,AS.leaves (A d)=Lf.mk j d)(d u:Lf.aT9 j)(e:A d=A u):d=u:=Lf.mk_inj j d u (by grind)
def Entry.eg{D X Y:Type}(params:List (Option Ty))(A:D->SA)(u:D->Prop)(j:D->Y->X)(F:D->Y)(out:X->hZ):Entry:=Entry.of params A u (λd=>j d (F d)) out
def bqN{X Y:Type}(x:X⊕Y):Out (X⊕Y):= .br x.isLeft (.get x.getLeft? λa=> .ok (.inl a)) (.get x.getRight? λb=> .ok (.inr b))
def bkd{X Y:Type}(x y:X⊕Y)(h:(bqN x).eval=aw y):y=x:=by cases x <;> exact(cj h).symm
def Entry.Ug{D X u Y:Type}(params:List (Option Ty))(B:D->SA)(A:D->Prop)(j:D->Y->X⊕u)(F:D->Y)(out:X⊕u->hZ):Entry:= {Entry.eg params B A j F out with sp:=bqN,aOB:=bkd}
def Ob.aOE{P:bg}{y:Nat}{D X u Y:Type}{params:List (Option Ty)}{B:D->SA}{A:D->Prop}{j:D->Y->X⊕u}{F:D->Y}{out:X⊕u->hZ}(h:Ob P y (Entry.eg params B A j F out)):Ob P y (Entry.Ug params B A j F out):=h
def tD.aOE{P:bg}{f:fX}{D X u Y:Type}{params:List (Option Ty)}{B:D->SA}{A:D->Prop}{j:D->Y->X⊕u}{F:D->Y}{out:X⊕u->hZ}(h:tD P f (Entry.eg params B A j F out)):tD P f (Entry.Ug params B A j F out):=h
def Entry.ai7{D X Y:Type}(params:List (Option Ty))(B:D->SA)(A:D->Prop)(u:D->Y->X)(j:D->Y->Prop)(out:X->hZ):Entry:= {params,X,run:=λ_ _=>aC,out:=λ_ _ x=>out x,rel:=bn,set:=λargs cO x=>∃d,B d=(args,cO)/\A d/\∃y,j d y/\x=u d y}
def bgI{D:Type}(E:Entry)(j:D->SA):D->E.X->Prop:=λd=>E.set (j d).1 (j d).2
def bbn{D X Y:Type}{params:List (Option Ty)}{A:D->SA}{I:D->Prop}{u:D->Y->X}{j:D->Y->Prop}{out:X->hZ}(J:∀d B,A d=A B->d=B):aO3 (bgI (Entry.ai7 params A I u j out) A) I u j:=λh K O=>by
 obtain⟨y,M⟩:=K;refine aM8 ⟨_,_,rfl,h,y,M,rfl⟩ λx L=> ?_
 obtain⟨B,T,_,y',h4,rfl⟩:=L;grind
abbrev aMv{D X Y:Type}(A: {R:Type}->D->(hZ->Option R)->Option R)(B:D->Prop)(u:D->Y->X)(j:D->Y->Prop)(out:X->hZ):Prop:=∀d,B d->∀k:hZ->Option Unit,(∀y,j d y->k (out (u d y))=aw ())->A d k=aw ()
def cQ.eg{D X Y:Type}(A:D->AS)(u:D->Prop)(j:D->Y->X)(F:D->Y)(out:X->Out (Exit×AS)):cQ:=cQ.of A u (λd=>j d (F d)) out
def Du{D:Type}(E:Entry)(j:D->SA):D->Option E.X:=λd=>E.run (j d).1 (j d).2
def eN{D:Type}(E:cQ)(j:D->AS):D->Option E.X:=λd=>E.run (j d)
abbrev fC{D X Y:Type}(j:D->Option X)(A:D->Prop)(u:D->Y->X)(F:D->Y):Prop:=∀ {d:D},A d->j d=aw (u d (F d))
def bmC{D X Y:Type}{params:List (Option Ty)}{u:D->SA}{I:D->Prop}{j:D->Y->X}{F:D->Y}{out:X->hZ}(A:∀d B,u d=u B->d=B):fC (Du (Entry.eg params u I j F out) u) I j F:=λh=>Entry.AI A h
def LN{D X B Y:Type}{params:List (Option Ty)}{u:D->SA}{J:D->Prop}{j:D->Y->X⊕B}{F:D->Y}{out:X⊕B->hZ}(A:∀d I,u d=u I->d=I){d:D}(h:J d):(Entry.Ug params u J j F out).run (u d).1 (u d).2=aw (j d (F d)):=bmC (params:=params) (out:=out) A h
def ia{D X Y:Type}{u:D->AS}{I:D->Prop}{j:D->Y->X}{F:D->Y}{out:X->Out (Exit×AS)}(A:∀d B,u d=u B->d=B):fC (eN (cQ.eg u I j F out) u) I j F:=λh=>cQ.AI A h
def aQu(P:bg)(fn:Func):Bool:=P.follows .mixedOrders && fn.body.isSome && !(fn.name== "runtime.NumGoroutine")
def aQA(fn:Func):Nat:=match fn.body with | some c=>aa (kQ c) | none=>0
def tD.fn{P:bg}{l:List (SG P)}{f:fX}{fn:Func}{an:yu}{N:Nat}{D X Y:Type}{params:List (Option Ty)}{I:D->SA}{B:D->Prop}{u:D->Y->X}{F:D->Y}{out:X->hZ}(n:Nat)
  (M:(P.funcs[f]?,aQu P fn,aQA fn)=(aw fn,bn,n))
  (h:WS (@FI P (gU l) an N fn D I) B u F out)
  (L:aU6 P (gU l) an N fn n 0) (A:an.lS=aC:=by exact rfl):tD P f (Entry.eg params I B u F out):=by
 injection M with J j
 injection j with j K
 unfold aQu at j;simp only[aQ,fu]at j;exact tD.of j.1.1 (Sound.gU l) J j.1.2 j.2 (kA.fn n K L) h A
def Zd.fn{P:bg}{l:List (SG P)}{f:fX}{fn:Func}{an:yu}{N:Nat}{D X Y:Type}{params:List (Option Ty)}{I:D->SA}{B:D->Prop}{u:D->Y->X}{j:D->Y->Prop}{out:X->hZ}(n:Nat)
  (hc:(P.funcs[f]?,aQu P fn,aQA fn)=(aw fn,bn,n))
  (h:aMv (@FI P (gU l) an N fn D I) B u j out)
  (T:aU6 P (gU l) an N fn n 0) (J:an.lS=aC:=by exact rfl):Zd P f (Entry.ai7 params I B u j out):=by
 injection hc with M A
 injection A with A O
 unfold aQu at A;simp only[aQ,fu]at A;refine Zd.AI A.1.1 (Sound.gU l) M A.1.2 A.2 (kA.fn n O T) (λargs cO hx=> ?_) J;obtain⟨x,d,e,K,y,L,rfl⟩:=hx;have:=h d K (λG=>bhW (∃x,(Entry.ai7 params I B u j out).set args cO x/\G=(Entry.ai7 params I B u j out).out args cO x)) λy L=>aZh ⟨_,⟨d,e,K,y,L,rfl⟩,rfl⟩
 grind [FI]
def Ob.fn{P:bg}{l:List (SG P)}{y:Nat}{an:yu}{N:Nat}{D X Y:Type}{params:List (Option Ty)}{B:D->SA}{A:D->Prop}{j:D->Y->X}{F:D->Y}{out:X->hZ}(n:Nat)
  (O:(P.follows .mixedOrders,aQA (bhp P y))=(bn,n))
  (h:WS (@FI P (gU l) an N (bhp P y) D B) A j F out)
  (M:aU6 P (gU l) an N (bhp P y) n 0) (u:an.lS=aw y):Ob P y (Entry.eg params B A j F out):=by
 injection O with K L
 refine Ob.AI K (Sound.gU l) (fn:=bhp P y) (kA.fn (fn:=bhp P y) n L M _ rfl) (λargs cO x T=> ?_) u;obtain⟨d,I,J,rfl⟩:=aNJ T;have:=h d J;unfold FI at this;rw[I]at this;exact this
def aMw.eg{P:bg}{Γ:qN}{an:yu}{N:Nat}{fn:Func}{i:Nat}{D X Y:Type}{B:D->AS}{A:D->Prop}{j:D->Y->X}{F:D->Y}{out:X->Out (Exit×AS)}
  (h:gr P Γ an N fn i B A j F out) (u:an.eT (ez (sF fn i))=aw (cQ.eg B A j F out):=by kernel_rfl):aMw P Γ an N (sF fn i):=aMw.of u h
abbrev K1(R:Type):=hZ->Option R
abbrev K2(R:Type):=AS->Option R
abbrev K3(R:Type):=Exit->AS->Option R
@[reducible] def bt{D Y:Type}(_:D)(y:Y):Y:=y
structure Ls{D Y X:Type}(gg:D->Prop)(add:D->Y->X)(F:D->Y) where
 st:D->AS
 ex:X->Exit×AS
noncomputable def rI{D Y X:Type}{A:D->Prop}{j:D->Y->X}{F:D->Y}(B:D->AS)(u:X->Exit×AS):Ls A j F:=⟨B,u⟩
section
variable {D Y X:Type} {gg:D->Prop} {add:D->Y->X} {F:D->Y} (L:Ls gg add F)
def Ls.out:X->Out (Exit×AS):=λx=> .ok (L.ex x)
def Ls.E:cQ:=cQ.eg L.st gg add F L.out
def Ls.call:D->Option X:=eN L.E L.st
abbrev Ls.go{R:Type}(j:K3 R)(x:X):Option R:=j (L.ex x).1 (L.ex x).2
abbrev Ls.RS:Prop:=fC L.call gg add F
end
def rL(u:List Lf){Y X:Type}{A:Lf.aT9 u->Prop}{j:Lf.aT9 u->Y->X}{F:Lf.aT9 u->Y}(L:Ls A j F)(h:∀d,AS.leaves (L.st d)=Lf.mk u d:=by exact λ_=>bS):fC L.call A j F:=ia (fy u h)
structure Fs(P:bg){D Y X:Type}(gg:D->Prop)(add:D->Y->X)(F:D->Y) where
 i:fX
 fn:Func
 st:D->SA
 out:X->hZ
 ps:List (Option Ty)
 G:List (SG P)
 an:yu
 N:Nat
noncomputable def eP{P:bg}{D Y X:Type}{u:D->Prop}{j:D->Y->X}{F:D->Y}(i:fX)(fn:Func)(B:D->SA)(out:X->hZ)(A:List (Option Ty))(G:List (SG P):=[])(an:yu:= {})(N:Nat:=0):Fs P u j F:=⟨i,fn,B,out,A,G,an,N⟩
section
variable {P:bg} {D Y X:Type} {gg:D->Prop} {add:D->Y->X} {F:D->Y} (f:Fs P gg add F) {D' Y' X':Type} {Pre':D'->Prop} {add':D'->Y'->X'} {F':D'->Y'}
def Fs.A{R:Type}(d:D)(k:K1 R):Option R:=FI P (gU f.G) f.an f.N f.fn f.st d k
def Fs.R(i:Nat)(L:Ls Pre' add' F'){R:Type}(d:D')(j:K2 R)(u:K3 R):Option R:=dm P (gU f.G) f.an f.N f.fn i L.st d j u
abbrev Fs.Ok:Prop:=∀d,gg d->f.A d aw=aw (f.out (add d (F d)))
abbrev Fs.kA(i:Nat)(L:Ls Pre' add' F'):Prop:=gr P (gU f.G) f.an f.N f.fn i L.st Pre' add' F' L.out
def Fs.E:Entry:=Entry.eg f.ps f.st gg add F f.out
def Fs.call:D->Option X:=Du f.E f.st
def Fs.lS(i:Nat)(L:Ls Pre' add' F'):aiV (@Fs.R P D Y X gg add F f D' Y' X' Pre' add' F' i L) L.st Pre' add' F' L.ex (f.kA i L):=λ μ h=>aDu (F:=λd=>add' d (F' d)) μ h
def Fs.bpu(i:Nat)(L:Ls Pre' add' F'):bk5 (@Fs.R P D Y X gg add F f D' Y' X' Pre' add' F' i L) L.st Pre' add' F' L.ex (f.kA i L):=bnZ
abbrev Fs.RS:Prop:=fC f.call gg add F
def Fs.bnI(p:List aF->Bool)(ok:f.Ok)(n:Nat:=0)(j:aU6 P (gU f.G) f.an f.N f.fn n 0:=by exact trivial)(u:(P.funcs[f.i]?,aQu P f.fn,aQA f.fn)=(aw f.fn,bn,n):=by kernel_rfl)(B:Nat.blt f.i yB=bn:=by exact rfl)(A:f.an.lS=aC:=by exact rfl):SG P:=⟨f.i,p,f.E,.of (tD.fn n u ok j A) B⟩
def Fs.bsb(ok:f.Ok)(n:Nat:=0)(u:aU6 P (gU f.G) f.an f.N f.fn n 0:=by exact trivial)(A:(P.follows .mixedOrders,aQA (bhp P f.i))=(bn,n):=by kernel_rfl)(j:f.fn=bhp P f.i:=by exact rfl)(I:Nat.ble yB f.i=bn:=by exact rfl)(B:f.an.lS=aw f.i:=by exact rfl):SG P:=
 ⟨f.i,jh,f.E,.bqG (Ob.fn n A (by have:=ok;unfold Fs.Ok Fs.A at this;rw[j]at this;exact this) (by rw[<-j];exact u) B) I⟩
def Fs.eQ(ok:f.Ok)(n:Nat:=0)(j:aU6 P (gU f.G) f.an f.N f.fn n 0:=by exact trivial)(u:(P.funcs[f.i]?,aQu P f.fn,aQA f.fn)=(aw f.fn,bn,n):=by kernel_rfl)(B:Nat.blt f.i yB=bn:=by exact rfl)(A:f.an.lS=aC:=by exact rfl):SG P:=f.bnI jh ok n j u B A
end
def rE(u:List Lf){P:bg}{Y X:Type}{A:Lf.aT9 u->Prop}{j:Lf.aT9 u->Y->X}{F:Lf.aT9 u->Y}(f:Fs P A j F)(h:∀d,SA.leaves (f.st d)=Lf.mk u d:=by exact λ_=>bS):fC f.call A j F:=bmC (Pp u h)
abbrev tu:Ty:=(.int .u64)
abbrev ti:Ty:=(.int .i64)
abbrev tb:Ty:=(.int .u8)
abbrev tB:Ty:=(.slice tb)
abbrev Bs:=(List Int)
abbrev tH:Ty:=(.arr 32 tb)
abbrev tU:Ty:=(.slice tu)
abbrev bK:Ty:=(.pair tH (.pair ti .unit))
abbrev bO:=(Bs×(Int×Unit))
abbrev yk:Ty:=(.pair tu (.pair tu .unit))
abbrev Sg:=(Int×(Int×Unit))
abbrev adr:Ty:=(.pair ti (.pair (.slice yk) (.pair tu .unit)))
abbrev Ua:=(Int×((List Sg)×(Int×Unit)))
abbrev fK:Ty:=(.pair bK (.pair adr .unit))
abbrev gb:=(bO×(Ua×Unit))
abbrev iq:Ty:=(.pair tU (.pair ti (.pair ti (.pair tu .unit))))
abbrev kF:=(Bs×(Int×(Int×(Int×Unit))))
abbrev O2:Ty:=(.pair (.slice iq) .unit)
abbrev Lk:=((List kF)×Unit)
abbrev dI:Ty:=(.pair ti (.pair O2 .unit))
abbrev dW:=(Int×(Lk×Unit))
abbrev eU:Ty:=(.pair (.slice fK) (.pair (.slice dI) (.pair ti .unit)))
abbrev di:=((List gb)×((List dW)×(Int×Unit)))
abbrev Fa:Ty:=(.pair tB (.pair .bool .unit))
abbrev iM:=(Bs×(Bool×Unit))
abbrev bsg:Ty:=(.pair ti (.pair (.jj yk) (.pair tu .unit)))
abbrev bnT:=(Int×((Option (List Sg))×(Int×Unit)))
abbrev vF:Ty:=(.pair bK (.pair bsg .unit))
abbrev Kt:=(bO×(bnT×Unit))
end Go.Ab
namespace Go.Ab
theorem yX{n:Int}(j: -9223372036854775808<=n)(u:n<=9223372036854775807):IntKind.i64.wrap n=n:=by grind [IntKind.wrap,IntKind.bits,IntKind.signed]
theorem eS{x y:Int}(j: -9223372036854775808<=x+y)(u:x+y<=9223372036854775807):bC .i64 x y=x+y:=yX j u
theorem eO{x y:Int}(j: -9223372036854775808<=x - y)(u:x - y<=9223372036854775807):cY .i64 x y=x - y:=yX j u
theorem Ct{x y:Int}(j: -9223372036854775808<=x*y)(u:x*y<=9223372036854775807):fO .i64 x y=x*y:=yX j u
def be5{x:Int}(j: -9223372036854775808<=x)(u:x<=9223372036854775807):eD .i64 x=x:=yX j u
def vw{n:Nat}(w:BitVec n):Int:=(w.toNat:Int)
theorem jG(n:Nat)(x:Int):vw (bF n x)=x%((2^n:Nat):Int):=by unfold vw;rw[wy];omega
def af4{n:Nat}(w:BitVec n):0<=vw w:=lV _
def bcr{n:Nat}(w:BitVec n):vw w < ((2^n:Nat):Int):=by have:=w.isLt;grind [vw]
def aaT{n:Nat}(w:BitVec n):bF n (vw w)=w:=by simp[vw]
theorem wrap_u32(x:Int):IntKind.u32.wrap x=vw (bF 32 x):=by grind [jG,IntKind.wrap,IntKind.bits,IntKind.signed]
theorem wrap_u64(x:Int):IntKind.u64.wrap x=vw (bF 64 x):=by grind [jG,IntKind.wrap,IntKind.bits,IntKind.signed]
def wrap_u8(x:Int):IntKind.u8.wrap x=vw (bF 8 x):=by grind [jG,IntKind.wrap,IntKind.bits,IntKind.signed]
def KN(x y:BitVec 32):bC .u32 (vw x) (vw y)=vw (x+y):=by simp[bC,wrap_u32,BitVec.ofInt_add,vw]
def aNk(x:Int):eD .u32 x=vw (bF 32 x):=wrap_u32 x
def ajT(x:Int):eD .u64 x=vw (bF 64 x):=wrap_u64 x
def aeh(x:Int):eD .u8 x=vw (bF 8 x):=wrap_u8 x
def tQ(j:BinOp)(x y:BitVec 32):cE j .u32 (vw x) (vw y)=vw (match j with | .and=>x &&& y | .or=>x ||| y | .xor=>x^^^y | _=>x &&& ~~~y):=by grind [cE,IntKind.bits,wrap_u32,vw]
def aPj(j:BinOp)(x y:BitVec 64):cE j .u64 (vw x) (vw y)=vw (match j with | .and=>x &&& y | .or=>x ||| y | .xor=>x^^^y | _=>x &&& ~~~y):=by grind [cE,IntKind.bits,wrap_u64,vw]
def aXu(x y:Nat):Int.fdiv (x:Int) (y:Int)=((x / y:Nat):Int):=by grind
def ac0(k:Nat):(2:Int)^k=((2^k:Nat):Int):=by simp
def bj8{n:Nat}(w:BitVec n)(k:Nat):Int.fdiv (vw w) (2^(min k n))=vw (w >>> k):=by
 rw[ac0];unfold vw;rw[aXu,BitVec.toNat_ushiftRight,Nat.shiftRight_eq_div_pow];rcases Nat.le_total k n with hk | hk
 .grind
 .rw[Nat.min_eq_right hk,Nat.div_eq_of_lt w.isLt,Nat.div_eq_of_lt];exact Nat.lt_of_lt_of_le w.isLt (Nat.pow_le_pow_right aq hk)
def Qj(w:BitVec 32)(k:Int):cI .u32 (vw w) k=vw (w >>> k.toNat):=bj8 w k.toNat
def bj7{n:Nat}(w:BitVec n)(k:Nat):bF n (vw w*2^(min k n))=w <<< k:=by
 apply BitVec.eq_of_toNat_eq;rw[wy,BitVec.toNat_shiftLeft,Nat.shiftLeft_eq];unfold vw;rw[ac0];have e:((w.toNat:Int)*((2^min k n:Nat):Int))=((w.toNat*2^min k n:Nat):Int):=by simp
 rw[e];have:(((w.toNat*2^min k n:Nat):Int)%((2^n:Nat):Int)).toNat=(w.toNat*2^min k n)%2^n:=aq;rw[this];rcases Nat.le_total k n with hk | hk
 .rw[qS hk]
 .rw[Nat.min_eq_right hk,Nat.mul_mod_left];obtain⟨m,rfl⟩:=Nat.exists_eq_add_of_le hk;rw[rX,<-Nat.mul_assoc,Nat.mul_right_comm,Nat.mul_mod_left]
def aaz(w:BitVec 32)(k:Int):oO .u32 (vw w) k=vw (w <<< k.toNat):=by rw[oO,wrap_u32];congr 1;exact bj7 w k.toNat
theorem aS{i n:Int}(j:0<=i)(u:i < n):dB i n=bn:=by simp[dB,j,u]
def l9{i n:Int}(j:0<=i)(u:i<=n):inc i n=bn:=by grind [inc]
theorem aN{x y:Int}(h:x < y):fj x y=bn:=by simp[fj,h]
theorem aL{x y:Int}(h:¬x < y):fj x y=aZ:=by simp[fj];omega
def np{x y:Int}(h:x<=y):arD x y=bn:=by simp[arD,h]
def jK{x y:Int}(h:¬x<=y):arD x y=aZ:=by grind [arD]
theorem cW{x y:Int}(h:x > y):qi x y=bn:=by simp[qi];omega
theorem ct{x y:Int}(h:¬x > y):qi x y=aZ:=by simp[qi];omega
def fE{x y:Int}(h:x>=y):DA x y=bn:=by grind [DA]
def ed{x y:Int}(h:¬x>=y):DA x y=aZ:=by grind [DA]
def dC{x y:Int}(h:x=y):oC x y=bn:=by simp[oC,h]
def eZ{x y:Int}(h:¬x=y):oC x y=aZ:=by simp[oC,h]
def dj{x y:Int}(h:¬x=y):pb x y=bn:=by simp[pb,h]
def bU{x y:Int}(h:x=y):pb x y=aZ:=by simp[pb,h]
def xI{x:Int}(h:0<=x):oQ x=bn:=by simp[oQ,h]
def aK{p:Prop} [Decidable p] (h:p):decide p=bn:=by simp[h]
def aV{p:Prop} [Decidable p] (h:¬p):decide p=aZ:=by simp[h]
theorem cg{n b:Nat}(h:n*b<=140737488355328)(j:n<=9223372036854775807):cM n b=bn:=by simp[cM,h,j]
def from_{α:Type}(f:Nat->α->α)(t:Nat)(l:List α):List α:=l.mapIdx λi x=>if i < t then x else f i x
def TC{α:Type}(f:Nat->α->α)(l:List α)(t:Nat)(h:t < aa l):from_ f (t+1) (l.set t (f t l[t]))=from_ f t l:=by unfold from_;apply List.ext_getElem (by simp);grind
def aaj{α:Type}(f:Nat->α->α)(l:List α)(t:Nat)(h:aa l<=t):from_ f t l=l:=by unfold from_;apply List.ext_getElem (by simp);grind
def alZ{α:Type}(f:Nat->α->α)(n:Nat)(x:α):from_ f 0 (ag n x)=(List.range n).map λi=>f i x:=by unfold from_;apply List.ext_getElem (by simp);grind
def bG{t:Ty}{l:List t.den}{i:Nat}(h:i < aa l):nth t l i=l[i]:=by simp[nth,h]
end Go.Ab
namespace Go.Ab.N
section
variable {α:Type} {x y:Option α} {a b n:Nat} {i j:Int}
def lt:aA (fj i j) x y=if i < j then x else y:=by grind [fj,aA]
def le:aA (arD i j) x y=if i<=j then x else y:=by grind [arD,aA]
def gt:aA (qi i j) x y=if j < i then x else y:=by unfold qi;split <;> rename_i h <;> simp[h]
def ge:aA (DA i j) x y=if j<=i then x else y:=by grind [DA,aA]
def eq:aA (oC i j) x y=if i=j then x else y:=by grind [aA,oC]
def ne:aA (pb i j) x y=if i=j then y else x:=by grind [aA,pb]
def ib:aA (dB i j) x y=if 0<=i/\i < j then x else y:=by unfold dB;split <;> rename_i h <;> simp[h]
def ic:aA (inc i j) x y=if 0<=i/\i<=j then x else y:=by grind [inc,aA]
def nn:aA (oQ i) x y=if 0<=i then x else y:=by grind [oQ,aA]
def nz:aA (vO i) x y=if i=0 then y else x:=by unfold vO;split <;> rename_i h <;> simp[h]
def dc{p:Prop} [Decidable p]:aA (decide p) x y=if p then x else y:=by grind [aA]
def rm:aA (cM n b) x y=if n*b<=140737488355328/\n<=9223372036854775807 then x else y:=by grind [cM,aA]
def an{c d:Bool}:aA (c && d) x y=aA c (aA d x y) y:=by cases c <;> rfl
def or{c d:Bool}:aA (c || d) x y=aA c x (aA d x y):=by cases c <;> rfl
def no{c:Bool}:aA (!c) x y=aA c y x:=by cases c <;> rfl
def bm6(h:a+b<=9223372036854775807):bC .i64 (a:Int) (b:Int)=((a+b:Nat):Int):=by rw[eS aq aq];omega
def iY(h:a+dN n<=9223372036854775807):bC .i64 (a:Int) (no_index (dN n))=((a+dN n:Nat):Int):=bm6 h
def bpW(h:dN n+a<=9223372036854775807):bC .i64 (no_index (dN n)) (a:Int)=((dN n+a:Nat):Int):=bm6 h
def bnH(h:b<=a)(j:a<=9223372036854775807):cY .i64 (a:Int) (b:Int)=((a - b:Nat):Int):=by grind [eO]
def bqM(h:dN n<=a)(j:a<=9223372036854775807):cY .i64 (a:Int) (no_index (dN n))=((a - dN n:Nat):Int):=bnH h j
def bqL(h:a<=dN n)(j:(dN n:Nat)<=9223372036854775807):cY .i64 (no_index (dN n)) (a:Int)=((dN n - a:Nat):Int):=bnH h j
def bnC(h:a*b<=9223372036854775807):fO .i64 (a:Int) (b:Int)=((a*b:Nat):Int):=by grind [Ct]
def bqC(h:a*dN n<=9223372036854775807):fO .i64 (a:Int) (no_index (dN n))=((a*dN n:Nat):Int):=bnC h
def bmr(h:dN n*a<=9223372036854775807):fO .i64 (no_index (dN n)) (a:Int)=((dN n*a:Nat):Int):=bnC h
def bpm(h:a<=9223372036854775807):yp .i64 (a:Int) (b:Int)=((a / b:Nat):Int):=by have j:=Nat.div_le_self a b;grind [yp,yX]
def bpl(h:a<=9223372036854775807):yp .i64 (a:Int) (no_index (dN n))=((a / dN n:Nat):Int):=bpm h
def bpn:kJ (a:Int) (b:Int)=((a%b:Nat):Int):=by unfold kJ;rw[jd aq];simp
def bnF:kJ (a:Int) (no_index (dN n))=((a%dN n:Nat):Int):=bpn
def cN(h:a<=9223372036854775807):eD .i64 (a:Int)=(a:Int):=be5 aq aq
def cL(h:(dN n:Nat)<=9223372036854775807):eD .i64 (no_index (dN n))=dN n:=cN h
def tL:ae (no_index (dN n))=dN n:=rfl
end
end Go.Ab.N
namespace Go.Ab
section
variable {P:bg}
def aXr{E E':Env}(B:E'.w=E.w)(I:E'.g=E.g)(J:E'.β=E.β)(K:E'.s=E.s):E'=E:=by obtain⟨a,b,c,d⟩:=E;obtain⟨j,u,c',A⟩:=E';grind
def Ao.same{w:cG}{g:Nat->pP}{β:Id->Option Pl}{cO:List dR}{a:aF}{v:bh}(B:VS ((gz cO).env w g β) a v)(A:jH ((gz cO).env w g β)):
  Ao ((gz cO).env w g β) ⟨a,cO,[]⟩ v w:=by
 have u:(hZ.st ⟨a,cO,[]⟩).env w g β=(gz cO).env w g β:=by
  refine aXr rfl rfl rfl ?_
  funext id;cases id with
  |dx k=>rfl
  |new i j=>
   show([([]:List dR)].getD i [])[j]? =(([]:List (List dR)).getD i [])[j]?
   grind
 refine⟨g,β,?_⟩;rw[u];exact⟨B,A,Trans.refl w g,df.refl _⟩
def tD.extern{f:fX}{fn:Func}{e:Array bh->Sem bh}(T:P.funcs[f]? =aw fn)(A:(fn.name== "runtime.NumGoroutine")=aZ)(M:fn.body.isNone=bn)(hn:Extern.findNext fn=aC)(O:Extern.find fn=aw e){u:Entry}
  (h:∀w g β args cO j x,CW ((gz cO).env w g β) args j->jH ((gz cO).env w g β)->u.run args cO=aw x->∃v,(e j.toArray).run P w= .ok v w/\Ao ((gz cO).env w g β) (u.out args cO x) v w):tD P f u:=by
 intro w g β args cO j x B I J;obtain⟨v,K,L⟩:=h w g β args cO j x B I J;refine .inr ⟨v,w,?_,L⟩;rw[run_callFunc_extern T A M hn O,K];rfl
def avX{w:cG}:∀(u:List Int) (a:Addr) (acc:ByteArray),(∀j x,u[j]? =aw x->w.cell? (a.add j)=aw (.int .u8 x))->
  (Extern.Bytes.loadBytes a (aa u) acc).run P w= .ok ⟨acc.data++(u.map λn=>UInt8.ofNat n.toNat).toArray⟩ w
 |[],a,acc,_=>by simp[Extern.Bytes.loadBytes]
 |x::l,a,acc,h=>by
  have A:w.cell? a=aw (.int .u8 x):=by have:=h 0 x rfl;grind [Addr.add]
  have I:=avX l (a.add 1) (acc.push x.toNat.toUInt8) (λj y B=>by
   have:=h (j+1) y (by grind);have e:(a.add 1).add j=a.add (j+1):=by grind [Addr.add]
   rw[e];omega)
  simp_all [Extern.Bytes.loadBytes]
def apN{E:Env}{l:List Int}{y:bh}(h:VS E (.d (.slice (.int .u8)) l) y):(Extern.Bytes.bytesOf y).run P E.w= .ok (kE l) E.w:=by
 obtain⟨a,cap,vs,rfl,_,O,L,u⟩:=zT h;have A:=agx (k:= .u8) (vs:=vs) (l:=l) u;cases a with
 |none=>
  have K:l=[]:=by simp_all
  subst K;rfl
 |some B=>
  have I:=avX (P:=P) (w:=E.w) l B .empty λj x T=>by obtain⟨b,off,e,J⟩:=L j (.int .u8 x) (by grind);have M:=J.1;grind [Addr.add]
  simp_all [kE,Extern.Bytes.bytesOf]
def arq(a b:List Int):Int:=Extern.BytealgCompare.cmp (kE a) (kE b)
def aMD:Entry:=Entry.of (D:=List Int×List Int) (X:=Int) [aw (.slice (.int .u8)),aw (.slice (.int .u8))] (λd=>([.d (.slice (.int .u8)) d.1,.d (.slice (.int .u8)) d.2],[])) (λ_=>True) (λd=>arq d.1 d.2) (λx=>⟨.d (.int .i64) x,[],[]⟩)
def bdq:∀d j:List Int×List Int,(([aF.d (.slice (.int .u8)) d.1,aF.d (.slice (.int .u8)) d.2],([]:List dR)):List aF×List dR)=([.d (.slice (.int .u8)) j.1,.d (.slice (.int .u8)) j.2],[])->d=j:=by rintro⟨a,b⟩ ⟨u,A⟩ h;have B:a=u:=bhu (t:= .slice (.int .u8)) (bA (λs:List aF×List dR=>s.1.getD 0 .undef) h);have I:b=A:=bhu (t:= .slice (.int .u8)) (bA (λs:List aF×List dR=>s.1.getD 1 .undef) h);rw[B,I]
def aBe:List Int×List Int->Option Int:=λd=>aMD.run [.d (.slice (.int .u8)) d.1,.d (.slice (.int .u8)) d.2] []
def aME(d:List Int×List Int):aBe d=aw (arq d.1 d.2):=Entry.AI (d:=d) bdq trivial
def bio{f:fX}{fn:Func}(hf:P.funcs[f]? =aw fn)(O:(fn.name== "runtime.NumGoroutine")=aZ)(hb:fn.body.isNone=bn)(J:Extern.findNext fn=aC)(he:Extern.find fn=aw Extern.BytealgCompare.compare):tD P f aMD:=by
 refine tD.extern hf O hb J he λw g β args cO kK x T h2 I=> ?_
 have K:∃d:List Int×List Int,(([aF.d (.slice (.int .u8)) d.1,aF.d (.slice (.int .u8)) d.2],([]:List dR)):List aF×List dR)=(args,cO):=by
  by_cases M:∃d:List Int×List Int,(([aF.d (.slice (.int .u8)) d.1,aF.d (.slice (.int .u8)) d.2],([]:List dR)):List aF×List dR)=(args,cO)
  .exact M
  .exfalso;have J:aMD.run args cO=aC:=dif_neg λ⟨d,h,_⟩=>M ⟨d,h⟩
   rw[J]at I;cases I
 obtain⟨d,L⟩:=K;simp only[kX]at L;obtain⟨rfl,rfl⟩:=L;have hr:=aME d;have K:x=arq d.1 d.2:=cj (I.symm.trans hr);subst K
 match kK,T with
 |[u,v],⟨h4,h5,_⟩=>
  refine⟨.int .i64 (arq d.1 d.2),?_,Ao.same (pV _ _) h2⟩;have A:=apN (P:=P) h4;have B:=apN (P:=P) h5;have A:(Extern.Bytes.bytesOf u).run P w= .ok (kE d.1) w:=A;have B:(Extern.Bytes.bytesOf v).run P w= .ok (kE d.2) w:=B;have j:Extern.BytealgCompare.compare [u,v].toArray=(do let a <-Extern.Bytes.bytesOf u;let b <-Extern.Bytes.bytesOf v;pure (goInt (Extern.BytealgCompare.cmp a b))):=rfl;rw[j];simp[A,B,goInt,arq]
def bnW{X Y:Type} [Inhabited Y] (x:Option X):Option (X×Y):=ao x λy=>aw (y,default)
def bnX{X Y:Type} [Inhabited X] (x:Option Y):Option (X×Y):=ao x λy=>aw (default,y)
@[simp] theorem bkA{X Y:Type} [Inhabited Y] (x:X):bnW (Y:=Y) (aw x)=aw (x,default):=rfl
@[simp] theorem bkC{X Y:Type} [Inhabited X] (x:Y):bnX (X:=X) (aw x)=aw (default,x):=rfl
def Entry.half(params:List (Option Ty)){X Z:Type}(run:List aF->List dR->Option X)(out:List aF->List dR->X->hZ)(i:Z->X)(p:X->Option Z):Entry:= {params,X:=Z,run:=λa o=>(run a o).bind p,out:=λa o z=>out a o (i z)}
def kI{X Z:Type}(p:X->Option Z)(x:Option X):Option Z:=x.bind p
def rP{X Y:Type}(x:X):kI dv (aw (Sum.inl x:X⊕Y))=aw x:=rfl
def aNh{X Y:Type}(x:Y):kI Sum.getRight? (aw (Sum.inr x:X⊕Y))=aw x:=rfl
def tD.half{f:fX}{params:List (Option Ty)}{X Z:Type}{run:List aF->List dR->Option X}{out:List aF->List dR->X->hZ}{i:Z->X}{p:X->Option Z}(B:∀x z,p x=aw z->x=i z)
  (h:tD P f {params,X,run,out}):tD P f (Entry.half params run out i p):=by
 intro w g β args cO J z u A j;have j:(run args cO).bind p=aw z:=j;cases I:run args cO with
 |none=>grind
 |some x=>
  grind [tD,Entry.half]
def blA{X Y:Type}(x:X⊕Y)(z:X)(h:x.getLeft?=aw z):x= .inl z:=by cases x <;> cases h;rfl
def bhB{X Y:Type}(x:X⊕Y)(z:Y)(h:x.getRight?=aw z):x= .inr z:=by cases x <;> cases h;rfl
end
def S1:(type_of% @N.lt)/\(type_of% @N.le)/\(type_of% @N.gt)/\(type_of% @N.ge)/\(type_of% @N.eq)/\(type_of% @N.ne)/\(type_of% @N.ib)/\(type_of% @N.ic)/\(type_of% @N.nn)/\(type_of% @N.nz)/\(type_of% @N.dc)/\(type_of% @N.rm)/\(type_of% @N.an)/\(type_of% @N.or)/\(type_of% @N.no)/\(type_of% @ai)/\(type_of% @al)/\(type_of% @ah):=⟨@N.lt,@N.le,@N.gt,@N.ge,@N.eq,@N.ne,@N.ib,@N.ic,@N.nn,@N.nz,@N.dc,@N.rm,@N.an,@N.or,@N.no,@ai,@al,@ah⟩
def S2:(type_of% @ah)/\(type_of% @N.bm6)/\(type_of% @N.iY)/\(type_of% @N.bpW)/\(type_of% @N.bnH)/\(type_of% @N.bqM)/\(type_of% @N.bqL)/\(type_of% @N.bnC)/\(type_of% @N.bqC)/\(type_of% @N.bmr)/\(type_of% @N.bpm)/\(type_of% @N.bpl)/\(type_of% @N.bpn)/\(type_of% @N.bnF)/\(type_of% @N.cN)/\(type_of% @N.cL)/\(type_of% @N.tL)/\(type_of% @ab)/\(type_of% @fY)/\(type_of% @gC)/\(type_of% @lY):=⟨@ah,@N.bm6,@N.iY,@N.bpW,@N.bnH,@N.bqM,@N.bqL,@N.bnC,@N.bqC,@N.bmr,@N.bpm,@N.bpl,@N.bpn,@N.bnF,@N.cN,@N.cL,@N.tL,@ab,@fY,@gC,@lY⟩
end Go.Ab
namespace Go.Ab
open Go.ChangeShapes Go.WideShapes Go.ChangeAt Go.RowKit Go.Deep
def ard:(t:Ty)->t.den->Prop
 | .int k,x=>(Lit.int k x).wf=bn
 | .bool,_=>True
 | .str,s=>(s:ByteArray).size<=maxLen
 | .slice t,l=>aa (l:List t.den)<=maxLen/\∀x∈(l:List t.den),ard t x
 | .unit,_=>True
 | .pair a b,x=>ard a x.1/\ard b x.2
 | .arr n t,l=>aa (l:List t.den)=n/\∀x∈(l:List t.den),ard t x
 | .jj _,_=>False
def Gd(P:bg)(rd:bk->Ty->Bool):Nat->List Field->Ty->Bool
 |_,[],.unit=>bn
 |off,f::fs,.pair a b=>jR f.offset off && (rd f.type a && (jR (P.cellsOf f.type) a.size && Gd P rd (off+a.size) fs b))
 |_,_,_=>aZ
def J6(P:bg):Nat->bk->Ty->Bool
 | 0,_,_=>aZ
 |n+1,T,ty=>
  match P.underlying T,ty with
  |some (.int k),.int j=>decide (k=j)
  |some .bool,.bool=>bn
  |some .string,.str=>bn
  |some (.slice e),.slice t=>J6 P n e t && jR (P.cellsOf e) t.size
  |some (.array k e),.arr j t=>jR k j && (J6 P n e t && (jR (P.cellsOf e) t.size && jR (P.cellsOf T) (k*t.size)))
  |some (.struct fs),ty=>Gd P (J6 P n) 0 fs.toList ty && jR (P.cellsOf T) ty.size
  |_,_=>aZ
def bir{a b:Nat}:(jR a b=bn)=(a=b):=propext ⟨jB,λh=>by simp_all⟩
def aDw{α β:Type}{f:α->Option β}:∀ {l:List α} {r:List β},l.mapM f=aw r->aa r=aa l/\∀(i:Nat) (x:α),l[i]? =aw x->f x=r[i]?
 |[],r,h=>by grind
 |y::l,r,h=>by simp[Option.bind_eq_some_iff]at h;obtain⟨b,B,I,j,rfl⟩:=h;obtain⟨u,A⟩:=aDw j;grind
def aPP{w:cG}{j:Nat}{a:Addr}{n:Nat}{cs:List bh}(h:w.cells? j a n=aw cs):aa cs=n/\∀i,i < n->w.cell? (a.add i)=cs[i]? :=by
 unfold World.cells? at h;split at h
 .obtain⟨u,A⟩:=aDw h;exact⟨by simpa using u,λi B=>A i i (by simp[B])⟩
 .cases h
def add_add(a:Addr)(x y:Nat):(a.add x).add y=a.add (x+y):=by grind [Addr.add]
def aTD{w:cG}{a:Addr}{v:bh}(h:w.cell? a=aw v):a.spot=aC:=by
 unfold gh at h;split at h
 all_goals simp_all
def bj2{E:Env}(B:∀b,E.g b= .free){a:Addr}{vs:List bh}(h:∀i,i < aa vs->E.w.cell? (a.add i)=vs[i]?):Oc E (aw a) vs:=by
 intro i v A;have I:=(mH.1 A).1;have j:=h 0 aq;rw[cS aq]at j;have u:=aTD (a:=a) (by simpa[Addr.add]using j);obtain⟨b,off,sp⟩:=a;subst u;refine⟨b,off,rfl,?_,?_⟩
 all_goals grind [Addr.add,EF]
section
variable {H:Type} {enc:bk×bh->H} {P:bg} {base:Nat} {spare:Nat->Bool} {held:Bool} {E:Env}
def aOu{t:Ty}{R:List bh->t.den->Prop}{G:t.den->Prop}{w:cG}{a:Addr}{z:Nat}(I:∀c x,R c x->aa c=z):∀(u:Nat),(∀i,i < u->∃c x,R c x/\G x/\∀j,j < z->w.cell? (a.add (i*z+j))=c[j]?)->
  ∃(vs:List bh) (l:List t.den),aa vs=u*z/\aa l=u/\(∀i,i < aa vs->w.cell? (a.add i)=vs[i]?)/\bR R vs l/\∀x∈l,G x
 | 0,_=>⟨[],[],by simp,rfl,λi h=>by simp at h,rfl,λ_ h=>by cases h⟩
 |u+1,h=>by
  obtain⟨vs,l,A,T,h3,h4,h5⟩:=aOu I u λi K=>h i aq
  obtain⟨c,x,B,M,O⟩:=h u aq;have J:=I c x B;refine⟨vs++c,l++ [x],by rw[aj,A,J,gT,rW],by rw[aj,T];rfl,λi K=> ?_,bR.append h4 ⟨c,[],by simp,B,rfl⟩,λy hy=> ?_⟩
  .rw[aj,A,J]at K;by_cases L:i < aa vs
   .rw[h3 i L,jx L]
   .rw[List.getElem?_append_right aq,A,<-O (i - u*z) aq,show u*z+(i - u*z)=i by omega]
  .rcases bZ.1 hy with hy | hy
   .exact h5 y hy
   .rw[bM.1 hy];exact M
def atL{t:Ty}{R:List bh->t.den->Prop}{G:t.den->Prop}{z:Nat}:∀(n:Nat) (cs:List bh),aa cs=n*z->(∀i,i < n->∃x,R ((cs.drop (i*z)).take z) x/\G x)->
  ∃l:List t.den,aa l=n/\bR R cs l/\∀x∈l,G x
 | 0,cs,h,_=>⟨[],rfl,bV (by grind),λ_ h=>by cases h⟩
 |n+1,cs,h,B=>by
  obtain⟨x,I,J⟩:=B 0 aq;obtain⟨l,u,A,K⟩:=atL (R:=R) (G:=G) (z:=z) n (cs.drop z) (by grind) λi j=>by grind [iH]
  refine⟨x::l,by simp[u],⟨cs.take z,cs.drop z,(ee z cs).symm,by grind,A⟩,λy L=> ?_⟩;grind
def aia{rd:bk->Ty->Bool}{cs:List bh}:∀(fs:List Field) (off:Nat) (ty:Ty),Gd P rd off fs ty=bn->off+ty.size<=aa cs->
  (∀f∈fs,∀t,rd f.type t=bn->P.cellsOf f.type=t.size->∃v,dU E t ((cs.drop f.offset).take (P.cellsOf f.type)) v/\ard t v)->∃v,dU E ty ((cs.drop off).take ty.size) v/\ard ty v
 |[],off,ty,h,A,_=>by
  cases ty <;> simp[Gd]at h <;> first | cases h | skip
  simp[dU,Ty.size,ard]
 |f::fs,off,ty,h,A,hf=>by
  cases ty <;> simp only[Gd]at h <;> first | cases h | skip
  rename_i a b;simp at h;obtain⟨O,B,I,J⟩:=h;have A:off+(a.size+b.size)<=aa cs:=A;obtain⟨v,k1,K⟩:=hf f (aY ..) a B I;obtain⟨u,L,M⟩:=aia fs (off+a.size) b J aq λf' j=>hf f' (aT _ j)
  refine⟨(v,u),⟨(cs.drop off).take a.size,(cs.drop (off+a.size)).take b.size,?_,?_,L⟩,K,M⟩
  all_goals simp_all [Ty.size,List.take_add]
def ab2(hg:∀b,E.g b= .free):∀(n:Nat) (T:bk) (ty:Ty),J6 P n T ty=bn->∀ {A:Nat} {cs:List bh} {x:DataW H×List MemPlace},DataW.trod enc P E.w base spare held A T cs=aw x->∃v,dU E ty cs v/\ard ty v
 | 0,_,_,h,_,_,_,_=>by simp[J6]at h
 |n+1,T,ty,h,A,cs,x,I=>by
  unfold J6 at h;split at h
  .rename_i k k' u;obtain rfl:=nw h;obtain⟨m,rfl,_,hw⟩:=DataW.trod_int u I;exact⟨m,rfl,hw⟩
  .rename_i u;obtain⟨b,rfl,_⟩:=DataW.trod_bool u I;exact⟨b,rfl,trivial⟩
  .rename_i u;obtain⟨s,rfl,_,hs⟩:=DataW.trod_string u I;exact⟨s,rfl,hs⟩
  .rename_i e t u;simp only[aQ,bir]at h;obtain⟨J,K⟩:=h;rcases open_slice u I with⟨rfl,_⟩ | ⟨a,O,cap,m,f,D,Pl,rfl,_,M,hm,boH,_,L⟩
   .exact⟨([]:List t.den),⟨aC,0,[],rfl,ax _,λh=>by simp at h,λi v hv=>by simp at hv,rfl⟩,az _,λ_ h=>by cases h⟩
   .have boC:O<=m:=by rw[boH];split <;> omega
    obtain⟨vs,l,k1,B,k3,k4,k5⟩:=aOu (t:=t) (R:=dU E t) (G:=ard t) (w:=E.w) (a:=a) (z:=t.size) (λc x h=>dU.size h) O λi hi=>by obtain⟨cs',g1,g2⟩:=L i aq;obtain⟨v,g3,g4⟩:=ab2 hg n e t J g2;obtain⟨g5,g6⟩:=aPP g1;refine⟨cs',v,g3,g4,λj hj=> ?_⟩;rw[<-g6 j aq,add_add,K]
    refine⟨l,⟨aw a,cap,vs,by rw[B],by rw[B];exact M,λ_=>rfl,bj2 hg k3,k4⟩,by rw[B];omega,k5⟩
  .rename_i k e k' t u;simp only[aQ,bir]at h;obtain⟨rfl,J,K,h3⟩:=h;obtain⟨xs,m,rfl,_,M,bo6,L⟩:=DataW.trod_array u I;obtain⟨l,k1,B,k3⟩:=atL (t:=t) (R:=dU E t) (G:=ard t) (z:=t.size) k cs (by rw[M,h3]) λi hi=>by have:=L i hi;rw[cS aq,K]at this;exact ab2 hg n e t J this
   exact⟨l,⟨k1,B⟩,k1,k3⟩
  .rename_i ty fs u;simp only[aQ,bir]at h;obtain⟨J,K⟩:=h;obtain⟨xs,m,rfl,_,M,bo6,L⟩:=DataW.trod_struct u I;obtain⟨v,k1,B⟩:=aia (E:=E) (cs:=cs) fs.toList 0 _ J (by rw[M,K];omega) λf hf t ht hc=>by
    obtain⟨i,hi,brg⟩:=List.mem_iff_getElem.1 hf;have hi':i < fs.size:=by simpa using hi
    have:=L i f (by rw[<-brg];simp[hi']);rw[cS aq]at this;exact ab2 hg n f.type t ht this
   refine⟨v,?_,B⟩;rwa[aH,bp aq]at k1
  .cases h
end
end Go.Ab
namespace Go.Ab
open Go.ChangeShapes Go.WideShapes Go.ChangeAt Go.RowKit Go.Deep
section
variable {H:Type} {enc:bk×bh->H} {P:bg} {base b0:Nat} {spare:Nat->Bool} {held:Bool} {E:Env} {W:cG}
def aIh{rd:bk->Ty->Bool}{fs:List Field}{off:Nat}{ty:Ty}(h:Gd P rd off fs ty=bn):ty.agg=bn:=by cases fs <;> cases ty <;> first | rfl | (simp[Gd]at h)
def baH(M:E.w=W)(L:∀b,E.g b= .free){n:Nat}{t:bk}{ty:Ty}(h:J6 P n t ty=bn){v:bh}{d:DataW H}{T:List MemPlace}(u:Value.okWide P W .any base t v)(J:DataW.Trod enc P W b0 spare held t v d T):
  ∃x:ty.den,VS E (.d ty x) v/\ard ty x:=by
 subst M;obtain⟨A,K⟩:=J;obtain⟨x,B,I⟩:=ab2 L n t ty h K;refine⟨x,⟨v.cells.toList,B,?_⟩,I⟩;cases n with
 |zero=>simp[J6]at h
 |succ n=>
  unfold J6 at h;split at h
  .rename_i k k' j;obtain⟨m,rfl⟩:=okWide_int j u;rfl
  .rename_i j;obtain⟨m,rfl⟩:=okWide_bool j u;rfl
  .rename_i j;obtain⟨m,rfl⟩:=okWide_string j u;rfl
  .rename_i j;obtain⟨a,O,cap,rfl⟩:=okWide_slice j u;rfl
  .rename_i j;simp[Value.okWide,j]at u;obtain⟨cs,rfl,_⟩:=u;show _=_;simp[Value.cells]
  .rename_i fs j;simp[Value.okWide,j]at u;obtain⟨cs,rfl,_⟩:=u;simp at h;have:=aIh h.1;simp_all [aF.agg,gv,Value.cells]
  grind
def DV:List Ty->Type
 |[]=>Unit
 |t::ts=>t.den×DV ts
def DV.kK:(ts:List Ty)->DV ts->List aF
 |[],_=> []
 |t::ts,x=> .d t x.1::DV.kK ts x.2
def DV.bnG:(ts:List Ty)->DV ts->Prop
 |[],_=>True
 |t::ts,x=>ard t x.1/\DV.bnG ts x.2
def BP(P:bg)(n:Nat):List bk->List Ty->Bool
 |[],[]=>bn
 |T::Ts,t::ts=>J6 P n T t && BP P n Ts ts
 |_,_=>aZ
def avB(K:E.w=W)(J:∀b,E.g b= .free){n:Nat}:∀ {A:List bk} {u:List Ty} {vs:List bh} {B:List (DataW H)} {I:List MemPlace},BP P n A u=bn->
  (∀(j:Nat) t v,A[j]? =aw t->vs[j]? =aw v->Value.okWide P W .any base t v)->DataW.TrodAll enc P W b0 spare held A vs B I->∃x:DV u,CW E (DV.kK u x) vs/\DV.bnG u x
 |[],[],vs,B,I,_,_,h=>by obtain⟨rfl,rfl,rfl⟩:=trodAll_nil h;simp[DV,CW,DV.kK,DV.bnG]
 |T::A,[],_,_,_,h,_,_=>by grind [BP]
 |[],t::u,_,_,_,h,_,_=>by grind [BP]
 |T::A,t::u,vs,B,I,h,Hv,hd=>by simp[BP]at h;obtain⟨v,vs',d,L,p,q,rfl,rfl,rfl,M,O⟩:=trodAll_cons hd;obtain⟨x,k1,k2⟩:=baH K J h.1 (Hv 0 T v rfl rfl) M;obtain⟨y,k3,k4⟩:=avB K J h.2 (λj t v hj hv=>Hv (j+1) t v (by grind) (by grind)) O;exact⟨(x,y),⟨k1,k3⟩,⟨k2,k4⟩⟩
def CI(P:bg)(j:List bk):Bool:=j.all λt=>P.readableRec t && decide (t < P.types.size)
theorem Wi(K:laidOutB P=bn){I:cG}(J:Below W.heap.size W I)(sp:Nat->Bool):∀ {A:List bk} {vs:List bh} {B:List (DataW H)} {u:List MemPlace},CI P A=bn->(∀p∈u,p.block < W.heap.size)->(∀p∈u,sp p.block=bn)->
  DataW.TrodAll enc P W 0 (λ_=>bn) bn A vs B u->DataW.TrodAll enc P I 0 sp bn A vs B u
 |[],vs,B,u,_,_,_,h=>by obtain⟨rfl,rfl,rfl⟩:=trodAll_nil h;exact trodAll_mk0
 |T::A,vs,B,u,hr,gF,hs,h=>by obtain⟨v,vs',d,L,p,q,rfl,rfl,rfl,M,O⟩:=trodAll_cons h;simp only[CI,gX,aQ,bJ]at hr;have h3:=WideElems.Trod_stays K hr.1.1 hr.1.2 M (λx j=>J.same (gF x (bZ.2 (.inl j)))) (λx j=>hs x (bZ.2 (.inl j)));exact⟨p,q,h3,Wi K J sp (by simpa[CI]using hr.2) (λx j=>gF x (bZ.2 (.inr j))) (λx j=>hs x (bZ.2 (.inr j))) O,rfl⟩
end
def SM{H:Type}{A:bk×bh->H}{P:bg}{W:cG}{J:Nat}{j:Nat->Bool}{u:Bool}:∀ {B:List bk} {vs:List bh} {I:List (DataW H)} {M:List MemPlace},DataW.TrodAll A P W J j u B vs I M->aa I=B.length
 |[],_,_,_,h=>by grind [DataW.TrodAll]
 |_::_,_,_,_,h=>by obtain⟨v,O,d,K,p,q,rfl,rfl,rfl,T,L⟩:=trodAll_cons h;simp[SM L]
def aD6{H:Type}{u:bk×bh->H}{P:bg}{f:Func}{s:ChangeSpec}{W B:cG}{args:Array bh}{v:bh}{A gs:List (DataW H)}{j:List MemPlace}{tb:bk}
  (hl:laidOutB P=bn) (aIy:CI P f.params.toList=bn) (K:s.vars=[]) (O:f.resultTypes= #[tb]) (T:P.underlying tb=aw .bool)
  (hW:DataW.Whole u P f.params.toList s.vars aZ W args.toList A gs j) (L:s.fn H (A++gs)= {results:=[.lit (.bool bn)],args:=A}) (hb:Below W.heap.size W B) (hv:v= .bool bn):
  s.post u P f aZ bn aZ aZ W args v B:=by
 subst hv;have hW':=hW;have I:∀p∈j,(λb=>decide (b < W.heap.size)) p.block=bn:=λp hp=>by simpa using hW.lt p hp
 obtain⟨p,q,hA,hV,rfl,hz,_⟩:=hW;rw[K]at hV;obtain⟨rfl,rfl⟩:=trodVars_none hV;have U7:∀sp,(∀x∈p,sp x.block=bn)->DataW.TrodAll u P B 0 sp bn f.params.toList args.toList (s.fn H (A++ [])).args p:=λsp hs=>by grind [Wi]
 have M:∀(b:Nat) (sp:Nat->Bool) (hd:Bool),DataW.TrodAll u P B b sp hd f.resultTypes.toList ((Value.bool bn).resultList f.resultTypes.size) (s.fn H (A++ [])).results []:=λb sp hd=>by rw[L,O];exact trodAll_mk1 (shut_bool T _)
 have J:∀sp,DataW.TrodVars u P B sp s.vars (s.fn H (A++ [])).vars []:=λsp=>by grind [DataW.TrodVars]
 refine⟨A,[],p++ [],[],p,[],hW',M _ _ _,U7 _ (λx hx=>I x (bZ.2 (.inl hx))),J _,hb.frame _,λh=>by cases h⟩
def RP{P:bg}{n:Nat}:∀ {j:List bk} {u:List Ty},BP P n j u=bn->j.length=aa u
 |[],[],_=>rfl
 |[],_::_,h=>by simp[BP]at h
 |_::_,[],h=>by simp[BP]at h
 |_::_,_::_,h=>by simp only[BP,aQ]at h;simp[RP h.2]
def aQ5{H:Type}{M:bk×bh->H}{P:bg}{f:fX}{fn:Func}{en:Entry}{s:ChangeSpec}{tb:bk}(n:Nat)(u:List Ty)(hD:tD P f en)(hf:P.funcs[f]? =aw fn)(blF:fn.body.isSome=bn)(U9:(fn.name== "runtime.NumGoroutine")=aZ)
  (hl:laidOutB P=bn) (L:BP P n fn.params.toList u=bn) (aIy:CI P fn.params.toList=bn) (J:s.vars=[]) (boW:fn.resultTypes= #[tb]) (boZ:P.underlying tb=aw .bool)
  (bnj:∀I:List (DataW H),aa I=aa u->s.fn H (I++ [])= {results:=[.lit (.bool bn)],args:=I})
  (vg:∀x:DV u,DV.bnG u x->∃r,en.run (DV.kK u x) []=aw r/\en.out (DV.kK u x) [] r=⟨.d .bool bn,[],[]⟩)
  {W:cG} {K:Nat} {args:Array bh} {I gs:List (DataW H)} {A:List MemPlace}
  (Hv:∀(j:Nat) t v,fn.params[j]? =aw t->args[j]? =aw v->Value.okWide P W .any K t v)
  (hW:DataW.Whole M P fn.params.toList s.vars aZ W args.toList I gs A):
  Calls P f args W λe W'=>∃v,e= .returned v/\s.post M P fn aZ bn aZ aZ W args v W':=by
 have hW':=hW;obtain⟨p,q,hA,hV,_,_,_⟩:=hW;rw[J]at hV;obtain⟨rfl,rfl⟩:=trodVars_none hV;obtain⟨x,bjq,bny⟩:=avB (E:=(gz []).env W (λ_=> .free) (λ_=>aC)) rfl (λ_=>rfl) L (λj t v hj hv=>Hv j t v (by grind) (by grind)) hA;obtain⟨r,aXW,arB⟩:=vg x bny;have eG:(callFunc f args).run P W= .ok (.enter f args) W:=by
  unfold callFunc;obtain⟨c,hc⟩:=dA.1 blF;have B:¬fn.name= "runtime.NumGoroutine" :=by grind
  simp[hf,B,hc]
 have T:aa I=aa u:=by rw[SM hA,RP L]
 have ho:jH ((gz []).env W (λ_=> .free) (λ_=>aC)):=λid ver fr c h=>by
  cases id with
  |dx k=>simp[AS.env,AS.cH,gz]at h
  |new i j=>simp[AS.env,AS.cH,gz]at h
 rcases hD W (λ_=> .free) (λ_=>aC) (DV.kK u x) [] args.toList r bjq ho aXW with⟨_,hc⟩ | ⟨v,w',hc,_⟩
 .refine hc.mono λe w' he=> ?_
  obtain⟨v,rfl,g',β',h1,_,O,_⟩:=he;rw[arB]at h1;refine⟨v,rfl,aD6 hl aIy J boW boZ hW' (bnj I T) ⟨O.os,O.tape,O.output.1,O.size,λb hb=>(O.aiW b hb).2⟩ ?_⟩;obtain⟨cs,k1,k2⟩:=h1;subst k1;have k2: [Value.bool bn]=[v]:=k2;grind
 grind [callFunc]
end Go.Ab
namespace Go.Ab
abbrev W:=BitVec 32
def A7(w:W)(k:Nat):W:=w <<< (32 - k) ||| w >>> k
def bld(a b c d:Int):W:=bF 32 a <<< 24 ||| bF 32 b <<< 16 ||| bF 32 c <<< 8 ||| bF 32 d
def be(l:List Int)(i:Nat):W:=bld (l.getD (4*i) 0) (l.getD (4*i+1) 0) (l.getD (4*i+2) 0) (l.getD (4*i+3) 0)
structure St where
 a:W
 b:W
 c:W
 d:W
 e:W
 f:W
 g:W
 h:W
def St.l(s:St):List Int:=[vw s.a,vw s.b,vw s.c,vw s.d,vw s.e,vw s.f,vw s.g,vw s.h]
def bpx(x:W):W:=A7 x 7^^^A7 x 18^^^x >>> 3
def bpy(y:W):W:=A7 y 17^^^A7 y 19^^^y >>> 10
def bhV(l:List W)(i:Nat):W:=l.getD (i - 16) 0+bpx (l.getD (i - 15) 0)+l.getD (i - 7) 0+bpy (l.getD (i - 2) 0)
def ext(l:List W):List W:=l++ [bhV l (aa l)]
def bc9(m:List W):Nat->List W
 | 0=>m
 |n+1=>ext (bc9 m n)
def words(b:List Int):List W:=(List.range 16).map (be b)
def sched(b:List Int):List W:=bc9 (words b) 48
def kl:List Nat:=[0x428a2f98,0x71374491,0xb5c0fbcf,0xe9b5dba5,0x3956c25b,0x59f111f1,0x923f82a4,0xab1c5ed5,0xd807aa98,0x12835b01,0x243185be,0x550c7dc3,0x72be5d74,0x80deb1fe,0x9bdc06a7,0xc19bf174,0xe49b69c1,0xefbe4786,0x0fc19dc6,0x240ca1cc,0x2de92c6f,0x4a7484aa,0x5cb0a9dc,0x76f988da,0x983e5152,0xa831c66d,0xb00327c8,0xbf597fc7,0xc6e00bf3,0xd5a79147,0x06ca6351,0x14292967,0x27b70a85,0x2e1b2138,0x4d2c6dfc,0x53380d13,0x650a7354,0x766a0abb,0x81c2c92e,0x92722c85,0xa2bfe8a1,0xa81a664b,0xc24b8b70,0xc76c51a3,0xd192e819,0xd6990624,0xf40e3585,0x106aa070,0x19a4c116,0x1e376c08,0x2748774c,0x34b0bcb5,0x391c0cb3,0x4ed8aa4a,0x5b9cca4f,0x682e6ff3,0x748f82ee,0x78a5636f,0x84c87814,0x8cc70208,0x90befffa,0xa4506ceb,0xbef9a3f7,0xc67178f2]
def kw(i:Nat):W:=BitVec.ofNat 32 (kl.getD i 0)
def aer:List Int:=kl.map λ(n:Nat)=>(n:Int)
def lS(s:St)(k w:W):St:=
 let t:=s.h+(A7 s.e 6^^^A7 s.e 11^^^A7 s.e 25)+(s.g^^^s.e &&& (s.f^^^s.g))+k+w
 let r:=A7 s.a 2^^^A7 s.a 13^^^A7 s.a 22
 let j:=s.a &&& s.b ||| s.c &&& (s.a ||| s.b)
 ⟨t+r+j,s.a,s.b,s.c,s.d+t,s.e,s.f,s.g⟩
def rounds(ws:List W)(s:St):Nat->St
 | 0=>s
 |n+1=>lS (rounds ws s n) (kw n) (ws.getD n 0)
def aey(s:St)(b:List Int):St:=
 let v:=rounds (sched b) s 64
 ⟨v.a+s.a,v.b+s.b,v.c+s.c,v.d+s.d,v.e+s.e,v.f+s.f,v.g+s.g,v.h+s.h⟩
def wI:St:=⟨0x6a09e667,0xbb67ae85,0x3c6ef372,0xa54ff53a,0x510e527f,0x9b05688c,0x1f83d9ab,0x5be0cd19⟩
def HL:Nat->St->List Int->St
 | 0,s,_=>s
 |n+1,s,l=>HL n (aey s (l.take 64)) (l.drop 64)
def blocks(s:St)(l:List Int):St:=HL (aa l / 64) s l
def bm7(w:W)(k:Nat):Int:=vw ((w >>> (24 - 8*k)).setWidth 8)
def bdE(w:W):List Int:=[bm7 w 0,bm7 w 1,bm7 w 2,bm7 w 3]
def bfP(s:St):List Int:=bdE s.a++bdE s.b++bdE s.c++bdE s.d++bdE s.e++bdE s.f++bdE s.g++bdE s.h
def jI(n:Int):List Int:=[n / 2^56%256,n / 2^48%256,n / 2^40%256,n / 2^32%256,n / 2^24%256,n / 2^16%256,n / 2^8%256,n%256]
def Gw(n:Nat):Nat:=(119 - n%64)%64
def pad(b:List Int):List Int:=b++128::(ag (Gw (aa b)) 0++jI (8*aa b))
def bj6(b:List Int):List Int:=bfP (blocks wI (pad b))
def rS(j:List (List Int)):List Int:=j.flatMap λp=>jI (aa p)++p
def afS(j:List Int)(u:List (List Int)):List Int:=jI (aa j)++j++rS u
def tag(u:List Int)(j:List (List Int)):List Int:=bj6 (afS u j)
def aLp(b:List Int):aa (bj6 b)=32:=rfl
theorem cC(n:Int):aa (jI n)=8:=rfl
def AF(l:List W):aa (ext l)=aa l+1:=by simp[ext]
def Hp(m:List W):∀n,aa (bc9 m n)=aa m+n
 | 0=>rfl
 |n+1=>by rw[bc9,AF,Hp m n];omega
def fI(b:List Int):aa (words b)=16:=by simp[words]
def PN:∀(n:Nat) (s:St) (a b:List Int),aa a=64*n->∀m,HL (n+m) s (a++b)=HL m (HL n s a) b
 | 0,s,a,b,h,m=>by have:a=[]:=bV aq;subst this;simp[HL]
 |n+1,s,a,b,h,m=>by rw[show n+1+m=(n+m)+1 by omega,HL,HL];rw[iA aq,List.drop_append_of_le_length aq];exact PN n _ _ _ (by simp;omega) m
def UA(s:St)(a b:List Int)(h:aa a%64=0):blocks s (a++b)=blocks (blocks s a) b:=by
 unfold blocks;have e:aa (a++b) / 64=aa a / 64+aa b / 64:=by simp;omega
 rw[e];exact PN _ _ _ _ aq _
def PO(s:St)(l:List Int)(h:64<=aa l):blocks s l=blocks (aey s (l.take 64)) (l.drop 64):=by unfold blocks;rw[show aa l / 64=aa (l.drop 64) / 64+1 by simp;omega];rfl
def L9(s:St)(l:List Int)(h:aa l < 64):blocks s l=s:=by unfold blocks;rw[show aa l / 64=0 by omega];rfl
def akj(x:Int):Prop:=0<=x/\x < 256
def Bytes(l:List Int):Prop:=∀x∈l,akj x
def bdF(w:BitVec 8):akj (vw w):=⟨af4 w,bcr w⟩
def aHE(s:St):Bytes (bfP s):=by intro x hx;simp only[bfP,bdE,bZ,cr,List.not_mem_nil,or_false]at hx;rcases hx with((((((hx | hx) | hx) | hx) | hx) | hx) | hx) | hx <;> rcases hx with rfl | rfl | rfl | rfl <;> exact bdF _
def aPL(b:List Int):Bytes (bj6 b):=aHE _
def KD(n:Int):Bytes (jI n):=by intro x j;simp only[jI,cr,List.not_mem_nil,or_false]at j;rcases j with rfl | rfl | rfl | rfl | rfl | rfl | rfl | rfl <;> exact⟨aq,aq⟩
end Go.Ab
end
