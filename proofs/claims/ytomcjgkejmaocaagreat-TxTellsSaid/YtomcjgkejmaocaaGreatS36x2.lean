/-
  Made short by a program of mine (wip/tools/mini.py).
-/
import Derived.Test.YtomcjgkejmaocaaGreatS36x1
import Derived.MapKept
import Derived.ChangeMaps3
import Derived.Lib.Builder
import Derived.Lib.UnsafeStr
import Derived.Lib.AppendZeros
import Derived.Maps.RangeRun
set_option linter.unusedVariables false
set_option linter.unusedSimpArgs false
set_option maxRecDepth 100000
set_option synthInstance.maxSize 5000
open Go renaming IntKind->kN,FuncId->jF,Operand->bH,Program->aR,World->cj,MapEntry->fi
open List renaming replicate->ag,length->ae
open Go.World renaming cell?->eQ
open Go.Sem renaming run_bind->cg,run_pure->dF
open Go.Result renaming andThen_ok->bE
open Go.Addr renaming add_lit->eO
open Go.Op renaming equalIn->de,operands->bW
open Go.Call renaming operands->dY
open Option renaming some->aw,none->aF
open Bool renaming true->aW,false->aQ
noncomputable section
namespace Go.Ab
theorem UT{α:Type}{f:α->α->Bool}(hf:∀x y,f x y=aW->x=y):∀ {xs ys:List α},nE f xs ys=aW->xs=ys
 |[],[],_=>rfl
 |x::xs,y::ys,h=>by simp only[nE,al]at h;rw[hf _ _ h.1,UT hf h.2]
 |[],_::_,h=>by simp[nE]at h
 |_::_,[],h=>by simp[nE]at h
theorem beq_eq:∀(t:Ty) (x y:t.den),t.comp=aW->t.beq x y=aW->x=y
 | .int _,x,y,_,h=>by simpa[Ty.beq]using h
 | .bool,x,y,_,h=>by simpa[Ty.beq]using h
 | .str,x,y,_,h=>by
  have h:(x:ByteArray).toList=(y:ByteArray).toList:=by simpa[Ty.beq]using h
  rw[Go.ByteArray.toList_eq,Go.ByteArray.toList_eq]at h;exact ByteArray.ext (Array.toList_inj.1 h)
 | .slice _,_,_,h,_=>by simp[Ty.comp]at h
 | .unit,_,_,_,_=>rfl
 | .pair a b,x,y,hc,h=>by simp only[Ty.comp,al]at hc;simp only[Ty.beq,al]at h;exact Prod.ext (beq_eq a _ _ hc.1 h.1) (beq_eq b _ _ hc.2 h.2)
 | .arr _ t,x,y,hc,h=>UT (λx y=>beq_eq t x y hc) h
 | .gC t,x,y,_,h=> @of_decide_eq_true _ ((Ty.gC t).ap2 x y) h
theorem cq.adp{E:Env}{t:Ty}{cs:List Value}{x:(Ty.gC t).den}(h:cq E (.gC t) cs x):cs=[.pointer ((x:Option (Nat×t.den)).map λp=>⟨p.1,0,aF⟩)]:=by
 simp only[cq]at h;cases hx:(x:Option (Nat×t.den)) with
 |none=>exact h.1 hx
 |some u=>
  obtain⟨_,_,_,e,_⟩:=h.2 u hx;exact e
def Plain(c:Value):Prop:=∀n,Instr.sameBits n c c=aW
theorem cq.plain{E:Env}:∀ {t:Ty} {cs:List Value} {x:t.den},t.comp=aW->cq E t cs x->∀c∈cs,Plain c
 | .int _,_,_,_,h,c,hc,n=>by simp only[cq]at h;rw[h,cX]at hc;subst hc;cases n <;> simp[Instr.sameBits]
 | .bool,_,_,_,h,c,hc,n=>by simp only[cq]at h;rw[h,cX]at hc;subst hc;cases n <;> simp[Instr.sameBits]
 | .str,_,_,_,h,c,hc,n=>by simp only[cq]at h;rw[h,cX]at hc;subst hc;cases n <;> exact(Go.MapKept.bytes_beq _ _).2 rfl
 | .slice _,_,_,hc,_,_,_,_=>by simp[Ty.comp]at hc
 | .unit,_,_,_,h,c,hc,_=>by simp only[cq]at h;rw[h]at hc;cases hc
 | .pair a b,_,_,hp,h,c,hc,n=>by
  simp only[Ty.comp,al]at hp;simp only[cq]at h;obtain⟨ca,cb,rfl,ha,hb⟩:=h;rcases bJ.1 hc with hc | hc
  ·exact cq.plain hp.1 ha c hc n
  ·exact cq.plain hp.2 hb c hc n
 | .arr _ t,_,_,hp,h,c,hc,n=>by simp only[cq]at h;exact bp.all (p:=Plain) (λc x hx v hv=>cq.plain (t:=t) hp hx v hv) h.2 c hc n
 | .gC t,_,x,_,h,c,hc,n=>by rw[h.adp,cX]at hc;subst hc;cases n <;> simp[Instr.sameBits]
theorem cq.aDH{E:Env}:∀ {t:Ty} {cs cs':List Value} {x:t.den},t.comp=aW->cq E t cs x->cq E t cs' x->cs=cs'
 | .int _,_,_,_,_,h,h'=>by simp only[cq]at h h';rw[h,h']
 | .bool,_,_,_,_,h,h'=>by simp only[cq]at h h';rw[h,h']
 | .str,_,_,_,_,h,h'=>by simp only[cq]at h h';rw[h,h']
 | .slice _,_,_,_,hc,_,_=>by simp[Ty.comp]at hc
 | .unit,_,_,_,_,h,h'=>by simp only[cq]at h h';rw[h,h']
 | .pair a b,_,_,_,hp,h,h'=>by simp only[Ty.comp,al]at hp;simp only[cq]at h h';obtain⟨ca,cb,rfl,ha,hb⟩:=h;obtain⟨ca',cb',rfl,ha',hb'⟩:=h';rw[cq.aDH hp.1 ha ha',cq.aDH hp.2 hb hb']
 | .arr _ t,cs,cs',x,hp,h,h'=>by
  simp only[cq]at h h';have key:∀(l:List t.den) (cs cs':List Value),bp (cq E t) cs l->bp (cq E t) cs' l->cs=cs':=by
   intro l
   induction l with
   |nil=>intro cs cs' h h';have h:cs=[]:=h;have h':cs'=[]:=h';rw[h,h']
   |cons x l ih=>
    intro cs cs' h h';obtain⟨c,r,rfl,hx,hr⟩:=h;obtain⟨c',r',rfl,hx',hr'⟩:=h';rw[cq.aDH (t:=t) hp hx hx',ih _ _ hr hr']
  exact key _ _ _ h.2 h'.2
 | .gC t,_,_,_,_,h,h'=>by rw[h.adp,h'.adp]
theorem B9.aDH{E:Env}{t:Ty}{v v':Value}{x:t.den}(hc:t.comp=aW)(h:B9 E t v x)(h':B9 E t v' x):v=v':=by
 obtain⟨cs,h1,h2⟩:=h;obtain⟨cs',h1',h2'⟩:=h';have e:=cq.aDH hc h1 h1';subst e;unfold gr at h2 h2';cases ha:t.agg with
 |true=>rw[ha]at h2 h2';rw[h2,h2']
 |false=>
  rw[ha]at h2 h2';have h2:cs=[v]:=h2;have h2':cs=[v']:=h2';rw[h2]at h2';simpa using h2'
theorem B9.same{E:Env}{t:Ty}{v:Value}{x:t.den}(hc:t.comp=aW)(h:B9 E t v x):Instr.sameBits 10000 v v=aW:=by
 obtain⟨cs,h1,h2⟩:=h;have hp:=cq.plain hc h1;unfold gr at h2;cases ha:t.agg with
 |true=>
  rw[ha]at h2;have h2:v= .agg cs.toArray:=h2;subst h2;simp only[Instr.sameBits,beq_self_eq_true,bI,cf];intro p hp';obtain⟨a,b⟩:=p;have:∀(l:List Value),(a,b)∈l.zip l->a∈l/\a=b:=by
   intro l
   induction l with
   |nil=>intro h;simp at h
   |cons y l ih=>
    intro h;simp only[List.zip_cons_cons,cz,cT]at h;rcases h with⟨rfl,rfl⟩ | h
    ·exact⟨bf,rfl⟩
    ·exact⟨aV _ (ih h).1,(ih h).2⟩
  obtain⟨hm,rfl⟩:=this _ hp';exact hp a (by simpa using hm) _
 |false=>
  rw[ha]at h2;have h2:cs=[v]:=h2;subst h2;exact hp v (by simp) _
theorem asU{P:aR}{w:cj}{E:Env}{t:Ty}{v:Value}{x:t.den}(hc:t.comp=aW)(h:B9 E t v x):(Instr.keyThatStays v v).run P w= .ok v w:=by unfold Instr.keyThatStays;rw[if_pos (h.same hc)];rfl
section
variable {P:aR} {w:cj} {E:Env}
theorem yS:∀(n:Nat) (T:TypeId) (t:Ty),sR P n T t=aW->t.comp=aW
 | 0,T,t,h=>by simp[sR]at h
 |n+1,T,t,h=>by
  simp only[sR]at h;split at h
  ·rfl
  ·rfl
  ·rfl
  ·rfl
  ·rename_i m e m' t' hT;simp only[al]at h;exact yS n e t' h.2
  ·rename_i t0 _ _ fs hT;simp only[al]at h;have key:∀(fl:List Field) (t:Ty) (off:Nat),Kt P (sR P n) fl t off=aW->t.comp=aW:=by
    intro fl
    induction fl with
    |nil=>intro t off hc;cases t <;> first | rfl | (simp[Kt]at hc;done)
    |cons f fl ih=>
     intro t off hc;cases t <;> first | (simp[Kt]at hc;done) | skip
     rename_i ta tb;simp only[Kt,al]at hc;simp only[Ty.comp,al];exact⟨yS n _ _ hc.1.2,ih tb _ hc.2⟩
   exact key _ _ _ h.2
  ·cases h
theorem o8(em:Bool):∀(n:Nat) (T:TypeId) (t:Ty),sR P n T t=aW->∀(d:Nat),n<=d->∀(v:Value) (x:t.den),B9 E t v x->(Instr.checkKey em d T v).run P w= .ok () w
 | 0,T,t,h,_,_,_,_,_=>by simp[sR]at h
 |n+1,T,t,h,0,hd,_,_,_=>ak
 |n+1,T,t,h,d+1,hd,v,x,⟨cs,hx,hv⟩=>by
  simp only[sR]at h;split at h
  ·rename_i hT;simp only[cq]at hx;have e1:cs=[v]:=hv;rw[hx]at e1;simp only[bF,eF]at e1;subst e1;simp[Instr.checkKey,run_underlying hT]
  ·rename_i hT;simp only[cq]at hx;have e1:cs=[v]:=hv;rw[hx]at e1;simp only[bF,eF]at e1;subst e1;simp[Instr.checkKey,run_underlying hT]
  ·rename_i hT;simp only[cq]at hx;have e1:cs=[v]:=hv;rw[hx]at e1;simp only[bF,eF]at e1;subst e1;simp[Instr.checkKey,run_underlying hT]
  ·rename_i U t' hT;simp only[cq]at hx;have e1:cs=[v]:=hv;subst e1;cases akQ:(x:Option (Nat×t'.den)) with
   |none=>
    have e2:=hx.1 akQ;simp only[bF,eF]at e2;subst e2;simp[Instr.checkKey,run_underlying hT]
   |some a=>
    obtain⟨_,_,_,e2,_⟩:=hx.2 a akQ;simp only[bF,eF]at e2;subst e2;simp[Instr.checkKey,run_underlying hT]
  ·rename_i m e m' t' hT;simp only[al,dp]at h;obtain⟨⟨⟨⟨rfl,aCI⟩,pd⟩,LM⟩,w8⟩:=h;simp only[cq]at hx;obtain⟨aGW,aGJ⟩:=hx;have e1:v= .agg cs.toArray:=hv;subst e1;obtain⟨i,hi,YT⟩:=xT LM;have hsz':=pd;rw[nC hi]at hsz';simp only[Instr.checkKey,cg,run_underlying hT,bE];simp only[Std.Legacy.Range.forIn_eq_forIn_range'];have hm:([:m]:Std.Legacy.Range).size=m:=by simp[Std.Legacy.Range.size]
   rw[hm];have ajW:∀c z,cq E t' c z->c.length=t'.size:=λc z hz=>hz.size
   have bx:t'.agg=aQ->t'.size=1:=wW
   have key:∀(k:Nat) (x:List t'.den) (j:Nat),x.length=k->bp (cq E t') (cs.drop (j*t'.size)) x->
     (forIn (List.range' j k) () λi __s=>(do
      let __do_lift <-sizeOf e
      let __do_lift <-part e cs.toArray (i*__do_lift)
      Instr.checkKey em d e __do_lift
      pure (ForInStep.yield ()):Sem (ForInStep Unit))).run P w= .ok () w:=by
    intro k
    induction k with
    |zero=>intro x j _ _;rfl
    |succ k ih=>
     intro x j hx hcx';cases x with
     |nil=>simp at hx
     |cons x0 xs=>
      have gx:=bp.get ajW hcx' 0 (by simp);simp only[nv,aM,List.getElem_cons_zero]at gx;have lenx:((cs.drop (j*t'.size)).take t'.size).length=t'.size:=gx.size;have LN:t'.size≠0:=by simpa using aCI
      have aGR:j*t'.size+t'.size<=cs.length:=by simp only[ct,da]at lenx;omega
      obtain⟨ux,h1,o1⟩:=wU (w:=w) LM pd bx (cs:=cs) (off:=j*t'.size) aGR;have h3:=o8 em n e t' w8 d ak ux x0 ⟨_,gx,o1⟩;have nx:bp (cq E t') (cs.drop ((j+1)*t'.size)) xs:=by have:=bp.drop ajW 1 hcx';rw[fL]at this;simpa[eG]using this
      have:=ih xs (j+1) (by simpa using hx) nx;rw[List.range'_succ,List.forIn_cons];simp only[cg,run_sizeOf hi,hsz',h1,h3,bE,dF];exact this
   exact(c7 (λr:Result Unit=>r.andThen λ_ w'=>Sem.run P (pure ()) w') (key m x 0 aGW (by simpa using aGJ))).trans rfl
  ·rename_i t0 _ _ fs hT;simp only[al,cD]at h;obtain⟨uU,aCt⟩:=h;have LM:t0.agg=aW:=by cases hl:fs.toList <;> rw[hl]at aCt <;> cases t0 <;> first | rfl | (simp[Kt]at aCt;done)
   rw[LM]at hv;have e1:v= .agg cs.toArray:=hv;subst e1
   have key:∀(fl:List Field) (t:Ty) (off:Nat),Kt P (sR P n) fl t off=aW->∀(x:t.den),cq E t (cs.drop off) x->
     (forIn fl () λf __s=>(do
      if f.name≠ "_" then
       let __do_lift <-part f.type cs.toArray f.offset
       Instr.checkKey em d f.type __do_lift
       pure (ForInStep.yield ())
      else pure (ForInStep.yield ()):Sem (ForInStep Unit))).run P w= .ok () w:=by
    intro fl
    induction fl with
    |nil=>intro t off _ x _;rfl
    |cons f fl ih=>
     intro t off hc x hx;cases t <;> first | (simp[Kt]at hc;done) | skip
     rename_i ta tb;simp only[Kt,al,cD,dp,fv]at hc;obtain⟨⟨⟨⟨⟨⟨aG1,azK⟩,hz⟩,pd⟩,LM⟩,w8⟩,avE⟩:=hc;simp only[cq]at hx;obtain⟨xa,xb,ex,aFj,aD1⟩:=hx;have bx:ta.agg=aQ->ta.size=1:=wW;have lx:xa.length=ta.size:=aFj.size;have sx1:(cs.drop off).take ta.size=xa:=by rw[ex];exact kY lx
     have sx2:cs.drop (off+ta.size)=xb:=by rw[<-fL,ex];exact kX lx
     have sx3:off+ta.size<=cs.length:=by have:=c7 ae ex;simp only[da,ai]at this;omega
     obtain⟨ux,h1,o1⟩:=wU (w:=w) LM pd bx (cs:=cs) (off:=off) sx3;rw[sx1]at o1;have h3:=o8 em n f.type ta w8 d ak ux x.1 ⟨_,aFj,o1⟩;have h4:=ih tb (off+ta.size) avE x.2 (by rw[sx2];exact aD1);rw[List.forIn_cons];simp only[ne_eq,aG1,not_false_eq_true,bN,cg,azK,h1,h3,bE,dF];exact h4
   have:=key fs.toList t0 0 aCt x (by simpa using hx);simp only[Instr.checkKey,cg,run_underlying hT,bE,Array.forIn_toList]at this ⊢;exact(c7 (λr:Result Unit=>r.andThen λ_ w'=>Sem.run P (pure ()) w') this).trans rfl
  ·cases h
theorem LU{K:TypeId}{kt vt:Ty}(hK:sR P depth K kt=aW){v:Value}{x:kt.den}(hx:B9 E kt v x)(hE:E.w=w):∀(es:List fi) (l:List (kt.den×vt.den)) (i:Nat),Alike (zW E kt vt) es l->
  ∃r,(Instr.findAsking K v es i).run P w= .ok r w/\match r with | none=>iJ kt x l=aF | some (j,u)=>∃n e,iJ kt x l=aw n/\j=i+n/\es[n]? =aw e/\u=e.val
 |[],[],i,_=>⟨aF,by simp[Instr.findAsking],rfl⟩
 |e::es,p::l,i,⟨he,hr⟩=>by
  have hx':=hx;obtain⟨c1,r1,o1⟩:=hx';obtain⟨c2,r2,o2⟩:=he.1;have heq:(Op.equal K v e.key).run P w= .ok (kt.beq x p.1) w:=vH E hE depth K kt hK 10000 gw c1 c2 x p.1 v e.key r1 r2 o1 o2;cases hb:kt.beq x p.1 with
  |true=>
   rw[hb]at heq;refine⟨aw (i,e.val),by simp[Instr.findAsking,heq],0,e,by simp[iJ,hb],rfl,rfl,rfl⟩
  |false=>
   rw[hb]at heq;obtain⟨r,h1,h2⟩:=LU hK hx hE es l (i+1) hr;refine⟨r,by simp[Instr.findAsking,heq,h1],?_⟩;cases r with
   |none=>simp only at h2 ⊢;simp[iJ,hb,h2]
   |some u=>
    obtain⟨j,u⟩:=u;obtain⟨n,e',g1,g2,g3,g4⟩:=h2;exact⟨n+1,e',by simp[iJ,hb,g1],ak,by simpa using g3,g4⟩
 |[],_::_,_,h=>h.elim
 |_::_,[],_,h=>h.elim
theorem abp{d:TypeDesc}{kt vt:Ty}{v:Value}{x:kt.den}(hd:∀u y,B9 E kt u y->Instr.sameNow d v u=aw (kt.beq x y)):∀(es:List fi) (l:List (kt.den×vt.den)) (i:Nat),Alike (zW E kt vt) es l->
  ∃r,Instr.findNow d v es i=aw r/\match r with | none=>iJ kt x l=aF | some (j,u)=>∃n e,iJ kt x l=aw n/\j=i+n/\es[n]? =aw e/\u=e.val
 |[],[],i,_=>⟨aF,rfl,rfl⟩
 |e::es,p::l,i,⟨he,hr⟩=>by
  have h0:=hd e.key p.1 he.1;cases hb:kt.beq x p.1 with
  |true=>
   rw[hb]at h0;exact⟨aw (i,e.val),by simp[Instr.findNow,h0],0,e,by simp[iJ,hb],rfl,rfl,rfl⟩
  |false=>
   rw[hb]at h0;obtain⟨r,h1,h2⟩:=abp hd es l (i+1) hr;refine⟨r,by simp[Instr.findNow,h0,h1],?_⟩;cases r with
   |none=>simp only at h2 ⊢;simp[iJ,hb,h2]
   |some u=>
    obtain⟨j,u⟩:=u;obtain⟨n,e',g1,g2,g3,g4⟩:=h2;exact⟨n+1,e',by simp[iJ,hb,g1],ak,by simpa using g3,g4⟩
 |[],_::_,_,h=>h.elim
 |_::_,[],_,h=>h.elim
theorem Kw{K:TypeId}{kt vt:Ty}(hK:sR P depth K kt=aW){v:Value}{x:kt.den}(hx:B9 E kt v x)(hE:E.w=w){es:List fi}{l:List (kt.den×vt.den)}(h:Alike (zW E kt vt) es l):
  ∃r,(Instr.findKey K v es).run P w= .ok r w/\match r with | none=>iJ kt x l=aF | some (j,u)=>∃e,iJ kt x l=aw j/\es[j]? =aw e/\u=e.val:=by
 have fin:∀r:Option (Nat×Value),(match r with | none=>iJ kt x l=aF | some (j,u)=>∃n e,iJ kt x l=aw n/\j=0+n/\es[n]? =aw e/\u=e.val)->match r with | none=>iJ kt x l=aF | some (j,u)=>∃e,iJ kt x l=aw j/\es[j]? =aw e/\u=e.val:=by
  intro r hr;cases r with
  |none=>exact hr
  |some u=>
   obtain⟨j,u⟩:=u;obtain⟨n,e,g1,g2,g3,g4⟩:=hr;obtain rfl:j=n:=ak;exact⟨e,g1,g3,g4⟩
 have scalar:∀d,P.underlying K=aw d->(∀u y,B9 E kt u y->Instr.sameNow d v u=aw (kt.beq x y))->∃r,(Instr.findKey K v es).run P w= .ok r w/\match r with | none=>iJ kt x l=aF | some (j,u)=>∃e,iJ kt x l=aw j/\es[j]? =aw e/\u=e.val:=by intro d hd hs;obtain⟨r,h1,h2⟩:=abp hs es l 0 h;exact⟨r,by simp[Instr.findKey,run_underlying hd,h1],fin r h2⟩
 have agg:∀d,P.underlying K=aw d->(∀u y,B9 E kt u y->Instr.sameNow d v u=aF)->∃r,(Instr.findKey K v es).run P w= .ok r w/\match r with | none=>iJ kt x l=aF | some (j,u)=>∃e,iJ kt x l=aw j/\es[j]? =aw e/\u=e.val:=by
  intro d hd hs;cases es with
  |nil=>
   cases l with
   |nil=>exact⟨aF,by simp[Instr.findKey,run_underlying hd,Instr.findNow],rfl⟩
   |cons _ _=>exact h.elim
  |cons e es=>
   cases l with
   |nil=>exact h.elim
   |cons p l=>
    have hn:Instr.findNow d v (e::es) 0=aF:=by simp[Instr.findNow,hs e.key p.1 h.1.1]
    obtain⟨r,h1,h2⟩:=LU (w:=w) (vt:=vt) hK hx hE (e::es) (p::l) 0 h;exact⟨r,by simp[Instr.findKey,run_underlying hd,hn,h1],fin r h2⟩
 have hK0:=hK;unfold depth at hK0;simp only[sR]at hK0;obtain⟨cx,rx,ox⟩:=hx;split at hK0
 ·rename_i k k' hT;refine scalar _ hT λu y ⟨cy,ry,oy⟩=> ?_
  simp only[cq]at rx ry;have e1:cx=[v]:=ox;have e2:cy=[u]:=oy;rw[rx]at e1;rw[ry]at e2;simp only[bF,eF]at e1 e2;subst e1 e2;simp[Instr.sameNow,Ty.beq]
 ·rename_i hT;refine scalar _ hT λu y ⟨cy,ry,oy⟩=> ?_
  simp only[cq]at rx ry;have e1:cx=[v]:=ox;have e2:cy=[u]:=oy;rw[rx]at e1;rw[ry]at e2;simp only[bF,eF]at e1 e2;subst e1 e2;simp[Instr.sameNow,Ty.beq]
 ·rename_i hT;refine scalar _ hT λu y ⟨cy,ry,oy⟩=> ?_
  simp only[cq]at rx ry;have e1:cx=[v]:=ox;have e2:cy=[u]:=oy;rw[rx]at e1;rw[ry]at e2;simp only[bF,eF]at e1 e2;subst e1 e2;have hs:∀a b:ByteArray,(a==b)=(a.toList==b.toList):=λa b=>by
   by_cases qz:a=b
   ·subst qz;rw[(Go.MapKept.bytes_beq a a).2 rfl];simp
   ·have h1:(a==b)=aQ:=by
     cases h:(a==b) with
     |false=>rfl
     |true=>exact absurd ((Go.MapKept.bytes_beq a b).1 h) qz
    have h2:(a.toList==b.toList)=aQ:=by
     cases h:(a.toList==b.toList) with
     |false=>rfl
     |true=>exact absurd (beq_eq .str a b rfl h) qz
    rw[h1,h2]
  simp[Instr.sameNow,Ty.beq,hs]
 ·rename_i U t' hT;exact agg _ hT λu y _=>by simp[Instr.sameNow]
 ·rename_i m e m' t' hT;exact agg _ hT λu y _=>by simp[Instr.sameNow]
 ·rename_i t0 _ _ fs hT;exact agg _ hT λu y _=>by simp[Instr.sameNow]
 ·cases hK0
end
section
variable {α β:Type} {R:α->β->Prop}
theorem Alike.get:∀ {xs:List α} {ys:List β} {i:Nat} {x:α},Alike R xs ys->xs[i]? =aw x->∃y,ys[i]? =aw y/\R x y
 |[],_,_,_,_,h=>by simp at h
 |_::_,[],_,_,h,_=>h.elim
 |x::xs,y::ys,0,z,⟨h1,_⟩,h=>by simp at h;subst h;exact⟨y,rfl,h1⟩
 |x::xs,y::ys,i+1,z,⟨_,h2⟩,h=>by simp at h;simpa using Alike.get h2 h
theorem Alike.set{x:α}{y:β}(hx:R x y):∀ {xs:List α} {ys:List β} (i:Nat),Alike R xs ys->Alike R (xs.set i x) (ys.set i y)
 |[],[],_,_=>trivial
 |[],_::_,_,h=>h.elim
 |_::_,[],_,h=>h.elim
 |_::_,_::_,0,⟨_,h2⟩=>⟨hx,h2⟩
 |_::_,_::_,i+1,⟨h1,h2⟩=>⟨h1,Alike.set hx i h2⟩
theorem Alike.push{x:α}{y:β}(hx:R x y):∀ {xs:List α} {ys:List β},Alike R xs ys->Alike R (xs++ [x]) (ys++ [y])
 |[],[],_=>⟨hx,trivial⟩
 |[],_::_,h=>h.elim
 |_::_,[],h=>h.elim
 |_::_,_::_,⟨h1,h2⟩=>⟨h1,Alike.push hx h2⟩
theorem Alike.erase:∀ {xs:List α} {ys:List β} (i:Nat),Alike R xs ys->Alike R (xs.eraseIdx i) (ys.eraseIdx i)
 |[],[],_,_=>by simp[Alike]
 |[],_::_,_,h=>h.elim
 |_::_,[],_,h=>h.elim
 |_::_,_::_,0,⟨_,h2⟩=>h2
 |_::_,_::_,i+1,⟨h1,h2⟩=>⟨h1,Alike.erase i h2⟩
end
theorem ML{α:Type}{f:α->α->Bool}(hf:∀x,f x x=aW):∀xs:List α,nE f xs xs=aW
 |[]=>rfl
 |x::xs=>by simp[nE,hf x,ML hf xs]
theorem beq_refl:∀(t:Ty) (x:t.den),t.comp=aW->t.beq x x=aW
 | .int _,x,_=>by simp[Ty.beq]
 | .bool,x,_=>by simp[Ty.beq]
 | .str,x,_=>by simp[Ty.beq]
 | .slice _,_,h=>by simp[Ty.comp]at h
 | .fo _,_,h | .mR _,_,h=>by simp[Ty.comp]at h
 | .gC t,x,_=> @pa _ ((Ty.gC t).ap2 x x) rfl
 | .unit,_,_=>rfl
 | .pair a b,x,h=>by simp only[Ty.comp,al]at h;simp only[Ty.beq,beq_refl a _ h.1,beq_refl b _ h.2,oq]
 | .arr _ t,x,h=>by simp only[Ty.comp]at h;exact ML (λy=>beq_refl t y h) x
section
variable {β:Type} {kt:Ty}
theorem PH{x:kt.den}:sX kt x ([]:List (kt.den×β))=aF:=rfl
theorem vf{x:kt.den}{p:kt.den×β}{l:List (kt.den×β)}:sX kt x (p::l)=if kt.beq x p.1=aW then aw p.2 else sX kt x l:=by
 unfold sX;cases h:kt.beq x p.1 with
 |true=>simp[iJ,h]
 |false=>
  simp only[iJ,h];cases iJ kt x l <;> simp
theorem aqV{x:kt.den}{v:β}:sY kt x v []=[(x,v)]:=rfl
theorem U9{x:kt.den}{v:β}{p:kt.den×β}{l:List (kt.den×β)}:sY kt x v (p::l)=if kt.beq x p.1=aW then(x,v)::l else p::sY kt x v l:=by
 unfold sY;cases h:kt.beq x p.1 with
 |true=>simp[iJ,h]
 |false=>
  simp only[iJ,h];cases iJ kt x l <;> simp
theorem U7{x:kt.den}{p:kt.den×β}{l:List (kt.den×β)}:Cn kt x (p::l)=if kt.beq x p.1=aW then l else p::Cn kt x l:=by
 unfold Cn;cases h:kt.beq x p.1 with
 |true=>simp[iJ,h]
 |false=>
  simp only[iJ,h];cases iJ kt x l <;> simp
theorem IA{x:kt.den}{v:β}:∀l:List (kt.den×β),(sY kt x v l).Perm ((x,v)::Cn kt x l)
 |[]=>tl _
 |p::l=>by
  rw[U9,U7];split
  ·exact tl _
  ·exact((IA l).cons p).trans (List.Perm.swap _ _ _)
theorem tE(hc:kt.comp=aW){x:kt.den}:∀ {l:List (kt.den×β)},(l.map (·.1)).Nodup->Cn kt x l=l.filter λp=> !kt.beq x p.1
 |[],_=>rfl
 |p::l,hn=>by
  rw[bS,ia]at hn;rw[U7,List.filter_cons];by_cases h:kt.beq x p.1=aW
  ·rw[if_pos h];simp only[h,cd,bU,bz];have hx:=beq_eq kt _ _ hc h;exact(jA.2 λq hq=>by
    simp only[cD];rw[Bool.eq_false_iff];intro hb;have:=beq_eq kt _ _ hc hb;exact hn.1 (by rw[<-hx,this];exact fm.2 ⟨q,hq,rfl⟩)).symm
  ·have h':kt.beq x p.1=aQ:=by simpa using h
   rw[if_neg h];simp only[h',eP,bN];rw[tE hc hn.2]
theorem PG(hc:kt.comp=aW){x:kt.den}{v:β}:∀ {l:List (kt.den×β)},(l.map (·.1)).Nodup->(sX kt x l=aw v↔(x,v)∈l)
 |[],_=>by simp[PH]
 |p::l,hn=>by
  rw[bS,ia]at hn;rw[vf,cz];by_cases h:kt.beq x p.1=aW
  ·rw[if_pos h];have hx:=beq_eq kt _ _ hc h;constructor
   ·intro e;left;rw[hx,<-bu e]
   ·rintro(e | e)
    ·rw[<-e]
    ·exact absurd (fm.2 ⟨_,e,rfl⟩) (by rw[<-hx]at hn;exact hn.1)
  ·rw[if_neg h,PG hc hn.2];constructor
   ·exact .inr
   ·rintro(e | e)
    ·exact absurd (by rw[<-e];exact beq_refl kt x hc) h
    ·exact e
theorem alj(hc:kt.comp=aW){x:kt.den}{l l':List (kt.den×β)}(hn:(l.map (·.1)).Nodup)(hp:l'.Perm l):sX kt x l'=sX kt x l:=by apply Option.ext;intro v;rw[PG hc ((hp.map _).nodup_iff.2 hn),PG hc hn,hp.mem_iff]
theorem U8(hc:kt.comp=aW){x:kt.den}{l l':List (kt.den×β)}(hn:(l.map (·.1)).Nodup)(hp:l'.Perm l):(Cn kt x l').Perm (Cn kt x l):=by rw[tE hc ((hp.map _).nodup_iff.2 hn),tE hc hn];exact hp.filter _
theorem alk(hc:kt.comp=aW){x:kt.den}{v:β}{l l':List (kt.den×β)}(hn:(l.map (·.1)).Nodup)(hp:l'.Perm l):(sY kt x v l').Perm (sY kt x v l):=
 (IA l').trans (((U8 hc hn hp).cons _).trans (IA l).symm)
theorem Rt(hc:kt.comp=aW){x:kt.den}{l:List (kt.den×β)}(hn:(l.map (·.1)).Nodup):((Cn kt x l).map (·.1)).Nodup:=by rw[tE hc hn];exact hn.sublist (List.filter_sublist.map _)
theorem ag9(hc:kt.comp=aW){x:kt.den}{v:β}{l:List (kt.den×β)}(hn:(l.map (·.1)).Nodup):((sY kt x v l).map (·.1)).Nodup:=by rw[((IA l).map _).nodup_iff,bS,ia];refine⟨λh=> ?_,Rt hc hn⟩;obtain⟨p,hp,he⟩:=fm.1 h;rw[tE hc hn,nY]at hp;have:=hp.2;have he:p.1=x:=he;rw[he,beq_refl kt x hc]at this;cases this
end
theorem K6{E:Env}:∀(v:aB) (t:Ty) (x:t.den) (cs:List Value),V E v cs->(qK t v).eval=aw x->cq E t cs x/\v.agg=t.agg/\v.ee=aW
 | .d t' x',t,x,cs,hv,h=>by
  have h':(Out.opt (tt t' t x')).eval=aw x:=by cases t <;> simpa only[qK]using h
  obtain⟨rfl,h'⟩:=iY (gB.1 h');simp only at h';subst h';simp only[V]at hv;exact⟨hv,rfl,rfl⟩
 | .cw,.slice t,x,cs,hv,h=>by simp only[qK,ay]at h;subst h;simp only[V]at hv;simp only[cq];exact⟨⟨aF,0,[],by simpa using hv,by simp,by simp,λi v hh=>by simp at hh,rfl⟩,rfl,rfl⟩
 | .pr a b,.pair ta tb,x,cs,hv,h=>by simp only[qK]at h;obtain⟨x1,h1,h2⟩:=ax.1 h;obtain⟨x2,h3,h4⟩:=ax.1 h2;obtain rfl:=ay.1 h4;simp only[V]at hv;obtain⟨ca,cb,rfl,ha,hb⟩:=hv;simp only[cq];exact⟨⟨ca,cb,rfl,(K6 a ta x1 ca ha h1).1,(K6 b tb x2 cb hb h3).1⟩,rfl,rfl⟩
 | .cw,.int _,_,_,_,h | .cw,.bool,_,_,_,h | .cw,.str,_,_,_,h | .cw,.unit,_,_,_,h | .cw,.pair _ _,_,_,_,h | .cw,.arr _ _,_,_,_,h=>by simp only[qK,av]at h
 | .pr _ _,.int _,_,_,_,h | .pr _ _,.bool,_,_,_,h | .pr _ _,.str,_,_,_,h | .pr _ _,.unit,_,_,_,h | .pr _ _,.slice _,_,_,_,h | .pr _ _,.arr _ _,_,_,_,h=>by simp only[qK,av]at h
 | .undef,t,_,_,_,h | .gone,t,_,_,_,h | .kq,t,_,_,_,h | .vh,t,_,_,_,h | .yl ..,t,_,_,_,h | .zZ,t,_,_,_,h | .ptr ..,t,_,_,_,h | .dB ..,t,_,_,_,h | .dx ..,t,_,_,_,h | .fn ..,t,_,_,_,h
 | .cons ..,t,_,_,_,h | .nil,t,_,_,_,h | .vec ..,t,_,_,_,h | .sb _,t,_,_,_,h | .bx ..,t,_,_,_,h | .sG ..,t,_,_,_,h | .mp ..,t,_,_,_,h | .rA ..,t,_,_,_,h | .xx ..,t,_,_,_,h=>by cases t <;> simp only[qK,av]at h
theorem Zk{v:aB}{t:Ty}{x:t.den}(h:(qK t v).eval=aw x):v.ee=aW:=by cases v <;> first | rfl | (cases t <;> simp only[qK,av]at h)
theorem DN{E:Env}{v:aB}{y:Value}(hv:VS E v y){t:Ty}{x:t.den}(h:(qK t v).eval=aw x):B9 E t y x:=by obtain⟨cs,h1,h2⟩:=hv.ee (Zk h);obtain⟨h3,h4,_⟩:=K6 v t x cs h1 h;exact⟨cs,h3,by rw[<-h4];exact h2⟩
theorem Aq{P:aR}{T K V':TypeId}{kt vt:Ty}(h:mapOf P T=aw (K,V',kt,vt)):P.underlying T=aw (.map K V')/\sR P depth K kt=aW/\afB P V' (.d vt vt.zero)=aW:=by
 unfold mapOf at h;split at h
 ·rename_i K0 V0 hT;split at h
  ·split at h
   ·rename_i hc;simp only[aA,cT]at h;obtain⟨rfl,rfl,rfl,rfl⟩:=h;rw[al]at hc;exact⟨hT,hc.1,hc.2⟩
   ·cases h
  ·cases h
 ·cases h
theorem QX{k v k' v':Ty}{l:List (k.den×v.den)}{l':List (k'.den×v'.den)}(h:aki k v k' v' l=aw l'):∃(e1:k=k') (e2:v=v'),(e1▸e2▸l)=l':=by
 unfold aki at h;split at h
 ·rename_i e;exact⟨e.1,e.2,by simpa using h⟩
 ·cases h
section
variable {P:aR} {C:Ctx} {g:Nat->iF} {β:Id->Option Pl} {s:AS} {a:Act} {w:cj} {o:Oper}
theorem xW(h:Inv C g β s a w){id:Id}{ver:Nat}{kt vt:Ty}{l:List (kt.den×vt.den)}(ho:(s.qH id ver kt vt).eval=aw l){y:Value}(hv:VS (s.env w g β) (.sG id ver) y):
  ∃fr pl es clock,s.bV id=aw (.obj ver fr (.mp kt vt l))/\β id=aw pl/\y= .map (aw pl.b)/\w.heap[pl.b]? =aw (.map es clock)/\g pl.b= .own (.id id) 0/\SC (s.env w g β) kt vt es.toList l/\oW es.toList clock/\(l.map (·.1)).Nodup:=by
 unfold AS.qH at ho;split at ho
 ·rename_i v fr k' v' l' ko;obtain⟨avJ,aG4⟩:=aD.1 ho;have avJ:v=ver:=by simpa using avJ
  obtain⟨rfl,rfl,rfl⟩:=QX (gB.1 aG4);subst avJ;have cQ:=dA ko;obtain⟨pl,es,clock,h1,h2,h3,h4⟩:=h.bD id v fr _ cQ;have hs:=hv.single rfl rfl;simp only[V]at hs;obtain⟨b,hb,_,hc⟩:=hs;obtain⟨pl',h5,h6⟩:=hc ⟨fr,_,cQ⟩;have h1:β id=aw pl:=h1;have h5:β id=aw pl':=h5;rw[h1]at h5;obtain rfl:pl=pl':=by simpa using h5
  refine⟨fr,pl,es,clock,cQ,h1,?_,h2,h3,h4.1.1,h4.2,h4.1.2⟩;have hb:y= .map (aw b):=by simpa using hb
  rw[hb,h6]
 ·simp only[av]at ho
theorem adF(h:Inv C g β s a w){T:TypeId}(dj:o.op= .makeMap T aF){s':AS}(he:(Gl P s o.dst T).eval=aw s'):fq P o a w (gl C s'):=by
 unfold Gl at he;split at he
 ·rename_i K V' kt vt q hm hd;obtain⟨hq,he⟩:=aD.1 he;obtain rfl:=ay.1 he;have ht:=Trans.alloc w g (.map #[] 0) (.own (.id (.new q 0)) 0);obtain⟨h1,h2⟩:=h.O0 hq (c:= .mp kt vt []) (p:=aw ⟨w.heap.size,0⟩) ht (λb hb=>⟨qO w _ hb,fy _ _ _ ak⟩) (λ_=>
   ⟨⟨w.heap.size,0⟩,#[],0,kh _ _ _,tq w _,fk _ _ _,⟨⟨[],trivial,tl _⟩,List.nodup_nil⟩,oW.nil _⟩)
  refine .inl ⟨.map (aw w.heap.size),w.alloc (.map #[] 0),?_,_,_,h1.put o.dst (v:= .sG (.new q 0) 0) ⟨[.map (aw w.heap.size)],?_,rfl⟩⟩
  ·refine eh (f:=Instr.makeMap T aF) (by simp only[execOp,dj];rfl) ?_
   simp[Instr.makeMap,run_newObj_alloc]
  ·simp only[V];exact⟨_,rfl,pT hq _ _ _ _,λ_=>⟨_,kh _ _ _,rfl⟩⟩
 ·simp only[av]at he
theorem B9.vs{E:Env}{t:Ty}{v:Value}{x:t.den}(h:B9 E t v x):VS E (.d t x) v:=by obtain⟨cs,h1,h2⟩:=h;exact⟨cs,by simpa only[V]using h1,h2⟩
theorem agY(h:Inv C g β s a w){T:TypeId}{x i:bH}{ok:Bool}(dj:o.op= .lookup T x i ok){v:aB}(he:(Dm P s T (s.ev x) (s.ev i) ok).eval=aw v):fq P o a w (gl C (s.put o.dst v)):=by
 unfold Dm at he;split at he
 ·rename_i K V' kt vt id ver hm hx;obtain⟨l,h1,he⟩:=ax.1 he;obtain⟨k,h2,he⟩:=ax.1 he;obtain rfl:=ay.1 he;obtain⟨hT,hK,hz⟩:=Aq hm;have UI:=h.ev x;rw[hx]at UI;obtain⟨fr,pl,es,clock,g1,g2,g3,g4,g5,g6,g7,gn⟩:=xW h h1 UI;have Jf:=yS depth K kt hK;obtain⟨l0,g6,gp⟩:=g6;rw[<-alj Jf gn gp];clear gn h1;generalize l0=l at g6;have hk:=DN (h.ev i) h2;have aBw:=o8 (P:=P) (w:=w) es.isEmpty depth K kt hK 10000 gw _ _ hk;obtain⟨r,hf,hr⟩:=Kw (P:=P) (w:=w) hK hk rfl g6;obtain⟨iz,zv,z1,z2,z3,z4⟩:=vF hz (s.env w g β);have aqx:B9 (s.env w g β) vt zv vt.zero:=⟨_,by simpa only[V]using z3,z4⟩;have hzero:(zeroValue V').run P w= .ok zv w:=by simp[zeroValue,typeInfo,z1,z2]
  obtain⟨val,pU,u9⟩:∃val:Value×Bool,(Instr.lookup T (a.eval x) (a.eval i) ok).run P w= .ok (if ok then .tuple #[val.1,.bool val.2] else val.1) w/\B9 (s.env w g β) vt val.1 ((sX kt k l).getD vt.zero)/\val.2=(sX kt k l).isSome:=by
   cases r with
   |none=>
    simp only at hr;have hg:sX kt k l=aF:=by simp[sX,hr]
    refine⟨(zv,aQ),?_,by rw[hg];exact aqx,by rw[hg];rfl⟩;simp[Instr.lookup,run_underlying hT,g3,Go.MapKept.run_getObj_map g4,aBw,hf,hzero]
   |some u=>
    obtain⟨j,u⟩:=u;obtain⟨e,m1,m2,rfl⟩:=hr;obtain⟨p,m3,m4⟩:=g6.get m2;have hg:sX kt k l=aw p.2:=by simp[sX,m1,m3]
    refine⟨(e.val,aW),?_,by rw[hg];exact m4.2,by rw[hg];rfl⟩;simp[Instr.lookup,run_underlying hT,g3,Go.MapKept.run_getObj_map g4,aBw,hf]
  refine h.value (x:=if ok then .tuple #[val.1,.bool val.2] else val.1) ?_ (eh (f:=Instr.lookup T (a.eval x) (a.eval i) ok) (by simp only[execOp,dj]) pU)
  unfold aBU;cases ok with
  |true=>
   obtain⟨cs,c1,c2⟩:=u9.1;refine⟨[val.1,.bool val.2],rfl,?_⟩;simp only[VC];refine⟨_,_,cs,rfl,by simpa only[V]using c1,c2,_,_,[.bool val.2],rfl,?_,rfl,rfl⟩;simp only[V,cq,u9.2]
  |false=>exact u9.1.vs
 ·simp only[av]at he
theorem Inv.ax0(h:Inv C g β s a w){id:Id}{ver:Nat}{fr:Bool}{kt vt:Ty}{l l':List (kt.den×vt.den)}{pl:Pl}{es es':Array fi}{clock clock':Nat}(cQ:s.bV id=aw (.obj ver fr (.mp kt vt l)))(hp:β id=aw pl)
  (hb:w.heap[pl.b]? =aw (.map es clock)) (hg:g pl.b= .own (.id id) 0) (hr:SC (s.env w g β) kt vt es'.toList l') (aJZ:(l'.map (·.1)).Nodup) (aEI:oW es'.toList clock') (aCF:s.uN id=aW):
  Inv C g β (s.aZ id (.obj ver aQ (.mp kt vt l'))) a {w with heap:=w.heap.setIfInBounds pl.b (.map es' clock')}:=by
 have jQ:pl.b < w.heap.size:=(bY.1 hb).1;have hother:∀b',b'≠pl.b->({w with heap:=w.heap.setIfInBounds pl.b (.map es' clock')}:cj).heap[b']? =w.heap[b']? :=λb' jR=>by
  show(w.heap.setIfInBounds pl.b _)[b']? =_
  rw[eL,if_neg (λe=>jR e.symm)]
 have ht:Trans w {w with heap:=w.heap.setIfInBounds pl.b (.map es' clock')} g g:=by
  refine⟨rfl,rfl,⟨rfl,az _⟩,by simp,λb' _=> ?_⟩;by_cases he:b'=pl.b
  ·subst he;rw[hg];exact⟨.inr (.inr ⟨id,0,rfl,az _⟩),λ_ _ hh=>ak⟩
  ·rw[hother b' he];cases IT:g b' with
   |free=>exact⟨rfl,rfl⟩
   |own o' k=>cases o' with
    |dT=>exact⟨rfl,rfl⟩
    |id i'=>exact⟨.inr (.inr ⟨i',k,rfl,az _⟩),λoff v _ hv=>by simpa only[eQ,hother b' he]using hv⟩
   |fresh=>exact .inl ⟨rfl,rfl⟩
   |gg=>exact⟨rfl,λcur e h=>⟨cur,h,rfl⟩⟩
 have hle:cP (s.env w g β) ((s.aZ id (.obj ver aQ (.mp kt vt l'))).env {w with heap:=w.heap.setIfInBounds pl.b (.map es' clock')} g β):=cP.aZ cQ (az _) ht (λ_ _=>rfl) (λ_=>rfl);refine h.step (c9 _ _ _) ht hle (iH.aZ h.bD (by rw[cQ];simp) hle (λ_ _=>rfl) (λi ver fr c pl2 hi YI SF=>⟨hother _ (h.apart hg hi YI SF),rfl⟩) ?_ (by obtain rfl:=zO cQ aCF;exact TC cQ));refine⟨pl,es',clock',hp,?_,hg,⟨hr.mono hle.mem,aJZ⟩,aEI⟩;show(w.heap.setIfInBounds pl.b _)[pl.b]? =_
 rw[eL,if_pos rfl,if_pos jQ]
theorem ag5(h:Inv C g β s a w){T:TypeId}{m k x:bH}(dj:o.op= .mapUpdate T m k x){s':AS}(he:(Dr P s T (s.ev m) (s.ev k) (s.ev x)).eval=aw s'):fq P o a w (gl C (s'.put o.dst .undef)):=by
 unfold Dr at he;split at he
 ·rename_i K V' kt vt id ver hm hx;obtain⟨l,h1,he⟩:=ax.1 he;obtain⟨kx,h2,he⟩:=ax.1 he;obtain⟨vx,h3,he⟩:=ax.1 he;obtain⟨aCF,he⟩:=aD.1 he;obtain rfl:=ay.1 he;obtain⟨hT,hK,_⟩:=Aq hm;have UI:=h.ev m;rw[hx]at UI;obtain⟨fr,pl,es,clock,g1,g2,g3,g4,g5,g6,g7,gn⟩:=xW h h1 UI;obtain⟨l0,g6,gp⟩:=g6;have hk:=DN (h.ev k) h2;have hv:=DN (h.ev x) h3;have aBw:=o8 (P:=P) (w:=w) aQ depth K kt hK 10000 gw _ _ hk;obtain⟨r,hf,hr⟩:=Kw (P:=P) (w:=w) hK hk rfl g6;have Jf:=yS depth K kt hK
  have fin:∀(es':Array fi) (clock':Nat),(Instr.mapUpdate T (a.eval m) (a.eval k) (a.eval x)).run P w= .ok () {w with heap:=w.heap.setIfInBounds pl.b (.map es' clock')}->Alike (zW (s.env w g β) kt vt) es'.toList (sY kt kx vx l0)->oW es'.toList clock'->
    fq P o a w (gl C ((s.aZ id (.obj ver aQ (.mp kt vt (sY kt kx vx l)))).put o.dst .undef)):=λes' clock' pU avu aEI=>
   .inr (.inl ⟨_,Pa (f:=Instr.mapUpdate T (a.eval m) (a.eval k) (a.eval x)) (by simp only[execOp,dj]) pU,g,β,(h.ax0 g1 g2 g4 g5 ⟨_,avu,alk Jf gn gp⟩ (ag9 Jf gn) aEI aCF).put o.dst VS.undef⟩)
  cases r with
  |none=>
   simp only at hr;refine fin (es.push {key:=a.eval k,val:=a.eval x,born:=clock}) (clock+1) ?_ ?_ (by rw[Array.toList_push];exact g7.push rfl)
   ·simp[Instr.mapUpdate,run_underlying hT,g3,Go.MapKept.run_getObj_map g4,aBw,hf,Go.MapKept.run_setObj_map _ g4]
   ·simp only[sY,hr,Array.toList_push];exact g6.push ⟨hk,hv⟩
  |some u=>
   obtain⟨j,u⟩:=u;obtain⟨e,m1,m2,rfl⟩:=hr;obtain⟨p,m3,m4⟩:=g6.get m2;have aGF:kt.beq kx p.1=aW:=by
    have:∀(l:List (kt.den×vt.den)) (j:Nat),iJ kt kx l=aw j->∀p,l[j]? =aw p->kt.beq kx p.1=aW:=by
     intro l
     induction l with
     |nil=>intro j hj;simp[iJ]at hj
     |cons q l ih=>
      intro j hj p hp;simp only[iJ]at hj;cases hb:kt.beq kx q.1 with
      |true=>
       rw[hb]at hj;simp only[aA]at hj;subst hj;simp at hp;subst hp;exact hb
      |false=>
       rw[hb]at hj;simp only[di]at hj;obtain⟨j',hj',rfl⟩:=hj;exact ih j' hj' p (by simpa using hp)
    exact this l0 j m1 p m3
   have akQ:=beq_eq kt kx p.1 Jf aGF;have aGS:e.key=a.eval k:=B9.aDH Jf (akQ▸m4.1) hk;have m2':es[j]? =aw e:=by simpa using m2
   refine fin (es.modify j λe=> {e with key:=a.eval k,val:=a.eval x}) clock ?_ ?_ (by rw[Array.toList_modify,Go.ChangeMaps.modify_eq_set _ _ _ _ m2];exact g7.set m2 rfl)
   ·simp[Instr.mapUpdate,run_underlying hT,g3,Go.MapKept.run_getObj_map g4,aBw,hf,m2',aGS,asU Jf hk,Go.MapKept.run_setObj_map _ g4]
   ·simp only[sY,m1,Array.toList_modify];rw[Go.ChangeMaps.modify_eq_set _ _ _ _ m2];exact Alike.set (R:=zW (s.env w g β) kt vt) ⟨hk,hv⟩ j g6
 ·simp only[av]at he
end
end Go.Ab
namespace Go.Ab
section
variable {P:aR} {C:Ctx} {g:Nat->iF} {β:Id->Option Pl} {s:AS} {a:Act} {w:cj} {o:Oper}
theorem Ba{b:Builtin}{args:Array bH}{ts:Array TypeId}{f:Sem Value}{x:Value}{w':cj}(ho:o.op= .call {callee:= .builtin b,args,argTypes:=ts})
  (hb:∀ty cs xs,xs=args.map a.eval->builtin b ts ty cs xs=(do pure (.value (<-f)))) (hf:f.run P w= .ok x w'):(execOp a.eval o).run P w= .ok (.value x) w':=by
 simp only[execOp,ho,resolve,cg,dF,bE,invoke];rw[hb _ _ _ rfl,cg,hf];rfl
theorem av5(h:Inv C g β s a w){c:Call}{x:bH}{T:TypeId}(ho:o.op= .call c)(hc:c.callee= .builtin .len)(ha:c.args.toList=[x])(ht:c.argTypes.toList=[T]){v:aB}(he:(az5 P T (s.ev x)).eval=aw v):
  fq P o a w (gl C (s.put o.dst v)):=by
 obtain⟨cal,args,tys⟩:=c;simp only at hc ha ht;have ha':args= #[x]:=by apply gj;simpa using ha
 have ht':tys= #[T]:=by apply gj;simpa using ht
 subst hc ha' ht';have hx:=h.ev x;have fin:∀z,(Builtin.len_ #[T] 0 #[a.eval x]).run P w= .ok z w->VS (s.env w g β) v z->fq P o a w (gl C (s.put o.dst v)):=by intro z h1 h2;refine h.value h2 (Ba ho (f:=Builtin.len_ #[T] 0 #[a.eval x]) (λty cs xs ajU=> ?_) h1);subst ajU;have e1:Builtin.len_ #[T] 0 #[a.eval x]=Builtin.len_ #[T] ty #[a.eval x]:=rfl;rw[e1];simp[builtin]
 unfold az5 at he;split at he
 ·rename_i st hT hl;rw[hl]at hx;obtain rfl:=ay.1 he;refine fin (.int .i64 (st.size:Int)) ?_ (kV _ _)
  rw[HJ hx];simp[Builtin.len_,run_underlying hT,goInt]
 ·rename_i e t l hT hl;rw[hl]at hx;obtain rfl:=ay.1 he;obtain⟨ad,cap,vs,hy,_⟩:=wX hx;refine fin (.int .i64 (l.length:Int)) ?_ (kV _ _)
  rw[hy];simp[Builtin.len_,run_underlying hT,goInt]
 ·rename_i e hT hl;rw[hl]at hx;obtain rfl:=ay.1 he;refine fin (.int .i64 0) ?_ (kV _ _)
  rw[lD hx];simp[Builtin.len_,run_underlying hT,goInt]
 ·rename_i e id ver p c i len hT hl;rw[hl]at hx;obtain rfl:=ay.1 he;obtain⟨ad,cap,hy,_⟩:=sa hx;refine fin (.int .i64 (len:Int)) ?_ (kV _ _)
  rw[hy];simp[Builtin.len_,run_underlying hT,goInt]
 ·rename_i e z n hT hl;rw[hl]at hx;obtain rfl:=ay.1 he;obtain⟨cap,⟨ad,hy⟩,_⟩:=aBR hx;refine fin (.int .i64 ((n:Nat):Int)) ?_ (kV _ _)
  rw[hy];simp[Builtin.len_,run_underlying hT,goInt]
 ·rename_i n e hT;obtain rfl:=ay.1 he;refine fin (.int .i64 (n:Int)) ?_ (kV _ _)
  simp[Builtin.len_,run_underlying hT,goInt]
 ·simp only[av]at he
def iF.open:iF->iF
 | .fresh=> .fresh
 | .gg=> .gg
 |_=> .free
def Env.open(E:Env):Env:= {E with g:=λb=>(E.g b).open}
theorem adS{g:Nat->iF}{b:Nat}(h1:g b≠ .fresh)(h2:g b≠ .gg)(j:Nat):kr (λb=>(g b).open) b j:=by
 unfold kr;cases hg:g b with
 |fresh=>exact(h1 hg).elim
 |gg=>exact(h2 hg).elim
 |_=>simp only[hg,iF.open]
theorem adT(E:Env):cP E E.open:=
 ⟨⟨⟨λb off _ h=>⟨h.1,adS (λe=>by have:=h.2;unfold kr at this;rw[e]at this;exact this) (λe=>by have:=h.2;unfold kr at this;rw[e]at this;exact this) off⟩,
  λb _ hg h=>⟨by simp only[Env.open,hg,iF.open],h⟩,λb cur e hg h=>⟨by simp only[Env.open,hg,iF.open],cur,h,rfl⟩⟩,λb _ hg h=>⟨by simp only[Env.open,hg,iF.open],h⟩⟩,λ_ _ h=>h,λ_ _ _ h=>⟨h,rfl⟩⟩
theorem aht{E:Env}{id:Id}{fr:Bool}{c:aB}(h:tp E id fr c){pl:Pl}(hp:E.β id=aw pl)(j:Nat):kr E.open.g pl.b j:=by
 rcases(h.label (pl:=pl) hp).2 with⟨k,hk⟩ | ⟨_,hk⟩
 ·exact adS (by rw[hk];simp) (by rw[hk];simp) j
 ·exact adS (by rw[hk];simp) (by rw[hk];simp) j
theorem alz(h:Inv C g β s a w){v:aB}{y:Value}(hv:VS (s.env w g β) v y){t:Ty}{x:t.den}(ht:(s.Gu t v).eval=aw x):
  ∃cs,cq (s.env w g β).open t cs x/\gr t.agg cs y:=by
 obtain⟨cs,hV,hO⟩:=hv.ee (A3 ht);exact⟨cs,uH rfl h.bD (adT _) v t x cs hV ht (λid _ v fr c hs pl hp j x hx _=>⟨hx,aht (h.bD id v fr c hs) hp j⟩),by rw[<-X5 ht];exact hO⟩
theorem Ad{E:Env}{k:kN}:∀ {vs:List Value} {l:List Int},bp (cq E (.int k)) vs l->vs=l.map (Value.int k)
 |vs,[],h=>h
 |_,x::xs,⟨c,cs',e,hx,hr⟩=>by
  have hx':c=[Value.int k x]:=by simpa only[cq]using hx
  rw[e,hx',Ad hr];rfl
theorem wF{E:Env}{k:kN}:∀(l:List Int),bp (cq E (.int k)) (l.map (Value.int k)) l
 |[]=>rfl
 |x::xs=>⟨[.int k x],xs.map (Value.int k),rfl,by simp[cq],wF xs⟩
theorem foldl_push(l:List Int):∀b:ByteArray,l.foldl (λr n=>r.push (UInt8.ofNat n.toNat)) b=⟨b.data++(l.map λn=>UInt8.ofNat n.toNat).toArray⟩:=by
 induction l with
 |nil=>intro b;simp
 |cons n l ih=>
  intro b;rw[cS,ih];simp[ByteArray.push]
theorem ahI{α:Type}(xs:Array α)(x:α)(f:α->α):(xs.push x).modify xs.size f=xs.push (f x):=by
 apply Array.ext_getElem?;intro i;rw[kM,Array.getElem?_push,Array.getElem?_push];by_cases h:i=xs.size
 ·subst h;simp
 ·have h':¬xs.size=i:=λe=>h e.symm
  simp[h,h']
theorem ac8(w:cj)(c:Array Value)(e:TypeId)(n:Nat):(w.alloc (.cells c e)).freeze ⟨w.heap.size,n,aF⟩ 1=w.alloc (.cells c e (n,n+1)):=by show({w with heap:=(w.heap.push (.cells c e)).modify w.heap.size _}:cj)= {w with heap:=w.heap.push (.cells c e (n,n+1))};rw[ahI];rfl
theorem ags{w:cj}{b:Nat}{c:Array Value}{e:TypeId}{n:Nat}(h:w.heap[b]? =aw (.cells c e (n,n+1))):w.freeze ⟨b,n,aF⟩ 1=w:=by
 unfold World.freeze;rw[if_neg ak];have:∀f:Obj->Obj,f (.cells c e (n,n+1))= .cells c e (n,n+1)->w.heap.modify b f=w.heap:=λf hf=>by
  apply Array.ext_getElem?;intro i;rw[kM];split
  ·rename_i hi;subst hi;rw[h];simp[hf]
  ·rfl
 rw[this];simp
theorem NZ(e:TypeId)(st:ByteArray)(w:cj):∃cap:Nat,st.size<=cap/\∃arr:Array Value,(∀(j:Nat) (v:Value),((bw st).map (Value.int .u8))[j]? =aw v->arr[j]? =aw v)/\
  (Conv.stringToBytes e st).run P w= .ok (.slice (aw ⟨w.heap.size,0,aF⟩) st.size cap) (w.drew.alloc (.cells arr e (arr.size,arr.size+1))):=by
 refine⟨(Question.appendCap st.size 0 e).cut (w.tape w.drawn (.appendCap st.size 0 e)),by simp[Question.cut],
  (st.data.map λb=>Value.int .u8 b.toNat)++Array.replicate ((Question.appendCap st.size 0 e).cut (w.tape w.drawn (.appendCap st.size 0 e)) - st.size) (.int .u8 0),?_,?_⟩
 ·intro j v hj;have hl:j < st.data.size:=by have:=(dE.1 hj).1;simpa[bw]using this
  rw[Array.getElem?_append,if_pos (by simpa using hl)];simpa[bw,hl]using hj
 ·have hs:∀(arr:Array Value),(markStringish ⟨w.heap.size,0,aF⟩).run P (w.drew.alloc (.cells arr e))= .ok () (w.drew.alloc (.cells arr e (arr.size,arr.size+1))):=by
   intro arr;have h1:(w.drew.alloc (.cells arr e)).shape? w.heap.size=aw (e,arr.size):=by
    have h2:(w.drew.alloc (.cells arr e)).heap[w.heap.size]? =aw (.cells arr e):=tq w.drew _
    simp only[World.shape?,h2]
   have h3:=ac8 w.drew arr e arr.size;have h4:w.drew.heap.size=w.heap.size:=rfl;rw[h4]at h3;simp only[markStringish,cg,run_shape,h1,bE,run_freeze,h3]
  simp[Conv.stringToBytes,Question.forced,newRow,hs]
theorem Inv.aBS(h:Inv C g β s a w){id:Id}{v:Nat}{fr:Bool}{c:aB}(hs:s.bV id=aw (.obj v fr c)){w':cj}{g1:Nat->iF}(ht:Trans w w' g g1)
  (Mq:∀i ver fr c pl,i≠id->s.bV i=aw (.obj ver fr c)->β i=aw pl->w'.heap[pl.b]? =w.heap[pl.b]? /\g1 pl.b=g pl.b):Inv C g1 β (s.aZ id .dead) a w'/\cP (s.env w g β) ((s.aZ id .dead).env w' g1 β):=by
 have mX:=eg s id .dead (by rw[hs];simp);have hle:cP (s.env w g β) ((s.aZ id .dead).env w' g1 β):=by
  refine⟨Trans.mem ht,λi ver hb=> ?_,λi ver hb hc=> ?_⟩
  ·by_cases hi:i=id
   ·subst hi;exact⟨by show(s.aZ i .dead).bV i≠aF;rw[mX];simp,λv fr c hh=>by
     have hh:(s.aZ i .dead).bV i=aw (.obj v fr c):=hh;rw[mX]at hh;cases hh⟩
   ·have:=cU s id i .dead hi;obtain⟨h1,h2⟩:=hb;exact⟨by show(s.aZ id .dead).bV i≠aF;rw[this];exact h1,λv fr c hh=>h2 v fr c (this.symm.trans hh)⟩
  ·obtain⟨fr,c,hc⟩:=hc;have hc:(s.aZ id .dead).bV i=aw (.obj ver fr c):=hc;by_cases hi:i=id
   ·subst hi;rw[mX]at hc;cases hc
   ·rw[cU s id i .dead hi]at hc;exact⟨⟨fr,c,hc⟩,rfl⟩
 refine⟨h.step (c9 _ _ _) ht hle λi ver fr c hi=> ?_,hle⟩;have hi:(s.aZ id .dead).bV i=aw (.obj ver fr c):=hi;by_cases dd:i=id
 ·subst dd;rw[mX]at hi;cases hi
 ·rw[cU s id i .dead dd]at hi;refine(h.bD i ver fr c hi).mono hle rfl (λpl hp=>Mq i ver fr c pl dd hi hp) λq2 vq k2 v2 l2 Pj aJF=> ?_
  have Pj:s.bV q2=aw (.obj vq aW (.mp k2 v2 l2)):=Pj;have hd:q2≠id:=λe=>by obtain⟨fr3,c3,aDK⟩:=aJF;have aDK:(s.aZ id .dead).bV q2=aw (.obj vq fr3 c3):=aDK;rw[e,mX]at aDK;cases aDK
  exact⟨⟨k2,v2,l2,by show(s.aZ id .dead).bV q2=_;rw[cU s id q2 .dead hd];exact Pj⟩,λpl hp=>Mq q2 vq aW _ pl hd Pj hp⟩
theorem Inv.kill(h:Inv C g β s a w){id:Id}{v:Nat}{fr:Bool}{c:aB}(hs:s.bV id=aw (.obj v fr c)){b:Nat}(hg:g b= .own (.id id) 0){w':cj}(aDT:w'.os=w.os)(aJ9:w'.tape=w.tape)(avB:w'.output=w.output/\w.drawn<=w'.drawn)(pd:w'.heap.size=w.heap.size)
  (Mq:∀b',b'≠b->w'.heap[b']? =w.heap[b']?) {lb:iF} (aqt:lb= .free\/lb= .fresh):Inv C (nX g b lb) β (s.aZ id .dead) a w'/\cP (s.env w g β) ((s.aZ id .dead).env w' (nX g b lb) β):=by
 have ht:Trans w w' g (nX g b lb):=by
  refine⟨aDT,aJ9,avB,ak,λb' hb'=> ?_⟩;by_cases he:b'=b
  ·subst he;rw[hg,fk];exact⟨aqt.imp (λe=>e) λe=> .inl ⟨rfl,.inl e⟩,λ_ _ hh=>ak⟩
  ·rw[fy _ _ _ he,Mq b' he];cases IT:g b' with
   |free=>exact⟨rfl,rfl⟩
   |own o k=>cases o with
    |dT=>exact⟨rfl,rfl⟩
    |id i=>exact⟨.inr (.inr ⟨i,k,rfl,az _⟩),λoff v _ hv=>by simp only[eQ,Mq b' he]at hv ⊢;exact hv⟩
   |fresh=>exact .inl ⟨rfl,rfl⟩
   |gg=>exact⟨rfl,λcur e h=>⟨cur,h,rfl⟩⟩
 exact h.aBS hs ht λi ver fr c pl dd hi hp=>by have jR:=h.apart hg dd hi (pl:=pl) hp;exact⟨Mq pl.b jR,fy _ _ _ jR⟩
theorem akl(h:Inv C g β s a w){src dst:TypeId}{x:bH}(ho:o.op= .convert src dst x){id:Id}{ver len:Nat}(hx:s.ev x= .dx id ver [] 0 0 len){s':AS}(he:(agc P s o.dst src dst id ver len).eval=aw s'):fq P o a w (gl C s'):=by
 unfold agc at he;split at he
 ·rename_i v e0 l e ko hD;split at he
  ·rename_i hE;obtain⟨h1,h2⟩:=aD.1 he;obtain⟨h3,h4⟩:=bO.1 h2;obtain rfl:=ay.1 h4;simp only[al,dp]at h1;obtain⟨rfl,rfl⟩:=h1;simp only[bh]at h3;obtain⟨h5,h6⟩:=h3;have cQ:=dA ko;have hv:=h.ev x;rw[hx]at hv;obtain⟨ad,cap,hy,Ph,_,_,fH⟩:=sa hv;have fH:=fH ⟨aQ,_,cQ⟩;have hO:tp (s.env w g β) id aQ (.vec e0 (.int .u8) l):=h.bD id v aQ _ cQ;obtain⟨hz,hO⟩:=hO;have hO:(match β id with
    |none=>l=[]
    |some pl=>∃cur k,w.heap[pl.b]? =aw (.cells cur e0 (0,0))/\cur.size=pl.cap*(Ty.int .u8).size/\l.length<=pl.cap/\pl.cap<=maxLen/\g pl.b= .own (.id id) k/\
      k<=l.length*(Ty.int .u8).size/\(aQ=aQ->k=0)/\bp (cq (s.env w g β) (.int .u8)) (cur.toList.take (l.length*(Ty.int .u8).size)) l):=hO
   have fH:(match β id with
    |some pl=>(0 < len\/0=0->ad=aw ⟨pl.b,0,aF⟩)/\(([]:List C1)=[]->0=0->cap=pl.cap)
    |none=>ad=aF/\len=0/\cap=0):=fH
   cases hp:β id with
   |none=>rw[hp]at hO;simp only at hO;subst hO;simp at h6;omega
   |some pl=>
    rw[hp]at hO fH;obtain⟨cur,k,q1,q2,q3,q4,q5,q6,q7,q8⟩:=hO;have hk:=q7 rfl;subst hk;have akF:=fH.1 (.inr rfl);subst akF;have hb:pl.b < w.heap.size:=(bY.1 q1).1;have aEX:∃w',w.freeze ⟨pl.b,cur.size,aF⟩ 1=w'/\w'.heap[pl.b]? =aw (.cells cur e0 (cur.size,cur.size+1))/\w'.os=w.os/\w'.tape=w.tape/\(w'.output=w.output/\w.drawn<=w'.drawn)/\w'.heap.size=w.heap.size/\∀b',b'≠pl.b->w'.heap[b']? =w.heap[b']? :=by
     refine⟨_,rfl,?_⟩;unfold World.freeze;rw[if_neg ak];refine⟨?_,rfl,rfl,⟨rfl,az _⟩,by simp,λb' hb'=> ?_⟩
     ·simp only[kM,bN,q1,eZ];rfl
     ·simp only[kM];rw[if_neg (λe=>hb' e.symm)]
    obtain⟨w',hw',f1,f2,f3,f4,f5,f6⟩:=aEX;have adk:w.shape? pl.b=aw (e0,cur.size):=by simp only[World.shape?,q1]
    have hm:(markStringish ⟨pl.b,0,aF⟩).run P w= .ok () w':=by simp only[markStringish,cg,run_shape,adk,bE,run_freeze,hw']
    have i1:=(h.kill cQ q5 f2 f3 f4 f5 f6 (lb:= .free) (.inl rfl)).1;refine .inl ⟨.slice (aw ⟨pl.b,0,aF⟩) len cap,w',eh (f:=convert src src (a.eval x)) (by simp only[execOp,ho]) ?_,_,β,i1.put o.dst ⟨_,?_,rfl⟩⟩
    ·rw[hy];simp[convert,run_underlying hD,run_underlying hE,hm]
    ·have YW:=Ad q8;have aCA:(Ty.int .u8).size=1:=rfl;rw[aCA,gq]at YW;simp only[V,cq];refine⟨_,cap,l.map (Value.int .u8),by rw[h6],by rw[<-h6];exact Ph,λ_=>rfl,λj vv hj=>⟨_,_,rfl,?_,?_⟩,wF (E:=(s.aZ id .dead).env w' (nX g pl.b .free) β) _⟩
     ·rw[aH];show w'.cell? ⟨pl.b,j,aF⟩=aw vv;simp only[eQ,f1];rw[<-YW,cW]at hj;split at hj
      ·simpa using hj
      ·cases hj
     ·show kr (nX g pl.b .free) pl.b (0+j);unfold kr;rw[fk];trivial
  ·simp only[av]at he
 ·simp only[av]at he
theorem azg(h:Inv C g β s a w){src dst:TypeId}{x:bH}(ho:o.op= .convert src dst x){l:List Int}(hl:s.ev x= .sb l){v:aB}(he:(auN P src dst l).eval=aw v):fq P o a w (gl C (s.put o.dst v)):=by
 have hx:=h.ev x;have fin:∀z,(convert src dst (a.eval x)).run P w= .ok z w->VS (s.env w g β) v z->fq P o a w (gl C (s.put o.dst v)):=by intro z h1 h2;exact h.value h2 (eh (f:=convert src dst (a.eval x)) (by simp only[execOp,ho]) h1)
 unfold auN at he;split at he
 ·rename_i e e' hD hS;rw[hl]at hx;split at he
  ·rename_i hE;obtain⟨h1,h2⟩:=aD.1 he;obtain rfl:=ay.1 h2;have h1:src=dst:=by simpa using h1
   subst h1;obtain⟨cs,hv,hO⟩:=hx;simp only[V]at hv;obtain⟨b,cap,arr,e2,aqp,Ph,azE,hb,akG⟩:=hv;have hO':cs=[a.eval x]:=hO;rw[aqp]at hO';have hy:a.eval x= .slice (aw ⟨b,0,aF⟩) l.length cap:=by simpa using hO'.symm
   rw[hD]at hS;obtain rfl:e=e':=by simpa using hS
   refine fin (.slice (aw ⟨b,0,aF⟩) l.length cap) ?_ ⟨_,?_,rfl⟩
   ·rw[hy];have hb:w.heap[b]? =aw (.cells arr e2 (arr.size,arr.size+1)):=hb
    have aEX:=ags hb;have adk:w.shape? b=aw (e2,arr.size):=by simp only[World.shape?,hb]
    have hm:(markStringish ⟨b,0,aF⟩).run P w= .ok () w:=by simp only[markStringish,cg,run_shape,adk,bE,run_freeze,aEX]
    simp[convert,run_underlying hD,run_underlying hE,hm]
   ·simp only[V,cq];refine⟨_,cap,l.map (Value.int .u8),rfl,Ph,λ_=>rfl,λj v hj=>⟨_,_,rfl,?_,?_⟩,wF (E:=s.env w g β) _⟩
    ·rw[aH];show w.cell? ⟨b,j,aF⟩=aw v;have hb:w.heap[b]? =aw (.cells arr e2 (arr.size,arr.size+1)):=hb
     simp only[eQ,hb];simpa using akG j v hj
    ·show kr g b (0+j);unfold kr;have azE:g b= .free:=azE;rw[azE];trivial
  ·simp only[av]at he
 ·simp only[av]at he
theorem acR(h:Inv C g β s a w){obj:Bool}{src dst:TypeId}{x:bH}(ho:o.op= .convert src dst x){v:aB}(he:(aaL P s obj src dst (s.ev x)).eval=aw v):fq P o a w (gl C (s.put o.dst v)):=by
 have hx:=h.ev x;have fin:∀z,(convert src dst (a.eval x)).run P w= .ok z w->VS (s.env w g β) v z->fq P o a w (gl C (s.put o.dst v)):=by intro z h1 h2;exact h.value h2 (eh (f:=convert src dst (a.eval x)) (by simp only[execOp,ho]) h1)
 unfold aaL at he;split at he
 ·rename_i l hl;exact azg h ho hl he
 rename_i aE2;unfold auM at he;split at he
 ·rename_i k n k' d hl hD hS;rw[hl]at hx;obtain rfl:=ay.1 he;refine fin (.int k' (k'.wrap n)) ?_ (kV _ _)
  rw[tA hx];simp[convert,run_underlying hD,run_underlying hS,Conv.intToInt]
 ·rename_i st d hl hD hS;rw[hl]at hx;obtain rfl:=ay.1 he;refine fin (.string st) ?_ (acA _)
  rw[HJ hx];simp[convert,run_underlying hD,run_underlying hS]
 ·rename_i st e d hl hD hS;rw[hl]at hx;split at he
  ·rename_i hE;obtain⟨cap,Ph,arr,akG,pU⟩:=NZ (P:=P) e st w;have i1:=(h.drew).Ii (.cells arr e (arr.size,arr.size+1));have hlen:(bw st).length=st.size:=by simp only[bw,bR,cG];rfl
   have h2:=tq w.drew (.cells arr e (arr.size,arr.size+1));have hex:(execOp a.eval o).run P w= .ok (.value (.slice (aw ⟨w.heap.size,0,aF⟩) st.size cap)) (w.drew.alloc (.cells arr e (arr.size,arr.size+1))):=by
    refine eh (f:=convert src dst (a.eval x)) (by simp only[execOp,ho]) ?_
    rw[HJ hx];simp[convert,run_underlying hD,run_underlying hS,run_underlying hE,pU]
   have aot:nX g w.drew.heap.size .free w.heap.size= .free:=by rw[show w.drew.heap.size=w.heap.size from rfl,fk]
   cases obj with
   |false=>
    obtain rfl:=ay.1 he;refine .inl ⟨_,_,hex,_,β,i1.put o.dst ⟨_,?_,rfl⟩⟩;simp only[V,cq];refine⟨_,cap,(bw st).map (Value.int .u8),by rw[hlen],ak,λ_=>rfl,λj v hj=>⟨_,_,rfl,?_,?_⟩,wF (E:=s.env (w.drew.alloc (.cells arr e (arr.size,arr.size+1))) (nX g w.drew.heap.size .free) β) _⟩
    ·have:=akG j v hj;rw[aH];show(w.drew.alloc (.cells arr e (arr.size,arr.size+1))).cell? ⟨w.drew.heap.size,j,aF⟩=aw v;simp only[eQ,h2];simpa using this
    ·show kr (nX g w.drew.heap.size .free) w.heap.size (0+j);unfold kr;rw[aot];trivial
   |true=>
    obtain rfl:=ay.1 he;refine .inl ⟨_,_,hex,_,β,i1.put o.dst ⟨_,?_,rfl⟩⟩;simp only[V];exact⟨w.heap.size,cap,arr,e,by rw[hlen],ak,aot,h2,akG⟩
  ·simp only[av]at he
 ·rename_i e hD hS jR;clear jR;split at he
  ·rename_i hE;obtain⟨l,h1,h2⟩:=ax.1 he;obtain rfl:=ay.1 h2;obtain⟨cs,hR,hO⟩:=alz h hx h1;simp only[cq]at hR;obtain⟨ad,cap,vs,rfl,atZ,pc,nD,w8⟩:=hR;have hO': [Value.slice ad (ae l) cap]=[a.eval x]:=hO;have hy:a.eval x= .slice ad (ae l) cap:=by simpa using hO'.symm
   refine fin (.string (cY l)) ?_ (acA _)
   rw[hy,run_convert_bytes_string w src dst e ad _ _ hS hE hD];have YW:=Ad (E:=(s.env w g β).open) (k:= .u8) (vs:=vs) (l:=l) w8;cases ad with
   |none=>
    have aE2:l=[]:=by
     cases l with
     |nil=>rfl
     |cons _ _=>simp at pc
    subst aE2;rfl
   |some ad=>
    have aE5:(loadCells ad (ae l)).run P w= .ok (l.map (Value.int .u8)).toArray w:=by
     have:=run_loadCells_list (P:=P) w ad (l.map (Value.int .u8)) (λj v hj=>by
      rw[<-YW]at hj;obtain⟨bb,off,e1,hh⟩:=nD j v hj;simp only[aA]at e1;subst e1;rw[eO];exact hh.1)
     simpa using this
    rw[run_bytesToString w ad _ _ l aE5,foldl_push];simp[cY]
  ·simp only[av]at he
 ·simp only[av]at he
end
end Go.Ab
namespace Go.Ab
section
variable {P:aR} {C:Ctx} {g:Nat->iF} {β:Id->Option Pl} {s:AS} {a:Act} {w:cj} {o:Oper}
theorem aaR(off:Nat):∀(vs:List Value) (k:Nat) (cells:Array Value),off+k+vs.length<=cells.size->
  ((vs.zipIdx k).foldl (λcs (c,j)=>cs.setIfInBounds (off+j) c) cells).toList=dq cells.toList (off+k) vs
 |[],k,cells,_=>by simp[dq]
 |v::vs,k,cells,h=>by simp only[aE]at h;rw[List.zipIdx_cons,cS,aaR off vs (k+1) _ (by simpa using(by omega:off+(k+1)+vs.length<=cells.size))];rw[Array.toList_setIfInBounds];have:=list_seg_step cells.toList (off+k) v vs (by simp;omega);unfold dq;simpa[dz]using this
theorem aaQ{place:Nat->Option (Nat×Nat)}{cells:Array Value}{i off:Nat}{v:Value}{vs:List Value}{rest:List (Nat×Value)}(hp:place i=aw (off,vs.length))(hv:v.cells=vs.toArray)(hl:off+vs.length<=cells.size):
  Instr.fill place cells ((i,v)::rest)=Instr.fill place (dq cells.toList off vs).toArray rest:=by
 have h1:v.cells.size=vs.length:=by rw[hv];simp
 have h2:¬(v.cells.size≠vs.length || off+v.cells.size > cells.size)=aW:=by simp[h1];omega
 simp only[Instr.fill,hp];rw[if_neg h2];congr 1;apply gj;have:=aaR off vs 0 cells ak;simp only[bM]at this;rw[<-this,hv];rw[<-Array.foldl_toList];simp
theorem BY{E E':Env}(hs:E.s=s.bV)(ho:iH E)(he:cP E E'){t:Ty}(agy:∀x,VS E (s.ev x) (a.eval x)):
  ∀(ps:List (Nat×bH)) (l:List t.den) (r:List t.den×List Id) (cells:Array Value),(jD t s ps l).eval=aw r->aEh E E' r.2->bp (cq E' t) cells.toList l->
   ∃cells',Instr.fill (λi=>aw (i*t.size,t.size)) cells (ps.map λ(i,x)=>(i,a.eval x))=aw cells'/\bp (cq E' t) cells'.toList r.1
 |[],l,r,cells,h,_,hc=>by obtain rfl:=ay.1 h;exact⟨cells,rfl,hc⟩
 | (i,x)::ps,l,r,cells,h,hf,hc=>by
  simp only[jD]at h;obtain⟨h1,h2⟩:=aD.1 h;obtain⟨y,h3,h4⟩:=ax.1 h2;obtain⟨r',h5,h6⟩:=ax.1 h4;obtain rfl:=ay.1 h6;have hi:i < l.length:=by simpa using h1
  obtain⟨cs,hV,hO⟩:=(agy x).ee (A3 h3);have hR:=uH hs ho he _ t y cs hV h3 (λid dd=>hf id (by simp[dd]));have tw:=hO.cells hV.one;have hlen:=hc.length (λ_ _ hx=>cq.size hx);have pd:=hR.size;have hle:i*t.size+cs.length<=cells.size:=by have:=cM t.size (show i+1<=l.length by omega);rw[eG,iW]at this;simp at hlen;omega
  have adj:=bp.set (λ_ _ hx=>cq.size hx) hc i hi hR;obtain⟨cells',q1,q2⟩:=BY hs ho he agy ps (l.set i y) r' (dq cells.toList (i*t.size) cs).toArray h5 (λid dd=>hf id (by simp[dd])) adj;refine⟨cells',?_,q2⟩;rw[bS,aaQ (by rw[pd]) tw hle];exact q1
theorem uw{E:Env}{t:Ty}{zc:Array Value}(hz:cq E t zc.toList t.zero):∀n:Nat,bp (cq E t) (madeCells zc (n*t.size)).toList (ag n t.zero):=by
 have pd:zc.size=t.size:=by have:=hz.size;simpa using this
 intro n
 induction n with
 |zero=>simp[madeCells,bp]
 |succ n ih=>
  have e:(madeCells zc ((n+1)*t.size)).toList=(madeCells zc (n*t.size)).toList++zc.toList:=by
   apply List.ext_getElem?;intro j;rw[eG,iW];simp only[madeCells,Array.toList_map,Array.toList_range,dK,List.getElem?_append,bR,List.length_range];by_cases hj:j < n*t.size
   ·have hj':j < n*t.size+t.size:=ak;simp[hj,hj',pd]
   ·by_cases hj':j < n*t.size+t.size
    ·have jQ:j - n*t.size < zc.size:=ak;have hm:j%t.size=j - n*t.size:=by
      have:j=(j - n*t.size)+t.size*n:=by rw[nr t.size n];omega
      rw[this,Nat.add_mul_mod_self_left,mD ak];rw[nr t.size n];omega
     simp[hj,hj',pd,hm];rw[getElem?_pos zc _ jQ,getElem!_pos zc _ jQ]
    ·have h1:¬j - n*t.size < zc.size:=ak;simp[hj,hj',h1]
  rw[e,List.replicate_succ'];exact bp.append ih (bp.one hz)
theorem qP{nl:Bool}{T:TypeId}{e:TypeId}{t:Ty}{b:Nat}(h:Df P nl T=aw (e,t,b)):
  P.underlying T=aw (.slice e)/\0 < t.size/\∃i zv,P.info? e=aw i/\i.size=t.size/\i.bytes=b/\i.zero=aw zv/\∀E,cq E t zv.cells.toList t.zero:=by
 unfold Df at h;split at h
 ·rename_i e' hT;split at h
  ·rename_i t' ht;split at h
   ·rename_i hg;simp only[aA,cT]at h;obtain⟨rfl,rfl,rfl⟩:=h;simp only[al,cD,dp,fv]at hg;obtain⟨⟨h1,h2⟩,h3⟩:=hg;obtain⟨i,zv,hi,hz,_,_⟩:=vF h3 {w:=default,g:=λ_=> .free,β:=λ_=>aF,s:=λ_=>aF};refine⟨hT,ak,i,zv,hi,by rw[<-nC hi];exact h1,by simp[Program.bytesOf,hi],hz,λE=> ?_⟩;obtain⟨i',zv',hi',hz',hV,_⟩:=vF h3 E;rw[hi]at hi';obtain rfl:i=i':=by simpa using hi'
    rw[hz]at hz';obtain rfl:zv=zv':=by simpa using hz'
    simpa only[V]using hV
   ·cases h
  ·cases h
 ·cases h
theorem Bd{T:TypeId}{e:TypeId}{t:Ty}{b:Nat}(h:Tt P T=aw (e,t,b)):P.underlying T=aw (.slice e)/\0 < t.size/\∃i zv,P.info? e=aw i/\i.size=t.size/\i.bytes=b/\i.zero=aw zv/\∀E,cq E t zv.cells.toList t.zero:=qP h
theorem YR{T:TypeId}{e:TypeId}{t:Ty}{b:Nat}(h:acY P T=aw (e,t,b)):0 < t.size:=by
 unfold acY at h;split at h
 ·exact(qP h).2.1
 ·exact(qP h).2.1
theorem Inv.adL(h:Inv C g β s a w){q:Nat}(hq:s.ej q=aW){e:TypeId}{t:Ty}{l:List t.den}{cur:Array Value}{cap:Nat}(hz:0 < t.size)(hc:bp (cq (s.env w g β) t) (cur.toList.take (l.length*t.size)) l)
  (hs:cur.size=cap*t.size) (hl:l.length<=cap) (hm:cap<=maxLen):
  ∃g' β',Inv C g' β' (s.born q [.obj 0 aQ (.vec e t l)]) a (w.alloc (.cells cur e))/\
   VS ((s.born q [.obj 0 aQ (.vec e t l)]).env (w.alloc (.cells cur e)) g' β') (.dx (.new q 0) 0 [] 0 0 l.length) (.slice (aw ⟨w.heap.size,0,aF⟩) l.length cap):=by
 have ht:=Trans.alloc w g (.cells cur e) (.own (.id (.new q 0)) 0);obtain⟨h1,h2⟩:=h.O0 hq (c:= .vec e t l) (p:=aw ⟨w.heap.size,cap⟩) ht (λb hb=>⟨qO w _ hb,fy _ _ _ ak⟩) (λhe=>by
  refine⟨hz,?_⟩;show(match Ic β (.new q 0) (aw ⟨w.heap.size,cap⟩) (.new q 0) with
   |none=>l=[]
   |some pl=>_)
  rw[kh];exact⟨cur,0,tq w _,hs,hl,hm,fk _ _ _,aL _,λ_=>rfl,hc.mono λ_ _ hx=>hx.mono he.mem⟩)
 refine⟨_,_,h1,_,?_,rfl⟩;simp only[V];refine⟨_,_,rfl,hl,λ_=>rfl,pT hq _ _ _ _,λ_=> ?_⟩;show(match Ic β (.new q 0) (aw ⟨w.heap.size,cap⟩) (.new q 0) with
   |some pl=>_
   |none=>_)
 rw[kh];exact⟨λ_=>rfl,λ_ _=>rfl⟩
theorem Inv.awq(h:Inv C g β s a w){q:Nat}(hq:s.ej q=aW){e:TypeId}{t:Ty}(hz:0 < t.size):
  ∃β',Inv C g β' (s.born q [.obj 0 aQ (.vec e t [])]) a w/\cP (s.env w g β) ((s.born q [.obj 0 aQ (.vec e t [])]).env w g β')/\
   VS ((s.born q [.obj 0 aQ (.vec e t [])]).env w g β') (.dx (.new q 0) 0 [] 0 0 0) (.slice aF 0 0):=by
 have ht:=Trans.refl w g;obtain⟨h1,h2⟩:=h.O0 hq (c:= .vec e t []) (p:=aF) ht (λb hb=>⟨rfl,rfl⟩) (λhe=>by
  refine⟨hz,?_⟩;show(match Ic β (.new q 0) aF (.new q 0) with
   |none=>([]:List t.den)=[]
   |some pl=>_)
  rw[kh])
 refine⟨_,h1,h2,_,?_,rfl⟩;simp only[V];refine⟨_,_,rfl,az _,λhh=>ak,pT hq _ _ _ _,λ_=> ?_⟩;simp[AS.env]
theorem PE(parts:Array (Nat×bH)):(parts.map λ(i,x)=>(i,a.eval x)).toList=parts.toList.map λ(i,x)=>(i,a.eval x):=by simp
theorem SD(h:Inv C g β s a w){T:TypeId}{n:Nat}{parts:Array (Nat×bH)}{nl obj:Bool}(ho:o.op= .buildSlice T n parts){s':AS}(he:(mV P s nl obj o.dst T n parts.toList).eval=aw s'):fq P o a w (gl C s'):=by
 unfold mV at he;split at he
 ·rename_i e t b q IS hd;obtain⟨hT,hz,i,zv,hi,aqs,azF,ajV,aqx⟩:=qP IS;obtain⟨h1,h2⟩:=aD.1 he;obtain⟨r,h3,h4⟩:=ax.1 h2;simp only[bh]at h1;obtain⟨g1,i1,e1,t1,f1⟩:=e7 r.2 h;have aD3:zv.cells.size=t.size:=by have:=(aqx (s.env w g β)).size;simpa using this
  obtain⟨cells',aEV,w8⟩:=BY (a:=a) rfl h.bD e1 h.ev parts.toList _ r (madeCells zv.cells (n*t.size)) h3 f1 (uw (aqx _) n);have aE6:r.1.length=n:=by
   have:∀(ps:List (Nat×bH)) (l:List t.den) (r:List t.den×List Id),(jD t s ps l).eval=aw r->r.1.length=l.length:=by
    intro ps
    induction ps with
    |nil=>intro l r hh;obtain rfl:=ay.1 hh;rfl
    |cons p ps ih=>
     intro l r hh;obtain⟨i,x⟩:=p;simp only[jD]at hh;obtain⟨_,h2⟩:=aD.1 hh;obtain⟨y,h3,h4⟩:=ax.1 h2;obtain⟨r',h5,h6⟩:=ax.1 h4;obtain rfl:=ay.1 h6;have:=ih _ _ h5;simpa using this
   rw[this _ _ _ h3];simp
  have atY:=w8.length (λ_ _ hx=>cq.size hx);have pU:(execOp a.eval o).run P w= .ok (.value (.slice (aw ⟨w.heap.size,0,aF⟩) n n)) (w.alloc (.cells cells' e)):=by
   refine eh (f:=Instr.buildSlice T n (parts.map λ(i,x)=>(i,a.eval x))) (by simp only[execOp,ho]) ?_
   have aEG:¬n*t.size > 2^24:=ak;have hfill':Instr.fill (λi=>aw (i*t.size,t.size)) ((Array.range (n*t.size)).map (λx=>(zv.cells)[x%zv.cells.size]!)) (parts.map λ(i,x)=>(i,a.eval x)).toList=aw cells':=by rw[PE];exact aEV
   by_cases hn:n*t.size=0
   ·have azH:n=0:=by
     rcases Nat.mul_eq_zero.1 hn with h' | h'
     ·exact h'
     ·omega
    subst azH;simp only[nv]at hfill' aEG;have h0:Array.range 0= #[]:=rfl;rw[h0,Array.map_empty]at hfill';simp at hfill';simp[Instr.buildSlice,run_underlying hT,run_sizeOf hi,aqs,newRow,h0,hfill']
   ·simp[Instr.buildSlice,run_underlying hT,run_sizeOf hi,aqs,newRow,hn,aEG,zeroValue,typeInfo,hi,ajV];simp at hfill';simp[hfill']
  cases obj with
  |true=>
   simp only at h4;obtain⟨hq,h5⟩:=aD.1 h4;obtain rfl:=ay.1 h5;rw[<-vD r.2]at hq;have aEW:cells'.toList.take (r.1.length*t.size)=cells'.toList:=bg ak;obtain⟨g2,β2,i2,SH⟩:=i1.adL hq (e:=e) (l:=r.1) (cur:=cells') (cap:=n) hz (by rw[aEW];exact w8) (by simp at atY;rw[atY,aE6]) ak (by
    have:n<=n*t.size:=Nat.le_mul_of_pos_right n hz;unfold maxLen;omega)
   refine .inl ⟨_,_,pU,g2,β2,?_⟩;rw[hd];rw[aE6]at SH ⊢;exact i2.put (aw q) SH
  |false=>
   simp only at h4;obtain rfl:=ay.1 h4;have i2:=i1.Ii (.cells cells' e);refine .inl ⟨_,_,pU,nX g1 w.heap.size .free,β,?_⟩;rw[hd];refine i2.put (aw q) ⟨[.slice (aw ⟨w.heap.size,0,aF⟩) n n],?_,rfl⟩;simp only[V,cq];refine⟨_,n,cells'.toList,by rw[aE6],ak,λ_=>rfl,λj v hj=>⟨_,_,rfl,?_,?_⟩,w8.mono λ_ _ hx=>hx.mono (Trans.mem (E:=(s.bq r.2).env w g1 β) (E':=(s.bq r.2).env (w.alloc (.cells cells' e)) (nX g1 w.heap.size .free) β) (Trans.alloc w g1 (.cells cells' e) .free))⟩
   ·show(w.alloc (.cells cells' e)).cell? ⟨w.heap.size,0+j,aF⟩=aw v;rw[World.cell?_alloc_new,aH];simpa using hj
   ·show kr (nX g1 w.heap.size .free) w.heap.size (0+j);unfold kr;rw[fk];trivial
 ·simp only[av]at he
theorem U1(h:Inv C g β s a w){T:TypeId}{x y:bH}(ho:o.op= .makeSlice T x y){len cap:Int}(hx:(asInt (s.ev x)).eval=aw len)(hy:(asInt (s.ev y)).eval=aw cap){s':AS}
  (he:(sF P s o.dst T len cap).eval=aw s'):fq P o a w (gl C s'):=by
 obtain⟨k,hx⟩:=yO (h.ev x) hx;obtain⟨k',hy⟩:=yO (h.ev y) hy;unfold sF at he;split at he
 ·rename_i e t b q IS hd;obtain⟨hT,hz,i,zv,hi,aqs,azF,ajV,aqx⟩:=Bd IS;obtain⟨hq,h2⟩:=aD.1 he;obtain⟨h3,h4⟩:=bO.1 h2;obtain rfl:=ay.1 h4;simp only[al,bh,db]at h3;obtain⟨⟨h5,h6⟩,h7,h8⟩:=h3;have hbytes:(i.bytes:Int)*cap<=281474976710656:=by rw[azF];have:((cap.toNat*b:Nat):Int)<=140737488355328:=ak;rw[jw,show((cap.toNat:Nat):Int)=cap by omega,jG]at this;omega
  have hr:=run_make (P:=P) w T e i zv hT hi ajV k k' len cap h5 h6 hbytes ak;rw[aqs]at hr;have aD3:zv.cells.size=t.size:=by have:=(aqx (s.env w g β)).size;simpa using this
  have sz:=uw (aqx (s.env w g β)) cap.toNat;have aCE:=bp.take (λ_ _ hx=>cq.size hx) len.toNat sz;rw[List.take_replicate,fS ak]at aCE;obtain⟨g2,β2,i2,SH⟩:=h.adL hq (e:=e) (l:=ag len.toNat t.zero) (cur:=madeCells zv.cells (cap.toNat*t.size)) (cap:=cap.toNat) hz (by rw[cO];exact aCE) (size_madeCells _ _) (by rw[cO];omega) (by unfold maxLen;omega);rw[cO]at SH;refine .inl ⟨_,_,eh (f:=Instr.makeSlice T (a.eval x) (a.eval y)) (by simp only[execOp,ho]) (by rw[hx,hy];exact hr),g2,β2,?_⟩;rw[hd];exact i2.put (aw q) SH
 ·simp only[av]at he
end
end Go.Ab
namespace Go.Ab
section
variable {P:aR} {C:Ctx} {g:Nat->iF} {β:Id->Option Pl} {s:AS} {a:Act} {w:cj} {o:Oper}
theorem alx:∀(c:aB) (f off:Nat) (v:aB),partOf c f=aw (off,v)->(loc c (ov f)).eval=aw (off,v):=by
 intro c f
 induction f generalizing c with
 |zero=>
  intro off v h;cases c with
  |d t y=>
   cases t <;> simp only[partOf,reduceCtorEq]at h;simp only[aA,cT]at h;obtain⟨rfl,rfl⟩:=h;rfl
  |pr b c=>
   simp only[partOf,aA,cT]at h;obtain⟨rfl,rfl⟩:=h;simp only[ov,loc];cases b <;> rfl
  |_=>simp only[partOf,reduceCtorEq]at h
 |succ f ih=>
  intro off v h;cases c with
  |d t y=>
   cases t with
   |pair ta tb=>
    simp only[partOf]at h;cases hp:partOf (.d tb y.2) f with
    |none=>rw[hp]at h;cases h
    |some r=>
     rw[hp]at h;simp only[aA,cT]at h;obtain⟨rfl,rfl⟩:=h;simp only[ov,loc,ax];exact⟨_,ih _ _ _ hp,rfl⟩
   |_=>simp only[partOf,reduceCtorEq]at h
  |pr b c=>
   simp only[partOf]at h;cases hp:partOf c f with
   |none=>rw[hp]at h;cases h
   |some r=>
    rw[hp]at h;simp only[aA,cT]at h;obtain⟨rfl,rfl⟩:=h;simp only[ov,loc,ax];exact⟨_,ih _ _ _ hp,rfl⟩
  |_=>simp only[partOf,reduceCtorEq]at h
theorem ag8(a b:aB):(MQ a b).agg=aW:=by unfold MQ;split <;> rfl
theorem aat{v x v':aB}{i:Nat}(h:(xz v (ov i) x).eval=aw v'):v'.agg=aW:=by
 have fin:∀ {o:Out aB} {f:aB->aB},(∀a,(f a).agg=aW)->(o.bind λa=>Out.ok (f a)).eval=aw v'->v'.agg=aW:=by intro o f hf hh;obtain⟨_,_,h2⟩:=ax.1 hh;obtain rfl:=ay.1 h2;exact hf _
 cases i <;> simp only[ov]at h
 all_goals
  cases v with
  |d t y=>cases t <;> first | (simp only[xz,av]at h;done) | (simp only[xz]at h;exact fin (λ_=>ag8 _ _) h)
  |pr b c=>simp only[xz]at h;exact fin (λ_=>ag8 _ _) h
  |_=>simp only[xz,av]at h
theorem Hz{E:Env}(agy:∀x,VS E (s.ev x) (a.eval x)){fs:Array Field}{places:Array (Nat×Nat)}(Jg:∀(i:Nat) (f:Field),fs[i]? =aw f->places[i]? =aw (f.offset,P.cellsOf f.type)):
  ∀(ps:List (Nat×bH)) (v v':aB) (cells:Array Value),(qq P fs s ps v).eval=aw v'->V E v cells.toList->v.agg=aW->
   ∃cells',Instr.fill (places[·]?) cells (ps.map λ(i,x)=>(i,a.eval x))=aw cells'/\V E v' cells'.toList/\v'.agg=aW
 |[],v,v',cells,h,hV,LM=>by obtain rfl:=ay.1 h;exact⟨cells,rfl,hV,LM⟩
 | (i,x)::ps,v,v',cells,h,hV,LM=>by
  simp only[qq]at h;split at h
  ·rename_i f off eC hf hp;obtain⟨h1,h2⟩:=aD.1 h;obtain⟨v1,h3,h4⟩:=ax.1 h2;simp only[al,dp]at h1;obtain⟨⟨rfl,aF6⟩,aI9⟩:=h1;obtain⟨ade,_⟩:=pb aI9;obtain⟨cs,hVx,hO⟩:=(agy x).ee ade;have hcells:=hO.cells hVx.one;have aGU:=alx _ _ _ _ hp;obtain⟨u1,u2,u3⟩:=oG (ov i) v cells.toList f.offset eC (s.ev x) v1 cs (VO.of hV) aGU hVx h3;have aE8:v1.gI=aQ:=u3.qI hV.qI;have pd:P.cellsOf f.type=cs.length:=by rw[(F3 aI9).2.1];exact hVx.size.symm
   obtain⟨cells',q1,q2,q3⟩:=Hz agy Jg ps v1 v' (dq cells.toList f.offset cs).toArray h4 (by simpa using u2.to aE8) (aat h3);refine⟨cells',?_,q2,q3⟩;rw[bS,aaQ (by rw[Jg i f hf,pd]) hcells (by simpa using u1)];exact q1
  ·simp only[av]at h
theorem aiO{α γ:Type}(f:α->Sem γ)(r:α->γ):∀(l:List α),(∀x∈l,(f x).run P w= .ok (r x) w)->(l.mapM f).run P w= .ok (l.map r) w
 |[],_=>by simp
 |x::xs,h=>by rw[List.mapM_cons];simp only[cg,h x (by simp),bE,aiO f r xs (λy hy=>h y (by simp[hy])),dF,bS]
theorem ake(h:Inv C g β s a w){T:TypeId}{parts:Array (Nat×bH)}(ho:o.op= .build T parts){s':AS}(he:(FY P s o.dst T parts.toList).eval=aw s'):fq P o a w (gl C s'):=by
 unfold FY at he;split at he
 ·rename_i fs hT;split at he
  ·rename_i z aLr;obtain⟨h1,h2⟩:=aD.1 he;obtain⟨v,h3,h4⟩:=ax.1 h2;obtain rfl:=ay.1 h4;simp only[al,cf]at h1;obtain⟨⟨hz,LM⟩,aGQ⟩:=h1;obtain⟨i,zv,hi,ajV,hV,hO⟩:=vF hz (s.env w g β)
   let places:Array (Nat×Nat):=fs.map λf=>(f.offset,P.cellsOf f.type)
   have Jg:∀(i:Nat) (f:Field),fs[i]? =aw f->places[i]? =aw (f.offset,P.cellsOf f.type):=by intro i f hf;simp[places,hf]
   obtain⟨cells',q1,q2,q3⟩:=Hz (a:=a) h.ev Jg parts.toList z v zv.cells h3 hV LM;have hm:(fs.mapM λf=>(do pure (f.offset,<-sizeOf f.type):Sem (Nat×Nat))).run P w= .ok places w:=by
    rw[Array.mapM_eq_mapM_toList];have:=aiO (P:=P) (w:=w) (λf=>(do pure (f.offset,<-sizeOf f.type):Sem (Nat×Nat))) (λf=>(f.offset,P.cellsOf f.type)) fs.toList (by
     intro f hf;obtain⟨j,hj⟩:=cv.1 (aGQ f hf);rw[cg,run_sizeOf hj,nC hj];rfl)
    rw[Sem.run_map,this];show Result.ok _ w=Result.ok _ w;congr 1;apply gj;simp[places]
   refine h.value (x:= .agg cells') (VS.of q2 (by rw[q3];simp[gr])) (eh (f:=Instr.build T (parts.map λ(i,x)=>(i,a.eval x))) (by simp only[execOp,ho]) ?_);have q1':Instr.fill (places[·]?) zv.cells (parts.map λ(i,x)=>(i,a.eval x)).toList=aw cells':=by rw[PE];exact q1
   simp only[Instr.build,cg,zeroValue,typeInfo,run_program,hi,bE,dF,ajV,run_underlying hT,hm,q1']
  ·simp only[av]at he
 ·rename_i n e hT;split at he
  ·rename_i t ht;obtain⟨h1,h2⟩:=aD.1 he;obtain⟨r,h3,h4⟩:=ax.1 h2;obtain rfl:=ay.1 h4;simp only[al,dp]at h1;obtain⟨pd,hz⟩:=h1;obtain⟨g1,i1,e1,t1,f1⟩:=e7 r.2 h;obtain⟨i,zv,hi,ajV,hV,hO⟩:=vF hz ((s.bq r.2).env w g1 β);simp only[V,cq]at hV;obtain⟨cells',q1,q2⟩:=BY (a:=a) rfl h.bD e1 h.ev parts.toList _ r zv.cells h3 f1 hV.2;have aE6:r.1.length=n:=by
    have:∀(ps:List (Nat×bH)) (l:List t.den) (r:List t.den×List Id),(jD t s ps l).eval=aw r->r.1.length=l.length:=by
     intro ps
     induction ps with
     |nil=>intro l r hh;obtain rfl:=ay.1 hh;rfl
     |cons p ps ih=>
      intro l r hh;obtain⟨i,x⟩:=p;simp only[jD]at hh;obtain⟨_,h2⟩:=aD.1 hh;obtain⟨y,h3,h4⟩:=ax.1 h2;obtain⟨r',h5,h6⟩:=ax.1 h4;obtain rfl:=ay.1 h6;have:=ih _ _ h5;simpa using this
    rw[this _ _ _ h3];simp
   refine .inl ⟨.agg cells',w,eh (f:=Instr.build T (parts.map λ(i,x)=>(i,a.eval x))) (by simp only[execOp,ho]) ?_,g1,β,i1.put o.dst ⟨cells'.toList,?_,by simp[gr,aB.agg,Ty.agg]⟩⟩
   ·have q1':Instr.fill (λi=>aw (i*t.size,t.size)) zv.cells (parts.map λ(i,x)=>(i,a.eval x)).toList=aw cells':=by rw[PE];exact q1
    cases aGO:P.info? e with
    |none=>
     exfalso;unfold ajI YB at ht;simp only[depth]at ht;have:P.underlying e=aF:=by simp[Program.underlying,aGO]
     rw[this]at ht;cases ht
    |some ie=>
     have aJl:=run_sizeOf aGO w;rw[<-nC aGO,pd]at aJl;simp only[Instr.build,cg,zeroValue,typeInfo,run_program,hi,bE,dF,ajV,run_underlying hT,aJl,q1']
   ·simp only[V,cq];exact⟨aE6,q2⟩
  ·simp only[av]at he
 ·simp only[av]at he
theorem Qt{T X ty e:TypeId}{i:TypeInfo}(hT:P.underlying T=aw (.slice e))(hX:P.underlying X=aw .string\/∃e',P.underlying X=aw (.slice e'))(hi:P.info? e=aw i)
  {b sLen sCap:Nat} {cur:Array Value} (hg:w.heap[b]? =aw (.cells cur e (0,0))) {x:Value} {n:Nat} {news:List Value} (h1:∀u∈news,u.oneCell'=aW)
  (hlen:(Builtin.lenOf x).run P w= .ok n w) (hf:(Builtin.firstCells i.size n x).run P w= .ok news.toArray w) (Jh:sLen+n<=sCap) (adg:sLen*i.size+news.length<=cur.size):
  (Builtin.append_ #[T,X] ty #[.slice (aw ⟨b,0,aF⟩) sLen sCap,x]).run P w= .ok (.slice (aw ⟨b,0,aF⟩) (sLen+n) sCap) (w.setRow b (dq cur.toList (sLen*i.size) news).toArray):=by
 have uU:=run_storeCells_at P b (sLen*i.size) e news 0 cur w hg (by simpa using adg) h1;simp only[bM]at uU;rcases hX with hX | ⟨e',hX⟩ <;> simp[Builtin.append_,run_underlying hT,run_underlying hX,sizeOf,typeInfo,hi,hlen,Jh,hf,eO,uU,dq]
theorem Fj{T X ty e:TypeId}{i:TypeInfo}(hT:P.underlying T=aw (.slice e))(hX:P.underlying X=aw .string\/∃e',P.underlying X=aw (.slice e'))(hi:P.info? e=aw i)
  {x:Value} (hlen:(Builtin.lenOf x).run P w= .ok 0 w) (hf:(Builtin.firstCells i.size 0 x).run P w= .ok #[] w):
  (Builtin.append_ #[T,X] ty #[.slice aF 0 0,x]).run P w= .ok (.slice aF 0 0) w:=by
 rcases hX with hX | ⟨e',hX⟩ <;> simp[Builtin.append_,run_underlying hT,run_underlying hX,sizeOf,typeInfo,hi,hlen,hf]
theorem Qs{T X ty e:TypeId}{i:TypeInfo}{zv:Value}(hT:P.underlying T=aw (.slice e))(hX:P.underlying X=aw .string\/∃e',P.underlying X=aw (.slice e'))(hi:P.info? e=aw i)(ajV:i.zero=aw zv)
  {ad:Option Addr} {sLen sCap:Nat} {dg:List Value} (ho:(Builtin.firstCells i.size sLen (.slice ad sLen sCap)).run P w.drew= .ok dg.toArray w.drew) {x:Value} {n:Nat} {news:List Value}
  (hlen:(Builtin.lenOf x).run P w= .ok n w) (hf:(Builtin.firstCells i.size n x).run P w.drew= .ok news.toArray w.drew) (Jh:sCap < sLen+n)
  (aI2:((sLen+n:Nat):Int)<=9223372036854775807) (adg:(sLen+n)*i.bytes<=140737488355328):
  (Builtin.append_ #[T,X] ty #[.slice ad sLen sCap,x]).run P w= .ok (.slice (aw ⟨w.heap.size,0,aF⟩) (sLen+n) (grownCap w (sLen+n) sCap e))
   (w.drew.alloc (.cells (dg.toArray++news.toArray++Builtin.zeroCells zv.cells (grownCap w (sLen+n) sCap e - (sLen+n))) e)):=by
 have hn:¬(sLen+n<=sCap):=ak;have h63':¬(9223372036854775807 < ((sLen:Int)+(n:Int))):=ak;have hfit':=growslice_fits (bytes:=i.bytes) Jh adg;have h48':¬(281474976710656 < Builtin.nextslicecap (sLen+n) sCap*i.bytes):=ak;rcases hX with hX | ⟨e',hX⟩
 all_goals
  simp[Builtin.append_,run_underlying hT,run_underlying hX,sizeOf,typeInfo,zeroValue,hi,ajV,hlen,hn,h63',h48',Question.forced,hf,ho,newRow,grownCap];congr 2;apply gj;simp[aC]
end
end Go.Ab
namespace Go.Ab
section
variable {P:aR} {C:Ctx} {g:Nat->iF} {β:Id->Option Pl} {s:AS} {a:Act} {w:cj} {o:Oper}
theorem awL(h:Inv C g β s a w){v:aB}{y:Value}(hv:VS (s.env w g β) v y){t:Ty}{m:List t.den}(he:(s.Gu (.slice t) v).eval=aw m):
  ∃ad cap vs,y= .slice ad m.length cap/\(0 < m.length->ad.isSome=aW)/\(∀j u,vs[j]? =aw u->∃bb off,ad=aw ⟨bb,off,aF⟩/\w.cell? ⟨bb,off+j,aF⟩=aw u)/\bp (cq (s.env w g β) t) vs m:=by
 have hp:(s.ix (.slice t) v).eval=aw m:=he;cases v <;> first | (simp only[AS.ix,av]at hp;done) | skip
 case cw=>
  simp only[AS.ix,ay]at hp;subst hp;exact⟨aF,0,[],lD hv,by simp,λj u hj=>by simp at hj,rfl⟩
 case d t' x=>
  simp only[AS.ix]at hp;have hp:=gB.1 hp;have ha:(aB.d t' x).agg=aQ:=O5 hp;have hV:=hv.single rfl ha;simp only[V]at hV;have hv:VS (s.env w g β) (.d (.slice t) m) y:=VS.of (cs:=[y]) (by simp only[V];exact u5 hp hV) rfl;obtain⟨ad,cap,vs,hy,_,hs,hr,hc⟩:=wX hv;exact⟨ad,cap,vs,hy,hs,λj u hj=>let⟨bb,off,e,hh⟩:=hr j u hj;⟨bb,off,e,hh.1⟩,hc⟩
 case dx id ver p c i len=>
  simp only[AS.ix]at hp;obtain⟨⟨n,t',l⟩,h1,h2⟩:=ax.1 hp;obtain⟨h3,h4⟩:=bO.1 h2;obtain⟨aDR,aJX⟩:=aaK (E:=s.env w g β) (gB.1 h4);rw[aDR];simp only[bh]at h3;obtain⟨hc,hlen⟩:=h3
  suffices hg:∃ad cap vs,y= .slice ad (cut l i len).length cap/\(0 < (cut l i len).length->ad.isSome=aW)/\(∀j u,vs[j]? =aw u->∃bb off,ad=aw ⟨bb,off,aF⟩/\w.cell? ⟨bb,off+j,aF⟩=aw u)/\bp (cq (s.env w g β) t') vs (cut l i len) by obtain⟨ad,cap,vs,e1,e2,e3,e4⟩:=hg;exact⟨ad,cap,vs,e1,e2,e3,aJX _ e4⟩
  obtain⟨fr,c0,cQ,nD⟩:=Qi rfl h.bD h1;obtain⟨ad,cap,hy,hle,pc,hb,fH⟩:=sa hv;have fH:=fH ⟨fr,c0,cQ⟩;have ayT:(cut l i len).length=len:=C9 hlen;rcases nD with⟨hp,hl,_⟩ | ⟨pl,cur,e,hp,hh,pd,w8,hbound⟩
  ·rw[hp]at fH;simp only at fH;obtain⟨rfl,rfl,rfl⟩:=fH;have:cut l i 0=[]:=by simp[cut]
   refine⟨aF,0,[],by rw[ayT];exact hy,by rw[ayT];omega,λ_ _ hh=>by simp at hh,?_⟩;rw[this];rfl
  ·rw[hp]at fH;simp only at fH;have hmul:(i+len)*t'.size<=l.length*t'.size:=cM _ hlen;rw[eG]at hmul;refine⟨ad,cap,_,by rw[ayT];exact hy,by rw[ayT];exact pc,?_,Kk w8 i len⟩;rw[VI _ _ _ _ _ hmul];intro j v hj;rw[cW]at hj;split at hj
   ·rename_i aCw;rw[fN,hc]at hj;have aGV:0 < len:=by
     rcases nq len with h0 | h0
     ·subst h0;simp at aCw
     ·exact h0
    refine⟨pl.b,c,fH.1 (.inl aGV),?_⟩;have hh':w.heap[pl.b]? =aw (.cells cur e (0,0)):=hh
    rw[cell_of_row w pl.b (c+j) cur e (0,0) hh'];simpa using hj
   ·cases hj
theorem Rs(h:Inv C g β s a w){t:Ty}{X:TypeId}{x:aB}{y:Value}(hx:VS (s.env w g β) x y){m:List t.den}(he:(Gn P s t X x).eval=aw m):
  (P.underlying X=aw .string\/∃e',P.underlying X=aw (.slice e'))/\∃news:List Value,bp (cq (s.env w g β) t) news m/\(Builtin.lenOf y).run P w= .ok m.length w/\
   ∀w',w'.heap=w.heap->(Builtin.firstCells t.size m.length y).run P w'= .ok news.toArray w':=by
 have sl:∀(x:aB),VS (s.env w g β) x y->(match P.underlying X with
   |some (.slice _)=>s.Gu (.slice t) x
   |_=> .fail).eval=aw m->(P.underlying X=aw .string\/∃e',P.underlying X=aw (.slice e'))/\∃news:List Value,bp (cq (s.env w g β) t) news m/\(Builtin.lenOf y).run P w= .ok m.length w/\
   ∀w',w'.heap=w.heap->(Builtin.firstCells t.size m.length y).run P w'= .ok news.toArray w':=by
  intro x hx he;split at he
  ·rename_i e' hX;refine⟨.inr ⟨e',hX⟩,?_⟩;obtain⟨ad,cap,vs,rfl,pc,nD,w8⟩:=awL h hx he;have hlen:=bp.length (λ_ _ hx=>cq.size hx) w8;refine⟨vs,w8,rfl,λw' hw'=> ?_⟩;cases ad with
   |none=>
    have aDQ:m.length=0:=by
     rcases nq m.length with h0 | h0
     ·exact h0
     ·have:=pc h0;simp at this
    have:vs=[]:=bP (by rw[hlen,aDQ,nv]);subst this;rfl
   |some ad=>
    refine run_firstCells_some (P:=P) w' t.size _ ad _ _ vs hlen (λj v hj=> ?_);obtain⟨bb,off,e1,hh⟩:=nD j v hj;simp only[aA]at e1;subst e1;rw[eO];simpa[eQ,hw']using hh
  ·simp only[av]at he
 unfold Gn at he;split at he
 ·rename_i st;split at he
  ·rename_i hX;refine⟨.inl hX,?_⟩;obtain⟨e,hm⟩:=iY (gB.1 he);have e':Ty.int .u8=t:=by simpa using e
   subst e';simp only at hm;subst hm;have hy:=HJ hx;subst hy;have hlen:(bw st).length=st.size:=by simp only[bw,bR,cG];rfl
   refine⟨(bw st).map (Value.int .u8),wF _,by rw[hlen];rfl,λw' _=> ?_⟩;rw[hlen];simp only[Builtin.firstCells,dF];congr 1;apply gj;rw[ByteArray.extract_zero_size];simp[bw]
  ·simp only[av]at he
 ·exact sl _ hx he
theorem zT(z:Array Value)(n:Nat):(Builtin.zeroCells z n).size=n*z.size:=by simp[Builtin.zeroCells]
theorem apW(h:Inv C g β s a w){c:Call}{x y:bH}{T X:TypeId}(ho:o.op= .call c)(hc:c.callee= .builtin .copy)(ha:c.args.toList=[x,y])(ht:c.argTypes.toList=[T,X]){s':AS}
  (he:(Uj P s o.dst T X (s.ev x) (s.ev y)).eval=aw s'):fq P o a w (gl C s'):=by
 obtain⟨cal,args,tys⟩:=c;simp only at hc ha ht;have ha':args= #[x,y]:=by apply gj;simpa using ha
 have ht':tys= #[T,X]:=by apply gj;simpa using ht
 subst hc ha' ht';have hx:=h.ev x;have hy:=h.ev y;have fin:∀z w',(Builtin.copy_ #[T,X] 0 #[a.eval x,a.eval y]).run P w= .ok z w'->(∃g' β',Inv C g' β' s' (a.put o.dst z) w')->fq P o a w (gl C s'):=by intro z w' h1 h2;refine .inl ⟨z,w',Ba ho (f:=Builtin.copy_ #[T,X] 0 #[a.eval x,a.eval y]) (λty cs xs ajU=> ?_) h1,h2⟩;subst ajU;have e1:Builtin.copy_ #[T,X] 0 #[a.eval x,a.eval y]=Builtin.copy_ #[T,X] ty #[a.eval x,a.eval y]:=rfl;rw[e1];simp[builtin]
 unfold Uj at he;split at he
 ·rename_i e t b id ver len IS ajU;obtain⟨hT,hz,i,zv,hi,aqs,azF,ajV,aqx⟩:=Bd IS;obtain⟨m,hm,he⟩:=ax.1 he;obtain⟨hX,news,w8,hlen,aBB⟩:=Rs h hy hm;have azI:=w8.length (λ_ _ hx=>cq.size hx);have h1news:∀u∈news,u.oneCell'=aW:=bp.all (λ_ _ hx=>hx.one) w8;rw[<-aqs]at aBB;split at he
  ·rename_i ve n t' l ko;obtain⟨h1,FL⟩:=aD.1 he;simp only[al,dp]at h1;obtain⟨avJ,aCy⟩:=h1;subst avJ aCy;obtain⟨l',hl',Tv⟩:=ax.1 FL;obtain⟨et,hl'⟩:=iY (gB.1 hl');have et':t'=t:=by simpa using et
   subst et';simp only at hl';subst hl';obtain⟨aDR,aDM⟩:=bO.1 Tv;have aDR:m.length<=len:=by simpa using aDR
   obtain rfl:=ay.1 aDM;have cQ:=dA ko;rw[ajU]at hx;obtain⟨ad,cap,at2,atZ,pc,UE,fH⟩:=sa hx;have fH:=fH ⟨aQ,_,cQ⟩;obtain⟨pl,cur,e0,hp,hh,hg,hk,hV⟩:=(h.bD id ve aQ _ cQ).box rfl;have hp:β id=aw pl:=hp;have hh:w.heap[pl.b]? =aw (.cells cur e0 (0,0)):=hh
   have hg:g pl.b= .own (.id id) 0:=hg;have hcur':(match β id with
    |some pl=>(0 < len\/0=0->ad=aw ⟨pl.b,0,aF⟩)/\(([.arr]:List C1)=[]->0=0->cap=pl.cap)
    |none=>ad=aF/\len=0/\cap=0):=fH
   rw[hp]at hcur';simp only at hcur';have akF:=hcur'.1 (.inr trivial);subst akF;have hV:V (s.env w g β) (.d (.arr len t') l) (cur.toList.take cur.size):=hV;rw[<-cG,bt]at hV;simp only[V,cq]at hV;obtain⟨aBD,hVc⟩:=hV;have atY:=hVc.length (λ_ _ hx=>cq.size hx);have adg:news.length<=cur.size:=by
    rw[azI];have:cur.size=l.length*t'.size:=by simpa using atY
    rw[this,aBD];exact cM _ aDR
   have uU:=run_storeCells_at P pl.b 0 e0 news 0 cur w hh (by simpa using adg) h1news;have pU:(Builtin.copy_ #[T,X] 0 #[a.eval x,a.eval y]).run P w= .ok (goInt m.length) (w.setRow pl.b (dq cur.toList 0 news).toArray):=by have aGY:Nat.min m.length len=m.length:=fS aDR;rw[at2];simp only[bM,aH]at uU;simp[Builtin.copy_,run_underlying hT,hlen,sizeOf,typeInfo,hi,aGY,aBB w rfl,uU,dq]
   have akP:=Trans.setRow w hg (dq cur.toList 0 news).toArray;have hle:cP (s.env w g β) ((s.aZ id (.obj ve aQ (.d (.arr len t') (m++l.drop m.length)))).env (w.setRow pl.b (dq cur.toList 0 news).toArray) g β):=cP.aZ cQ (az _) akP (λ_ _=>rfl) (λ_=>rfl);have i1:=h.step (c9 _ _ _) akP hle (iH.aZ (ajQ:=nF cQ λk v1 l e=>by cases e) h.bD (by rw[cQ];simp) hle (λ_ _=>rfl) (λi ver fr c pl2 hi YI SF=>⟨setRow_other w pl.b pl2.b _ (h.apart hg hi YI SF),rfl⟩) (Kd.obj ⟨pl,_,e0,hp,setRow_heap w pl.b cur _ e0 (0,0) hh,hg,trivial,by
    show V _ (.d (.arr len t') (m++l.drop m.length)) ((dq cur.toList 0 news).toArray.toList.take (dq cur.toList 0 news).toArray.size);rw[<-cG,bt];simp only[V,cq];refine⟨by rw[ai,da];omega,?_⟩;have e2:dq cur.toList 0 news=news++cur.toList.drop (m.length*t'.size):=by simp[dq,azI]
    have q:bp (cq (s.env w g β) t') (dq cur.toList 0 news) (m++l.drop m.length):=by rw[e2];exact bp.append w8 (bp.drop (λ_ _ hx=>cq.size hx) m.length hVc)
    exact q.mono λ_ _ hx=>hx.mono hle.mem⟩))
   exact fin _ _ pU ⟨g,β,i1.put o.dst ⟨[.int .i64 (m.length:Int)],by simp only[V,cq],rfl⟩⟩
  ·exact(av.1 he).elim
 ·exact(av.1 he).elim
theorem afO(h:Inv C g β s a w){c:Call}{x y:bH}{T X:TypeId}(ho:o.op= .call c)(hc:c.callee= .builtin .append)(ha:c.args.toList=[x,y])(ht:c.argTypes.toList=[T,X]){s':AS}
  {nl dt:Bool} (he:(xB P s nl dt o.dst T X (s.ev x) (s.ev y)).eval=aw s'):fq P o a w (gl C s'):=by
 obtain⟨cal,args,tys⟩:=c;simp only at hc ha ht;have ha':args= #[x,y]:=by apply gj;simpa using ha
 have ht':tys= #[T,X]:=by apply gj;simpa using ht
 subst hc ha' ht';have hx:=h.ev x;have hy:=h.ev y;have fin:∀z w',(Builtin.append_ #[T,X] 0 #[a.eval x,a.eval y]).run P w= .ok z w'->(∃g' β',Inv C g' β' s' (a.put o.dst z) w')->fq P o a w (gl C s'):=by intro z w' h1 h2;refine .inl ⟨z,w',Ba ho (f:=Builtin.append_ #[T,X] 0 #[a.eval x,a.eval y]) (λty cs xs ajU=> ?_) h1,h2⟩;subst ajU;have e1:Builtin.append_ #[T,X] 0 #[a.eval x,a.eval y]=Builtin.append_ #[T,X] ty #[a.eval x,a.eval y]:=rfl;rw[e1];simp[builtin]
 unfold xB at he;split at he
 ·rename_i e t b q IS hd;obtain⟨hT,hz,i,zv,hi,aqs,azF,ajV,aqx⟩:=qP IS;obtain⟨m,hm,he⟩:=ax.1 he;obtain⟨hX,news,w8,hlen,aBB⟩:=Rs h hy hm;have azI:=w8.length (λ_ _ hx=>cq.size hx);have h1news:∀u∈news,u.oneCell'=aW:=bp.all (λ_ _ hx=>hx.one) w8;rw[<-aqs]at aBB;have aD3:zv.cells.size=t.size:=by have:=(aqx (s.env w g β)).size;simpa using this
  have aHo:∀n,(Builtin.zeroCells zv.cells n).size=n*t.size:=λn=>by rw[zT,aD3]
  have grow:∀(ad:Option Addr) (sLen sCap:Nat) (dg:List Value) (l0:List t.den),a.eval x= .slice ad sLen sCap->dg.length=sLen*t.size->l0.length=sLen->bp (cq (s.env w g β) t) dg l0->
    (Builtin.firstCells i.size sLen (.slice ad sLen sCap)).run P w.drew= .ok dg.toArray w.drew->sCap < sLen+m.length->db (sLen+m.length) b=aW->
    ∃(cur:Array Value) (cap:Nat),(Builtin.append_ #[T,X] 0 #[a.eval x,a.eval y]).run P w= .ok (.slice (aw ⟨w.heap.size,0,aF⟩) (sLen+m.length) cap) (w.drew.alloc (.cells cur e))/\
     cur.size=cap*t.size/\sLen+m.length<=cap/\cap<=maxLen/\cur.toList.take ((sLen+m.length)*t.size)=dg++news:=by
   intro ad sLen sCap dg l0 at2 Q6 aE2 aEP aF6 Jh ajR;simp only[db,bh]at ajR;have hr:=Qs (P:=P) (w:=w) (ty:=0) hT hX hi ajV aF6 hlen (aBB w.drew rfl) Jh ak (by rw[azF];exact ajR.1);rw[at2];refine⟨_,_,hr,?_,grownCap_ge _ _ _ _,grownCap_le_maxLen _ _ _ _ (by unfold maxLen;omega),?_⟩
   ·have aLe:=grownCap_ge w (sLen+m.length) sCap e;simp only[Array.size_append,gm,aHo,Q6,azI,<-eG];congr 1;omega
   ·have YV:(dg++news).length=(sLen+m.length)*t.size:=by rw[ai,Q6,azI,eG]
    simp only[bZ];rw[<-YV];exact List.take_left
  split at he
  ·rename_i aKe;rw[aKe]at hx;have at2:=lD hx;cases dt with
   |true=>
    simp only at he;obtain⟨ajR,he⟩:=bO.1 he;obtain rfl:=ay.1 he;simp only[al,bh]at ajR;obtain⟨ajR,aDQ⟩:=ajR;obtain⟨cur,cap,hr,q1,q2,q3,q4⟩:=grow aF 0 0 [] [] at2 (by simp) rfl rfl rfl ak (by simpa using ajR);simp only[aH,aO]at hr q2 q4;have aGH:bp (cq (s.env w.drew g β) t) news m:=w8.mono λ_ _ hx=>hx.mono (cP.same (s:=s) (β:=β) (Trans.drew w g)).mem
    refine fin _ _ hr ⟨nX g w.heap.size .free,β,(h.drew.Ii (.cells cur e)).put o.dst ⟨[.slice (aw ⟨w.heap.size,0,aF⟩) m.length cap],?_,rfl⟩⟩;simp only[V,cq];refine⟨λh0=>(by cases h0),λm' hm'=> ?_⟩;obtain rfl:m=m':=bu hm';refine⟨_,cap,cur.toList.take (m.length*t.size),rfl,q2,λ_=>rfl,λj v hj=>⟨_,_,rfl,?_,?_⟩,?_⟩
    ·show(w.drew.alloc (.cells cur e)).cell? ⟨w.drew.heap.size,0+j,aF⟩=aw v;rw[World.cell?_alloc_new,aH];rw[cW]at hj;split at hj
     ·simpa using hj
     ·cases hj
    ·show kr (nX g w.heap.size .free) w.heap.size (0+j);unfold kr;rw[fk];trivial
    ·rw[q4];exact aGH.mono λ_ _ hx=>hx.mono (Trans.mem (E:=s.env w.drew g β) (E':=s.env (w.drew.alloc (.cells cur e)) (nX g w.drew.heap.size .free) β) (Trans.alloc w.drew g (.cells cur e) .free))
   |false=>
   simp only at he;obtain⟨hq,he⟩:=aD.1 he;obtain⟨ajR,he⟩:=bO.1 he;obtain rfl:=ay.1 he;by_cases aDQ:m.length=0
   ·have aGZ:m=[]:=bP aDQ;subst aGZ;have aqu:news=[]:=bP (by rw[azI];simp);subst aqu;obtain⟨β',i1,e1,v1⟩:=h.awq hq (e:=e) hz;refine fin (.slice aF 0 0) w ?_ ⟨g,β',?_⟩
    ·rw[at2];exact Fj (P:=P) hT hX hi hlen (aBB w rfl)
    ·exact i1.put o.dst v1
   ·obtain⟨cur,cap,hr,q1,q2,q3,q4⟩:=grow aF 0 0 [] [] at2 (by simp) rfl rfl rfl ak (by simpa using ajR);simp only[aH,aO]at hr q2 q4;obtain⟨g2,β2,i2,v2⟩:=(h.drew).adL hq (e:=e) (l:=m) (cur:=cur) (cap:=cap) hz (by rw[q4];exact w8.mono λ_ _ hx=>hx.mono (cP.same (s:=s) (β:=β) (Trans.drew w g)).mem) q1 q2 q3;refine fin _ _ hr ⟨g2,β2,?_⟩;exact i2.put o.dst v2
  ·rename_i id ver len ajU;rw[ajU]at hx;obtain⟨ad,cap,at2,atZ,pc,UE,fH⟩:=sa hx;split at he
   ·rename_i v fr e' t' l ko;obtain⟨h1,FL⟩:=aD.1 he;clear he;simp only[al,dp]at h1;obtain⟨avJ,aJJ⟩:=h1;subst avJ aJJ;obtain⟨l',hl',Tv⟩:=ax.1 FL;obtain⟨et,hl'⟩:=iY (gB.1 hl');have et':t'=t:=by simpa using et
    subst et';simp only at hl';subst hl';obtain⟨azG,aES⟩:=bO.1 Tv;have azG:len<=l.length:=by simpa using azG
    obtain⟨aI8,aDM⟩:=bO.1 aES;obtain⟨ajR,aI7⟩:=bO.1 aDM;obtain rfl:=ay.1 aI7;clear FL Tv aES aDM aI7;have cQ:=dA ko;have fH:=fH ⟨fr,_,cQ⟩;obtain⟨_,hO⟩:=h.bD id v fr _ cQ;have hO':(match β id with
     |none=>l=[]
     |some pl=>∃cur k,w.heap[pl.b]? =aw (.cells cur e (0,0))/\cur.size=pl.cap*t'.size/\l.length<=pl.cap/\pl.cap<=maxLen/\g pl.b= .own (.id id) k/\
       k<=l.length*t'.size/\(fr=aQ->k=0)/\bp (cq (s.env w g β) t') (cur.toList.take (l.length*t'.size)) l):=hO
    have hcur':(match β id with
     |some pl=>(0 < len\/0=0->ad=aw ⟨pl.b,0,aF⟩)/\(([]:List C1)=[]->0=0->cap=pl.cap)
     |none=>ad=aF/\len=0/\cap=0):=fH
    have azE:fr=aQ\/len=l.length:=by simp only[ju,cD,bh]at aI8;exact aI8
    have jR:s.bV id≠aF:=by rw[cQ];simp
    have fresh:∀(cur:Array Value) (cp:Nat) (g0:Nat->iF),Trans w (w.drew.alloc (.cells cur e)) g (nX g0 w.heap.size (.own (.id (id)) 0))->
      (∀i ver fr c pl,i≠id->s.bV i=aw (.obj ver fr c)->β i=aw pl->g0 pl.b=g pl.b)->cur.size=cp*t'.size->len+m.length<=cp->cp<=maxLen->
      bp (cq (s.env w g β) t') (cur.toList.take ((len+m.length)*t'.size)) (l.take len++m)->len<=l.length->
      ∃g' β',Inv C g' β' ((s.aZ id (.obj (v+1) fr (.vec e t' (l.take len++m)))).put o.dst (.dx id (v+1) [] 0 0 (len+m.length))) (a.put o.dst (.slice (aw ⟨w.heap.size,0,aF⟩) (len+m.length) cp)) (w.drew.alloc (.cells cur e)):=by
     intro cur cp g0 ht aF7 q1 q2 q3 q4 q5;have aBD:(l.take len++m).length=len+m.length:=by simp;omega
     have hle:cP (s.env w g β) ((s.aZ id (.obj (v+1) fr (.vec e t' (l.take len++m)))).env (w.drew.alloc (.cells cur e)) (nX g0 w.heap.size (.own (.id id) 0)) (Ic β id (aw ⟨w.heap.size,cp⟩))):=
      cP.aZ cQ ak ht (λi hi=>zQ _ _ _ hi) (λhh=>ak)
     have i1:=h.step (c9 _ _ _) ht hle (iH.aZ (ajQ:=nF cQ λk v1 l e=>by cases e) h.bD jR hle (λi hi=>zQ _ _ _ hi) (λi ver fr' c' pl hi YI SF=>by
       have jQ:pl.b < w.heap.size:=((h.bD i ver fr' c' YI).label (pl:=pl) SF).1;exact⟨qO w.drew _ jQ,by rw[fy _ _ _ ak];exact aF7 i ver fr' c' pl hi YI SF⟩) (by
      refine⟨hz,?_⟩;show(match Ic β id (aw ⟨w.heap.size,cp⟩) id with
       |none=>(l.take len++m)=[]
       |some pl=>_)
      rw[kh];refine⟨cur,0,tq w.drew _,q1,by rw[aBD];exact q2,q3,fk _ _ _,aL _,λ_=>rfl,?_⟩;rw[aBD];exact q4.mono λ_ _ hx=>hx.mono hle.mem))
     refine⟨_,_,i1.put o.dst ⟨_,?_,rfl⟩⟩;simp only[V];have mX:=eg s id (.obj (v+1) fr (.vec e t' (l.take len++m))) jR;refine⟨_,_,rfl,q2,λ_=>rfl,⟨by show(s.aZ id _).bV id≠aF;rw[mX];simp,λv' fr' c' hh=> ?_⟩,λ_=> ?_⟩
     ·have hh':(s.aZ id (.obj (v+1) fr (.vec e t' (l.take len++m)))).bV id=aw (.obj v' fr' c'):=hh;rw[mX]at hh';simp only[aA,dP.obj.injEq]at hh';omega
     ·show(match Ic β id (aw ⟨w.heap.size,cp⟩) id with
       |some pl=>_
       |none=>_)
      rw[kh];exact⟨λ_=>rfl,λ_ _=>rfl⟩
    cases hp:β id with
    |none=>
     rw[hp]at hO' hcur';simp only at hO' hcur';obtain⟨rfl,rfl,rfl⟩:=hcur';subst hO';by_cases aDQ:m.length=0
     ·have aGZ:m=[]:=bP aDQ;subst aGZ;have aqu:news=[]:=bP (by rw[azI];simp);subst aqu;have ht:=Trans.refl w g;have hle:cP (s.env w g β) ((s.aZ id (.obj (v+1) fr (.vec e t' []))).env w g β):=cP.aZ cQ ak ht (λ_ _=>rfl) (λ_=>rfl);have i1:=h.step (c9 _ _ _) ht hle (iH.aZ (ajQ:=nF cQ λk v1 l e=>by cases e) h.bD jR hle (λ_ _=>rfl) (λ_ _ _ _ _ _ _ _=>⟨rfl,rfl⟩) (by
       refine⟨hz,?_⟩;show(match β id with
        |none=>([]:List t'.den)=[]
        |some pl=>_)
       rw[hp]))
      refine fin (.slice aF 0 0) w ?_ ⟨g,β,i1.put o.dst ⟨_,?_,rfl⟩⟩
      ·rw[at2];exact Fj (P:=P) hT hX hi hlen (aBB w rfl)
      ·simp only[V];have mX:=eg s id (.obj (v+1) fr (.vec e t' [])) jR;refine⟨_,_,rfl,az _,λhh=>by simp at hh,⟨by show(s.aZ id _).bV id≠aF;rw[mX];simp,λv' fr' c' hh=> ?_⟩,λ_=> ?_⟩
       ·have hh':(s.aZ id (.obj (v+1) fr (.vec e t' []))).bV id=aw (.obj v' fr' c'):=hh;rw[mX]at hh';simp only[aA,dP.obj.injEq]at hh';omega
       ·show(match β id with
         |some pl=>_
         |none=>_)
        rw[hp];exact⟨rfl,by simp,rfl⟩
     ·obtain⟨cur,cp,hr,q1,q2,q3,q4⟩:=grow aF 0 0 [] [] at2 (by simp) rfl rfl rfl ak ajR;refine fin _ _ hr (fresh cur cp g (Trans.trans (Trans.drew w g) (Trans.alloc w.drew g _ _)) (λ_ _ _ _ _ _ _ _=>rfl) q1 q2 q3 ?_ (by simp));rw[q4];simpa using w8
    |some pl=>
     rw[hp]at hO' hcur';simp only at hO' hcur';obtain⟨akF,Ph⟩:=hcur';have akF:=akF (.inr trivial);have Ph:=Ph trivial trivial;subst akF Ph;obtain⟨cur,k,p1,p2,p3,p4,p5,p6,p7,p8⟩:=hO';have hk:k<=len*t'.size:=by
      rcases azE with hf | hf
      ·rw[p7 hf];exact aL _
      ·rw[hf];exact p6
     have hmul:len*t'.size<=l.length*t'.size:=cM _ azG;have aJi:l.length*t'.size<=cur.size:=by rw[p2];exact cM _ p3
     have aCE:=bp.take (λ_ _ hx=>cq.size hx) len p8;rw[mC,fS hmul]at aCE;have Q6:(cur.toList.take (len*t'.size)).length=len*t'.size:=by simp;omega
     by_cases Jh:len+m.length<=pl.cap
     ·have aJ4:(len+m.length)*t'.size<=cur.size:=by rw[p2];exact cM _ Jh
      have adg:len*i.size+news.length<=cur.size:=by rw[aqs,azI,<-eG];exact aJ4
      have hr:=Qt (P:=P) (w:=w) (ty:=0) hT hX hi p1 h1news hlen (aBB w rfl) Jh adg;rw[aqs]at hr adg;have ht:Trans w (w.setRow pl.b (dq cur.toList (len*t'.size) news).toArray) g g:=by
       refine⟨by simp,by simp,by simp,by simp,λb' hb=> ?_⟩;by_cases YU:b'=pl.b
       ·subst YU;rw[p5];refine⟨.inr (.inr ⟨id,k,rfl,az _⟩),λoff u azK hu=> ?_⟩;rw[cell_of_row w pl.b off cur e (0,0) p1]at hu;rw[cell_setRow_same w pl.b off cur _ e (0,0) p1];simp only[dq,aC,List.getElem?_toArray];rw[iy (by rw[Q6];omega),cW,if_pos ak];simpa using hu
       ·rw[setRow_other w pl.b b' _ YU];cases IT:g b' with
        |free=>exact⟨rfl,rfl⟩
        |own o' k=>cases o' with
         |dT=>exact⟨rfl,rfl⟩
         |id i'=>exact⟨.inr (.inr ⟨i',k,rfl,az _⟩),λoff v _ hv=>by rw[cell_setRow_other w pl.b _ _ YU];exact hv⟩
        |fresh=>exact .inl ⟨rfl,rfl⟩
        |gg=>exact⟨rfl,λcur e h=>⟨cur,h,rfl⟩⟩
      have hle:cP (s.env w g β) ((s.aZ id (.obj (v+1) fr (.vec e t' (l.take len++m)))).env (w.setRow pl.b (dq cur.toList (len*t'.size) news).toArray) g β):=
       cP.aZ cQ ak ht (λ_ _=>rfl) (λ_=>rfl)
      have aBD:(l.take len++m).length=len+m.length:=by simp;omega
      have aHf:(dq cur.toList (len*t'.size) news).length=cur.toList.length:=iS (by simpa using adg);have i1:=h.step (c9 _ _ _) ht hle (iH.aZ (ajQ:=nF cQ λk v1 l e=>by cases e) h.bD jR hle (λ_ _=>rfl) (λi ver fr c pl2 hi YI SF=>⟨setRow_other w pl.b pl2.b _ (h.apart p5 hi YI SF),rfl⟩) (by
       refine⟨hz,?_⟩;show(match β id with
        |none=>(l.take len++m)=[]
        |some pl=>_)
       rw[hp];refine⟨_,k,setRow_heap w pl.b cur _ e (0,0) p1,by rw[gm,aHf];simpa using p2,by rw[aBD];exact Jh,p4,p5,?_,p7,?_⟩
       ·rw[aBD,eG];omega
       ·rw[aBD,show(dq cur.toList (len*t'.size) news).toArray.toList=dq cur.toList (len*t'.size) news from rfl];have e1:(dq cur.toList (len*t'.size) news).take ((len+m.length)*t'.size)=cur.toList.take (len*t'.size)++news:=by
         unfold dq;have YV:(cur.toList.take (len*t'.size)++news).length=(len+m.length)*t'.size:=by rw[ai,Q6,azI,eG]
         rw[<-YV];exact List.take_left
        rw[e1];exact(bp.append aCE w8).mono λ_ _ hx=>hx.mono hle.mem))
      rw[<-at2]at hr;refine fin _ _ hr ⟨g,β,i1.put o.dst ⟨_,?_,rfl⟩⟩;simp only[V];have mX:=eg s id (.obj (v+1) fr (.vec e t' (l.take len++m))) jR;refine⟨_,_,rfl,Jh,λ_=>rfl,⟨by show(s.aZ id _).bV id≠aF;rw[mX];simp,λv' fr' c' hh=> ?_⟩,λ_=> ?_⟩
      ·have hh':(s.aZ id (.obj (v+1) fr (.vec e t' (l.take len++m)))).bV id=aw (.obj v' fr' c'):=hh;rw[mX]at hh';simp only[aA,dP.obj.injEq]at hh';omega
      ·show(match β id with
        |some pl=>_
        |none=>_)
       rw[hp];exact⟨λ_=>rfl,λ_ _=>rfl⟩
     ·have aF6:(Builtin.firstCells i.size len (.slice (aw ⟨pl.b,0,aF⟩) len pl.cap)).run P w.drew= .ok (cur.toList.take (len*t'.size)).toArray w.drew:=by
       refine run_firstCells_some (P:=P) w.drew i.size _ _ _ _ _ (by rw[Q6,aqs]) (λj u hj=> ?_);rw[eO,aH];show w.cell? ⟨pl.b,j,aF⟩=aw u;rw[cell_of_row w pl.b j cur e (0,0) p1];rw[cW]at hj;split at hj
       ·simpa using hj
       ·cases hj
      obtain⟨cur2,cp,hr,q1,q2,q3,q4⟩:=grow (aw ⟨pl.b,0,aF⟩) len pl.cap (cur.toList.take (len*t'.size)) (l.take len) at2 Q6 (by simp;omega) aCE aF6 ak ajR;have jQ:pl.b < w.heap.size:=(bY.1 p1).1;have aot:Trans w w.drew g (nX g pl.b .free):=by
       refine⟨rfl,rfl,⟨rfl,Nat.le_succ _⟩,az _,λb' hb=> ?_⟩;by_cases YU:b'=pl.b
       ·subst YU;rw[p5,fk];exact⟨.inl rfl,λ_ _ _ hh=>hh⟩
       ·rw[fy _ _ _ YU];exact(Trans.drew w g).YM b' hb
      refine fin _ _ hr (fresh cur2 cp (nX g pl.b .free) (Trans.trans aot (Trans.alloc w.drew _ _ _)) (λi ver fr c pl2 hi YI SF=>fy _ _ _ (h.apart p5 hi YI SF)) q1 q2 q3 ?_ azG);rw[q4];exact bp.append aCE w8
   ·simp only[av]at he
  ·simp only[av]at he
 ·simp only[av]at he
end
end Go.Ab
namespace Go.Ab
abbrev TY:=Id->Nat->Option (Id×Nat)
structure QO(ρ:TY)(E E':Env):Prop where
 mem:sM E E'
 ref:∀id ver r,ρ id ver=aw r->E.yK id ver->E'.yK r.1 r.2/\(E'.cur r.1 r.2->E.cur id ver/\E'.β r.1=E.β id)
structure EF(ρ:TY)(E E':Env):Prop where
 mem:wy E E'
 ref:∀id ver r,ρ id ver=aw r->E.yK id ver->E'.yK r.1 r.2/\(E'.cur r.1 r.2->E.cur id ver/\E'.β r.1=E.β id)
theorem EF.l0{ρ:TY}{E E':Env}(h:EF ρ E E'):QO ρ E E':=⟨h.mem.tosM,h.ref⟩
theorem ao5(ρ:TY)(a:aB):(a.iI ρ).agg=a.agg:=by
 cases a with
 |ptr id v p n=>simp only[aB.iI];cases ρ id v <;> rfl
 |dx id v p c i l=>simp only[aB.iI];cases ρ id v <;> rfl
 |sG id v=>simp only[aB.iI];cases ρ id v <;> rfl
 |yl id v=>simp only[aB.iI];cases ρ id v <;> rfl
 |_=>rfl
mutual
theorem T0{ρ:TY}{E E':Env}(h:QO ρ E E'):∀ {a:aB} (_:a.pj=aW\/Ke E E') {cs:List Value},V E a cs->V E' (a.iI ρ) cs
 | .undef,hn,_,hv=>by simp only[V]at hv
 | .gone,hn,_,hv=>by simpa only[aB.iI,V]using hv
 | .cw,hn,_,hv=>by simpa only[aB.iI,V]using hv
 | .kq,hn,_,hv=>by simpa only[aB.iI,V]using hv
 | .vh,hn,_,hv=>by simpa only[aB.iI,V]using hv
 | .zZ,hn,_,hv=>by simpa only[aB.iI,V]using hv
 | .sb l,hn,_,hv=>by simp only[aB.iI,V]at hv ⊢;obtain⟨b,cap,arr,e,h1,h2,h3,h4,h5⟩:=hv;obtain⟨h6,h7⟩:=h.mem.fz b _ h3 h4;exact⟨b,cap,arr,e,h1,h2,h6,h7,h5⟩
 | .d t x,hn,_,hv=>by simp only[aB.iI,V]at hv ⊢;exact hv.gU h.mem (by simpa only[aB.pj]using hn)
 | .pr a b,hn,_,hv=>by simp only[aB.iI,V]at hv ⊢;obtain⟨ca,cb,e,ha,hb⟩:=hv;simp only[aB.pj,al]at hn;exact⟨ca,cb,e,T0 h (hn.imp And.left id) ha,T0 h (hn.imp And.right id) hb⟩
 | .ptr id ver p n,hn,_,hv=>by
  have h1:=hv.one;simp only[aB.iI];cases hr:ρ id ver with
  |none=>
   simp only[V]at hv ⊢;obtain⟨a,e,_⟩:=hv;exact⟨_,e,h1 _ (by simp[e])⟩
  |some r=>
   simp only[V]at hv ⊢;obtain⟨a,e,hb,hc⟩:=hv;obtain⟨b1,b2⟩:=h.ref id ver r hr hb;refine⟨a,e,b1,λc=> ?_⟩;obtain⟨c1,e1⟩:=b2 c;rw[e1];exact hc c1
 | .dB t x,hn,_,hv=>by simp only[aB.iI,V]at hv ⊢;obtain⟨b,off,vs,e,hr,hx⟩:=hv;exact⟨b,off,vs,e,hr.mono h.mem,hx.gU h.mem (by simpa only[aB.pj]using hn)⟩
 | .dx id ver p c i len,hn,_,hv=>by
  have h1:=hv.one;simp only[aB.iI];cases hr:ρ id ver with
  |none=>
   simp only[V]at hv ⊢;obtain⟨a,cap,e,_⟩:=hv;exact⟨_,e,h1 _ (by simp[e])⟩
  |some r=>
   simp only[V]at hv ⊢;obtain⟨a,cap,e,hl,hs,hb,hc⟩:=hv;obtain⟨b1,b2⟩:=h.ref id ver r hr hb;refine⟨a,cap,e,hl,hs,b1,λc=> ?_⟩;obtain⟨c1,e1⟩:=b2 c;rw[e1];exact hc c1
 | .fn f c,hn,_,hv=>by simp only[aB.iI,V]at hv ⊢;obtain⟨vs,e,hc⟩:=hv;exact⟨vs,e,acy h (by simpa only[aB.pj]using hn) hc⟩
 | .cons _ _,hn,_,hv=>by simp only[V]at hv
 | .nil,hn,_,hv=>by simp only[V]at hv
 | .vec ..,hn,_,hv=>by simp only[V]at hv
 | .bx ..,hn,_,hv=>by simp only[V]at hv
 | .yl id ver,hn,_,hv=>by
  have h1:=hv.one;simp only[aB.iI];cases hr:ρ id ver with
  |none=>
   simp only[V]at hv ⊢;obtain⟨b,e,_⟩:=hv;exact⟨_,e,h1 _ (by simp[e])⟩
  |some r=>
   simp only[V]at hv ⊢;obtain⟨b,e,hb,hc⟩:=hv;obtain⟨b1,b2⟩:=h.ref id ver r hr hb;refine⟨b,e,b1,λc=> ?_⟩;obtain⟨c1,e1⟩:=b2 c;rw[e1];exact hc c1
 | .sG id ver,hn,_,hv=>by
  have h1:=hv.one;simp only[aB.iI];cases hr:ρ id ver with
  |none=>
   simp only[V]at hv ⊢;obtain⟨b,e,_⟩:=hv;exact⟨_,e,h1 _ (by simp[e])⟩
  |some r=>
   simp only[V]at hv ⊢;obtain⟨b,e,hb,hc⟩:=hv;obtain⟨b1,b2⟩:=h.ref id ver r hr hb;refine⟨b,e,b1,λc=> ?_⟩;obtain⟨c1,e1⟩:=b2 c;rw[e1];exact hc c1
 | .mp ..,hn,_,hv | .rA ..,hn,_,hv | .xx ..,hn,_,hv=>by simp only[V]at hv
theorem acy{ρ:TY}{E E':Env}(h:QO ρ E E'):∀ {a:aB} (_:a.pj=aW\/Ke E E') {vs:List Value},VC E a vs->VC E' (a.iI ρ) vs
 | .nil,hn,_,hv=>by simpa only[aB.iI,VC]using hv
 | .cons a b,hn,_,hv=>by simp only[aB.iI,VC]at hv ⊢;obtain⟨v,vs',cs,e,ha,ho,hb⟩:=hv;simp only[aB.pj,al]at hn;exact⟨v,vs',cs,e,T0 h (hn.imp And.left id) ha,by rw[ao5];exact ho,acy h (hn.imp And.right id) hb⟩
 | .undef,hn,_,hv=>by simp only[VC]at hv
 | .gone,hn,_,hv=>by simp only[VC]at hv
 | .cw,hn,_,hv=>by simp only[VC]at hv
 | .kq,hn,_,hv=>by simp only[VC]at hv
 | .vh,hn,_,hv=>by simp only[VC]at hv
 | .yl ..,hn,_,hv | .xx ..,hn,_,hv=>by simp only[VC]at hv
 | .zZ,hn,_,hv=>by simp only[VC]at hv
 | .sb _,hn,_,hv=>by simp only[VC]at hv
 | .d t x,hn,_,hv=>by simp only[VC]at hv
 | .pr a b,hn,_,hv=>by simp only[VC]at hv
 | .ptr ..,hn,_,hv=>by simp only[VC]at hv
 | .dB ..,hn,_,hv=>by simp only[VC]at hv
 | .dx ..,hn,_,hv=>by simp only[VC]at hv
 | .fn ..,hn,_,hv=>by simp only[VC]at hv
 | .vec ..,hn,_,hv=>by simp only[VC]at hv
 | .bx ..,hn,_,hv=>by simp only[VC]at hv
 | .sG ..,hn,_,hv=>by simp only[VC]at hv
 | .mp ..,hn,_,hv | .rA ..,hn,_,hv=>by simp only[VC]at hv
end
theorem acz{ρ:TY}{E E':Env}(h:QO ρ E E'){a:aB}(hn:a.pj=aW\/Ke E E'){v:Value}(hv:VS E a v):VS E' (a.iI ρ) v:=by
 by_cases hc:a.ee=aW
 ·obtain⟨cs,h1,h2⟩:=hv.ee hc;exact VS.of (T0 h hn h1) (by rw[ao5];exact h2)
 ·cases a <;> first | (exact absurd rfl hc) | skip
  ·trivial
  ·obtain⟨vs,e,aBJ⟩:=hv;have:=acy h hn aBJ;simp only[aB.iI]at this ⊢;exact⟨vs,e,this⟩
  ·exact hv
  ·obtain⟨cs,h1,_⟩:=hv;simp only[V]at h1
  ·obtain⟨cs,h1,_⟩:=hv;simp only[V]at h1
  ·obtain⟨cs,h1,_⟩:=hv;simp only[V]at h1
  ·obtain⟨cs,h1,_⟩:=hv;simp only[V]at h1
  ·obtain⟨cs,h1,_⟩:=hv;simp only[V]at h1
theorem OT{ρ:TY}{E E':Env}(h:EF ρ E E'){a:aB}{v:Value}(hv:VS E a v):VS E' (a.iI ρ) v:=acz h.l0 (.inr h.mem.fr) hv
theorem W9(ρ:TY):∀f:aB,(f.iI ρ).list=f.list.map (aB.iI ρ)
 | .cons a b=>by simp only[aB.iI,aB.list,bS,W9 ρ b]
 | .undef | .gone | .cw | .kq | .vh | .zZ | .d _ _ | .dB _ _ | .fn _ _ | .pr _ _ | .nil | .vec .. | .sb _ | .bx .. | .mp .. | .rA .. | .xx .. =>rfl
 | .ptr id ver p n=>by simp only[aB.iI];cases ρ id ver <;> rfl
 | .dx id ver p c i len=>by simp only[aB.iI];cases ρ id ver <;> rfl
 | .sG id ver=>by simp only[aB.iI];cases ρ id ver <;> rfl
 | .yl id ver=>by simp only[aB.iI];cases ρ id ver <;> rfl
theorem ahk:∀ {f:aB},f.pj=aW->∀x∈f.list,x.pj=aW
 | .cons a b,h,x,hx=>by
  simp only[aB.pj,al]at h;simp only[aB.list,cz]at hx;rcases hx with rfl | hx
  ·exact h.1
  ·exact ahk h.2 x hx
 | .undef,_,_,hx | .gone,_,_,hx | .cw,_,_,hx | .kq,_,_,hx | .vh,_,_,hx | .zZ,_,_,hx | .d _ _,_,_,hx | .dB _ _,_,_,hx | .fn _ _,_,_,hx | .pr _ _,_,_,hx | .nil,_,_,hx | .vec ..,_,_,hx
 | .sb _,_,_,hx | .bx ..,_,_,hx | .mp ..,_,_,hx | .rA ..,_,_,hx | .xx ..,_,_,hx | .ptr ..,_,_,hx | .dx ..,_,_,hx | .sG ..,_,_,hx | .yl ..,_,_,hx=>by simp[aB.list]at hx
theorem aC5{f:aB}(h:f.pj=aW)(i:Nat):(f.list.getD i .undef).pj=aW:=by
 rw[aK];cases hi:f.list[i]? with
 |none=>rfl
 |some x=>exact ahk h x (cE hi)
theorem aj0{ρ:TY}{E E':Env}(h:QO ρ E E'){f:aB}(hn:f.pj=aW\/Ke E E'){tmps:Array Value}(hs:C0 E f tmps):C0 E' (f.iI ρ) tmps:=by
 refine⟨by rw[W9,bR];exact hs.1,λi=> ?_⟩;have:=acz h (hn.imp (λx=>aC5 x i) id) (hs.2 i);rw[W9,aK,dK];rw[aK]at this;cases hi:f.list[i]? with
 |none=>exact VS.undef
 |some x=>rw[hi]at this;exact this
theorem asG(ρ:TY)(c:aB):(c.iI ρ).strip=c.strip.iI ρ:=by
 cases c <;> first
  |rfl
  | (rename_i id ver p n;simp only[aB.strip,aB.iI];cases ρ id ver <;> rfl)
  | (rename_i id ver p c i len;simp only[aB.strip,aB.iI];cases ρ id ver <;> rfl)
  | (rename_i i v;simp only[aB.strip,aB.iI];cases ρ i v <;> rfl)
theorem Oe(ρ:TY):∀c:aB,(c.iI ρ).size=c.size
 | .pr a b=>by simp only[aB.iI,aB.size,Oe ρ a,Oe ρ b]
 | .ptr id ver p n=>by simp only[aB.iI];cases ρ id ver <;> rfl
 | .dx id ver p c i len=>by simp only[aB.iI];cases ρ id ver <;> rfl
 | .sG id ver=>by simp only[aB.iI];cases ρ id ver <;> rfl
 | .undef | .gone | .cw | .kq | .vh | .zZ | .d _ _ | .dB _ _ | .fn _ _ | .cons _ _ | .nil | .vec .. | .sb _ | .bx .. | .mp .. | .rA .. | .xx .. =>rfl
 | .yl id ver=>by simp only[aB.iI];cases ρ id ver <;> rfl
theorem auo(ρ:TY){c:aB}(n:Nat):(c.iI ρ).tg n=c.tg n:=by
 cases c with
 |bx e z c=>cases z with
  |zero=>rfl
  |succ z=>exact Oe ρ c
 |_=>first | rfl | (simp only[aB.iI];split <;> rfl)
theorem apB(ρ:TY){c:aB}{pl:Pl}{n:Nat}{e:TypeId}(h:c.FX pl n e):(c.iI ρ).FX pl n e:=by
  cases c <;> first
    | (rename_i e' z c;cases z with
       |zero=>exact h
       |succ z=>exact⟨h.1,h.2.1,h.2.2.1,by rw[Oe];exact h.2.2.2⟩)
    |exact h
    |trivial
    | (rename_i id ver p n;simp only[aB.iI];cases ρ id ver <;> trivial)
    | (rename_i id ver p c i len;simp only[aB.iI];cases ρ id ver <;> trivial)
    | (rename_i i v;simp only[aB.iI];cases ρ i v <;> trivial)
theorem aax{ρ:TY}{E E':Env}(h:QO ρ E E'){id id':Id}{fr:Bool}{c:aB}(aqu:c.pj=aW\/Ke E E')(ho:tp E id fr c)(hβ:E'.β id'=E.β id)
  (hb:∀pl,E.β id=aw pl->E'.w.heap[pl.b]? =E.w.heap[pl.b]? /\(∀k,E.g pl.b= .own (.id id) k->E'.g pl.b= .own (.id id') k)/\(E.g pl.b= .free->E'.g pl.b= .free)):tp E' id' fr (c.iI ρ):=by
 by_cases hn:c.gI=aQ
 ·obtain⟨pl,cur,e,h1,h2,h3,h5,h4⟩:=ho.box hn;obtain⟨b1,b2,b3⟩:=hb pl h1;have h6:=T0 h (aqu.imp (λx=>by cases c <;> exact x) λx=>x) h4;refine Kd.obj ⟨pl,cur,e,by rw[hβ,h1],by rw[b1,h2],?_,apB ρ h5,by rw[asG,auo];exact h6⟩;cases fr with
  |true=>exact b3 h3
  |false=>exact b2 0 h3
 ·cases c <;> first
   | (exact absurd rfl hn)
   |skip
  rotate_left;rotate_left
  ·obtain⟨pl,mb,since,seen,c0,h1,h2,h3,_⟩:=ho;obtain⟨b1,b2,_⟩:=hb pl h1;exact⟨pl,mb,since,seen,c0,by rw[hβ,h1],by rw[b1,h2],b2 0 h3,λvr ajT=>by cases ajT⟩
  ·obtain⟨pl,r,h1,h2,h3,h4,h5,h6⟩:=ho;obtain⟨b1,b2,_⟩:=hb pl h1;exact⟨pl,r,by rw[hβ,h1],by rw[b1,h2],b2 0 h3,h4,aj0 h (by simpa only[aB.pj]using aqu) h5,h6⟩
  rotate_left
  ·obtain⟨pl,es,clock,h1,h2,h3,h4⟩:=ho;obtain⟨b1,b2,_⟩:=hb pl h1;exact⟨pl,es,clock,by rw[hβ,h1],by rw[b1,h2],b2 0 h3,⟨h4.1.1.gU h.mem (aqu.imp (λx=>(by simp only[aB.pj,al]at x;exact x.1)) λx=>x) (aqu.imp (λx=>(by simp only[aB.pj,al]at x;exact x.2)) λx=>x),h4.1.2⟩,h4.2⟩
  rename_i e t l;obtain⟨hz,ho⟩:=ho;refine⟨hz,?_⟩;rw[hβ];cases hp:E.β id with
  |none=>rw[hp]at ho;exact ho
  |some pl=>
   rw[hp]at ho;simp only at ho ⊢;obtain⟨b1,b2,_⟩:=hb pl hp;obtain⟨cur,k,h1,h2,h3,h4,h5,h6,h7,h8⟩:=ho;exact⟨cur,k,by rw[b1,h1],h2,h3,h4,b2 k h5,h6,h7,h8.mono λc x hx=>hx.gU h.mem aqu⟩
theorem yN{ρ:TY}{E E':Env}(h:EF ρ E E'){id id':Id}{fr:Bool}{c:aB}(ho:tp E id fr c)(hβ:E'.β id'=E.β id)(hb:∀pl,E.β id=aw pl->E'.w.heap[pl.b]? =E.w.heap[pl.b]? /\(∀k,E.g pl.b= .own (.id id) k->E'.g pl.b= .own (.id id') k)/\(E.g pl.b= .free->E'.g pl.b= .free)):tp E' id' fr (c.iI ρ):=aax h.l0 (.inr h.mem.fr) ho hβ hb
def EG(E:Env):List aB->List Value->Prop
 |[],[]=>True
 |a::as,v::vs=>VS E a v/\EG E as vs
 |_,_=>False
def oH.st(G:oH):AS:= {ck:=[],dg:=G.dg,news:=[G.news]}
def lZ(dg:List dP):AS:= {ck:=[],dg,news:=[]}
def FM(E:Env)(G:oH)(v:Value)(w':cj):Prop:=∃g' β',VS (G.st.env w' g' β') G.val v/\iH (G.st.env w' g' β')/\kU aQ E.w w' E.g g'/\z8 E (G.st.env w' g' β')
def A7(P:aR)(f:jF)(en:Entry):Prop:=∀w g β args dg qM x,EG ((lZ dg).env w g β) args qM->iH ((lZ dg).env w g β)->en.run args dg=aw x->((callFunc f qM.toArray).run P w= .ok (.enter f qM.toArray) w/\Calls P f qM.toArray w λe w'=>∃v,e= .returned v/\FM ((lZ dg).env w g β) (en.out args dg x) v w')\/(∃v w',(callFunc f qM.toArray).run P w= .ok (.value v) w'/\FM ((lZ dg).env w g β) (en.out args dg x) v w')
def aEe(P:aR)(y:Nat)(en:Entry):Prop:=∀w g β args dg qM x,EG ((lZ dg).env w g β) args qM->iH ((lZ dg).env w g β)->en.run args dg=aw x->∀l us ts f rd n,qM= .func (.yield l) #[] #[]::(us++ts)->us.length=(amV P y).ps.size->RoundIn (Fr rd) n P l f (((amV P y).ps.zip us.toArray).foldl (λtmps (t,a)=>tmps.setIfInBounds t a) ts.toArray) (amV P y).as (amV P y).b w λe w'=>∃v,e= .returned v/\FM ((lZ dg).env w g β) (en.out args dg x) v w'
def at6(P:aR)(f:jF)(en:Entry):Prop:=∀w g β args dg qM,EG ((lZ dg).env w g β) args qM->iH ((lZ dg).env w g β)->(∃x,en.set args dg x)->(callFunc f qM.toArray).run P w= .ok (.enter f qM.toArray) w/\Calls P f qM.toArray w λe w'=>∃v x,e= .returned v/\en.set args dg x/\FM ((lZ dg).env w g β) (en.out args dg x) v w'
def LP(P:aR)(f:Nat)(en:Entry):Prop:=(Nat.blt f yB=aW->A7 P f en)/\(Nat.ble yB f=aW->aEe P f en)/\(Nat.blt f yB=aW->at6 P f en)
theorem LP.no{f:Nat}(h1:Nat.blt f yB=aW)(h2:Nat.ble yB f=aW):False:=iM _ (Nat.lt_of_lt_of_le (gz h1) (gz h2))
theorem LP.of{P:aR}{f:jF}{en:Entry}(h:A7 P f en)(hf:Nat.blt f yB=aW)(hs:∀a o x,¬en.set a o x:=by exact λ_ _ _ h=>h):LP P f en:=
 ⟨λ_=>h,λh2=>(LP.no hf h2).elim,λ_ _ _ _ _ _ _ _ _ ⟨x,hx⟩=>(hs _ _ x hx).elim⟩
def Sound(P:aR)(Γ:uO):Prop:=∀f vs en,Γ f vs=aw en->LP P f en
theorem EG.W8{ρ:TY}{E E':Env}(h:QO ρ E E'):∀ {as:List aB} (_:as.all aB.pj=aW) {vs:List Value},EG E as vs->EG E' (as.map (aB.iI ρ)) vs
 |[],_,[],_=>trivial
 |_::_,hn,_::_,⟨h1,h2⟩=>by rw[fp,al]at hn;exact⟨acz h (.inl hn.1) h1,EG.W8 h hn.2 h2⟩
 |[],_,_::_,h=>h.elim
 |_::_,_,[],h=>h.elim
theorem EG.append{E:Env}:∀ {as:List aB} {vs:List Value} {bs:List aB} {us:List Value},EG E as vs->EG E bs us->EG E (as++bs) (vs++us)
 |[],[],_,_,_,h=>h
 |_::_,_::_,_,_,⟨h1,h2⟩,h=>⟨h1,EG.append h2 h⟩
theorem TZ{E:Env}:∀ {c:aB} {vs:List Value},VC E c vs->EG E c.list vs
 | .cons a b,vs,h=>by simp only[VC]at h;obtain⟨v,vs',cs,rfl,ha,ho,hb⟩:=h;exact⟨VS.of ha ho,TZ hb⟩
 | .nil,vs,h=>by simp only[VC]at h;subst h;trivial
 | .undef,_,hv=>by simp only[VC]at hv
 | .gone,_,hv=>by simp only[VC]at hv
 | .cw,_,hv=>by simp only[VC]at hv
 | .kq,_,hv=>by simp only[VC]at hv
 | .vh,_,hv=>by simp only[VC]at hv
 | .yl ..,_,hv | .xx ..,_,hv=>by simp only[VC]at hv
 | .zZ,_,hv=>by simp only[VC]at hv
 | .sb _,_,hv=>by simp only[VC]at hv
 | .d t x,_,hv=>by simp only[VC]at hv
 | .pr a b,_,hv=>by simp only[VC]at hv
 | .ptr ..,_,hv=>by simp only[VC]at hv
 | .dB ..,_,hv=>by simp only[VC]at hv
 | .dx ..,_,hv=>by simp only[VC]at hv
 | .fn ..,_,hv=>by simp only[VC]at hv
 | .vec ..,_,hv=>by simp only[VC]at hv
 | .bx ..,_,hv=>by simp only[VC]at hv
 | .sG ..,_,hv=>by simp only[VC]at hv
 | .mp ..,_,hv | .rA ..,_,hv=>by simp only[VC]at hv
theorem Inv.aEu{C:Ctx}{g:Nat->iF}{β:Id->Option Pl}{s:AS}{a:Act}{w:cj}(h:Inv C g β s a w):∀l:List bH,EG (s.env w g β) (l.map s.ev) (l.map a.eval)
 |[]=>trivial
 |x::l=>⟨h.ev x,h.aEu l⟩
theorem Cf{E E':Env}{s:AS}(hs:E.s=s.bV)(ho:iH E)(he:cP E E'):∀(ps:List (Option Ty)) (vs:List aB) (ys:List Value) (r:List aB×List Id),EG E vs ys->(s.conv ps vs).eval=aw r->aEh E E' r.2->EG E' r.1 ys
 |[],[],ys,r,hv,h,_=>by
  simp only[AS.conv,ay]at h;subst h;cases ys with
  |nil=>trivial
  |cons _ _=>exact hv.elim
 |some t::ps,v::vs,y::ys,r,⟨hv,YW⟩,h,hf=>by
  simp only[AS.conv]at h;obtain⟨x,h1,h2⟩:=ax.1 h;obtain⟨r',h3,h4⟩:=ax.1 h2;obtain rfl:=ay.1 h4;obtain⟨cs,hV,hO⟩:=hv.ee (A3 h1);refine⟨VS.of (cs:=cs) ?_ ?_,Cf hs ho he ps vs ys r' YW h3 λid dd=>hf id (bJ.2 (.inr dd))⟩
  ·simp only[V];exact uH hs ho he v t x cs hV h1 λid dd=>hf id (bJ.2 (.inl dd))
  ·show gr t.agg cs y;rw[<-X5 h1];exact hO
 |none::ps,v::vs,y::ys,r,⟨hv,YW⟩,h,hf=>by simp only[AS.conv]at h;obtain⟨r',h3,h4⟩:=ax.1 h;obtain rfl:=ay.1 h4;exact⟨hv.mono he,Cf hs ho he ps vs ys r' YW h3 hf⟩
 |[],_::_,_,_,_,h,_=>by simp only[AS.conv,av]at h
 |some _::_,[],_,_,_,h,_=>by simp only[AS.conv,av]at h
 |none::_,[],_,_,_,h,_=>by simp only[AS.conv,av]at h
end Go.Ab
namespace Go.Ab
theorem pf{id:Id}:∀ {ids:List Id} {k:Nat},idxOf id ids=aw k->ids[k]? =aw id
 |[],_,h=>by simp[idxOf]at h
 |x::xs,k,h=>by
  simp only[idxOf]at h;split at h
  ·rename_i e;simp only[aA]at h;subst h e;rfl
  ·simp only[di]at h;obtain⟨j,hj,rfl⟩:=h;simpa using pf hj
theorem wC{id:Id}:∀ {ids:List Id} {k:Nat},ids.Nodup->ids[k]? =aw id->idxOf id ids=aw k
 |[],_,_,h=>by simp at h
 |x::xs,0,hn,h=>by simp only[fF,aA]at h;simp[idxOf,h]
 |x::xs,k+1,hn,h=>by
  simp only[mA]at h;obtain⟨h1,h2⟩:=ia.1 hn;have jR:x≠id:=λe=>h1 (e▸cE h)
  simp[idxOf,jR,wC h2 h]
theorem B0(s0:AS)(all:List Id)(t:Nat):∀(ids:List Id) (es:List dP) (s:AS),(AS.jM s0 all t s ids es).ck=s.ck
 |[],_,_=>by simp[AS.jM]
 |_::_,[],_=>by simp[AS.jM]
 |id::ids,e::es,s=>by rw[AS.jM,B0 s0 all t ids es,c9]
theorem XE(s:AS)(ids:List Id)(t:Nat)(es:List dP):(s.made ids t es).ck=s.ck:=by cases es <;> rfl
theorem F2(s0:AS)(all:List Id)(t:Nat):∀(ids:List Id) (es:List dP) (s:AS),ids.Nodup->es.length=ids.length->(∀id∈ids,s.bV id≠aF)->
  (∀id,id ∉ ids->(AS.jM s0 all t s ids es).bV id=s.bV id)/\
  ∀(k:Nat) (id:Id) (e:dP),ids[k]? =aw id->es[k]? =aw e->(AS.jM s0 all t s ids es).bV id=aw (s0.sw all t (s0.A6 id) e)
 |[],es,s,_,_,_=>⟨λ_ _=>by simp[AS.jM],λk id e h=>by simp at h⟩
 |_::_,[],s,_,hl,_=>by simp at hl
 |i::ids,e::es,s,hn,hl,hp=>by
  obtain⟨h1,h2⟩:=ia.1 hn;have hp':∀id∈ids,(s.aZ i (s0.sw all t (s0.A6 i) e)).bV id≠aF:=λid dd=>by rw[cU s i id _ (λe=>h1 (e▸dd))];exact hp id (aV _ dd)
  obtain⟨r1,r2⟩:=F2 s0 all t ids es (s.aZ i (s0.sw all t (s0.A6 i) e)) h2 (by simpa using hl) hp';rw[AS.jM];refine⟨λid dd=> ?_,λk id e' hk he=> ?_⟩
  ·simp only[cz,not_or]at dd;rw[r1 id dd.2,cU s i id _ dd.1]
  ·cases k with
   |zero=>
    simp only[fF,aA]at hk he;subst hk he;rw[r1 i h1,eg s i _ (hp i (bf ..))]
   |succ k=>
    simp only[mA]at hk he;exact r2 k id e' hk he
theorem agn(s:AS)(ids:List Id)(t:Nat)(es:List dP)(hv:es=[]\/s.ej t=aW):
  (∀id,(es=[]\/∀j,id≠ .new t j)->(s.made ids t es).bV id=s.bV id)/\(es≠ []->∀j,(s.made ids t es).bV (.new t j)=(es[j]?).map (s.sw ids t 0)):=by
 cases es with
 |nil=>exact⟨λ_ _=>rfl,λh=>absurd rfl h⟩
 |cons e es=>
  have hv:s.ej t=aW:=by
   rcases hv with h | h
   ·cases h
   ·exact h
  refine⟨λid h=> ?_,λ_ j=> ?_⟩
  ·rcases h with h | h
   ·cases h
   ·exact iZ _ h
  ·rw[AS.made,xL (kL hv).2,dK]
def kS(ids:List Id):iF->iF
 | .free=> .free
 | .own .dT n=> .own .dT n
 | .own (.id i) n=>match idxOf i ids with | some k=> .own (.id (.eC k)) n | none=> .own .dT n
 | .fresh=> .own .dT 0
 | .gg=> .gg
def Aw(β:Id->Option Pl)(ids:List Id):Id->Option Pl
 | .eC k=>(ids[k]?).bind β
 | .new _ _=>aF
def ja(g:Nat->iF)(size:Nat)(ids:List Id)(t:Nat)(b:Nat):iF->iF
 | .free=> .free
 | .own .dT n=>if b < size then g b else .own .dT n
 | .own (.id i) n=> .own (.id (aBM ids t i)) n
 | .fresh=> .fresh
 | .gg=> .gg
def wO(β β':Id->Option Pl)(ids:List Id)(t:Nat)(some?:Bool)(id:Id):Option Pl:=
 match idxOf id ids with
 |some k=>β' (.eC k)
 |none=>match id with
  | .new i j=>if i=t/\some?=aW then β' (.new 0 j) else β (.new i j)
  |id=>β id
theorem avZ{ids:List Id}{l:iF}{off:Nat}(h:kr (λ_=>l) 0 off):kr (λ_=>kS ids l) 0 off:=by
 cases l with
 |free=>trivial
 |own o k=>cases o with
  |dT=>exact h
  |id i=>simp only[kS];cases idxOf i ids <;> exact h
 |fresh=>exact h.elim
 |gg=>exact h.elim
section
variable {P:aR} {C:Ctx} {g:Nat->iF} {β:Id->Option Pl} {s:AS} {a:Act} {w:cj} {o:Oper}
theorem avO(ids:List Id):
  QO (s.wS ids) (s.env w g β) ((lZ (ids.map (s.mW ids))).env w (λb=>kS ids (g b)) (Aw β ids)):=by
 refine⟨⟨λb off v ⟨h1,h2⟩=>⟨h1,?_⟩,λb ob h1 h2=>⟨by show kS ids (g b)= .free;have h1:g b= .free:=h1;rw[h1];rfl,h2⟩,λb cur e h1 h2=>⟨by show kS ids (g b)= .gg;have h1:g b= .gg:=h1;rw[h1];rfl,cur,h2,rfl⟩⟩,λid ver r hr _=> ?_⟩
 ·exact avZ (l:=g b) h2
 ·unfold AS.wS at hr;split at hr
  ·rename_i k v fr c hk ho;split at hr
   ·rename_i aqw;simp only[aA]at hr;subst hr aqw;have dd:=pf hk;have cQ:=dA ho;refine⟨⟨?_,λ_ _ _ _=>aL _⟩,λ_=>⟨⟨fr,c,cQ⟩,?_⟩⟩
    ·show(ids.map (s.mW ids))[k]? ≠aF
     simp[dd]
    ·show(ids[k]?).bind β=β id;rw[dd];rfl
   ·cases hr
  ·cases hr
theorem aoz(ids:List Id)(hn:ids.Nodup)(Q6:∀id∈ids,s.Dj id=aW)(h:iH (s.env w g β)):iH ((lZ (ids.map (s.mW ids))).env w (λb=>kS ids (g b)) (Aw β ids)):=by
 intro id ver fr c dd;have dd:(lZ (ids.map (s.mW ids))).bV id=aw (.obj ver fr c):=dd;cases id with
 |new i j=>simp[lZ,AS.bV]at dd
 |eC k=>
  simp only[lZ,AS.bV,dK,di]at dd;obtain⟨id1,hk,he⟩:=dd;unfold AS.mW at he;split at he
  ·rename_i v fr1 c1 cQ;simp only[dP.obj.injEq]at he;obtain⟨rfl,rfl,rfl⟩:=he;have aqu:c1.pj=aW:=by
    have h1:=Q6 id1 (cE hk);have e:s.obj id1=aw (v,fr1,c1):=by simp[AS.obj,cQ]
    unfold AS.Dj at h1;rw[e]at h1;cases fr1 <;> cases c1 <;> first | exact h1 | cases h1
   refine aax (avO ids) (.inl aqu) (h id1 v fr1 c1 cQ) (by show(ids[k]?).bind β=β id1;rw[hk];rfl) λpl hp=>⟨rfl,λn hg=> ?_,λhg=> ?_⟩
   ·have hg:g pl.b= .own (.id id1) n:=hg;show kS ids (g pl.b)=_;rw[hg];simp[kS,wC hn hk]
   ·have hg:g pl.b= .free:=hg;show kS ids (g pl.b)=_;rw[hg];rfl
  ·cases he
theorem T3(h:Inv C g β s a w){ids:List Id}(hn:ids.Nodup)(hp:∀id∈ids,∃r,s.obj id=aw r)(Q6:∀id∈ids,s.Dj id=aW){G:oH}{t:Nat}(hl:G.dg.length=ids.length)(hv:G.news=[]\/s.ej t=aW){v:Value}{w':cj}
  (ha:FM ((lZ (ids.map (s.mW ids))).env w (λb=>kS ids (g b)) (Aw β ids)) G v w'):
  ∃g' β',Inv C g' β' (AS.jM s ids t (s.made ids t G.news) ids G.dg) a w'/\VS ((AS.jM s ids t (s.made ids t G.news) ids G.dg).env w' g' β') (G.val.iI (s.vy ids t)) v:=by
 obtain⟨g1,β1,u9,aBG,akP,hle⟩:=ha;have akP:kU aQ w w' (λb=>kS ids (g b)) g1:=akP;obtain⟨m1,m2⟩:=agn s ids t G.news hv;have aG6:∀id∈ids,s.bV id≠aF:=λid dd=>by obtain⟨⟨v,fr,c⟩,hr⟩:=hp id dd;rw[dA hr];simp
 have FE:∀id,s.bV id≠aF->G.news=[]\/∀j,id≠ .new t j:=λid dd=>by
  rcases hv with hv | hv
  ·exact .inl hv
  ·exact .inr λj e=>dd (by rw[e];exact(kL hv).1 j)
 obtain⟨n1,n2⟩:=F2 s ids t ids G.dg (s.made ids t G.news) hn hl (λid dd=>by rw[m1 id (FE id (aG6 id dd))];exact aG6 id dd);have aCH:∀j,G.news≠ []->Id.new t j ∉ ids:=λj jR dd=>by
  rcases hv with hv | hv
  ·exact jR hv
  ·exact aG6 _ dd ((kL hv).1 j)
 generalize YI:AS.jM s ids t (s.made ids t G.news) ids G.dg=s2 at*;have hgO:∀(k:Nat) (id:Id),ids[k]? =aw id->∃e,G.dg[k]? =aw e/\s2.bV id=aw (s.sw ids t (s.A6 id) e):=λk id hk=>by
  have jQ:k < G.dg.length:=by rw[hl];exact(dE.1 hk).1
  exact⟨_,cn jQ,n2 k id _ hk (cn jQ)⟩
 have hgN:G.news≠ []->∀j,s2.bV (.new t j)=(G.news[j]?).map (s.sw ids t 0):=λjR j=>by rw[n1 _ (aCH j jR),m2 jR j]
 have hgS:∀id,id ∉ ids->(G.news=[]\/∀j,id≠ .new t j)->s2.bV id=s.bV id:=λid h1 h2=>by rw[n1 id h1,m1 id h2]
 have hverOf:∀id∈ids,∃fr c,s.bV id=aw (.obj (s.A6 id) fr c):=λid dd=>by obtain⟨⟨v,fr,c⟩,hr⟩:=hp id dd;refine⟨fr,c,?_⟩;rw[dA hr];simp[AS.A6,hr]
 have aGL:∀b n,b < w.heap.size->g1 b= .own .dT n->(g b= .own .dT n\/(g b= .fresh/\n=0)\/∃i,g b= .own (.id i) n/\idxOf i ids=aF):=λb n hb hg=>by
  have h1:=akP.YM b hb;cases IT:g b with
  |free=>simp only[IT,kS]at h1;rw[h1.1]at hg;cases hg
  |own o k=>cases o with
   |dT=>simp only[IT,kS]at h1;rw[h1.1]at hg;left;exact hg
   |id i=>
    cases hi:idxOf i ids with
    |none=>
     simp only[IT,kS,hi]at h1;rw[h1.1]at hg;simp only[iF.own.injEq,hJ]at hg;subst hg;exact .inr (.inr ⟨i,rfl,hi⟩)
    |some k'=>
     simp only[IT,kS,hi]at h1;rcases h1.1 with h2 | ⟨_,h2 | h2⟩ | ⟨_,_,h2,_⟩ <;> (rw[h2]at hg;cases hg)
  |fresh=>
   simp only[IT,kS]at h1;rw[h1.1]at hg;simp only[iF.own.injEq,hJ]at hg;exact .inr (.inl ⟨rfl,hg.symm⟩)
  |gg=>simp only[IT,kS]at h1;rw[h1.1]at hg;cases hg
 let g2:Nat->iF:=λb=>ja g w.heap.size ids t b (g1 b)
 let β2:Id->Option Pl:=wO β β1 ids t (!G.news.isEmpty)
 have hβO:∀k id,ids[k]? =aw id->β2 id=β1 (.eC k):=λk id hk=>by show wO _ _ _ _ _ id=_;simp[wO,wC hn hk]
 have hβN:G.news≠ []->∀j,β2 (.new t j)=β1 (.new 0 j):=λjR j=>by
  show wO _ _ _ _ _ _=_;have:idxOf (.new t j) ids=aF:=by
   cases hi:idxOf (.new t j) ids with
   |none=>rfl
   |some k=>exact absurd (cE (pf hi)) (aCH j jR)
  have hne':G.news.isEmpty=aQ:=by cases hh:G.news with
   |nil=>exact absurd hh jR
   |cons _ _=>rfl
  simp[wO,this,hne']
 have hβS:∀id,id ∉ ids->(G.news=[]\/∀j,id≠ .new t j)->β2 id=β id:=λid h1 h2=>by
  show wO _ _ _ _ _ _=_;have:idxOf id ids=aF:=by
   cases hi:idxOf id ids with
   |none=>rfl
   |some k=>exact absurd (cE (pf hi)) h1
  cases id with
  |eC k=>simp[wO,this]
  |new i j=>
   have:¬(i=t/\(!G.news.isEmpty)=aW):=by
    rintro⟨rfl,h3⟩;rcases h2 with h2 | h2
    ·rw[h2]at h3;cases h3
    ·exact h2 j rfl
   simp only[wO, *,bz]
 have aFg:Trans w w' g g2:=by
  refine⟨akP.os,akP.tape,akP.output,akP.size,λb hb=> ?_⟩;have h1:=akP.YM b hb;show match g b with | .free=>ja g w.heap.size ids t b (g1 b)= .free/\_ | .own .dT k=>ja g w.heap.size ids t b (g1 b)= .own .dT k/\_ | .own (.id _) k=>(ja g w.heap.size ids t b (g1 b)= .free\/(k=0/\(ja g w.heap.size ids t b (g1 b)= .fresh\/ja g w.heap.size ids t b (g1 b)= .gg))\/∃i k',ja g w.heap.size ids t b (g1 b)= .own (.id i) k'/\k<=k')/\_ | .fresh=>(ja g w.heap.size ids t b (g1 b)= .fresh/\_)\/(_/\ja g w.heap.size ids t b (g1 b)= .gg) | .gg=>ja g w.heap.size ids t b (g1 b)= .gg/\_
  cases IT:g b with
  |free=>simp only[IT,kS]at h1 ⊢;rw[h1.1];exact⟨rfl,h1.2⟩
  |own o k=>cases o with
   |dT=>simp only[IT,kS]at h1 ⊢;rw[h1.1];simp only[ja,hb,bN,IT];exact⟨trivial,h1.2⟩
   |id i=>
    cases hi:idxOf i ids with
    |none=>
     simp only[IT,kS,hi]at h1 ⊢;rw[h1.1];simp only[ja,hb,bN,IT];exact⟨.inr (.inr ⟨i,k,rfl,az _⟩),λoff v _ hv=>by simpa only[eQ,h1.2]using hv⟩
    |some k'=>
     simp only[IT,kS,hi]at h1 ⊢;refine⟨?_,h1.2⟩;rcases h1.1 with h2 | ⟨h0,h2⟩ | ⟨i',k'',h2,h3⟩
     ·rw[h2];exact .inl rfl
     ·exact .inr (.inl ⟨h0,h2.imp (λe=>by rw[e];rfl) λe=>by rw[e];rfl⟩)
     ·rw[h2];exact .inr (.inr ⟨_,k'',rfl,h3⟩)
  |fresh=>simp only[IT,kS]at h1 ⊢;rw[h1.1];simp only[ja,hb,bN,IT];exact .inl ⟨trivial,h1.2⟩
  |gg=>simp only[IT,kS]at h1 ⊢;rw[h1.1];exact⟨rfl,h1.2⟩
 have IU:wy (G.st.env w' g1 β1) (s2.env w' g2 β2):=by
  refine⟨⟨λb off v ⟨h1,h2⟩=> ?_,λb ob h1 h2=>⟨by show ja g w.heap.size ids t b (g1 b)= .free;have h1:g1 b= .free:=h1;rw[h1];rfl,h2⟩,
   λb cur e h1 h2=>⟨by show ja g w.heap.size ids t b (g1 b)= .gg;have h1:g1 b= .gg:=h1;rw[h1];rfl,cur,h2,rfl⟩⟩,
   λb ob h1 h2=>⟨by show ja g w.heap.size ids t b (g1 b)= .fresh;have h1:g1 b= .fresh:=h1;rw[h1];rfl,h2⟩⟩
  refine⟨h1,?_⟩;have h2:kr g1 b off:=h2;show kr g2 b off;unfold kr at h2 ⊢;show match ja g w.heap.size ids t b (g1 b) with | .free=>True | .own _ k=>off < k | .fresh | .gg=>False
  cases IT:g1 b with
  |free=>simp[ja]
  |own o k=>
   rw[IT]at h2;cases o with
   |dT=>
    simp only[ja];by_cases hb:b < w.heap.size
    ·rw[if_pos hb];rcases aGL b k hb IT with h3 | ⟨_,rfl⟩ | ⟨i,h3,_⟩
     ·rw[h3];exact h2
     ·exact absurd h2 (rv _)
     ·rw[h3];exact h2
    ·rw[if_neg hb];exact h2
   |id i=>exact h2
  |fresh=>rw[IT]at h2;exact h2.elim
  |gg=>rw[IT]at h2;exact h2.elim
 have hentOut:∀(base:Nat) (e:dP) (ver:Nat) (fr:Bool) (c:aB),s.sw ids t base e= .obj ver fr c->∃v0 c0,e= .obj v0 fr c0/\ver=base+v0/\c=c0.iI (s.vy ids t):=λbase e ver fr c he=>by
  cases e with
  |dead=>cases he
  |obj v0 fr0 c0=>
   simp only[AS.sw,dP.obj.injEq]at he;obtain⟨rfl,rfl,rfl⟩:=he;exact⟨v0,c0,rfl,rfl,rfl⟩
 have avB:EF (s.vy ids t) (G.st.env w' g1 β1) (s2.env w' g2 β2):=by
  refine⟨IU,λid ver r hr hb=> ?_⟩;cases id with
  |eC k=>
   obtain⟨OM,ON⟩:=hb;have OM:G.dg[k]? ≠aF:=OM
   have hk:k < ids.length:=by
    rcases pQ k ids.length with h' | h'
    ·exact h'
    ·exact absurd (dZ ak) OM
   have dd:ids[k]? =aw ids[k]:=cn hk
   simp only[AS.vy,dd,aA]at hr;subst hr;obtain⟨e,FL,Tv⟩:=hgO k _ dd;refine⟨⟨by show s2.bV _≠aF;rw[Tv];simp,λv fr c hh=> ?_⟩,λ⟨fr,c,hh⟩=>⟨?_,hβO k _ dd⟩⟩
   ·have hh:s2.bV ids[k]=aw (.obj v fr c):=hh;rw[Tv,aA]at hh;obtain⟨v0,c0,rfl,rfl,_⟩:=hentOut _ _ _ _ _ hh;have:=ON v0 fr c0 FL;omega
   ·have hh:s2.bV ids[k]=aw (.obj (s.A6 ids[k]+ver) fr c):=hh;rw[Tv,aA]at hh;obtain⟨v0,c0,rfl,aDY,_⟩:=hentOut _ _ _ _ _ hh;obtain rfl:ver=v0:=ak;exact⟨fr,c0,FL⟩
  |new i j=>
   simp only[AS.vy,aA]at hr;subst hr;obtain⟨OM,ON⟩:=hb;have OM:([G.news].getD i [])[j]? ≠aF:=OM
   have ON:∀v fr c,([G.news].getD i [])[j]? =aw (.obj v fr c)->ver<=v:=ON
   cases i with
   |succ i=>simp at OM
   |zero=>
    simp only[jB]at OM ON;have jR:G.news≠ []:=λe=>by rw[e]at OM;simp at OM
    obtain⟨e,he⟩:=Option.ne_none_iff_exists'.1 OM;have Tv:=hgN jR j;rw[he,eZ]at Tv;refine⟨⟨by show s2.bV (.new t j)≠aF;rw[Tv];simp,λv fr c hh=> ?_⟩,λ⟨fr,c,hh⟩=>⟨?_,hβN jR j⟩⟩
    ·have hh:s2.bV (.new t j)=aw (.obj v fr c):=hh;rw[Tv,aA]at hh;obtain⟨v0,c0,rfl,rfl,_⟩:=hentOut _ _ _ _ _ hh;have:=ON v0 fr c0 he;simp only;omega
    ·have hh:s2.bV (.new t j)=aw (.obj ver fr c):=hh;rw[Tv,aA]at hh;obtain⟨v0,c0,rfl,aDY,_⟩:=hentOut _ _ _ _ _ hh;obtain rfl:ver=v0:=ak;exact⟨fr,c0,he⟩
 have aE3:cP (s.env w g β) (s2.env w' g2 β2):=by
  refine⟨Trans.mem aFg,λid ver hb=> ?_,λid ver hb hc=> ?_⟩
  ·obtain⟨OM,ON⟩:=hb;have OM:s.bV id≠aF:=OM;have ON:∀v fr c,s.bV id=aw (.obj v fr c)->ver<=v:=ON;by_cases dd:id∈ids
   ·obtain⟨k,hk⟩:=kO.1 dd;obtain⟨e,FL,Tv⟩:=hgO k id hk;obtain⟨fr1,c1,Q7⟩:=hverOf id dd;refine⟨by show s2.bV _≠aF;rw[Tv];simp,λv fr c hh=> ?_⟩;have hh:s2.bV id=aw (.obj v fr c):=hh;rw[Tv,aA]at hh;obtain⟨v0,c0,rfl,rfl,_⟩:=hentOut _ _ _ _ _ hh;have:=ON _ _ _ Q7;omega
   ·have:=hgS id dd (FE id OM);exact⟨by show s2.bV _≠aF;rw[this];exact OM,λv fr c hh=>ON v fr c (this.symm.trans hh)⟩
  ·obtain⟨OM,ON⟩:=hb;have OM:s.bV id≠aF:=OM;have ON:∀v fr c,s.bV id=aw (.obj v fr c)->ver<=v:=ON;obtain⟨fr,c,hh⟩:=hc;have hh:s2.bV id=aw (.obj ver fr c):=hh;by_cases dd:id∈ids
   ·obtain⟨k,hk⟩:=kO.1 dd;obtain⟨e,FL,Tv⟩:=hgO k id hk;obtain⟨fr1,c1,Q7⟩:=hverOf id dd;rw[Tv,aA]at hh;obtain⟨v0,c0,rfl,aDY,_⟩:=hentOut _ _ _ _ _ hh;have aqw:=ON _ _ _ Q7;obtain rfl:v0=0:=ak;have hver':ver=s.A6 id:=ak;refine⟨⟨fr1,c1,by rw[hver'];exact Q7⟩,?_⟩;show β2 id=β id;rw[hβO k id hk];have aaZ:s.mW ids id= .obj 0 fr1 (c1.iI (s.wS ids)):=by simp[AS.mW,Q7]
    have h0:((lZ (ids.map (s.mW ids))).env w (λb=>kS ids (g b)) (Aw β ids)).yK (.eC k) 0:=by
     refine⟨?_,λ_ _ _ _=>aL _⟩;show(ids.map (s.mW ids))[k]? ≠aF
     simp[hk]
    have:=(hle.cur (.eC k) 0 h0 ⟨fr,c0,FL⟩).2;have this:β1 (.eC k)=(ids[k]?).bind β:=this;rw[this,hk];rfl
   ·have:=hgS id dd (FE id OM);exact⟨⟨fr,c,this.symm.trans hh⟩,hβS id dd (FE id OM)⟩
 have aFa:iH (s2.env w' g2 β2):=by
  intro id ver fr c hh;have hh:s2.bV id=aw (.obj ver fr c):=hh;by_cases dd:id∈ids
  ·obtain⟨k,hk⟩:=kO.1 dd;obtain⟨e,FL,Tv⟩:=hgO k id hk;rw[Tv,aA]at hh;obtain⟨v0,c0,rfl,_,rfl⟩:=hentOut _ _ _ _ _ hh;refine yN avB (aBG (.eC k) v0 fr c0 FL) (hβO k id hk) λpl _=>⟨rfl,λn hg=> ?_,λhg=> ?_⟩
   ·have hg:g1 pl.b= .own (.id (.eC k)) n:=hg;show ja g w.heap.size ids t pl.b (g1 pl.b)=_;rw[hg];simp[ja,aBM,aK,hk]
   ·have hg:g1 pl.b= .free:=hg;show ja g w.heap.size ids t pl.b (g1 pl.b)=_;rw[hg];rfl
  ·by_cases jR:G.news≠ []/\∃j,id= .new t j
   ·obtain⟨jR,j,rfl⟩:=jR;rw[hgN jR j,di]at hh;obtain⟨e,he,hh⟩:=hh;obtain⟨v0,c0,rfl,_,rfl⟩:=hentOut _ _ _ _ _ hh;refine yN avB (aBG (.new 0 j) v0 fr c0 (by show([G.news].getD 0 [])[j]? =_;simpa using he)) (hβN jR j) λpl _=>⟨rfl,λn hg=> ?_,λhg=> ?_⟩
    ·have hg:g1 pl.b= .own (.id (.new 0 j)) n:=hg;show ja g w.heap.size ids t pl.b (g1 pl.b)=_;rw[hg];rfl
    ·have hg:g1 pl.b= .free:=hg;show ja g w.heap.size ids t pl.b (g1 pl.b)=_;rw[hg];rfl
   ·have aJk:G.news=[]\/∀j,id≠ .new t j:=by
     by_cases hh:G.news=[]
     ·exact .inl hh
     ·exact .inr λj e=>jR ⟨hh,j,e⟩
    rw[hgS id dd aJk]at hh;have same:∀id,id ∉ ids->∀ver fr c,s.bV id=aw (.obj ver fr c)->∀pl,β id=aw pl->w'.heap[pl.b]? =w.heap[pl.b]? /\ja g w.heap.size ids t pl.b (g1 pl.b)=g pl.b:=by
     intro id dd ver fr c hh pl Jg;obtain⟨hb,Mp⟩:=(h.bD id ver fr c hh).label (pl:=pl) Jg;have hb:pl.b < w.heap.size:=hb;have h1:=akP.YM pl.b hb;have aGN:idxOf id ids=aF:=by
      cases hi:idxOf id ids with
      |none=>rfl
      |some k=>exact absurd (cE (pf hi)) dd
     rcases Mp with⟨k,hk⟩ | ⟨_,hk⟩
     ·have hk:g pl.b= .own (.id id) k:=hk;simp only[hk,kS,aGN]at h1;rw[h1.1];simp only[ja,hb,bN];exact⟨h1.2,trivial⟩
     ·have hk:g pl.b= .free:=hk;simp only[hk,kS]at h1;rw[h1.1,hk];exact⟨h1.2,rfl⟩
    have ho:=h.bD id ver fr c hh;refine ho.mono aE3 (hβS id dd aJk) (λpl Jg=>same id dd ver fr c hh pl Jg) λq2 vq k2 v2 l2 Pj _=> ?_
    have Pj:s.bV q2=aw (.obj vq aW (.mp k2 v2 l2)):=Pj;have aBE:q2 ∉ ids:=λhm=>by
     have:=Q6 q2 hm;have e:s.obj q2=aw (vq,aW,.mp k2 v2 l2):=by simp[AS.obj,Pj]
     unfold AS.Dj at this;rw[e]at this;cases this
    refine⟨⟨k2,v2,l2,?_⟩,λpl Jg=>same q2 aBE vq aW _ Pj pl Jg⟩;show s2.bV q2=_;rw[hgS q2 aBE (FE q2 (by rw[Pj];simp))];exact Pj
 have ajS:s2.ck=s.ck:=by rw[<-YI,B0,XE]
 exact⟨g2,β2,h.step ajS aFg aE3 aFa,OT avB u9⟩
end
end Go.Ab
namespace Go.Ab
theorem s7(s:AS):∀(n:Nat) (todo acc:List Id),acc.Nodup->(s.reach n todo acc).Nodup
 | 0,_,acc,h=>by simpa[AS.reach]using h
 |_+1,[],acc,h=>by simpa[AS.reach]using h
 |n+1,id::todo,acc,h=>by
  rw[AS.reach];split
  ·exact s7 s n todo acc h
  ·rename_i hc;refine s7 s n _ _ ?_
   rw[List.nodup_append];refine⟨h,by simp,λx hx y hy e=> ?_⟩;simp only[cX]at hy;subst hy e;exact hc (by simpa using hx)
theorem Ap(s:AS)(vs:List aB):(s.aa8 vs).Nodup:=s7 s _ _ _ (by simp)
section
variable {P:aR} {C:Ctx} {g:Nat->iF} {β:Id->Option Pl} {s:AS} {a:Act} {w:cj} {o:Oper}
theorem UR{ids:List Id}(sz:s.adv ids=aW):∀id∈ids,s.Dj id=aW:=λid dd=>by have:=cf.1 sz id dd;rw[al]at this;exact this.2
theorem afP(h:Inv C g β s a w){ids:List Id}(hn:ids.Nodup)(sz:s.adv ids=aW){G:oH}{s':AS}(he:(s.back ids o.dst G).eval=aw s'){v:Value}{w':cj}
  (ha:FM ((lZ (ids.map (s.mW ids))).env w (λb=>kS ids (g b)) (Aw β ids)) G v w'):gl C s' (a.put o.dst v) w':=by
 have hp:∀id∈ids,∃r,s.obj id=aw r:=λid dd=>by have:=cf.1 sz id dd;rw[al]at this;exact cv.1 this.1
 have Q6:∀id∈ids,s.Dj id=aW:=λid dd=>by have:=cf.1 sz id dd;rw[al]at this;exact this.2
 unfold AS.back at he;cases aER:o.dst with
 |some t=>
  rw[aER]at he;obtain⟨hg,he⟩:=aD.1 he;obtain rfl:=ay.1 he;simp only[al,dp,ju]at hg;obtain⟨hl,hg⟩:=hg;have avL:G.news=[]\/s.ej t=aW:=by
   rcases hg with hg | hg
   ·exact .inl (by simpa using hg)
   ·exact .inr hg
  obtain⟨g2,β2,h1,h2⟩:=T3 h hn hp Q6 hl avL ha;exact⟨g2,β2,h1.put (aw t) h2⟩
 |none=>
  rw[aER]at he;obtain⟨hg,he⟩:=aD.1 he;obtain rfl:=ay.1 he;simp only[al,dp]at hg;obtain⟨hl,hg⟩:=hg;have FE:G.news=[]:=by simpa using hg
  obtain⟨g2,β2,h1,_⟩:=T3 (t:=0) h hn hp Q6 hl (.inl FE) ha;rw[FE]at h1;exact⟨g2,β2,h1⟩
theorem O9(h:Inv C g β s a w){en:Entry}{ids:List Id}(hn:ids.Nodup){vs:List aB}{ys:List Value}(hv:EG (s.env w g β) vs ys)
  {s':AS} (he:(s.enter en o.dst ids vs).eval=aw s'):∃x,en.run (vs.map (aB.iI (s.wS ids))) (ids.map (s.mW ids))=aw x/\
   EG ((lZ (ids.map (s.mW ids))).env w (λb=>kS ids (g b)) (Aw β ids)) (vs.map (aB.iI (s.wS ids))) ys/\
   iH ((lZ (ids.map (s.mW ids))).env w (λb=>kS ids (g b)) (Aw β ids))/\
   ∀v w',FM ((lZ (ids.map (s.mW ids))).env w (λb=>kS ids (g b)) (Aw β ids)) (en.out (vs.map (aB.iI (s.wS ids))) (ids.map (s.mW ids)) x) v w'->gl C s' (a.put o.dst v) w':=by
 unfold AS.enter at he;obtain⟨sz,he⟩:=aD.1 he;obtain⟨x,hx,he⟩:=lA.1 he;obtain⟨x0,azR,he⟩:=ax.1 he;rw[en.ajb _ _ azR]at he;rw[al]at sz;exact⟨x,hx,EG.W8 (avO ids) sz.2 hv,aoz ids hn (UR sz.1) h.bD,λv w' ha=>afP h hn sz.1 he ha⟩
theorem akt(h:Inv C g β s a w){f:jF}{en:Entry}(hd:A7 P f en){ids:List Id}(hn:ids.Nodup){vs:List aB}{ys:List Value}(hv:EG (s.env w g β) vs ys)
  (hr:(execOp a.eval o).run P w=(callFunc f ys.toArray).run P w) {s':AS} (he:(s.enter en o.dst ids vs).eval=aw s'):fq P o a w (gl C s'):=by
 obtain⟨x,hx,h1,h2,key⟩:=O9 h hn hv he;rcases hd _ _ _ _ _ _ _ h1 h2 hx with⟨Mo,hc⟩ | ⟨v,w',aDZ,ha⟩
 ·exact .inr (.inr (.inl ⟨f,ys.toArray,w,hr.trans Mo,hc.mono λe w' ⟨v,he,ha⟩=>⟨v,he,key v w' ha⟩⟩))
 ·exact .inl ⟨v,w',hr.trans aDZ,key v w' ha⟩
theorem apK(h:Inv C g β s a w){c:Call}{F:bH}{f:jF}{caps:aB}{en:Entry}(ho:o.op= .call c)(hc:c.callee= .value F)(hF:s.ev F= .fn f caps)(hd:A7 P f en){s':AS}
  (he:(s.call en o.dst (c.args.toList.map s.ev++caps.list)).eval=aw s'):fq P o a w (gl C s'):=by
 obtain⟨cal,args,tys⟩:=c;simp only at hc he;subst hc;obtain⟨vs,hy,aBJ⟩:=Uv (hF▸h.ev F);have EN:=(h.aEu args.toList).append (TZ aBJ);have hr:(execOp a.eval o).run P w=(callFunc f (args.toList.map a.eval++vs).toArray).run P w:=by
  have e1:execOp a.eval o=(do let d <-resolve a.eval {callee:= .value F,args,argTypes:=tys} o.type;invoke d.target d.args):=by simp only[execOp,ho]
  rw[e1];simp only[resolve,hy,Deferred.ofValue,cg,dF,bE,invoke];congr 2;simp
 unfold AS.call at he;obtain⟨r,h1,h2⟩:=ax.1 he;obtain⟨g',i1,e1,_,f1⟩:=e7 r.2 h;exact akt i1 hd (Ap _ _) (Cf rfl h.bD e1 _ _ _ r EN h1 f1) hr h2
theorem O6{X R:Type}{S:X->Prop}{k:X->Option R}{r:R}(h:auZ S k=aw r):(∃x,S x)/\∀x,S x->k x=aw r:=by
 unfold auZ at h;split at h
 ·rename_i hx;obtain rfl:=bu h;exact hx.choose_spec
 ·cases h
theorem QV(h:Inv C g β s a w){f:jF}{en:Entry}(hd:at6 P f en){vs:List aB}{ys:List Value}(EN:EG (s.env w g β) vs ys){R:Type}{k:AS->Option R}{r:R}
  (he:s.QU en o.dst vs k=aw r):(callFunc f ys.toArray).run P w= .ok (.enter f ys.toArray) w/\Calls P f ys.toArray w λe w'=>∃v,e= .returned v/\∃s',gl C s' (a.put o.dst v) w'/\k s'=aw r:=by
 unfold AS.QU at he;obtain⟨r2,h0,he⟩:=gG.1 he;obtain⟨r3,h1,h3⟩:=ax.1 h0;obtain⟨sz,h3⟩:=aD.1 h3;obtain rfl:=ay.1 h3;obtain⟨g',i1,e1,_,f1⟩:=e7 r3.2 h;have hn:=Ap (s.bq r3.2) r3.1;have hv:=Cf rfl h.bD e1 _ _ _ r3 EN h1 f1;unfold AS.au7 at he;obtain⟨hx,hk⟩:=O6 he;rw[al]at sz;obtain⟨c1,c2⟩:=hd _ _ _ _ _ _ (EG.W8 (avO _) sz.2 hv) (aoz _ hn (UR sz.1) i1.bD) hx;refine⟨c1,c2.mono λe w' ⟨v,x,agy,hs,ha⟩=>⟨v,agy,?_⟩⟩;obtain⟨s',h4,h5⟩:=gG.1 (hk x hs);obtain⟨x0,azR,h4⟩:=ax.1 h4;rw[en.ajb _ _ azR]at h4;exact⟨s',afP i1 hn sz.1 h4 ha,h5⟩
theorem Ue(h:Inv C g β s a w){c:Call}{F:bH}{f:jF}{caps:aB}{en:Entry}(ho:o.op= .call c)(hc:c.callee= .value F)(hF:s.ev F= .fn f caps)(hd:at6 P f en){R:Type}{k:AS->Option R}{r:R}
  (he:s.QU en o.dst (c.args.toList.map s.ev++caps.list) k=aw r):fq P o a w λa' w'=>∃s',gl C s' a' w'/\k s'=aw r:=by
 obtain⟨cal,args,tys⟩:=c;simp only at hc he;subst hc;obtain⟨vs,hy,aBJ⟩:=Uv (hF▸h.ev F);obtain⟨c1,c2⟩:=QV h hd ((h.aEu args.toList).append (TZ aBJ)) he;refine .inr (.inr (.inl ⟨f,(args.toList.map a.eval++vs).toArray,w,Eq.trans ?_ c1,c2⟩));have e1:execOp a.eval o=(do let d <-resolve a.eval {callee:= .value F,args,argTypes:=tys} o.type;invoke d.target d.args):=by simp only[execOp,ho]
 rw[e1];simp only[resolve,hy,Deferred.ofValue,cg,dF,bE,invoke];congr 2;simp
theorem C0.aKs{E:Env}{f:aB}{tmps:Array Value}(h:C0 E f tmps):EG E f.list tmps.toList:=by
 obtain⟨h1,h2⟩:=h;have gen:∀(l:List aB) (ys:List Value),l.length=ys.length->(∀i,VS E (l.getD i .undef) (ys.getD i undef))->EG E l ys:=by
  intro l
  induction l with
  |nil=>intro ys hl _;cases ys with
   |nil=>trivial
   |cons _ _=>simp at hl
  |cons x l ih=>intro ys hl hi;cases ys with
   |nil=>simp at hl
   |cons y ys=>exact⟨by simpa using hi 0,ih ys (by simpa using hl) λi=>by simpa using hi (i+1)⟩
 exact gen _ _ (by simpa using h1) λi=>by simpa[du,aK]using h2 i
theorem an5(h:Inv C g β s a w){c:Call}{F:bH}{id:Id}{ver:Nat}{rc:uZ}{f:aB}{en:Entry}(ho:o.op= .call c)(hc:c.callee= .value F)
  (hF:s.yielded (s.ev F) c.args.size=aw (id,ver,rc,f)) (aGd:rc=amV P rc.y) (hd:LP P rc.y en) {s':AS}
  (he:(s.call en o.dst (.yl id ver::(c.args.toList.map s.ev++f.list))).eval=aw s'):fq P o a w (gl C s'):=by
 obtain⟨cal,args,tys⟩:=c;simp only at hc he hF;subst hc;unfold AS.yielded at hF;split at hF;rotate_left
 ·cases hF
 rename_i id' ver' agy;split at hF;rotate_left
 ·cases hF
 rename_i v c0 f0 ko;split at hF;rotate_left
 ·cases hF
 rename_i agx;simp only[aA,cT]at hF;obtain⟨rfl,rfl,rfl,rfl⟩:=hF;simp only[al,dp]at agx;obtain⟨⟨rfl,pd⟩,hy⟩:=agx;have cQ:=dA ko;have hv:=h.ev F;rw[agy]at hv;obtain⟨cs,hV,hO⟩:=hv;simp only[V]at hV;obtain⟨l,rfl,hb,fH⟩:=hV;have aFk:a.eval F= .func (.yield l) #[] #[]:=by simpa[gr,aB.agg]using hO.symm
 obtain⟨pl,hp,rfl⟩:=fH ⟨aQ,_,cQ⟩;obtain⟨pl',r,hp',hh,hg,⟨q1,q2,q3⟩,ajS,uU⟩:=h.bD id' v aQ _ cQ;have hp':β id'=aw pl':=hp';have hp:β id'=aw pl:=hp;rw[hp']at hp;obtain rfl:pl'=pl:=by simpa using hp
 have hh:w.heap[pl'.b]? =aw (.loop r):=hh
 have EN:EG (s.env w g β) (.yl id' v::(args.toList.map s.ev++f0.list)) (.func (.yield pl'.b) #[] #[]::(args.toList.map a.eval++r.tmps.toList)):=
  ⟨by rw[<-aFk,<-agy];exact h.ev F,(h.aEu args.toList).append ajS.aKs⟩
 have hr:(execOp a.eval o).run P w= .ok (.round pl'.b r.fn ((c0.ps.zip (args.toList.map a.eval).toArray).foldl (λtmps (t,a)=>tmps.setIfInBounds t a) r.tmps.toList.toArray) c0.as c0.b) w:=by
  have e1:execOp a.eval o=(do let d <-resolve a.eval {callee:= .value F,args,argTypes:=tys} o.type;invoke d.target d.args):=by simp only[execOp,ho]
  have e2:=run_yield (P:=P) (args:=args.map a.eval) hh (by simpa[q1]using pd);rw[q1,q2,q3]at e2;rw[e1];simp only[resolve,aFk,Deferred.ofValue,cg,dF,bE,invoke];have e3:(args.toList.map a.eval).toArray=args.map a.eval:=by apply gj;simp
  rw[e3];simpa using e2
 unfold AS.call at he;obtain⟨r2,h1,h2⟩:=ax.1 he;obtain⟨g',i1,e1,_,f1⟩:=e7 r2.2 h;obtain⟨x,hx,k1,k2,key⟩:=O9 i1 (Ap _ _) (Cf rfl h.bD e1 _ _ _ r2 EN h1 f1) h2;refine .inr (.inr (.inr ⟨pl'.b,r.fn,_,c0.as,c0.b,w,hr,λrd n=> ?_⟩));have:=hd.2.1 hy _ _ _ _ _ _ x k1 k2 hx pl'.b (args.toList.map a.eval) r.tmps.toList r.fn rd n rfl (by rw[<-aGd];simpa using pd);rw[<-aGd]at this;exact this.mono λe w' ⟨v,he,ha⟩=>⟨v,he,key v w' ha⟩
def iF.Gu:iF->iF
 | .gg=> .gg
 |_=> .free
theorem iF.M3(l:iF)(h:l≠ .gg):l.Gu= .free:=by cases l <;> first | rfl | exact absurd rfl h
def RC(w:cj)(g:Nat->iF):Env:=(lZ []).env w (λb=>(g b).Gu) λ_=>aF
theorem cq.Zd{w:cj}{g:Nat->iF}{E:Env}(hw:E.w=w)(hg:E.g=g):∀ {t:Ty} {cs:List Value} {x:t.den},t.Zd.pj=aW->cq E.open t cs x->cq (RC w g) t.Zd cs (t.KU x):=by
 have hm:sM E.open (RC w g):=by
  refine⟨λb off v ⟨h1,h2⟩=>⟨by rw[<-hw];exact h1,?_⟩,λb ob h1 h2=>⟨?_,by rw[<-hw];exact h2⟩,λb cur e h1 h2=>⟨?_,cur,by rw[<-hw];exact h2,rfl⟩⟩
  ·have h2:kr (λb=>(E.g b).open) b off:=h2;have h3:E.g b≠ .gg:=λe=>by unfold kr at h2;simp only[e,iF.open]at h2
   show kr (λb=>(g b).Gu) b off;unfold kr;rw[<-hg];simp only[iF.M3 _ h3]
  ·have h1:(E.g b).open= .free:=h1;show(g b).Gu= .free;rw[<-hg];exact iF.M3 _ λe=>by rw[e]at h1;cases h1
  ·have h1:(E.g b).open= .gg:=h1;show(g b).Gu= .gg;rw[<-hg];cases hb:E.g b <;> rw[hb]at h1 <;> first | rfl | cases h1
 intro t
 induction t with
 |eK t _=>
  intro cs x hn h;have hn:t.pj=aW:=hn;simp only[cq]at h;obtain⟨a,cap,vs,e,hl,hs,hc,h1,h2⟩:=h;show cq (RC w g) (.slice t) cs (x:Bool×List t.den).2;simp only[cq];refine⟨a,cap,vs,e,hl,hs,?_,hc.mono λc y hy=>hy.gU hm (.inl hn)⟩;cases hx:(x:Bool×List t.den).1 with
  |false=>exact(h1 hx).mono hm
  |true=>
   intro i v hv;obtain⟨b,off,ha,tw,hf,_⟩:=h2 hx i v hv;have hf:(E.g b).open= .fresh:=hf;refine⟨b,off,ha,by rw[<-hw];exact tw,?_⟩;show kr (λb=>(g b).Gu) b (off+i);unfold kr;rw[<-hg];have h3:E.g b≠ .gg:=λe=>by rw[e]at hf;cases hf
   simp only[iF.M3 _ h3]
 |pair a b iha ihb=>
  intro cs x hn h;have hn:(a.Zd.pj && b.Zd.pj)=aW:=hn;rw[al]at hn;simp only[cq]at h;obtain⟨ca,cb,e,ha,hb⟩:=h;show cq (RC w g) (.pair a.Zd b.Zd) cs (a.KU x.1,b.KU x.2);simp only[cq];exact⟨ca,cb,e,iha hn.1 ha,ihb hn.2 hb⟩
 |_=>
  intro cs x hn h;exact h.gU hm (.inl hn)
theorem atq(h:Inv C g β s a w):∀(v:aB) (t:Ty) (x:t.den) (cs:List Value),V (s.env w g β) v cs->(s.A2 t v).eval=aw x->cq (RC w g) t cs x:=by
 intro v
 induction v with
 |d t' x'=>
  intro t x cs hv he;have he:(Out.guard t'.Zd.pj (Out.opt (xv t'.Zd t (t'.KU x')))).eval=aw x:=by cases t <;> simpa only[AS.A2]using he
  obtain⟨h1,h2⟩:=aD.1 he;simp only[V]at hv;exact u5 (gB.1 h2) (cq.Zd (E:=s.env w g β) rfl rfl h1 (hv.mono (adT _).mem))
 |cw=>
  intro t x cs hv he;cases t <;> simp only[AS.A2,av]at he;obtain rfl:=ay.1 he;simp only[V]at hv;simp only[cq];exact⟨aF,0,[],by simpa using hv,by simp,by simp,λi v hh=>by simp at hh,rfl⟩
 |dx id ver p c i len=>
  intro t x cs hv he;cases t <;> simp only[AS.A2,av]at he;obtain⟨⟨n,t',l⟩,h1,h2⟩:=ax.1 he;obtain⟨h3,h4⟩:=bO.1 h2;obtain⟨h5,h6⟩:=aD.1 h4;have hr:=XG (E':=(s.env w g β).open) rfl h.bD (adT _) h1 h3 hv (λid _ v fr c hs pl hp j x hx _=>⟨hx,aht (h.bD id v fr c hs) hp j⟩);refine u5 (gB.1 h6) ?_
  simp only[cq]at hr ⊢;obtain⟨ad,cap,vs,e,hl,hs,nD,hc⟩:=hr;have e2:cut (l.map t'.KU) i len=(cut l i len).map t'.KU:=by simp[cut,List.map_drop,List.map_take]
  rw[e2,bR];refine⟨ad,cap,vs,e,hl,hs,λj v hj=> ?_,hc.map λc y hy=>cq.Zd (E:=s.env w g β) rfl rfl h5 hy⟩;obtain⟨b,off,ha,tw,gT⟩:=nD j v hj;refine⟨b,off,ha,tw,?_⟩;have gT:kr (λb=>(g b).open) b (off+j):=gT;have h3:g b≠ .gg:=λe=>by unfold kr at gT;simp only[e,iF.open]at gT
  show kr (λb=>(g b).Gu) b (off+j);unfold kr;simp only[iF.M3 _ h3]
 |pr u v ihu ihv=>
  intro t x cs hv he;cases t <;> simp only[AS.A2,av]at he;obtain⟨x1,h1,h2⟩:=ax.1 he;obtain⟨x2,h3,h4⟩:=ax.1 h2;obtain rfl:=ay.1 h4;simp only[V]at hv;obtain⟨ca,cb,e,ha,hb⟩:=hv;simp only[cq];exact⟨ca,cb,e,ihu _ x1 ca ha h1,ihv _ x2 cb hb h3⟩
 |_=>intro t x cs hv he;cases t <;> simp only[AS.A2,av]at he
theorem aAp(t:Ty):t.Zd.agg=t.agg:=by cases t <;> rfl
theorem afc{t:Ty}{v:aB}{x:t.den}(h:(s.A2 t v).eval=aw x):v.ee=aW:=by
 cases v <;> first
  |rfl
  | (cases t <;> simp only[AS.A2,av]at h)
theorem atp{t:Ty}{v:aB}{x:t.den}(h:(s.A2 t v).eval=aw x):v.agg=t.agg:=by
 cases v with
 |d t' x'=>
  have h':(Out.guard t'.Zd.pj (Out.opt (xv t'.Zd t (t'.KU x')))).eval=aw x:=by cases t <;> simpa only[AS.A2]using h
  rw[<-O5 (gB.1 (aD.1 h').2),aAp];rfl
 |_=>cases t <;> first | rfl | (simp only[AS.A2,av]at h)
theorem RE(h:Inv C g β s a w):∀ {ps:List (Option Ty)} {vs vs':List aB} {ys:List Value},EG (s.env w g β) vs ys->(s.VL ps vs).eval=aw vs'->EG (RC w g) vs' ys
 |[],[],vs',ys,hv,he=>by
  obtain rfl:=ay.1 he;cases ys with
  |nil=>trivial
  |cons _ _=>exact hv.elim
 |some t::ps,v::vs,vs',[],hv,he=>hv.elim
 |some t::ps,v::vs,vs',y::ys,⟨h1,h2⟩,he=>by simp only[AS.VL]at he;obtain⟨x,hx,he⟩:=ax.1 he;obtain⟨r,hr,he⟩:=ax.1 he;obtain rfl:=ay.1 he;obtain⟨cs,hV,hO⟩:=h1.ee (afc hx);exact⟨⟨cs,by simpa only[V]using atq h v t x cs hV hx,by rw[atp hx]at hO;exact hO⟩,RE h h2 hr⟩
 |none::_,_::_,_,_,_,he=>by simp only[AS.VL,av]at he
 |[],_::_,_,_,_,he=>by simp only[AS.VL,av]at he
 |_::_,[],_,_,_,he=>by simp only[AS.VL,av]at he
theorem Ud(h:Inv C g β s a w){c:Call}{F:bH}{f:jF}{caps:aB}{en:Entry}(ho:o.op= .call c)(hc:c.callee= .value F)(hF:s.ev F= .fn f caps)(hd:A7 P f en){s':AS}
  (he:(s.aaF en o.dst (c.args.toList.map s.ev++caps.list)).eval=aw s'):fq P o a w (gl C s'):=by
 obtain⟨cal,args,tys⟩:=c;simp only at hc he;subst hc;obtain⟨vs,hy,aBJ⟩:=Uv (hF▸h.ev F);have EN:=(h.aEu args.toList).append (TZ aBJ);have hr:(execOp a.eval o).run P w=(callFunc f (args.toList.map a.eval++vs).toArray).run P w:=by
  have e1:execOp a.eval o=(do let d <-resolve a.eval {callee:= .value F,args,argTypes:=tys} o.type;invoke d.target d.args):=by simp only[execOp,ho]
  rw[e1];simp only[resolve,hy,Deferred.ofValue,cg,dF,bE,invoke];congr 2;simp
 unfold AS.aaF at he;obtain⟨vs',h1,he⟩:=ax.1 he;obtain⟨x,hx,he⟩:=lA.1 he;obtain⟨x0,azR,he⟩:=ax.1 he;rw[en.ajb _ _ azR]at he;obtain⟨avw,he⟩:=aD.1 he;obtain rfl:=ay.1 he;have hv:=RE h EN h1;have hO:iH (RC w g):=by intro id ver fr c hs;have hs:(lZ []).bV id=aw (.obj ver fr c):=hs;cases id <;> simp[lZ,AS.bV]at hs
 have key:∀v w',FM (RC w g) (en.out vs' [] x) v w'->gl C (s.put o.dst (en.out vs' [] x).val) (a.put o.dst v) w':=λv w' ⟨g',β',u9,_,ht,_⟩=>by
  have ht:kU aQ w w' (λb=>(g b).Gu) g':=ht;have agz:∀b,b < w.heap.size->g b≠ .gg->w'.heap[b]? =w.heap[b]? :=λb hb hj=>by have:=ht.YM b hb;simp only[iF.M3 _ hj]at this;exact this.2
  have aDX:Trans w w' g λb=>if b < w.heap.size then g b else .own .dT 0:=by
   refine⟨ht.os,ht.tape,ht.output,ht.size,λb hb=> ?_⟩;simp only[hb,bN];cases hg:g b with
   |free=>exact⟨rfl,agz b hb (by rw[hg];simp)⟩
   |own o' k=>cases o' with
    |dT=>exact⟨rfl,agz b hb (by rw[hg];simp)⟩
    |id i=>exact⟨.inr (.inr ⟨i,k,rfl,az _⟩),λoff v _ hv=>by simpa only[eQ,agz b hb (by rw[hg];simp)]using hv⟩
   |fresh=>exact .inl ⟨rfl,agz b hb (by rw[hg];simp)⟩
   |gg=>
    have:=ht.YM b hb;simp only[hg,iF.Gu]at this;exact⟨rfl,this.2⟩
  have hle:cP (s.env w g β) (s.env w' (λb=>if b < w.heap.size then g b else .own .dT 0) β):=cP.same aDX;have i1:=h.step rfl aDX hle (iH.same h.bD hle λi ver fr c pl hi hp=>by
   obtain⟨hl,Mp⟩:=(h.bD i ver fr c hi).label (pl:=pl) hp;have hl':pl.b < w.heap.size:=hl;refine⟨agz _ hl' λe=> ?_,by show(if pl.b < w.heap.size then g pl.b else _)=_;rw[if_pos hl']⟩;have Mp:(∃k,g pl.b= .own (.id i) k)\/(fr=aW/\g pl.b= .free):=Mp;rw[e]at Mp;rcases Mp with⟨_,hk⟩ | ⟨_,hk⟩ <;> cases hk)
  refine⟨_,β,i1.put o.dst ?_⟩;generalize (en.out vs' [] x).val=u at u9 avw;cases u with
  |d t y=>cases t with
   |int k=>rw[tA u9];exact kV _ _
   |bool=>rw[LY u9];exact vG _
   |_=>simp[aB.flat]at avw
  |_=>simp[aB.flat]at avw
 rcases hd _ _ _ _ _ _ _ hv hO hx with⟨Mo,aJG⟩ | ⟨v,w',aDZ,ha⟩
 ·exact .inr (.inr (.inl ⟨f,(args.toList.map a.eval++vs).toArray,w,hr.trans Mo,aJG.mono λe w' ⟨v,he,ha⟩=>⟨v,he,key v w' ha⟩⟩))
 ·exact .inl ⟨v,w',hr.trans aDZ,key v w' ha⟩
end
end Go.Ab
namespace Go.Ab
section
variable {P:aR} {C:Ctx} {g:Nat->iF} {β:Id->Option Pl} {s:AS} {a:Act} {w:cj} {o:Oper}
theorem jI{b:Builtin}{args:Array bH}{ts:Array TypeId}{F:TypeId->Array Value->Sem Value}{x:Value}{w':cj}{s':AS}(ho:o.op= .call {callee:= .builtin b,args,argTypes:=ts})
  (hb:∀ty cs xs,builtin b ts ty cs xs=(do pure (.value (<-F ty xs)))) (hf:∀ty,(F ty (args.map a.eval)).run P w= .ok x w') (h2:∃g' β',Inv C g' β' s' (a.put o.dst x) w'):fq P o a w (gl C s'):=by
 refine .inl ⟨x,w',?_,h2⟩;simp only[execOp,ho,resolve,cg,dF,bE,invoke];rw[hb,cg,hf];rfl
theorem akm(h:Inv C g β s a w){src dst:TypeId}{x:bH}(ho:o.op= .convert src dst x){id:Id}{ver:Nat}(hx:s.ev x= .ptr id ver [] 0){v:aB}(he:(aaM P s src dst id ver).eval=aw v):fq P o a w (gl C (s.put o.dst v)):=by
 have hv:=h.ev x;rw[hx]at hv;obtain⟨ad,hy,hb,hc⟩:=tJ hv;have fin:v= .ptr id ver [] 0->(convert src dst (a.eval x)).run P w= .ok (a.eval x) w->fq P o a w (gl C (s.put o.dst v)):=by intro h1 h2;subst h1;exact h.value hv (eh (f:=convert src dst (a.eval x)) (by simp only[execOp,ho]) h2)
 unfold aaM at he;split at he
 ·rename_i v0 fr e c ko;have cQ:=dA ko;obtain⟨pl',cur,e',hp',hh,hg,hk,hV⟩:=(h.bD id v0 fr _ cQ).box rfl;have hk:e'=e:=hk;subst hk;have hV:V (s.env w g β) c (cur.toList.take cur.size):=hV;rw[<-cG,bt]at hV;have hh:w.heap[pl'.b]? =aw (.cells cur e' (0,0)):=hh
  have pd:=hV.size;have pd:cur.toList.length=c.size:=pd;have adk:w.shape? pl'.b=aw (e',c.size):=by simp only[World.shape?,hh];rw[<-pd];simp
  have hp':β id=aw pl':=hp';split at he
  ·rename_i t hS hD;obtain⟨h1,h2⟩:=aD.1 he;have h2:=ay.1 h2;simp only[al,dp,cD,fv]at h1;obtain⟨⟨rfl,h3⟩,h4⟩:=h1;obtain⟨pl,hp,rfl⟩:=hc ⟨fr,_,cQ⟩;have hp:β id=aw pl:=hp;rw[hp']at hp;obtain rfl:pl'=pl:=by simpa using hp
   refine fin h2.symm ?_
   rw[hy];cases hi:P.info? t with
   |none=>exact absurd (by simp[Program.cellsOf,hi]) h3
   |some j=>
    have hj:j.size≠0:=by rw[<-nC hi]at*;exact h3
    exact Go.Lib.run_to_unsafe w _ hS hD hi hj adk (by show 0 < c.size;omega)
  ·rename_i u hS hD;obtain⟨h1,h2⟩:=aD.1 he;have h2:=ay.1 h2;simp only[al,dp,cD,fv]at h1;obtain⟨⟨rfl,h3⟩,h4⟩:=h1;obtain⟨pl,hp,rfl⟩:=hc ⟨fr,_,cQ⟩;have hp:β id=aw pl:=hp;rw[hp']at hp;obtain rfl:pl'=pl:=by simpa using hp
   refine fin h2.symm ?_
   rw[hy];cases hi:P.info? u with
   |none=>exact absurd (by simp[Program.cellsOf,hi]) h3
   |some j=>exact Go.Lib.run_from_unsafe w _ hS hD hi adk h4
  ·simp only[av]at he
 ·simp only[av]at he
theorem au8(h:Inv C g β s a w){T U:TypeId}{op:BinOp}{x y:bH}(ho:o.op= .binOp op T x y U){i j:Id}{v1 v2:Nat}(hx:s.ev x= .ptr i v1 [] 0)(hy:s.ev y= .ptr j v2 [] 0){v:aB}(he:(aDI P s T op i v1 j v2).eval=aw v):
  fq P o a w (gl C (s.put o.dst v)):=by
 unfold aDI at he;split at he
 ·rename_i v' fr c ko;obtain⟨h1,h2⟩:=aD.1 he;simp only[al,dp,bh]at h1;obtain⟨⟨⟨rfl,rfl⟩,rfl⟩,aDV⟩:=h1;have cQ:=dA ko;have UI:=h.ev x;have aBL:=h.ev y;rw[hx]at UI;rw[hy]at aBL;obtain⟨ad,aEE,_,hc⟩:=tJ UI;obtain⟨ad',aEF,_,hc'⟩:=tJ aBL;obtain⟨pl,hp,rfl⟩:=hc ⟨fr,c,cQ⟩;obtain⟨pl',hp',rfl⟩:=hc' ⟨fr,c,cQ⟩;rw[hp]at hp';obtain rfl:pl=pl':=by simpa using hp'
  have hT:∃t j,P.underlying T=aw (.pointer t)/\P.info? t=aw j:=by
   unfold aFy at aDV;split at aDV
   ·rename_i t ht;obtain⟨j,hj⟩:=cv.1 aDV;exact⟨t,j,ht,hj⟩
   ·cases aDV
  obtain⟨t,j,hT,hj⟩:=hT
  have hq:(Op.equal T (.pointer (aw ⟨pl.b,0,aF⟩)) (.pointer (aw ⟨pl.b,0,aF⟩))).run P w= .ok aW w:=
   eA λd=>by simp[de,run_underlying hT,sizeOf,typeInfo,hj,run_sameAddr_same]
  have aJL:(eqGuard op T x y (a.eval x) (a.eval y)).run P w= .ok () w:=by rw[aEE,aEF];exact ou (by simp) rfl
  have fin:∀z,(binOp op T (a.eval x) (a.eval y)).run P w= .ok z w->VS (s.env w g β) v z->fq P o a w (gl C (s.put o.dst v)):=by
   intro z h1 h3;refine h.value h3 ?_
   simp[execOp,ho,h1,aJL]
  split at h2
  ·obtain rfl:=ay.1 h2;refine fin (.bool aW) ?_ (vG aW)
   rw[aEE,aEF];simp[binOp,hq]
  ·obtain rfl:=ay.1 h2;refine fin (.bool aQ) ?_ (vG aQ)
   rw[aEE,aEF];simp[binOp,hq]
  ·simp only[av]at h2
 ·simp only[av]at he
theorem aBo{c:Call}{b:Builtin}{x:bH}(hc:c.callee= .builtin b)(ha:c.args.toList=[x]):c= {callee:= .builtin b,args:= #[x],argTypes:=c.argTypes}:=by
 obtain⟨cal,args,tys⟩:=c;simp only at hc ha;have ha':args= #[x]:=by apply gj;simpa using ha
 subst hc ha';rfl
theorem an9{c:Call}{b:Builtin}{x y:bH}(hc:c.callee= .builtin b)(ha:c.args.toList=[x,y]):c= {callee:= .builtin b,args:= #[x,y],argTypes:=c.argTypes}:=by
 obtain⟨cal,args,tys⟩:=c;simp only at hc ha;have ha':args= #[x,y]:=by apply gj;simpa using ha
 subst hc ha';rfl
theorem aHN{ts:Array TypeId}{T:TypeId}(h:ts.toList=[T]):ts= #[T]:=by apply gj;simpa using h
theorem aDv{ts:Array TypeId}{T U:TypeId}(h:ts.toList=[T,U]):ts= #[T,U]:=by apply gj;simpa using h
theorem auz(h:Inv C g β s a w){c:Call}{x:bH}{T e:TypeId}(ho:o.op= .call c)(hc:c.callee= .builtin .cap)(ha:c.args.toList=[x])(ht:c.argTypes.toList=[T])(hx:s.ev x= .cw)(hT:P.underlying T=aw (.slice e)):
  fq P o a w (gl C (s.put o.dst (.d (.int .i64) (0:Int)))):=by
 rw[aBo hc ha,aHN ht]at ho;have hv:=h.ev x;rw[hx]at hv;have hy:=lD hv;refine jI ho (F:=λty xs=>Builtin.cap_ #[T] ty xs) (λty cs xs=>rfl) (x:= .int .i64 0) (w':=w) (λty=> ?_) ⟨g,β,h.put o.dst (kV _ _)⟩;simp[Builtin.cap_,run_underlying hT,hy,goInt]
theorem ai7(h:Inv C g β s a w){c:Call}{x:bH}{id:Id}{ver len:Nat}(ho:o.op= .call c)(hc:c.callee= .builtin .unsafeSliceData)(ha:c.args.toList=[x])(hx:s.ev x= .dx id ver [] 0 0 len)(hl:0 < len):
  fq P o a w (gl C (s.put o.dst (.ptr id ver [.idx 0] 0))):=by
 rw[aBo hc ha]at ho;have hv:=h.ev x;rw[hx]at hv;obtain⟨ad,cap,hy,Ph,hs,hb,fH⟩:=sa hv;obtain⟨ad,rfl⟩:=cv.1 (hs hl);refine jI ho (F:=λty xs=>Builtin.unsafeSliceData_ c.argTypes ty xs) (λty cs xs=>rfl) (x:= .pointer (aw ad)) (w':=w) (λty=> ?_) ⟨g,β,h.put o.dst ?_⟩
 ·rw[show(#[x].map a.eval)= #[a.eval x] by simp,hy];exact Go.Lib.run_unsafeSliceData_row w _ _ _ _ _ ak
 ·refine⟨[.pointer (aw ad)],?_,rfl⟩;simp only[V];refine⟨ad,rfl,hb,λhc=> ?_⟩;have h1:=fH hc;cases hp:(s.env w g β).β id with
  |none=>rw[hp]at h1;simp only at h1;cases h1.1
  |some pl=>
   rw[hp]at h1;simp only at h1;exact⟨pl,rfl,by simpa using h1.1 (.inl hl)⟩
theorem ag7(h:Inv C g β s a w){c:Call}{mx:Bool}(ho:o.op= .call c)(hc:c.callee= .builtin (if mx then .max else .min)){v:aB}(he:(aqS mx (c.args.toList.map s.ev)).eval=aw v):fq P o a w (gl C (s.put o.dst v)):=by
 unfold aqS at he;split at he
 ·rename_i k x k' y Rd;obtain⟨h1,h2⟩:=aD.1 he;obtain rfl:=ay.1 h2;have h1:k=k':=by simpa using h1
  subst h1;have avu:∃p q,c.args.toList=[p,q]/\s.ev p= .d (.int k) x/\s.ev q= .d (.int k) y:=by
   match hh:c.args.toList,Rd with
   |[p,q],Rd=>simp only[bS,eX,bF]at Rd;exact⟨p,q,rfl,Rd.1,Rd.2.1⟩
   |[],Rd=>simp at Rd
   |[_],Rd=>simp at Rd
   |_::_::_::_,Rd=>simp at Rd
  obtain⟨p,q,ha,hp,hq⟩:=avu;rw[an9 hc ha]at ho;have aCG:=h.ev p;have aBK:=h.ev q;rw[hp]at aCG;rw[hq]at aBK;have ep:=tA aCG;have eq:=tA aBK;cases mx with
  |true=>
   refine jI ho (F:=λty xs=>Builtin.max_ c.argTypes ty xs) (λty cs xs=>rfl) (x:= .int k (if x < y then y else x)) (w':=w) (λty=> ?_) ⟨g,β,h.put o.dst (kV _ _)⟩;rw[show(#[p,q].map a.eval)= #[a.eval p,a.eval q] by simp,ep,eq];simp[Builtin.max_,Builtin.max2]
  |false=>
   refine jI ho (F:=λty xs=>Builtin.min_ c.argTypes ty xs) (λty cs xs=>rfl) (x:= .int k (if y < x then y else x)) (w':=w) (λty=> ?_) ⟨g,β,h.put o.dst (kV _ _)⟩;rw[show(#[p,q].map a.eval)= #[a.eval p,a.eval q] by simp,ep,eq];simp[Builtin.min_,Builtin.min2]
 ·rename_i k x k' y k2 z Rd;obtain⟨h1,h2⟩:=aD.1 he;obtain rfl:=ay.1 h2;simp only[al,bh]at h1;obtain⟨rfl,rfl⟩:=h1;have avu:∃p q r,c.args.toList=[p,q,r]/\s.ev p= .d (.int k) x/\s.ev q= .d (.int k) y/\s.ev r= .d (.int k) z:=by
   match hh:c.args.toList,Rd with
   |[p,q,r],Rd=>simp only[bS,eX,bF]at Rd;exact⟨p,q,r,rfl,Rd.1,Rd.2.1,Rd.2.2.1⟩
   |[],Rd=>simp at Rd
   |[_],Rd=>simp at Rd
   |[_,_],Rd=>simp at Rd
   |_::_::_::_::_,Rd=>simp at Rd
  obtain⟨p,q,r,ha,hp,hq,hr⟩:=avu;have aDK:c= {callee:= .builtin (if mx then .max else .min),args:= #[p,q,r],argTypes:=c.argTypes}:=by
   obtain⟨cal,args,tys⟩:=c;simp only at hc ha;have ha':args= #[p,q,r]:=by apply gj;simpa using ha
   subst hc ha';rfl
  rw[aDK]at ho;have aCG:=h.ev p;have aBK:=h.ev q;have ajT:=h.ev r;rw[hp]at aCG;rw[hq]at aBK;rw[hr]at ajT;have ep:=tA aCG;have eq:=tA aBK;have er:=tA ajT;cases mx with
  |true=>
   refine jI ho (F:=λty xs=>Builtin.max_ c.argTypes ty xs) (λty cs xs=>rfl) (x:= .int k (if(if x < y then y else x) < z then z else(if x < y then y else x))) (w':=w) (λty=> ?_) ⟨g,β,h.put o.dst (kV _ _)⟩;rw[show(#[p,q,r].map a.eval)= #[a.eval p,a.eval q,a.eval r] by simp,ep,eq,er];simp[Builtin.max_,Builtin.max2]
  |false=>
   refine jI ho (F:=λty xs=>Builtin.min_ c.argTypes ty xs) (λty cs xs=>rfl) (x:= .int k (if z < (if y < x then y else x) then z else(if y < x then y else x))) (w':=w) (λty=> ?_) ⟨g,β,h.put o.dst (kV _ _)⟩;rw[show(#[p,q,r].map a.eval)= #[a.eval p,a.eval q,a.eval r] by simp,ep,eq,er];simp[Builtin.min_,Builtin.min2]
 ·simp only[av]at he
theorem YG(z:Array Value)(n:Nat):Builtin.zeroCells z n=madeCells z (n*z.size):=rfl
theorem aqm(h:Inv C g β s a w){c:Call}{x y:bH}{T X:TypeId}{k:kN}{n:Int}(ho:o.op= .call c)(hc:c.callee= .builtin .append)(ha:c.args.toList=[x,y])(ht:c.argTypes.toList=[T,X])(hx:s.ev x= .cw)(hy:s.ev y= .d (.int k) n){s':AS}
  (he:(agu P s o.dst T X n).eval=aw s'):fq P o a w (gl C s'):=by
 rw[an9 hc ha,aDv ht]at ho;have UI:=h.ev x;have aBL:=h.ev y;rw[hx]at UI;rw[hy]at aBL;have ex:=lD UI;have ey:=tA aBL;unfold agu at he;split at he
 ·rename_i e t b q kn IS hd hX;obtain⟨hT,hz,i,zv,hi,aqs,azF,ajV,aqx⟩:=Bd IS;obtain⟨hq,h2⟩:=aD.1 he;obtain⟨h3,h4⟩:=bO.1 h2;obtain rfl:=ay.1 h4;simp only[al,bh,db]at h3;obtain⟨h5,h7,h8⟩:=h3;obtain⟨m,rfl⟩:=Int.eq_ofNat_of_zero_le (Int.le_of_lt h5);simp only[aa]at h7 h8 ⊢;have aD3:zv.cells.size=t.size:=by have:=(aqx (s.env w g β)).size;simpa using this
  have hr:=λty=>Go.Lib.run_append_nil_zeros (P:=P) w T X ty e i zv k kn hT hX hi ajV m ak (by rw[aqs];exact hz) ak (by rw[azF];omega)
  obtain⟨cap,Ph⟩:∃cap,grownCap w m 0 e=cap:=⟨_,rfl⟩;have c1:m<=cap:=by rw[<-Ph];exact grownCap_ge _ _ _ _
  have c2:cap<=maxLen:=by rw[<-Ph];exact grownCap_le_maxLen _ _ _ _ (by unfold maxLen;omega)
  rw[Ph]at hr;obtain⟨cur,fH⟩:∃cur,Builtin.zeroCells zv.cells m++Builtin.zeroCells zv.cells (cap - m)=cur:=⟨_,rfl⟩;rw[fH]at hr;have s1:cur.size=cap*t.size:=by rw[<-fH,Array.size_append,zT,zT,aD3,<-eG];congr 1;omega
  have sz:=uw (aqx (s.env w.drew g β)) m;have s2:cur.toList.take (m*t.size)=(madeCells zv.cells (m*t.size)).toList:=by
   rw[<-fH,bZ,YG,aD3];have hl:(madeCells zv.cells (m*t.size)).toList.length=m*t.size:=by simp[size_madeCells]
   rw[iV ak,bg ak]
  obtain⟨g2,β2,i2,SH⟩:=(h.drew).adL hq (e:=e) (l:=ag m t.zero) (cur:=cur) (cap:=cap) hz (by rw[cO,s2];exact sz) s1 (by rw[cO];exact c1) c2;rw[cO]at SH;refine jI ho (F:=λty xs=>Builtin.append_ #[T,X] ty xs) (λty cs xs=>rfl) (λty=> ?_) ⟨g2,β2,i2.put o.dst SH⟩;rw[show(#[x,y].map a.eval)= #[a.eval x,a.eval y] by simp,ex,ey];exact hr ty
 ·simp only[av]at he
theorem ab2:∀(xs:List Int) (a:Addr) (acc:ByteArray),(∀j x,xs[j]? =aw x->w.cell? (a.add j)=aw (.int .u8 x))->
  (loadBytes a acc xs.length).run P w= .ok ⟨acc.data++(xs.map λn=>UInt8.ofNat n.toNat).toArray⟩ w
 |[],a,acc,_=>by simp[loadBytes]
 |x::l,a,acc,h=>by
  have h0:w.cell? a=aw (.int .u8 x):=by have:=h 0 x rfl;simpa[Addr.add]using this
  have ih:=ab2 l (a.add 1) (acc.push x.toNat.toUInt8) (λj y hy=>by
   have:=h (j+1) y (by simpa using hy);have e:(a.add 1).add j=a.add (j+1):=by
    unfold Addr.add;by_cases hj:j=0
    ·subst hj;simp
    ·simp[hj];omega
   rw[e];exact this)
  simp only[aE,loadBytes,cg,run_load,h0,Result.andThen];rw[ih];congr 1;apply ByteArray.ext;simp[ByteArray.push]
theorem atn(h:Inv C g β s a w){c:Call}{x y:bH}{T U:TypeId}{id:Id}{ver:Nat}{n:Int}(ho:o.op= .call c)(hc:c.callee= .builtin .unsafeString)(ha:c.args.toList=[x,y])(ht:c.argTypes.toList=[T,U])
  (hx:s.ev x= .ptr id ver [.idx 0] 0) (hy:s.ev y= .d (.int .i64) n) {s':AS} (he:(ajp P s o.dst T id ver n).eval=aw s'):fq P o a w (gl C s'):=by
 rw[an9 hc ha,aDv ht]at ho;have UI:=h.ev x;rw[hx]at UI;obtain⟨ad,aEE,_,aGI⟩:=tJ UI;have aBL:=h.ev y;rw[hy]at aBL;have aEF:=tA aBL;unfold ajp at he;split at he
 ·rename_i v e l u ko hT;obtain⟨h1,h2⟩:=aD.1 he;obtain⟨h3,h4⟩:=bO.1 h2;obtain rfl:=ay.1 h4;simp only[al,dp]at h1;obtain⟨⟨rfl,rfl⟩,aCq⟩:=h1;simp only[bh]at h3;obtain⟨h5,h6⟩:=h3;obtain⟨n,rfl⟩:=Int.eq_ofNat_of_zero_le (Int.le_of_lt h5);have h6:n<=(l:List Int).length:=ak;have cQ:=dA ko;obtain⟨pl,hp,rfl⟩:=aGI ⟨aQ,_,cQ⟩;have hp:β id=aw pl:=hp;have hO:tp (s.env w g β) id aQ (.vec u (.int .u8) l):=h.bD id v aQ _ cQ;obtain⟨hz,hO⟩:=hO;have hO:(match β id with
   |none=>l=[]
   |some pl=>∃cur k,w.heap[pl.b]? =aw (.cells cur u (0,0))/\cur.size=pl.cap*(Ty.int .u8).size/\(l:List Int).length<=pl.cap/\pl.cap<=maxLen/\g pl.b= .own (.id id) k/\
     k<=(l:List Int).length*(Ty.int .u8).size/\(aQ=aQ->k=0)/\bp (cq (s.env w g β) (.int .u8)) (cur.toList.take ((l:List Int).length*(Ty.int .u8).size)) l):=hO
  rw[hp]at hO;obtain⟨cur,k,q1,q2,q3,q4,q5,q6,q7,q8⟩:=hO;have hk:=q7 rfl;subst hk;have aCA:(Ty.int .u8).size=1:=rfl;rw[aCA,gq]at q2 q8;have YW:=Ad q8;have adk:w.shape? pl.b=aw (u,cur.size):=by simp only[World.shape?,q1]
  have tw:∀j z,((l:List Int).take n)[j]? =aw z->w.cell? ((⟨pl.b,0,aF⟩:Addr).add j)=aw (.int .u8 z):=λj z hj=>by
   rw[cW]at hj;split at hj
   ·rename_i aLg;have aCw:j < (l:List Int).length:=ak;rw[eO,aH];simp only[eQ,q1];have:(cur.toList.take (l:List Int).length)[j]? =aw (.int .u8 z):=by rw[YW,dK,hj];rfl
    rw[cW,if_pos aCw]at this;simpa using this
   ·cases hj
  have hlen:((l:List Int).take n).length=n:=by rw[ct];omega
  have aqt:=ab2 (P:=P) (w:=w) ((l:List Int).take n) ⟨pl.b,0,aF⟩ .empty tw;rw[hlen]at aqt;have aE4:=Go.Lib.liesAt_bytes (P:=P) (e:=u) (by simpa using aCq) (cur.size / P.cellsOf u) n (by
   rw[show P.cellsOf u=1 by simpa using aCq,Nat.div_one];omega)
  have aEX:∃w',w.freeze ⟨pl.b,0,aF⟩ n=w'/\w'.os=w.os/\w'.tape=w.tape/\(w'.output=w.output/\w.drawn<=w'.drawn)/\w'.heap.size=w.heap.size/\∀b',b'≠pl.b->w'.heap[b']? =w.heap[b']? :=by refine⟨_,rfl,?_⟩;unfold World.freeze;rw[if_neg ak];refine⟨rfl,rfl,⟨rfl,az _⟩,by simp,λb' hb'=> ?_⟩;simp only[kM];rw[if_neg (λe=>hb' e.symm)]
  obtain⟨w',hw',f1,f2,f3,f4,f5⟩:=aEX;have i1:=(h.kill cQ q5 f1 f2 f3 f4 f5 (lb:= .free) (.inl rfl)).1;have aI2:¬(9223372036854775807:Int) < (n:Int):=by unfold maxLen at q4;omega
  have aG0:¬(n:Int) < 0:=ak;have azH:n≠0:=ak;have aGX:IntKind.i64.max=9223372036854775807:=rfl;refine jI ho (F:=λty xs=>Builtin.unsafeString_ #[T,U] ty xs) (λty cs xs=>rfl) (x:= .string (cY ((l:List Int).take n))) (w':=w') (λty=> ?_) ⟨_,β,i1.put o.dst ⟨[.string (cY ((l:List Int).take n))],by simp only[V,cq];rfl,rfl⟩⟩;rw[show(#[x,y].map a.eval)= #[a.eval x,a.eval y] by simp,aEE,aEF]
  have aGK:Builtin.unsafeString_ #[T,U] ty #[.pointer (aw ⟨pl.b,0,aF⟩),.int .i64 n]=
    (do
     let n <-Go.asInt (.int .i64 n)
     if n < 0 then runtimePanic (.error "unsafe.String: len out of range")
     if n > IntKind.i64.max then unsupported (.unsafePointer "String: a length above the largest int")
     if n=0 then pure (.string .empty)
     else if <-variablesAt ⟨pl.b,0,aF⟩ (<-elemOf T) n.toNat then do
      let s <-loadBytes ⟨pl.b,0,aF⟩ .empty n.toNat
      freeze ⟨pl.b,0,aF⟩ n.toNat
      pure (.string s)
     else unsupported (.unsafePointer "String: not so many bytes at ptr")):=rfl
  rw[aGK];simp[Go.asInt,asIntOf,aGX,aI2,aG0,azH,variablesAt,adk,elemOf,run_underlying hT,aE4,aqt,hw',cY]
 ·simp only[av]at he
end
end Go.Ab
namespace Go.Ab
section
variable {P:aR} {C:Ctx} {g:Nat->iF} {β:Id->Option Pl} {s:AS} {a:Act} {w:cj} {o:Oper}
theorem ag3(h:Inv C g β s a w){c:Call}{T T2:TypeId}{m k:bH}(dj:o.op= .call c)(hc:c.callee= .builtin .delete)(ha:c.args.toList=[m,k])(ht:c.argTypes.toList=[T,T2]){s':AS}(he:(Dq P s T (s.ev m) (s.ev k)).eval=aw s'):fq P o a w (gl C (s'.put o.dst .nil)):=by
 have dj:o.op= .call {callee:= .builtin .delete,args:= #[m,k],argTypes:= #[T,T2]}:=by rw[dj,an9 hc ha,aDv ht]
 unfold Dq at he;split at he
 ·rename_i K V' kt vt id ver hm hx;obtain⟨l,h1,he⟩:=ax.1 he;obtain⟨kx,h2,he⟩:=ax.1 he;obtain⟨aCF,he⟩:=aD.1 he;obtain rfl:=ay.1 he;obtain⟨hT,hK,_⟩:=Aq hm;have UI:=h.ev m;rw[hx]at UI;obtain⟨fr,pl,es,clock,g1,g2,g3,g4,g5,g6,g7,gn⟩:=xW h h1 UI;obtain⟨l0,g6,gp⟩:=g6;have Jf:=yS depth K kt hK;have hk:=DN (h.ev k) h2;have aBw:=o8 (P:=P) (w:=w) es.isEmpty depth K kt hK 10000 gw _ _ hk;obtain⟨r,hf,hr⟩:=Kw (P:=P) (w:=w) hK hk rfl g6
  have fin:∀(es':Array fi) (clock':Nat),(∀ty,(Builtin.delete_ #[T,T2] ty (#[m,k].map a.eval)).run P w= .ok (.tuple #[]) {w with heap:=w.heap.setIfInBounds pl.b (.map es' clock')})->Alike (zW (s.env w g β) kt vt) es'.toList (Cn kt kx l0)->oW es'.toList clock'->
    fq P o a w (gl C ((s.aZ id (.obj ver aQ (.mp kt vt (Cn kt kx l)))).put o.dst .nil)):=λes' clock' pU avu aEI=>
   jI (F:=λty xs=>Builtin.delete_ #[T,T2] ty xs) dj (λ_ _ _=>rfl) pU ⟨g,β,(h.ax0 g1 g2 g4 g5 ⟨_,avu,U8 Jf gn gp⟩ (Rt Jf gn) aEI aCF).put o.dst rfl⟩
  cases r with
  |none=>
   simp only at hr;refine fin es clock (λty=> ?_) (by simp only[Cn,hr];exact g6) g7;simp[Builtin.delete_,run_underlying hT,g3,Go.MapKept.run_getObj_map g4,aBw,hf,Go.MapKept.run_setObj_map _ g4]
  |some u=>
   obtain⟨j,u⟩:=u;obtain⟨e,m1,m2,rfl⟩:=hr;refine fin (es.eraseIdxIfInBounds j) clock (λty=> ?_) ?_ (by rw[Array.toList_eraseIdxIfInBounds];exact g7.erase j)
   ·simp[Builtin.delete_,run_underlying hT,g3,Go.MapKept.run_getObj_map g4,aBw,hf,Go.MapKept.run_setObj_map _ g4]
   ·simp only[Cn,m1,Array.toList_eraseIdxIfInBounds];exact g6.erase j
 ·simp only[av]at he
theorem aau{s:AS}{id:Id}{e:dP}{q:Nat}(hq:s.ej q=aW)(jR:s.bV id≠aF):(s.aZ id e).ej q=aW:=by
 cases id with
 |eC k=>exact hq
 |new i j=>
  by_cases hi:i=q
  ·subst hi;exact absurd ((kL hq).1 j) jR
  ·unfold AS.ej AS.aZ;simp only[ek hi];exact hq
theorem WZ(h:Inv C g β s a w){T:TypeId}{m:bH}(dj:o.op= .range T m){s':AS}(he:(P7 P s o.dst T (s.ev m)).eval=aw s'):fq P o a w (gl C s'):=by
 unfold P7 at he;split at he
 ·rename_i K V' kt vt id ver q hm hx hd;obtain⟨l,h1,he⟩:=ax.1 he;obtain⟨hq,he⟩:=aD.1 he;obtain rfl:=ay.1 he;rw[al]at hq;obtain⟨hT,_,_⟩:=Aq hm;have UI:=h.ev m;rw[hx]at UI;obtain⟨fr,pl,es,clock,g1,g2,g3,g4,g5,g6,g7,gn⟩:=xW h h1 UI;obtain rfl:=zO g1 hq.1;have jR:s.bV id≠aF:=by rw[g1];simp
  have aJn:=Trans.refl w g;have akH:cP (s.env w g β) ((s.aZ id (.obj ver aW (.mp kt vt l))).env w g β):=cP.aZ g1 (az _) aJn (λ_ _=>rfl) (λ_=>rfl)
  have i0:Inv C g β (s.aZ id (.obj ver aW (.mp kt vt l))) a w:=
   h.step (c9 _ _ _) aJn akH (iH.aZ h.bD jR akH (λ_ _=>rfl) (λ_ _ _ _ _ _ _ _=>⟨rfl,rfl⟩) ⟨pl,es,clock,g2,g4,g5,⟨g6.mono akH.mem,gn⟩,g7⟩ (TC g1))
  have cQ:=eg s id (.obj ver aW (.mp kt vt l)) jR;have hq':=aau (e:= .obj ver aW (.mp kt vt l)) hq.2 jR;generalize aLo:s.aZ id (.obj ver aW (.mp kt vt l))=s0 at i0 cQ hq' akH;have FE:∀j,id≠ .new q j:=λj e=>by rw[e,(kL hq').1 j]at cQ;cases cQ
  have jQ:pl.b < w.heap.size:=(bY.1 g4).1;have ht:=Trans.alloc w g (.mapIter (aw pl.b) clock #[] clock) (.own (.id (.new q 0)) 0);obtain⟨h3,h4⟩:=i0.O0 hq' (c:= .rA id (ver+1) kt vt l aF) (p:=aw ⟨w.heap.size,0⟩) ht (λb hb=>⟨qO w _ hb,fy _ _ _ ak⟩) (λhE=>
   ⟨⟨w.heap.size,0⟩,pl.b,clock,#[],clock,kh _ _ _,tq w _,fk _ _ _,λvr ajT=>by
    obtain rfl:ver=vr:=ak;have hb:(s0.env w g β).yK id ver:=⟨by show s0.bV id≠aF;rw[cQ];simp,λv2 fr2 c2 h2=>by
     have h2:s0.bV id=aw (.obj v2 fr2 c2):=h2;rw[cQ]at h2;simp only[aA,dP.obj.injEq]at h2;omega⟩
    refine⟨hE.yK _ _ hb,λ_=>⟨⟨kt,vt,l,?_⟩,pl,es,clock,?_,rfl,?_,?_,λx hx=>g7.2 x hx,⟨az _,az _⟩,g7.1,?_,λx hx=>by cases hx⟩⟩
    ·show(s0.born q _).bV id=_;rw[iZ _ FE];exact cQ
    ·show Ic β (.new q 0) _ id=_;rw[zQ _ _ _ (FE 0)];exact g2
    ·exact(qO w _ jQ).trans g4
    ·show nX g w.heap.size _ pl.b=_;rw[fy _ _ _ ak];exact g5
    ·have:es.toList.filter (λe=> !(#[]:Array Nat).contains e.born)=es.toList:=jA.2 λx _=>by simp
     rw[this];exact(g6.mono akH.mem).mono hE.mem⟩)
  refine .inl ⟨.pointer (aw ⟨w.heap.size,0,aF⟩),w.alloc (.mapIter (aw pl.b) clock #[] clock),?_,_,_,h3.put o.dst (v:= .ptr (.new q 0) 0 [] 0) ⟨[.pointer (aw ⟨w.heap.size,0,aF⟩)],?_,rfl⟩⟩
  ·refine eh (f:=Instr.range T (a.eval m)) (by simp only[execOp,dj]) ?_
   rw[g3];exact run_range_map w T K V' pl.b es clock hT g4
  ·simp only[V];exact⟨_,rfl,pT hq' _ _ _ _,λ_=>⟨_,kh _ _ _,rfl⟩⟩
 ·simp only[av]at he
theorem afN{Γ:uO}(hΓ:Sound P Γ){bD:List Nat}(h:Inv C g β s a w){s':AS}(he:(pL P Γ bD o s).eval=aw s'):fq P o a w (gl C s'):=by
 unfold pL at he;split at he
 ·rename_i x dj;obtain rfl:=ay.1 he;exact abf h (.inl dj)
 ·rename_i x dj;obtain rfl:=ay.1 he;exact abf h (.inr dj)
 ·rename_i c x y dj;obtain⟨v,h1,h2⟩:=ax.1 he;obtain rfl:=ay.1 h2;exact arl h dj h1
 ·rename_i T dj;split at he
  ·rename_i z q hz hq;obtain⟨h1,h2⟩:=aD.1 he;obtain rfl:=ay.1 h2;simp only[al]at h1;exact aj4 h dj h1.1 h1.2
  ·exact(av.1 he).elim
 ·rename_i T x dj;exact aup h dj he
 ·rename_i T parts dj;exact ake h dj he
 ·rename_i T n parts dj;exact SD h dj he
 ·rename_i T x dj;obtain⟨v,h1,h2⟩:=ax.1 he;obtain rfl:=ay.1 h2;exact aqL h dj h1
 ·rename_i T x v dj;obtain⟨v,h1,h2⟩:=ax.1 he;obtain rfl:=ay.1 h2;exact anB h dj h1
 ·rename_i x dj;exact Zb h dj he
 ·rename_i op T x y U dj;split at he
  ·rename_i i v1 j v2 hx hy;obtain⟨v,h1,h2⟩:=ax.1 he;obtain rfl:=ay.1 h2;exact au8 h dj hx hy h1
  ·obtain⟨v,h1,h2⟩:=ax.1 he;obtain rfl:=ay.1 h2;exact akb h dj h1
 ·rename_i op T x dj;obtain⟨v,h1,h2⟩:=ax.1 he;obtain rfl:=ay.1 h2;exact atP h dj h1
 ·rename_i T U x dj;split at he
  ·rename_i id ver len hTU hx;exact akl h dj hx he
  ·rename_i id ver hx;obtain⟨v,h1,h2⟩:=ax.1 he;obtain rfl:=ay.1 h2;exact akm h dj hx h1
  ·obtain⟨v,h1,h2⟩:=ax.1 he;obtain rfl:=ay.1 h2;exact acR h dj h1
 ·rename_i T x dj;exact anK h dj he
 ·rename_i f first caps dj
  obtain⟨h1,h2⟩:=aD.1 he;obtain rfl:=ay.1 h2;simp only[al]at h1;exact Y4 h dj h1.1 h1.2
 ·rename_i T l c dj;obtain⟨n,h1,h2⟩:=ax.1 he;obtain⟨m,h3,h4⟩:=ax.1 h2;exact U1 h dj h1 h3 h4
 ·rename_i T x lo hi dj;obtain⟨v,h1,h2⟩:=ax.1 he;obtain rfl:=ay.1 h2;exact XB h dj (.inl rfl) h1
 ·rename_i T x lo y m dj;obtain⟨v',h0,h8⟩:=ax.1 he;obtain rfl:=ay.1 h8;obtain⟨hv,h1,h2⟩:=ax.1 h0;obtain⟨mv,h3,h4⟩:=ax.1 h2;obtain⟨h5,h6⟩:=bO.1 h4;obtain⟨v,h7,h9⟩:=ax.1 h6;obtain rfl:=ay.1 h9;simp only[bh]at h5;exact XB h dj (.inr ⟨m,y,hv,mv,rfl,rfl,h1,h3,h5.1,h5.2.1,h5.2.2⟩) h7
 ·rename_i T x f dj;obtain⟨v,h1,h2⟩:=ax.1 he;obtain rfl:=ay.1 h2;exact Uu h dj h1
 ·rename_i T x f dj;obtain⟨v,h1,h2⟩:=ax.1 he;obtain rfl:=ay.1 h2;exact akx h dj h1
 ·rename_i T x i dj;obtain⟨n,h0,he⟩:=ax.1 he;obtain⟨v,h1,h2⟩:=ax.1 he;obtain rfl:=ay.1 h2;exact UK h dj h0 h1
 ·rename_i T x i dj;obtain⟨n,h0,he⟩:=ax.1 he;obtain⟨v,h1,h2⟩:=ax.1 he;obtain rfl:=ay.1 h2;exact akT h dj h0 h1
 ·rename_i x i dj;obtain⟨v,h1,h2⟩:=ax.1 he;obtain rfl:=ay.1 h2;exact ac1 h dj h1
 ·rename_i T dj;exact adF h dj he
 ·rename_i T x i ok dj;obtain⟨v,h1,h2⟩:=ax.1 he;obtain rfl:=ay.1 h2;exact agY h dj h1
 ·rename_i T m k x dj;obtain⟨s1,h1,h2⟩:=ax.1 he;obtain rfl:=ay.1 h2;exact ag5 h dj h1
 ·rename_i T m dj;exact WZ h dj he
 ·rename_i c dj;split at he
  ·rename_i hc;split at he
   ·rename_i m k T T2 ha ht;obtain⟨s1,h1,h2⟩:=ax.1 he;obtain rfl:=ay.1 h2;exact ag3 h dj hc ha ht h1
   ·exact(av.1 he).elim
  ·rename_i hc;split at he
   ·rename_i x y T X ha ht;exact apW h dj hc ha ht he
   ·exact(av.1 he).elim
  ·rename_i hc;split at he
   ·rename_i x T ha ht;obtain⟨v,h1,h2⟩:=ax.1 he;obtain rfl:=ay.1 h2;exact av5 h dj hc ha ht h1
   ·exact(av.1 he).elim
  ·rename_i hc;split at he
   ·rename_i x y T X ha ht;split at he
    ·rename_i k n hx hy;exact aqm h dj hc ha ht hx hy he
    ·exact afO h dj hc ha ht he
   ·exact(av.1 he).elim
  ·rename_i hc;split at he
   ·rename_i x T ha ht;split at he
    ·rename_i e hx hT;obtain rfl:=ay.1 he;exact auz h dj hc ha ht hx hT
    ·exact(av.1 he).elim
   ·exact(av.1 he).elim
  ·rename_i hc;obtain⟨v,h1,h2⟩:=ax.1 he;obtain rfl:=ay.1 h2;exact ag7 (mx:=aW) h dj hc h1
  ·rename_i hc;obtain⟨v,h1,h2⟩:=ax.1 he;obtain rfl:=ay.1 h2;exact ag7 (mx:=aQ) h dj hc h1
  ·rename_i hc;split at he
   ·rename_i x ha;split at he
    ·rename_i id ver len hx;obtain⟨h1,h2⟩:=bO.1 he;obtain rfl:=ay.1 h2;exact ai7 h dj hc ha hx (by simpa using h1)
    ·exact(av.1 he).elim
   ·exact(av.1 he).elim
  ·rename_i hc;split at he
   ·rename_i x y T U ha ht;split at he
    ·rename_i id ver n hx hy;exact atn h dj hc ha ht hx hy he
    ·exact(av.1 he).elim
   ·exact(av.1 he).elim
  ·rename_i F hc;split at he
   ·rename_i f caps hF;split at he
    ·rename_i en Mo;obtain⟨jQ,he⟩:=aD.1 he;exact apK h dj hc hF ((hΓ f _ en Mo).1 jQ) he
    ·exact(av.1 he).elim
   ·exact(av.1 he).elim
  ·exact(av.1 he).elim
 ·exact(av.1 he).elim
end
end Go.Ab
namespace Go.Ab
def sN(P:aR)(ops:Array Oper)(o:Oper)(a:Act)(w:cj)(K:Act->cj->Prop):Prop:=if Region.wanted o (yielded ops a.tmps) then fq P o a w K else K (a.put o.dst undef) w
theorem sN.mono{P:aR}{ops:Array Oper}{o:Oper}{a:Act}{w:cj}{K K':Act->cj->Prop}(h:sN P ops o a w K)(hk:∀a w,K a w->K' a w):sN P ops o a w K':=by
 unfold sN at*;split
 ·rename_i hw;rw[if_pos hw]at h;exact h.mono hk
 ·rename_i hw;rw[if_neg hw]at h;exact hk _ _ h
theorem sN.wpListIn{r:Option Nat}{n:Nat}{P:aR}{ops:Array Oper}{o:Oper}{a:Act}{w:cj}{Q:Exit->Act->cj->Prop}{l:List Oper}(h:sN P ops o a w (wpListIn (Fr r) n P ops Q l)):Go.wpListIn (Fr r) n P ops Q (o::l) a w:=by
 unfold sN at h;unfold Go.wpListIn;split
 ·rename_i hw;rw[if_pos hw]at h;exact h.wpIn
 ·rename_i hw;rw[if_neg hw]at h;exact⟨λ_ _=>trivial,h⟩
theorem sN.wpOpIn{r:Option Nat}{n:Nat}{P:aR}{ops:Array Oper}{o:Oper}{i:Nat}{a:Act}{w:cj}{Q:Exit->Act->cj->Prop}{K:Act->cj->Prop}(ho:ops[i]? =Option.some o)(h:sN P ops o a w K):Go.wpOpIn (Fr r) n P ops Q i K a w:=by
 unfold sN at h;unfold Go.wpOpIn;simp only[ho];split
 ·rename_i hw;rw[if_pos hw]at h;exact h.wpIn
 ·rename_i hw;rw[if_neg hw]at h;exact⟨λ_ _=>trivial,h⟩
theorem ahJ{s:AS}{q:Nat}{v:aB}(h:s.slot q=v)(hq:q < s.ck.length):s.put (aw q) v=s:=by
 have hv:s.ck[q]=v:=by simpa[AS.slot,aK,hq]using h
 simp only[AS.put];rw[<-hv,fw]
theorem aeX{s:AS}{q:Nat}{t:Ty}{x:t.den}(h:s.slot q= .d t x):q < s.ck.length:=by
 rcases pQ q s.ck.length with h' | h'
 ·exact h'
 ·simp[AS.slot,aK,dZ h']at h
def IQ(P:aR)(Γ:uO)(bD:List Nat)(ops:Array Oper)(o:Oper)(s:AS):Option AS:=
 match o.guard with
 |none=>(pL P Γ bD o s).eval
 |some (j,want)=>match(ops[j]?).bind (·.dst) with
  |some q=>match s.slot q with
   | .d .bool b=>if b=want then(pL P Γ bD o s).eval else aw (s.put o.dst .nil)
   | .nil=>aw (s.put o.dst .nil)
   |_=>aF
  |none=>aF
theorem agt{R:Type}{P:aR}{Γ:uO}{bD:List Nat}{ops:Array Oper}{o:Oper}{s:AS}{k:AS->Option R}{r:R}(h:atX P Γ bD ops o s k=aw r):∃s',IQ P Γ bD ops o s=aw s'/\k s'=aw r:=by
 unfold atX at h;unfold IQ;split at h
 ·rename_i hg;simp only[hg];exact gG.1 h
 ·rename_i j want hg;simp only[hg];split at h
  ·rename_i q hq;simp only[hq];split at h
   ·rename_i b hb;have e:=ahJ hb (aeX hb);simp only[hb];cases want <;> cases b <;> simp only[aG]at h <;> rw[e]at h
    ·obtain⟨s',h1,h2⟩:=gG.1 h;exact⟨s',by simpa using h1,h2⟩
    ·exact⟨_,by simp,h⟩
    ·exact⟨_,by simp,h⟩
    ·obtain⟨s',h1,h2⟩:=gG.1 h;exact⟨s',by simpa using h1,h2⟩
   ·rename_i hb;simp only[hb];exact⟨_,rfl,h⟩
   ·cases h
  ·cases h
section
variable {P:aR} {C:Ctx} {g:Nat->iF} {β:Id->Option Pl} {s:AS} {a:Act} {w:cj} {o:Oper}
theorem YE(h:Inv C g β s a w){ops:Array Oper}{j q:Nat}{b:Bool}(hq:(ops[j]?).bind (·.dst)=aw q)(hb:s.slot q= .d .bool b):yielded ops a.tmps j=aw b:=by
 have hv:=h.ck q;rw[hb]at hv;have hv:=LY hv;have hl:=aeX hb;rw[<-h.size]at hl;unfold yielded;rw[hq,Option.bind_some];have:a.tmps[q]? =aw (.bool b):=by rw[kT hl];simpa[Array.getD,hl]using hv
 rw[this]
theorem Sz(h:Inv C g β s a w){ops:Array Oper}{j q:Nat}(hq:(ops[j]?).bind (·.dst)=aw q)(hb:s.slot q= .nil):yielded ops a.tmps j=aF:=by
 have hv:=h.ck q;rw[hb]at hv;have hv:a.tmps.getD q undef= .tuple #[]:=hv;unfold yielded;rw[hq,Option.bind_some];split
 ·rename_i b hb;rw[du,hb]at hv;cases hv
 ·rfl
theorem aaT{Γ:uO}(hΓ:Sound P Γ){bD:List Nat}{ops:Array Oper}(h:gl C s a w){s':AS}(he:IQ P Γ bD ops o s=aw s'):sN P ops o a w (gl C s'):=by
 obtain⟨g,β,h⟩:=h;unfold IQ at he;unfold sN;split at he
 ·rename_i hg;have:Region.wanted o (yielded ops a.tmps)=aW:=by simp[Region.wanted,hg]
  rw[if_pos this];exact afN hΓ h he
 ·rename_i j want hg;split at he
  ·rename_i q hq;split at he
   ·rename_i b hb;have hy:=YE h hq hb;have hw:Region.wanted o (yielded ops a.tmps)=(b==want):=by simp[Region.wanted,hg,hy]
    rw[hw];by_cases e:b=want
    ·rw[if_pos e]at he;rw[if_pos (by simp[e])];exact afN hΓ h he
    ·rw[if_neg e]at he;rw[if_neg (by simp[e])];simp only[aA]at he;subst he;exact⟨g,β,h.put o.dst rfl⟩
   ·rename_i hb;have hy:=Sz h hq hb;have hw:Region.wanted o (yielded ops a.tmps)=aQ:=by simp[Region.wanted,hg,hy]
    rw[hw,if_neg (by simp)];simp only[aA]at he;subst he;exact⟨g,β,h.put o.dst rfl⟩
   ·cases he
  ·cases he
theorem as1{R:Type}{c c':uZ}{x:Option R}{r:R}(h:same c c' x=aw r):c=c'/\x=aw r:=by
 unfold same at h;split at h
 ·exact⟨‹_›,h⟩
 ·cases h
theorem aoL{R:Type}{x y:Option R}{r:R}(h:nd x y=aw r):x=aw r/\y=aw r:=by
 unfold nd at h;split at h
 ·rename_i e;exact⟨h,e▸h⟩
 ·cases h
theorem alr(h:Inv C g β s a w){x y:bH}{n:Nat}(hn:Vy s x y=aw n){T:TypeId}(hT:xM.isSl P T=aW):∃b,(0 < n->b=aQ)/\(Op.equal T (a.eval x) (a.eval y)).run P w= .ok b w/\
  sC (a.eval x)=aQ/\a.eval x≠ .nilIface/\∀op,binOp op T (a.eval x) (a.eval y)=(match op with | .eql=>do pure (.bool (<-Op.equal T (a.eval x) (a.eval y))) | .neq=>do pure (.bool (!(<-Op.equal T (a.eval x) (a.eval y)))) | _=>binOp op T (a.eval x) (a.eval y)):=by
 have hx:=h.ev x;have hy:=h.ev y;unfold xM.isSl at hT;split at hT <;> try (cases hT;done)
 rename_i e hU;unfold Vy at hn;split at hn
 ·rename_i t l h1 h2;rw[h1]at hx;rw[h2]at hy;obtain⟨ad,cap,vs,hv,_,hs,_⟩:=wX hx;have SH:=lD hy;rw[hv,SH];refine⟨ad.isNone,λhp=> ?_,?_,rfl,by simp,λop=>by cases op <;> rfl⟩
  ·obtain rfl:=bu hn;obtain⟨ad',rfl⟩:=cv.1 (hs hp);rfl
  ·cases ad with
   |none=>exact eA λd=>by simp[de,run_underlying hU]
   |some ad=>exact eA λd=>by simp[de,run_underlying hU]
 ·rename_i t l h1 h2;rw[h1]at hx;rw[h2]at hy;obtain⟨ad,cap,vs,hv,_,hs,_⟩:=wX hy;have SH:=lD hx;rw[hv,SH];refine⟨ad.isNone,λhp=> ?_,?_,rfl,by simp,λop=>by cases op <;> rfl⟩
  ·obtain rfl:=bu hn;obtain⟨ad',rfl⟩:=cv.1 (hs hp);rfl
  ·exact eA λd=>by simp[de,run_underlying hU]
 ·rename_i id ver pp c i len h1 h2;rw[h1]at hx;rw[h2]at hy;obtain⟨ad,cap,hv,_,hs,_⟩:=sa hx;have SH:=lD hy;rw[hv,SH];refine⟨ad.isNone,λhp=> ?_,?_,rfl,by simp,λop=>by cases op <;> rfl⟩
  ·obtain rfl:=bu hn;obtain⟨ad',rfl⟩:=cv.1 (hs hp);rfl
  ·cases ad with
   |none=>exact eA λd=>by simp[de,run_underlying hU]
   |some ad=>exact eA λd=>by simp[de,run_underlying hU]
 ·rename_i id ver pp c i len h1 h2;rw[h1]at hx;rw[h2]at hy;obtain⟨ad,cap,hv,_,hs,_⟩:=sa hy;have SH:=lD hx;rw[hv,SH];refine⟨ad.isNone,λhp=> ?_,?_,rfl,by simp,λop=>by cases op <;> rfl⟩
  ·obtain rfl:=bu hn;obtain⟨ad',rfl⟩:=cv.1 (hs hp);rfl
  ·exact eA λd=>by simp[de,run_underlying hU]
 ·cases hn
theorem MW(h:Inv C g β s a w){x y:bH}{n:Nat}{T U:TypeId}(hn:Vy s x y=aw n)(hT:xM.isSl P T=aW):
  (o.op= .binOp .eql T x y U->∃b,(0 < n->b=aQ)/\fq P o a w (gl C (s.put o.dst (.d .bool b))))/\(o.op= .binOp .neq T x y U->∃b,(0 < n->b=aW)/\fq P o a w (gl C (s.put o.dst (.d .bool b)))):=by
 obtain⟨b,h1,h2,h3,h4,h5⟩:=alr (w:=w) h hn hT;have hg:∀op,(eqGuard op T x y (a.eval x) (a.eval y)).run P w= .ok () w:=λop=>ou h4 h3
 refine⟨λho=>⟨b,h1,h.value (vG b) ?_⟩,λho=>⟨!b,λhp=>by rw[h1 hp];rfl,h.value (vG (!b)) ?_⟩⟩
 ·have h6:(binOp .eql T (a.eval x) (a.eval y)).run P w= .ok (.bool b) w:=by rw[h5 .eql];simp[h2]
  simp[execOp,ho,hg,h6]
 ·have h6:(binOp .neq T (a.eval x) (a.eval y)).run P w= .ok (.bool (!b)) w:=by rw[h5 .neq];simp[h2]
  simp[execOp,ho,hg,h6]
theorem N4{R:Type}{c:Bool}{x y:Option R}{r:R}(h:aG c x y=aw r):(c=aW/\x=aw r)\/(c=aQ/\y=aw r):=by
 cases c
 ·exact .inr ⟨rfl,h⟩
 ·exact .inl ⟨rfl,h⟩
theorem au0{R:Type}{n:Nat}{k:Nat->Option R}{r:R}(h:aGx n k=aw r):0 < n/\∀j,j < n->k j=aw r:=by
 unfold aGx at h;split at h
 ·rename_i hx;obtain rfl:=bu h;exact hx.choose_spec
 ·cases h
theorem Alike.len{α β:Type}{R:α->β->Prop}:∀ {xs:List α} {ys:List β},Alike R xs ys->xs.length=ys.length
 |[],[],_=>rfl
 |_::_,_::_,⟨_,h⟩=>by simp[h.len]
 |[],_::_,h=>h.elim
 |_::_,[],h=>h.elim
theorem alB{α:Type}:∀ {xs ys:List α} {i j:Nat} {x:α},xs.Perm ys->xs[i]? =aw x->ys[j]? =aw x->(xs.eraseIdx i).Perm (ys.eraseIdx j):=by
 have key:∀ {xs:List α} {i:Nat} {x:α},xs[i]? =aw x->xs.Perm (x::xs.eraseIdx i):=by
  intro xs
  induction xs with
  |nil=>intro i x h;simp at h
  |cons y xs ih=>
   intro i x h;cases i with
   |zero=>simp at h;subst h;exact tl _
   |succ i=>
    have h:xs[i]? =aw x:=by simpa using h
    exact((ih h).cons y).trans (List.Perm.swap x y _)
 intro xs ys i j x hp hi hj;exact((key hi).symm.trans (hp.trans (key hj))).cons_inv
theorem UN(h:Inv C g β s a w){x:bH}{t:apr}(ht:s.avV (s.ev x)=aw t):
  s.bV t.i=aw (.obj t.v t.fr (.rA t.q (t.vr+1) t.kt t.vt t.rest t.cur))/\(∃k v l,s.bV t.q=aw (.obj t.vr aW (.mp k v l)))/\
  ∃pl plq since seen c0 es clock,a.eval x= .pointer (aw ⟨pl.b,0,aF⟩)/\β t.i=aw pl/\w.heap[pl.b]? =aw (.mapIter (aw plq.b) since seen c0)/\g pl.b= .own (.id t.i) 0/\
   β t.q=aw plq/\w.heap[plq.b]? =aw (.map es clock)/\g plq.b= .own (.id t.q) 0/\(∀x∈es.toList,x.born < since)/\(since<=c0/\since<=clock)/\(es.toList.map (·.born)).Nodup/\
   SC (s.env w g β) t.kt t.vt (es.toList.filter λe=> !seen.contains e.born) t.rest/\
   ∀x,t.cur=aw x->∃(e:fi) (seen':Array Nat),e∈es.toList/\seen=seen'.push e.born/\c0=clock/\zW (s.env w g β) t.kt t.vt e x:=by
 have UI:=h.ev x;generalize s.ev x=y at ht UI;unfold AS.avV at ht;split at ht
 ·rename_i i ver;split at ht
  ·rename_i v fr q vr kt vt rest cur ko;split at ht
   ·rename_i hv hl;obtain rfl:=bu ht;have hv:v=ver:=by simpa using hv
    subst hv;have cQ:=dA ko;unfold AS.agW at hl;split at hl
    ·rename_i v2 k2 t2 l2 aG5;have hl:v2=vr:=by simpa using hl
     subst hl;have hq:=dA aG5;refine⟨cQ,⟨_,_,_,hq⟩,?_⟩;obtain⟨pl,mb,since,seen,c0,h1,h2,h3,h4⟩:=h.bD i v fr _ cQ;obtain⟨h5,h6⟩:=h4 v2 rfl;obtain⟨_,plq,es,clock,k1,k2,k3,k4,k5,k6,k7,k8,k9⟩:=h6 ⟨_,_,hq⟩;subst k2;obtain⟨ad,m1,m2,m3⟩:=tJ UI;obtain⟨pl',m4,rfl⟩:=m3 ⟨_,_,cQ⟩;have h1:β i=aw pl:=h1;have m4:β i=aw pl':=m4;rw[h1]at m4;obtain rfl:pl=pl':=by simpa using m4
     exact⟨pl,plq,since,seen,c0,es,clock,m1,h1,h2,h3,k1,k3,k4,k5,k6,k7,k8,k9⟩
    ·cases hl
   ·cases ht
  ·cases ht
 ·cases ht
theorem zW.aKq{E:Env}{kt vt:Ty}{e:fi}{x:kt.den×vt.den}(h:zW E kt vt e x):VS E (.cons (.d kt x.1) (.cons (.d vt x.2) .nil)) (.tuple #[e.key,e.val]):=by obtain⟨⟨c1,a1,b1⟩,c2,a2,b2⟩:=h;refine⟨[e.key,e.val],rfl,?_⟩;simp only[VC];exact⟨_,_,c1,rfl,by simpa only[V]using a1,b1,_,_,c2,rfl,by simpa only[V]using a2,b2,rfl⟩
theorem zW.aKr{E:Env}{kt vt:Ty}{e:fi}{x:kt.den×vt.den}(h:zW E kt vt e x):VS E (.cons (.d .bool aW) (.cons (.d kt x.1) (.cons (.d vt x.2) .nil))) (.tuple #[.bool aW,e.key,e.val]):=by obtain⟨⟨c1,a1,b1⟩,c2,a2,b2⟩:=h;refine⟨[.bool aW,e.key,e.val],rfl,?_⟩;simp only[VC];exact⟨_,_,[.bool aW],rfl,by simp only[V,cq],rfl,_,_,c1,rfl,by simpa only[V]using a1,b1,_,_,c2,rfl,by simpa only[V]using a2,b2,rfl⟩
theorem akv(h:Inv C g β s a w){x:bH}(dj:o.op= .entry x){v:aB}(he:(aku s (s.ev x)).eval=aw v):fq P o a w (gl C (s.put o.dst v)):=by
 unfold aku at he;split at he
 ·rename_i i v0 fr q vr kt vt rest c ht;obtain rfl:=ay.1 he;obtain⟨_,_,pl,plq,since,seen,c0,es,clock,m1,m2,m3,_,m5,m6,m7,_,_,m10,_,m12⟩:=UN h ht;obtain⟨e,seen',n1,rfl,rfl,n4⟩:=m12 c rfl;refine h.value n4.aKq (eh (f:=Instr.entry (a.eval x)) (by simp only[execOp,dj]) ?_);rw[m1];exact run_entry_at w pl.b plq.b since seen' es _ e m3 m6 n1 m10
 ·simp only[av]at he
theorem heap_drew{w w1:cj}(hw:w1=w\/w1=w.drew):w1.heap=w.heap/\w1.os=w.os/\w1.tape=w.tape/\(w1.output=w.output/\w.drawn<=w1.drawn):=by
 rcases hw with rfl | rfl
 ·exact⟨rfl,rfl,rfl,rfl,az _⟩
 ·exact⟨rfl,rfl,rfl,rfl,Nat.le_succ _⟩
theorem Inv.aFE(h:Inv C g β s a w){i q:Id}{v vr:Nat}{fr:Bool}{kt vt:Ty}{rest:List (kt.den×vt.den)}{cur:Option (kt.den×vt.den)}(cQ:s.bV i=aw (.obj v fr (.rA q (vr+1) kt vt rest cur)))
  {k2 v2:Ty} {l2:List (k2.den×v2.den)} (hq:s.bV q=aw (.obj vr aW (.mp k2 v2 l2))) {pl plq:Pl} {m0:Option Nat} {since0 c00:Nat} {seen0:Array Nat} (hp:β i=aw pl) (hb:w.heap[pl.b]? =aw (.mapIter m0 since0 seen0 c00)) (hg:g pl.b= .own (.id i) 0)
  {w1:cj} (hw:w1=w\/w1=w.drew) {es:Array fi} {clock since c0:Nat} {seen:Array Nat} (aJ3:β q=aw plq) (aCo:w.heap[plq.b]? =aw (.map es clock)) (aJM:g plq.b= .own (.id q) 0)
  (h1:∀x∈es.toList,x.born < since) (h2:since<=c0/\since<=clock) (h3:(es.toList.map (·.born)).Nodup) {rest':List (kt.den×vt.den)} {cur':Option (kt.den×vt.den)} (h4:SC (s.env w g β) kt vt (es.toList.filter λe=> !seen.contains e.born) rest')
  (h5:∀x,cur'=aw x->∃(e:fi) (seen':Array Nat),e∈es.toList/\seen=seen'.push e.born/\c0=clock/\zW (s.env w g β) kt vt e x):
  Inv C g β (s.aZ i (.obj v fr (.rA q (vr+1) kt vt rest' cur'))) a (Go.ChangeMaps.setBlock w1 pl.b (.mapIter (aw plq.b) since seen c0))/\
   wy (s.env w g β) ((s.aZ i (.obj v fr (.rA q (vr+1) kt vt rest' cur'))).env (Go.ChangeMaps.setBlock w1 pl.b (.mapIter (aw plq.b) since seen c0)) g β):=by
 obtain⟨d1,d2,d3,d4⟩:=heap_drew hw;have jQ:pl.b < w.heap.size:=(bY.1 hb).1;have aou:(Go.ChangeMaps.setBlock w1 pl.b (.mapIter (aw plq.b) since seen c0)).heap=w.heap.setIfInBounds pl.b (.mapIter (aw plq.b) since seen c0):=by show w1.heap.setIfInBounds _ _=_;rw[d1]
 have aDT:(Go.ChangeMaps.setBlock w1 pl.b (.mapIter (aw plq.b) since seen c0)).os=w.os/\(Go.ChangeMaps.setBlock w1 pl.b (.mapIter (aw plq.b) since seen c0)).tape=w.tape/\((Go.ChangeMaps.setBlock w1 pl.b (.mapIter (aw plq.b) since seen c0)).output=w.output/\w.drawn<=(Go.ChangeMaps.setBlock w1 pl.b (.mapIter (aw plq.b) since seen c0)).drawn):=⟨d2,d3,d4⟩;generalize Go.ChangeMaps.setBlock w1 pl.b (.mapIter (aw plq.b) since seen c0)=w' at aou aDT;have hother:∀b',b'≠pl.b->w'.heap[b']? =w.heap[b']? :=λb' jR=>by rw[aou,eL,if_neg (λe=>jR e.symm)]
 have mX:w'.heap[pl.b]? =aw (.mapIter (aw plq.b) since seen c0):=by rw[aou,eL,if_pos rfl,if_pos jQ]
 have ht:Trans w w' g g:=by
  refine⟨aDT.1,aDT.2.1,aDT.2.2,by rw[aou];simp,λb' _=> ?_⟩;by_cases he:b'=pl.b
  ·subst he;rw[hg];exact⟨.inr (.inr ⟨i,0,rfl,az _⟩),λ_ _ hh=>ak⟩
  ·rw[hother b' he];cases IT:g b' with
   |free=>exact⟨rfl,rfl⟩
   |own o' k=>cases o' with
    |dT=>exact⟨rfl,rfl⟩
    |id i'=>exact⟨.inr (.inr ⟨i',k,rfl,az _⟩),λoff v _ hv=>by simpa only[eQ,hother b' he]using hv⟩
   |fresh=>exact .inl ⟨rfl,rfl⟩
   |gg=>exact⟨rfl,λcur e h=>⟨cur,h,rfl⟩⟩
 have hle:cP (s.env w g β) ((s.aZ i (.obj v fr (.rA q (vr+1) kt vt rest' cur'))).env w' g β):=cP.aZ cQ (az _) ht (λ_ _=>rfl) (λ_=>rfl);have aFc:q≠i:=λe=>by rw[e,cQ]at hq;cases hq
 have aJ2:plq.b≠pl.b:=λe=>by rw[e,hb]at aCo;cases aCo
 refine⟨h.step (c9 _ _ _) ht hle (iH.aZ h.bD (by rw[cQ];simp) hle (λ_ _=>rfl) (λi' ver' fr' c' pl2 hi YI SF=>⟨hother _ (h.apart hg hi YI SF),rfl⟩) ?_ (nF cQ λ_ _ _ e=>by cases e)),hle.mem⟩;refine⟨pl,plq.b,since,seen,c0,hp,mX,hg,λvr' ajT=> ?_⟩;obtain rfl:vr=vr':=ak;have afC:(s.env w g β).yK q vr:=⟨by show s.bV q≠aF;rw[hq];simp,λv3 fr3 c3 h3=>by
  have h3:s.bV q=aw (.obj v3 fr3 c3):=h3;rw[hq]at h3;simp only[aA,dP.obj.injEq]at h3;omega⟩
 refine⟨hle.yK _ _ afC,λ_=>⟨⟨k2,v2,l2,?_⟩,plq,es,clock,aJ3,rfl,(hother _ aJ2).trans aCo,aJM,h1,h2,h3,h4.mono hle.mem,λx hx=> ?_⟩⟩
 ·show(s.aZ i _).bV q=_;rw[cU s i q _ aFc];exact hq
 ·obtain⟨e,se,a1,a2,a3,a4⟩:=h5 x hx;exact⟨e,se,a1,a2,a3,a4.mono hle.mem⟩
theorem Inv.aBN(h:Inv C g β s a w){i q:Id}{v ver ver':Nat}{fr:Bool}{kt vt:Ty}{rest rest':List (kt.den×vt.den)}{cur cur':Option (kt.den×vt.den)}(cQ:s.bV i=aw (.obj v fr (.rA q ver kt vt rest cur)))
  (hk:ver'=0\/(ver'=ver/\rest'=rest/\cur'=aF)):Inv C g β (s.aZ i (.obj v fr (.rA q ver' kt vt rest' cur'))) a w:=by
 have ht:=Trans.refl w g;have hle:cP (s.env w g β) ((s.aZ i (.obj v fr (.rA q ver' kt vt rest' cur'))).env w g β):=cP.aZ cQ (az _) ht (λ_ _=>rfl) (λ_=>rfl);refine h.step (c9 _ _ _) ht hle (iH.aZ h.bD (by rw[cQ];simp) hle (λ_ _=>rfl) (λ_ _ _ _ _ _ _ _=>⟨rfl,rfl⟩) ?_ (nF cQ λ_ _ _ e=>by cases e));obtain⟨pl,mb,since,seen,c0,h1,h2,h3,h4⟩:=h.bD i v fr _ cQ;refine⟨pl,mb,since,seen,c0,h1,h2,h3,λvr ajT=> ?_⟩;rcases hk with hk | ⟨rfl,rfl,rfl⟩
 ·omega
 ·obtain⟨h5,h6⟩:=h4 vr ajT;refine⟨hle.yK _ _ h5,λhc=> ?_⟩;obtain⟨c1,_⟩:=hle.cur _ _ h5 hc;obtain⟨⟨k,v1,l,hq⟩,plq,es,clock,k1,k2,k3,k4,k5,k6,k7,k8,_⟩:=h6 c1;have aFc:q≠i:=λe=>by have hq:s.bV q=_:=hq;rw[e,cQ]at hq;cases hq
  exact⟨⟨k,v1,l,by show(s.aZ i _).bV q=_;rw[cU s i q _ aFc];exact hq⟩,plq,es,clock,k1,k2,k3,k4,k5,k6,k7,k8.mono hle.mem,λx hx=>by cases hx⟩
theorem amQ{s:AS}{q i:Id}{e:dP}(h:s.W0 q=aQ)(hi:s.bV i=aw e):e.avW q=aQ:=by
 unfold AS.W0 at h;rw[Bool.or_eq_false_iff]at h;cases i with
 |eC k=>simpa using oK.1 h.1 _ (cE hi)
 |new a b=>
  have hi:(s.news.getD a [])[b]? =aw e:=hi
  by_cases ha:a < s.news.length
  ·have h2:(s.news.getD a []).any (dP.avW q)=aQ:=by simpa using oK.1 h.2 (s.news.getD a []) (by simp[aK,cn ha])
   simpa using oK.1 h2 _ (cE hi)
  ·simp[aK,dZ (Nat.le_of_not_lt ha)]at hi
theorem Inv.unlock(h:Inv C g β s a w){q:Id}{vr:Nat}{k v:Ty}{l:List (k.den×v.den)}(cQ:s.bV q=aw (.obj vr aW (.mp k v l)))(hr:s.W0 q=aQ):Inv C g β (s.aZ q (.obj vr aQ (.mp k v l))) a w:=by
 have ht:=Trans.refl w g;have hle:cP (s.env w g β) ((s.aZ q (.obj vr aQ (.mp k v l))).env w g β):=cP.aZ cQ (az _) ht (λ_ _=>rfl) (λ_=>rfl);refine h.step (c9 _ _ _) ht hle λi ver fr c hi=> ?_
 have hi:(s.aZ q (.obj vr aQ (.mp k v l))).bV i=aw (.obj ver fr c):=hi;by_cases aJc:i=q
 ·subst aJc;rw[eg s i _ (by rw[cQ];simp)]at hi;simp only[aA,dP.obj.injEq]at hi;obtain⟨rfl,rfl,rfl⟩:=hi;obtain⟨pl,es,clock,h1,h2,h3,h4,h5⟩:=h.bD i vr aW _ cQ;exact⟨pl,es,clock,h1,h2,h3,⟨h4.1.mono hle.mem,h4.2⟩,h5⟩
 ·rw[cU s q i _ aJc]at hi;refine(h.bD i ver fr c hi).aBV hle rfl (λ_ _=>⟨rfl,rfl⟩) λq2 v2 k2 v3 l2 hc Pj _=>⟨⟨k2,v3,l2,?_⟩,λ_ _=>⟨rfl,rfl⟩⟩
  obtain⟨kt,vt,rest,cu,rfl⟩:=hc;have hn:=amQ hr hi;have jR:q2≠q:=λe=>by simp[dP.avW,e]at hn
  show(s.aZ q _).bV q2=_;rw[cU s q q2 _ jR];exact Pj
theorem ak3{es:List fi}{seen:Array Nat}(hn:(es.map (·.born)).Nodup){j:Nat}{e:fi}(hj:(es.filter λe=> !seen.contains e.born)[j]? =aw e):
  es.filter (λx=> !(seen.push e.born).contains x.born)=(es.filter λe=> !seen.contains e.born).eraseIdx j:=by
 have h1:es.filter (λx=> !(seen.push e.born).contains x.born)=(es.filter λe=> !seen.contains e.born).filter λx=>x.born !=e.born:=by
  rw[List.filter_filter];refine List.filter_congr λx _=> ?_
  rw[contains_push];cases seen.contains x.born <;> cases hb:x.born==e.born <;> simp[bne,hb]
 rw[h1];have aBE:((es.filter λe=> !seen.contains e.born).map (·.born)).Nodup:=hn.sublist (List.filter_sublist.map _);generalize es.filter (λe=> !seen.contains e.born)=L at hj aBE
 induction L generalizing j with
 |nil=>simp at hj
 |cons x L ih=>
  rw[bS,ia]at aBE;cases j with
  |zero=>
   simp only[fF,aA]at hj;subst hj;have:L.filter (λy=>y.born !=x.born)=L:=jA.2 λy hy=>by
    have:y.born≠x.born:=λe=>aBE.1 (e▸fm.2 ⟨y,hy,rfl⟩)
    simpa using this
   simp[this]
  |succ j=>
   have hj:L[j]? =aw e:=by simpa using hj
   have hx:(x.born !=e.born)=aW:=by
    have:x.born≠e.born:=λh=>aBE.1 (h▸fm.2 ⟨e,cE hj,rfl⟩)
    simpa using this
   rw[List.filter_cons,hx,List.eraseIdx_cons_succ];simp only[bN];rw[ih hj aBE.2]
theorem aq4(h:Inv C g β s a w){x:bH}(dj:o.op= .next x aQ){t:apr}(ht:s.avV (s.ev x)=aw t){R:Type}{k:AS->Option R}{r:R}(he:awp s o.dst t k=aw r):
  fq P o a w λa' w'=>∃s',gl C s' a' w'/\k s'=aw r:=by
 obtain⟨hi,⟨k2,v2,l2,hq⟩,pl,plq,since,seen,c0,es,clock,m1,m2,m3,m4,m5,m6,m7,m8,m9,m10,m11,_⟩:=UN h ht;have hex:∀ {y:Value} {w':cj},(Instr.next (a.eval x) aQ o.type).run P w= .ok y w'->(execOp a.eval o).run P w= .ok (.value y) w':=λhr=>
  eh (f:=Instr.next (a.eval x) aQ o.type) (by simp only[execOp,dj]) hr
 have Q6:(leftOf es seen).toList=es.toList.filter λe=> !seen.contains e.born:=by unfold leftOf;rw[Array.toList_filter]
 obtain⟨l',m11,avD⟩:=m11;have hlen:=m11.len;rw[avD.length_eq]at hlen;rw[<-Q6,cG]at hlen;unfold awp at he;rcases run_next_at (P:=P) w o.type pl.b plq.b since c0 seen es clock m3 m6 m8 m9.1 with⟨h0,pU⟩ | ⟨e,aDN,w1,hw,pU⟩
 ·rcases N4 he with⟨hc,_⟩ | ⟨_,he⟩
  ·have:0 < t.rest.length:=by simpa using hc
   omega
  ·unfold AS.aAr at he;have i1:=h.aBN (rest':=[]) (cur':=aF) hi (.inl rfl);have aFc:t.q≠t.i:=λe=>by rw[e,hi]at hq;simp at hq
   have aDW:(s.aZ t.i (.obj t.v t.fr (.rA t.q 0 t.kt t.vt [] aF))).bV t.q=aw (.obj t.vr aW (.mp k2 v2 l2)):=by rw[cU s t.i t.q _ aFc];exact hq
   generalize s.aZ t.i (.obj t.v t.fr (.rA t.q 0 t.kt t.vt [] aF))=s1 at he i1 aDW;cases hr:s1.W0 t.q with
   |true=>rw[hr]at he;cases he
   |false=>
    rw[hr]at he;simp only at he;have aKb:s1.unlock t.q=s1.aZ t.q (.obj t.vr aQ (.mp k2 v2 l2)):=by simp only[AS.unlock,AS.obj,aDW]
    rw[aKb]at he;rw[<-m1]at pU;refine .inl ⟨_,w,hex pU,_,⟨g,β,(i1.unlock aDW hr).put o.dst (v:= .cons (.d .bool aQ) .nil) ⟨[.bool aQ],rfl,?_⟩⟩,he⟩;simp only[VC];exact⟨_,_,[.bool aQ],rfl,by simp only[V,cq],rfl,rfl⟩
 ·rcases N4 he with⟨hc,he⟩ | ⟨hc,_⟩
  ·obtain⟨_,hd⟩:=au0 he;rw[Q6]at aDN;obtain⟨i,aCu⟩:=List.getElem?_of_mem aDN;obtain⟨y,aFk,aD2⟩:=m11.get aCu;obtain⟨j,hj⟩:=List.getElem?_of_mem (avD.mem_iff.1 (cE aFk));have aCw:j < t.rest.length:=(dE.1 hj).1;have hy:adM t.kt t.vt t.rest j=y:=by simp[adM,aK,hj]
   have sz:e∈es.toList:=(nY.1 aDN).1;have i1:=h.aFE (rest':=t.rest.eraseIdx j) (cur':=aw (adM t.kt t.vt t.rest j)) (since:=since) (c0:=clock) (seen:=seen.push e.born) hi hq m2 m3 m4 hw m5 m6 m7 m8 ⟨m9.2,m9.2⟩ m10 ?_ ?_
   rotate_left
   ·rw[ak3 m10 aCu];exact⟨_,m11.erase i,alB avD aFk hj⟩
   ·intro z hz;obtain rfl:=bu hz;exact⟨e,seen,sz,rfl,rfl,by rw[hy];exact aD2⟩
   rw[<-m1]at pU;have hVS:=(hy▸aD2:zW (s.env w g β) t.kt t.vt e (adM t.kt t.vt t.rest j));refine .inl ⟨_,_,hex pU,_,⟨g,β,i1.1.put o.dst (v:= .cons (.d .bool aW) (.cons (.d t.kt (adM t.kt t.vt t.rest j).1) (.cons (.d t.vt (adM t.kt t.vt t.rest j).2) .nil))) ?_⟩,hd j aCw⟩;exact zW.aKr (hVS.mono i1.2)
  ·have hc:¬0 < t.rest.length:=by simpa using hc
   have:0 < (leftOf es seen).toList.length:=List.length_pos_of_mem aDN;rw[cG]at this;omega
theorem Mm(h:Inv C g β s a w){ops:Array Oper}{R:Type}{k X:AS->Option R}{r:R}{j:Nat}{want:Bool}{q:Tmp}
  (he:(match s.slot q with
   | .d .bool b=>match want with
    |true=>aG b (X (s.put (aw q) (.d .bool aW))) (k ((s.put (aw q) (.d .bool aQ)).put o.dst .nil))
    |false=>aG b (k ((s.put (aw q) (.d .bool aW)).put o.dst .nil)) (X (s.put (aw q) (.d .bool aQ)))
   | .nil=>k (s.put o.dst .nil)
   |_=>aF)=aw r)
  (hg:o.guard=aw (j,want)) (hq:(ops[j]?).bind (·.dst)=aw q)
  (call:X s=aw r->fq P o a w λa' w'=>∃s',gl C s' a' w'/\k s'=aw r):sN P ops o a w λa' w'=>∃s',gl C s' a' w'/\k s'=aw r:=by
 unfold sN;split at he
 ·rename_i b hb;have hy:=YE h hq hb;have hw:Region.wanted o (yielded ops a.tmps)=(b==want):=by simp[Region.wanted,hg,hy]
  have e:=ahJ hb (aeX hb);rw[hw];cases want <;> cases b <;> simp only[aG]at he <;> rw[e]at he
  ·rw[if_pos (by rfl)];exact call he
  ·rw[if_neg gw];exact⟨_,⟨g,β,h.put o.dst (v:= .nil) rfl⟩,he⟩
  ·rw[if_neg gw];exact⟨_,⟨g,β,h.put o.dst (v:= .nil) rfl⟩,he⟩
  ·rw[if_pos (by rfl)];exact call he
 ·rename_i hb;have hy:=Sz h hq hb;have hw:Region.wanted o (yielded ops a.tmps)=aQ:=by simp[Region.wanted,hg,hy]
  rw[hw,if_neg (by simp)];exact⟨_,⟨g,β,h.put o.dst (v:= .nil) rfl⟩,he⟩
 ·cases he
theorem RD{Γ:uO}{b:Bool}{F:aB}{vs:List aB}{x:Entry×List aB}(h:ad4 Γ b F vs=aw x):∃f caps,F= .fn f caps/\x.2=vs++caps.list/\Γ f (vs++caps.list)=aw x.1/\Nat.blt f yB=aW:=by
 unfold ad4 at h;split at h
 ·rename_i f caps;split at h
  ·rename_i en Mo;split at h
   ·rename_i jQ;obtain rfl:=bu h;exact⟨f,caps,rfl,rfl,Mo,jQ⟩
   ·cases h
  ·cases h
 ·cases h
theorem aql{Γ:uO}(hΓ:Sound P Γ){bD:List Nat}{ops:Array Oper}{R:Type}{k:AS->Option R}{r:R}(h:gl C s a w)(he:azC P Γ bD ops o s k=aw r):
  sN P ops o a w λa' w'=>∃s',gl C s' a' w'/\k s'=aw r:=by
 have plain:atX P Γ bD ops o s k=aw r->sN P ops o a w λa' w'=>∃s',gl C s' a' w'/\k s'=aw r:=λhe=>by obtain⟨s1,h1,h2⟩:=agt he;exact(aaT hΓ h h1).mono λa' w' hs=>⟨s1,hs,h2⟩
 have stepK:∀(hg:o.guard=aF),(fq P o a w λa' w'=>∃s',gl C s' a' w'/\k s'=aw r)->sN P ops o a w λa' w'=>∃s',gl C s' a' w'/\k s'=aw r:=λhg hr=>by
  unfold sN;have:Region.wanted o (yielded ops a.tmps)=aW:=by simp[Region.wanted,hg]
  rw[if_pos this];exact hr
 have step:∀(hg:o.guard=aF) (b:Bool),fq P o a w (gl C (s.put o.dst (.d .bool b)))->k (s.put o.dst (.d .bool b))=aw r->sN P ops o a w λa' w'=>∃s',gl C s' a' w'/\k s'=aw r:=λhg b hr hk=>by
  unfold sN;have:Region.wanted o (yielded ops a.tmps)=aW:=by simp[Region.wanted,hg]
  rw[if_pos this];exact hr.mono λa' w' hs=>⟨_,hs,hk⟩
 unfold azC at he;split at he
 ·rename_i T x y U hg ho;split at he
  ·rename_i n hn hT;obtain⟨g,β,hi⟩:=h;obtain⟨b,hb,hr⟩:=(MW (o:=o) (U:=U) hi hn hT).1 ho;refine step hg b hr ?_
   rcases N4 he with⟨hc,hk⟩ | ⟨_,hk⟩
   ·rw[hb (by simpa using hc)];exact hk
   ·obtain⟨k1,k2⟩:=aoL hk;cases b
    ·exact k2
    ·exact k1
  ·exact plain he
 ·rename_i T x y U hg ho;split at he
  ·rename_i n hn hT;obtain⟨g,β,hi⟩:=h;obtain⟨b,hb,hr⟩:=(MW (o:=o) (U:=U) hi hn hT).2 ho;refine step hg b hr ?_
   rcases N4 he with⟨hc,hk⟩ | ⟨_,hk⟩
   ·rw[hb (by simpa using hc)];exact hk
   ·obtain⟨k1,k2⟩:=aoL hk;cases b
    ·exact k2
    ·exact k1
  ·exact plain he
 ·rename_i T m hg ho;obtain⟨s1,h1,h2⟩:=gG.1 he;obtain⟨g,β,hi⟩:=h;exact stepK hg ((WZ hi ho h1).mono λ_ _ hs=>⟨_,hs,h2⟩)
 ·rename_i x hg ho;obtain⟨s1,h1,h2⟩:=gG.1 he;obtain⟨v,h3,h4⟩:=ax.1 h1;obtain rfl:=ay.1 h4;obtain⟨g,β,hi⟩:=h;exact stepK hg ((akv hi ho h3).mono λ_ _ hs=>⟨_,hs,h2⟩)
 ·rename_i x hg ho;split at he
  ·rename_i t ht;obtain⟨g,β,hi⟩:=h;exact stepK hg (aq4 hi ho ht he)
  ·cases he
 ·rename_i c hg ho;split at he
  ·rename_i F hc;split at he
   ·rename_i id ver rc f hF;split at he
    ·rename_i en Mo;obtain⟨aGd,he⟩:=as1 he;obtain⟨s1,h1,h2⟩:=gG.1 he;obtain⟨g,β,hi⟩:=h;exact stepK hg ((an5 hi ho hc hF aGd (hΓ _ _ en Mo) h1).mono λ_ _ hs=>⟨_,hs,h2⟩)
    ·cases he
   ·split at he
    ·rename_i en vs hr;obtain⟨f,caps,hF,rfl,Mo,jQ⟩:=RD hr;obtain⟨s1,h1,h2⟩:=gG.1 he;obtain⟨g,β,hi⟩:=h;exact stepK hg ((Ud hi ho hc hF ((hΓ _ _ _ Mo).1 jQ) h1).mono λ_ _ hs=>⟨_,hs,h2⟩)
    split at he
    ·rename_i en vs hr;unfold ao4 at hr;split at hr;rotate_left
     ·cases hr
     rename_i f caps hF;split at hr;rotate_left
     ·cases hr
     rename_i en' Mo;split at hr;rotate_left
     ·cases hr
     rename_i agx;rw[al]at agx;simp only[aA,cT]at hr;obtain⟨rfl,rfl⟩:=hr;obtain⟨g,β,hi⟩:=h;exact stepK hg (Ue hi ho hc hF ((hΓ _ _ _ Mo).2.2 agx.2) he)
    ·exact plain he
  ·exact plain he
 ·rename_i T x v hg ho;split at he
  ·rename_i n hx;split at he
   ·rename_i hf;rw[al,dp]at hf;obtain⟨g,β,hi⟩:=h;exact stepK hg ((aqB hi ho hx hf.1 hf.2).mono λ_ _ hs=>⟨_,hs,he⟩)
   ·cases he
  ·exact plain he
 ·rename_i j want c hg ho;split at he;rotate_left
  ·exact plain he
  rename_i F hc;split at he
  ·rename_i en vs q hr hq;obtain⟨f,caps,hF,rfl,Mo,jQ⟩:=RD hr;obtain⟨g,β,hi⟩:=h;exact Mm hi (X:=λu=>(u.aaF en o.dst (c.args.toList.map s.ev++caps.list)).run k) he hg hq λhe=>by obtain⟨s1,h1,h2⟩:=gG.1 he;exact(Ud hi ho hc hF ((hΓ _ _ _ Mo).1 jQ) h1).mono λ_ _ hs=>⟨_,hs,h2⟩
  split at he;rotate_left
  ·exact plain he
  rename_i en vs q hr hq;unfold ao4 at hr;split at hr;rotate_left
  ·cases hr
  rename_i f caps hF;split at hr;rotate_left
  ·cases hr
  rename_i en' Mo;split at hr;rotate_left
  ·cases hr
  rename_i agx;rw[al]at agx;simp only[aA,cT]at hr;obtain⟨rfl,rfl⟩:=hr;obtain⟨g,β,hi⟩:=h;exact Mm hi (X:=λu=>u.QU en' o.dst (c.args.toList.map s.ev++caps.list) k) he hg hq λhe=>Ue hi ho hc hF ((hΓ _ _ _ Mo).2.2 agx.2) he
 ·exact plain he
theorem Q2{rd:Option Nat}{n:Nat}{Γ:uO}(hΓ:Sound P Γ){bD:List Nat}{ops:Array Oper}{R:Type}{Q:Exit->Act->cj->Prop}:∀(l:List Oper) {s:AS} {a:Act} {w:cj} {k:AS->Option R} {r:R},gl C s a w->azD P Γ bD ops l s k=aw r->
  (∀s' a' w',gl C s' a' w'->k s'=aw r->Q .normal a' w')->wpListIn (Fr rd) n P ops Q l a w
 |[],s,a,w,k,r,h,he,hk=>hk s a w h he
 |o::l,s,a,w,k,r,h,he,hk=>by have he:azC P Γ bD ops o s (λs'=>s'.seen λs'=>azD P Γ bD ops l s' k)=aw r:=he;simp only[AS.N3]at he;exact((aql hΓ h he).mono λa' w' ⟨s',hs,h2⟩=>Q2 hΓ l hs h2 hk).wpListIn
end
end Go.Ab
namespace Go.Ab
theorem AS.aCh{s t:AS}(h1:s.ck=t.ck)(h2:s.news.length=t.news.length)(h3:∀id,s.bV id=t.bV id):s=t:=by
 obtain⟨a,b,c⟩:=s;obtain⟨a',b',c'⟩:=t;simp only at h1 h2;subst h1;have hb:b=b':=List.ext_getElem? λk=>h3 (.eC k)
 subst hb;have hc:c=c':=by apply pN h2;intro i h h';apply List.ext_getElem?;intro j;have:=h3 (.new i j);simpa[AS.bV,aK,h,h']using this
 rw[hc]
def dP.afF:dP->dP->Prop
 | .obj v _ c,.obj v' _ c'=>v=v'/\c=c'
 | .dead,.dead=>True
 |_,_=>False
def yx:Option dP->Option dP->Prop
 |some a,aw b=>a.afF b
 |none,aF=>True
 |_,_=>False
def dP.aon:dP->dP
 | .obj v _ c=> .obj v aW c
 | .dead=> .dead
theorem dP.ax7(a:dP):a.afF a:=by cases a <;> simp[dP.afF]
theorem as5(a:Option dP):yx a a:=by cases a <;> simp[yx,dP.ax7]
theorem as4(a:Option dP):yx (a.map dP.aon) a:=by
 cases a with
 |none=>trivial
 |some x=>cases x <;> simp[yx,dP.afF,dP.aon]
theorem dP.azA(a:dP):a.aon.aon=a.aon:=by cases a <;> rfl
structure mT(f:FN)(s t:AS):Prop where
 ck:∀i∈f.ck,t.slot i=s.slot i
 ws:∀id∈f.ws,t.bV id=s.bV id
 rs:∀id∈f.rs,yx (t.bV id) (s.bV id)
 ej:∀q,f.dst=aw q->t.ej q=s.ej q
structure aEf where
 v:aB
 up:Id->Option dP
 fz:List Id
structure App(d:Option Tmp)(E:aEf)(s s':AS):Prop where
 ck:s'.ck=(s.put d E.v).ck
 len:s'.news.length=s.news.length
 bV:∀id,s'.bV id=match E.up id with | some e=>aw e | none=>if id∈E.fz then(s.bV id).map dP.aon else s.bV id
structure acB(f:FN)(s:AS)(E:aEf):Prop where
 up:∀id e,E.up id=aw e->(id∈f.ws/\s.bV id≠aF)\/∃q j,f.dst=aw q/\id= .new q j
 fz:∀id∈E.fz,id∈f.rs
theorem KF(s:AS)(id:Id)(e:dP):(s.aZ id e).news.length=s.news.length:=by cases id <;> simp[AS.aZ]
theorem YS(s:AS)(id i:Id):(s.freeze id).bV i=if i=id then(s.bV i).map dP.aon else s.bV i:=by
 unfold AS.freeze;cases hs:s.bV id with
 |none=>
  by_cases hi:i=id
  ·subst hi;simp[hs]
  ·simp[hi]
 |some e=>
  cases e with
  |dead=>
   by_cases hi:i=id
   ·subst hi;simp[hs,dP.aon]
   ·simp[hi]
  |obj v fr c=>
   simp only;by_cases hi:i=id
   ·subst hi;rw[eg s i _ (by rw[hs];simp)];simp[hs,dP.aon]
   ·rw[cU s id i _ hi];simp[hi]
theorem fu(i:Id):∀(ids:List Id) (s:AS),(s.bq ids).bV i=if i∈ids then(s.bV i).map dP.aon else s.bV i
 |[],s=>by simp[AS.bq]
 |id::ids,s=>by
  rw[AS.bq,fu i ids,YS];by_cases h1:i=id
  ·subst h1;by_cases h2:i∈ids
   ·simp[h2,Option.map_map,Function.comp_def,dP.azA]
   ·simp[h2]
  ·simp[h1]
theorem ak4(s:AS)(id:Id):(s.freeze id).news.length=s.news.length:=by
 unfold AS.freeze;split
 ·exact KF _ _ _
 ·rfl
theorem qR:∀(ids:List Id) (s:AS),(s.bq ids).news.length=s.news.length
 |[],_=>rfl
 |id::ids,s=>by rw[AS.bq,qR ids,ak4]
theorem zR{s:AS}{q:Nat}:s.ej q=aW↔q < s.news.length/\∀j,s.bV (.new q j)=aF:=by
 refine⟨λh=>⟨(kL h).2,(kL h).1⟩,λ⟨h1,h2⟩=> ?_⟩;unfold AS.ej;rw[cn h1];have h0:=h2 0;simp only[AS.bV,aK,cn h1,eM]at h0;cases hh:s.news[q]with
 |nil=>rfl
 |cons x xs=>rw[hh]at h0;simp at h0
theorem App.Pe(d:Option Tmp)(v:aB)(ids:List Id)(s:AS):App d ⟨v,λ_=>aF,ids⟩ s ((s.bq ids).put d v):=by
 refine⟨?_,?_,λid=> ?_⟩
 ·cases d <;> simp[AS.put,oh]
 ·cases d <;> simp[AS.put,qR]
 ·rw[Io,fu]
theorem App.Ix(d:Option Tmp)(v:aB)(s:AS):App d ⟨v,λ_=>aF,[]⟩ s (s.put d v):=App.Pe d v [] s
def O1(q:Nat)(es:List dP):Id->Option dP
 | .new i j=>if i=q then es[j]? else aF
 | .eC _=>aF
theorem au6(s:AS){q:Nat}(hq:q < s.news.length)(es:List dP)(id:Id):(s.born q es).bV id=match id with | .new i j=>if i=q then es[j]? else s.bV (.new i j) | .eC k=>s.bV (.eC k):=by
 cases id with
 |eC k=>rfl
 |new i j=>
  simp only;by_cases h:i=q
  ·subst h;rw[if_pos rfl];exact xL hq _ j
  ·rw[if_neg h];exact iZ _ λj' e=>by simp only[Id.new.injEq]at e;exact h e.1
theorem App.aod{s:AS}{q:Nat}(hv:s.ej q=aW)(v:aB)(ids:List Id)(es:List dP):App (aw q) ⟨v,O1 q es,ids⟩ s (((s.bq ids).born q es).put (aw q) v):=by
 obtain⟨h1,h2⟩:=zR.1 hv;refine⟨?_,?_,λid=> ?_⟩
 ·simp[AS.put,oh]
 ·simp[AS.put,AS.born,qR]
 ·rw[Io,au6 _ (by rw[qR];exact h1)];cases id with
  |eC k=>simp only[O1];exact fu _ _ _
  |new i j=>
   simp only[O1];by_cases h:i=q
   ·subst h;rw[if_pos rfl];cases he:es[j]? with
    |none=>simp[h2]
    |some e=>simp
   ·rw[if_neg h];simp only[if_neg h];exact fu _ _ _
theorem App.ax1{s:AS}{id:Id}{e0:dP}(hs:s.bV id=aw e0)(d:Option Tmp)(v:aB)(e:dP):App d ⟨v,λi=>if i=id then aw e else aF,[]⟩ s ((s.aZ id e).put d v):=by
 refine⟨?_,?_,λi=> ?_⟩
 ·cases d <;> simp[AS.put]
 ·cases d <;> simp[AS.put,KF]
 ·rw[Io];by_cases hi:i=id
  ·subst hi;rw[eg s i _ (by rw[hs];simp)];simp
  ·rw[cU s id i _ hi];simp[hi]
section
variable {P:aR} {Γ:uO} {bD:List Nat} {ops:Array Oper} {o:Oper} {s t:AS}
def LR(P:aR)(Γ:uO)(bD:List Nat)(ops:Array Oper)(o:Oper)(s s':AS):Prop:=∃E,App o.dst E s s'/\acB (gM Γ ops s o) s E/\∀t,mT (gM Γ ops s o) s t->∃t',(pL P Γ bD o t).eval=aw t'/\App o.dst E t t'
theorem Rn{xs:Array bH}{i:Nat}(h:Operand.tmp i∈xs.toList):i∈TK xs:=by unfold TK;exact List.mem_filterMap.2 ⟨_,h,rfl⟩
theorem mT.ev(h:mT (gM Γ ops s o) s t){x:bH}(hx:x∈o.op.operands.toList):t.ev x=s.ev x:=by
 cases x with
 |tmp i=>exact h.ck i (bJ.2 (.inl (Rn hx)))
 |_=>rfl
theorem ahr(v:Value):(ofConst v).ids=[]:=by unfold ofConst;split <;> rfl
theorem abo{o:Oper}{x:Op}(h:o.op=x)(hx:abe x=aQ):abe o.op=aQ:=by rw[h];exact hx
theorem KD(hn:abe o.op=aQ){x:bH}(hx:x∈o.op.operands.toList){id:Id}(dd:id∈(s.ev x).ids):id∈(gM Γ ops s o).rs:=by
 refine bJ.2 (.inl ?_);unfold ahs;rw[hn];cases x with
 |tmp i=>exact gL.2 ⟨i,Rn hx,dd⟩
 |const v=>simp[AS.ev,ahr]at dd
 |global _=>simp[AS.ev,aB.ids]at dd
 |func f=>simp[AS.ev,aB.ids]at dd
theorem mT.afF(h:mT (gM Γ ops s o) s t)(hn:abe o.op=aQ){x:bH}(hx:x∈o.op.operands.toList){id:Id}(dd:id∈(s.ev x).ids):yx (t.bV id) (s.bV id):=h.rs id (KD hn hx dd)
theorem Oc{id:Id}(h:yx (t.bV id) (s.bV id)):(t.obj id=aF/\s.obj id=aF)\/∃v f f' c,t.obj id=aw (v,f,c)/\s.obj id=aw (v,f',c):=by
 unfold AS.obj
 revert h
 cases t.bV id with
 |none=>cases s.bV id with
  |none=>intro _;simp
  |some b=>intro h;exact h.elim
 |some a=>cases s.bV id with
  |none=>intro h;exact h.elim
  |some b=>cases a <;> cases b <;> intro h <;> first
    |exact h.elim
    | (left;exact⟨rfl,rfl⟩)
    | (obtain⟨rfl,rfl⟩:=h;right;exact⟨_,_,_,_,rfl,rfl⟩)
theorem Qh{id:Id}(h:yx (t.bV id) (s.bV id))(ver:Nat)(p:List C1):t.row id ver p=s.row id ver p:=by unfold AS.row;rcases Oc h with⟨h1,h2⟩ | ⟨v,f,f',c,h1,h2⟩ <;> rw[h1,h2]
theorem pE:∀(v:aB) (ty:Ty),(∀id∈v.ids,yx (t.bV id) (s.bV id))->t.ix ty v=s.ix ty v
 | .dx id ver p c i len,ty,h=>by
  cases ty <;> first
   |rfl
   | (simp only[AS.ix];rw[Qh (h id (by simp[aB.ids]))])
 | .pr a b,ty,h=>by
  cases ty <;> first
   |rfl
   | (simp only[AS.ix];rw[pE a _ λid dd=>h id (by simp[aB.ids,dd]),pE b _ λid dd=>h id (by simp[aB.ids,dd])])
 | .undef,ty,_ | .gone,ty,_ | .cw,ty,_ | .kq,ty,_ | .vh,ty,_ | .zZ,ty,_ | .d _ _,ty,_ | .ptr ..,ty,_ | .dB ..,ty,_ | .fn ..,ty,_ | .cons ..,ty,_ | .nil,ty,_ | .vec ..,ty,_ | .bx ..,ty,_ | .sG ..,ty,_ | .mp ..,ty,_ | .rA ..,ty,_ | .yl ..,ty,_ | .xx ..,ty,_ | .sb _,ty,_=>by cases ty <;> simp only[AS.ix]
theorem vC:∀(v:aB),∀id∈v.shared,id∈v.ids
 | .dx ..,id,h=>by simpa[aB.shared,aB.ids]using h
 | .pr a b,id,h=>by
  simp only[aB.shared,bJ,aB.ids]at h ⊢;rcases h with h | h
  ·exact .inl (vC a id h)
  ·exact .inr (vC b id h)
 | .undef,_,h | .gone,_,h | .cw,_,h | .kq,_,h | .vh,_,h | .zZ,_,h | .d _ _,_,h | .ptr ..,_,h | .dB ..,_,h | .fn ..,_,h | .cons ..,_,h | .nil,_,h | .vec ..,_,h | .bx ..,_,h | .sG ..,_,h | .mp ..,_,h | .rA ..,_,h | .yl ..,_,h | .xx ..,_,h | .sb _,_,h=>by simp[aB.shared]at h
theorem agV{T:TypeId}{x:aB}(h:∀id∈x.ids,yx (t.bV id) (s.bV id)):MM P t T x=MM P s T x:=by
 unfold MM;split
 ·rename_i id ver p n;rcases Oc (h id (by simp[aB.ids])) with⟨h1,h2⟩ | ⟨v,f,f',c,h1,h2⟩ <;> rw[h1,h2]
 ·rfl
 ·rfl
 ·rfl
 ·rfl
theorem acH{n:Nat}{lo hi:Option bH}(hl:∀x,lo=aw x->t.ev x=s.ev x)(hh:∀x,hi=aw x->t.ev x=s.ev x):bounds t n lo hi=bounds s n lo hi:=by
 unfold bounds
 cases lo <;> cases hi <;> simp only[] <;> first
  |rfl
  | (rw[hl _ rfl,hh _ rfl])
  |rw[hl _ rfl]
  |rw[hh _ rfl]
theorem Og{T:TypeId}{x:aB}{lo hi:Option bH}(h:∀id∈x.ids,yx (t.bV id) (s.bV id))(hl:∀x,lo=aw x->t.ev x=s.ev x)(hh:∀x,hi=aw x->t.ev x=s.ev x):
  HG P t T x lo hi=HG P s T x lo hi:=by
 have hb:∀n,bounds t n lo hi=bounds s n lo hi:=λn=>acH hl hh
 unfold HG
 split <;> first
  |rfl
  | (rw[Qh (h _ (by simp[aB.ids]))];simp only[hb];done)
  | (simp only[hb];done)
theorem Z6{T:TypeId}{x:aB}{lo:Option bH}{y m:bH}(h:∀id∈x.ids,yx (t.bV id) (s.bV id))(hl:∀x,lo=aw x->t.ev x=s.ev x)(hh:t.ev y=s.ev y)(hm:t.ev m=s.ev m):
  Of P t T x lo y m=Of P s T x lo y m:=by
 unfold Of;rw[hh,hm,Og h hl λz hz=>by obtain rfl:=bu hz;exact hh]
theorem Ps{T:TypeId}{x:aB}{i:Int}(h:∀id∈x.ids,yx (t.bV id) (s.bV id)):sA P t T x i=sA P s T x i:=by
 unfold sA
 split <;> first
  |rfl
  |rw[Qh (h _ (by simp[aB.ids]))]
theorem agb{obj:Bool}{src dst:TypeId}{x:aB}(h:∀id∈x.ids,yx (t.bV id) (s.bV id)):aaL P t obj src dst x=aaL P s obj src dst x:=by
 unfold aaL;split
 ·rfl
 ·unfold auM
  split <;> first
   |rfl
   | (simp only[AS.Gu,pE _ _ h])
theorem ap7{T:TypeId}{op:BinOp}{i:Id}{v:Nat}{j:Id}{w:Nat}(h:yx (t.bV i) (s.bV i)):aDI P t T op i v j w=aDI P s T op i v j w:=by unfold aDI;rcases Oc h with⟨h1,h2⟩ | ⟨v,f,f',c,h1,h2⟩ <;> rw[h1,h2]
theorem agd{src dst:TypeId}{id:Id}{ver:Nat}(h:yx (t.bV id) (s.bV id)):aaM P t src dst id ver=aaM P s src dst id ver:=by
 unfold aaM;rcases Oc h with⟨h1,h2⟩ | ⟨v,f,f',c,h1,h2⟩
 ·rw[h1,h2]
 ·rw[h1,h2]
  cases c <;> first
   |rfl
   | (rename_i e z c;cases z <;> rfl)
theorem zD{ty:Ty}:∀(ps:List (Nat×bH)) (l:List ty.den),(∀x∈ps,t.ev x.2=s.ev x.2/\∀id∈(s.ev x.2).ids,yx (t.bV id) (s.bV id))->jD ty t ps l=jD ty s ps l
 |[],_,_=>rfl
 | (i,x)::ps,l,h=>by obtain⟨h1,h2⟩:=h (i,x) (bf ..);simp only[jD];simp only at h1 h2;rw[h1,pE _ _ h2];congr 2;funext y;rw[zD ps _ λz hz=>h z (aV _ hz)]
theorem xq{ty:Ty}:∀(ps:List (Nat×bH)) (l:List ty.den) (r:List ty.den×List Id),(jD ty s ps l).eval=aw r->∀id∈r.2,∃x∈ps,id∈(s.ev x.2).ids
 |[],l,r,h,id,dd=>by obtain rfl:=ay.1 h;cases dd
 | (i,x)::ps,l,r,h,id,dd=>by
  simp only[jD]at h;obtain⟨h1,h2⟩:=aD.1 h;obtain⟨y,h3,h4⟩:=ax.1 h2;obtain⟨r',h5,h6⟩:=ax.1 h4;obtain rfl:=ay.1 h6;rcases bJ.1 dd with dd | dd
  ·exact⟨(i,x),bf ..,vC _ _ dd⟩
  ·obtain⟨z,hz,KC⟩:=xq ps _ r' h5 id dd;exact⟨z,aV _ hz,KC⟩
theorem Fl{fs:Array Field}:∀(ps:List (Nat×bH)) (v:aB),(∀x∈ps,t.ev x.2=s.ev x.2)->qq P fs t ps v=qq P fs s ps v
 |[],_,_=>rfl
 | (i,x)::ps,v,h=>by
  have h1:=h (i,x) (bf ..);simp only at h1;simp only[qq,h1];have ih:∀v,qq P fs t ps v=qq P fs s ps v:=λv=>Fl ps v λz hz=>h z (aV _ hz)
  simp only[ih]
theorem L1:∀(l:List bH),(∀x∈l,t.ev x=s.ev x)->so t l=so s l
 |[],_=>rfl
 |x::l,h=>by simp only[so];rw[h x (bf ..),L1 l λy hy=>h y (aV _ hy)]
theorem Rr{ty:Ty}{X:TypeId}{x:aB}(h:∀id∈x.ids,yx (t.bV id) (s.bV id)):Gn P t ty X x=Gn P s ty X x:=by
 unfold Gn;split
 ·rfl
 ·simp only[AS.Gu,pE _ _ h]
theorem kQ{v:aB}(h:∀t,mT (gM Γ ops s o) s t->(pL P Γ bD o t).eval=aw (t.put o.dst v)):LR P Γ bD ops o s (s.put o.dst v):=
 ⟨⟨v,λ_=>aF,[]⟩,App.Ix _ _ _,⟨λ_ _ h=>by simp at h,λ_ h=>by simp at h⟩,λt ht=>⟨_,h t ht,App.Ix _ _ _⟩⟩
theorem oO{F:AS->Out aB}(ho:∀t,pL P Γ bD o t=(F t).bind λv=> .ok (t.put o.dst v))(hF:∀t,mT (gM Γ ops s o) s t->F t=F s){s':AS}(he:(pL P Γ bD o s).eval=aw s'):LR P Γ bD ops o s s':=by
 rw[ho]at he;obtain⟨v,h1,h2⟩:=ax.1 he;obtain rfl:=ay.1 h2;refine kQ λt ht=> ?_
 rw[ho,hF t ht,ax];exact⟨v,h1,rfl⟩
theorem TE{v:aB}{ids:List Id}(hi:∀id∈ids,id∈(gM Γ ops s o).rs)(h:∀t,mT (gM Γ ops s o) s t->(pL P Γ bD o t).eval=aw ((t.bq ids).put o.dst v)):LR P Γ bD ops o s ((s.bq ids).put o.dst v):=
 ⟨⟨v,λ_=>aF,ids⟩,App.Pe _ _ _ _,⟨λ_ _ h=>by simp at h,hi⟩,λt ht=>⟨_,h t ht,App.Pe _ _ _ _⟩⟩
theorem wH{v:aB}{ids:List Id}{q:Nat}{es:List dP}(hd:o.dst=aw q)(hv:s.ej q=aW)(hi:∀id∈ids,id∈(gM Γ ops s o).rs)
  (h:∀t,mT (gM Γ ops s o) s t->t.ej q=aW->(pL P Γ bD o t).eval=aw (((t.bq ids).born q es).put o.dst v)):LR P Γ bD ops o s (((s.bq ids).born q es).put o.dst v):=by
 refine⟨⟨v,O1 q es,ids⟩,by rw[hd];exact App.aod hv _ _ _,⟨λid e h=> .inr ?_,hi⟩,λt ht=> ?_⟩
 ·cases id with
  |eC _=>simp[O1]at h
  |new i j=>
   simp only[O1]at h;split at h
   ·rename_i hq;exact⟨q,j,hd,by rw[hq]⟩
   ·cases h
 ·have hv':t.ej q=aW:=by rw[ht.ej q hd];exact hv
  exact⟨_,h t ht hv',by rw[hd];exact App.aod hv' _ _ _⟩
theorem Dl{v:aB}{id:Id}{e0 e:dP}(hs:s.bV id=aw e0)(hw:id∈(gM Γ ops s o).ws)(h:∀t,mT (gM Γ ops s o) s t->t.bV id=s.bV id->(pL P Γ bD o t).eval=aw ((t.aZ id e).put o.dst v)):
  LR P Γ bD ops o s ((s.aZ id e).put o.dst v):=by
 refine⟨⟨v,λi=>if i=id then aw e else aF,[]⟩,App.ax1 hs _ _ _,⟨λi e' h=> .inl ?_,λ_ h=>by simp at h⟩,λt ht=> ?_⟩
 ·simp only at h;split at h
  ·rename_i hi;subst hi;exact⟨hw,by rw[hs];simp⟩
  ·cases h
 ·have:=ht.ws id hw;exact⟨_,h t ht this,App.ax1 (this.trans hs) _ _ _⟩
end
end Go.Ab
namespace Go.Ab
section
variable {P:aR} {Γ:uO} {bD:List Nat} {ops:Array Oper} {o:Oper} {s t:AS}
theorem aeZ{T:TypeId}{x v:aB}{s':AS}(h:(HI P s T x v).eval=aw s'):
  ∃id e0 e,x.ids=[id]/\s.bV id=aw e0/\s'=s.aZ id e/\∀t:AS,t.bV id=s.bV id->(HI P t T x v).eval=aw (t.aZ id e):=by
 unfold HI at h;split at h
 ·rename_i id ver p n;cases ko:s.obj id with
  |none=>rw[ko]at h;simp only[av]at h
  |some r=>
   obtain⟨ve,fr,c⟩:=r;rw[ko]at h;obtain⟨h1,h2⟩:=aD.1 h;obtain⟨r,h3,h4⟩:=ax.1 h2;obtain⟨h5,h6⟩:=aD.1 h4;obtain⟨h7,h8⟩:=bO.1 h6;obtain⟨c',h9,aEA⟩:=ax.1 h8;obtain rfl:=ay.1 aEA;refine⟨id,_,_,rfl,dA ko,rfl,λt ht=> ?_⟩;have hob':t.obj id=aw (ve,fr,c):=by simp only[AS.obj,ht];exact ko
   unfold HI;simp only[hob'];exact aD.2 ⟨h1,ax.2 ⟨r,h3,aD.2 ⟨h5,bO.2 ⟨h7,ax.2 ⟨c',h9,ay.2 rfl⟩⟩⟩⟩⟩
 ·simp only[av]at h
theorem akn{c:Call}{x y:bH}{T X:TypeId}(dj:o.op= .call c)(hc:c.callee= .builtin .copy)(ha:c.args.toList=[x,y])(ht:c.argTypes.toList=[T,X]){s':AS}
  (he:(Uj P s o.dst T X (s.ev x) (s.ev y)).eval=aw s'):LR P Γ bD ops o s s':=by
 have aaX:∀t:AS,pL P Γ bD o t=Uj P t o.dst T X (t.ev x) (t.ev y):=λt=>by unfold pL;rw[dj];simp only[hc,ha,ht]
 have IU:∀z,z=x\/z=y->z∈o.op.operands.toList:=λz hz=>by rw[dj];simp only[bW,dY,hc,aO,bZ,ha];simpa using hz
 have hx:∀t,mT (gM Γ ops s o) s t->t.ev x=s.ev x:=λt h=>h.ev (IU x (.inl rfl))
 have hy:∀t,mT (gM Γ ops s o) s t->t.ev y=s.ev y:=λt h=>h.ev (IU y (.inr rfl))
 have hm:∀t,mT (gM Γ ops s o) s t->∀ty,Gn P t ty X (s.ev y)=Gn P s ty X (s.ev y):=λt h ty=>Rr λid dd=>h.afF (abo dj rfl) (IU y (.inr rfl)) dd
 unfold Uj at he;split at he
 ·rename_i e t b id ver len IS ajU;obtain⟨m,h1,he⟩:=ax.1 he;split at he
  ·rename_i ve n t' l ko;obtain⟨h2,FL⟩:=aD.1 he;obtain⟨l',h3,Tv⟩:=ax.1 FL;obtain⟨h4,aDM⟩:=bO.1 Tv;obtain rfl:=ay.1 aDM;have hw:id∈(gM Γ ops s o).ws:=by show id∈writes Γ s o;unfold writes;rw[dj];simp only[hc,ha,ajU];simp[aB.ids]
   refine Dl (dA ko) hw λt ht agG=> ?_
   rw[aaX t,hx t ht,hy t ht];have hob':t.obj id=aw (ve,aQ,.d (.arr n t') l):=by simp only[AS.obj,agG];exact ko
   unfold Uj;simp only[IS,ajU];refine ax.2 ⟨m,by rw[hm t ht];exact h1,?_⟩;simp only[hob'];exact aD.2 ⟨h2,ax.2 ⟨l',h3,bO.2 ⟨h4,ay.2 rfl⟩⟩⟩
  ·exact(av.1 he).elim
 ·exact(av.1 he).elim
theorem acF{c:Call}{x y:bH}{T X:TypeId}(dj:o.op= .call c)(hc:c.callee= .builtin .append)(ha:c.args.toList=[x,y])(ht:c.argTypes.toList=[T,X])(jR:∀k n,s.ev x= .cw->s.ev y= .d (.int k) n->False){s':AS}
  (he:(xB P s (aqy bD o.dst) (akW bD o.dst) o.dst T X (s.ev x) (s.ev y)).eval=aw s'):LR P Γ bD ops o s s':=by
 have aaX:∀t:AS,t.ev x=s.ev x->t.ev y=s.ev y->pL P Γ bD o t=xB P t (aqy bD o.dst) (akW bD o.dst) o.dst T X (t.ev x) (t.ev y):=λt e1 e2=>by
  unfold pL;rw[dj];simp only[hc,ha,ht];split
  ·rename_i k n hx hy;rw[e1]at hx;rw[e2]at hy;exact(jR k n hx hy).elim
  ·rfl
 have IU:∀z,z=x\/z=y->z∈o.op.operands.toList:=λz hz=>by rw[dj];simp only[bW,dY,hc,aO,bZ,ha];simpa using hz
 have hx:∀t,mT (gM Γ ops s o) s t->t.ev x=s.ev x:=λt h=>h.ev (IU x (.inl rfl))
 have hy:∀t,mT (gM Γ ops s o) s t->t.ev y=s.ev y:=λt h=>h.ev (IU y (.inr rfl))
 have hm:∀t,mT (gM Γ ops s o) s t->∀ty,Gn P t ty X (s.ev y)=Gn P s ty X (s.ev y):=λt h ty=>Rr λid dd=>h.afF (abo dj rfl) (IU y (.inr rfl)) dd
 unfold xB at he;split at he
 ·rename_i e ty b q IS hd;obtain⟨m,h1,h2⟩:=ax.1 he;split at h2
  ·rename_i aE9;cases aDL:akW bD o.dst with
   |true=>
    rw[aDL]at h2;simp only at h2;obtain⟨h5,h6⟩:=bO.1 h2;obtain rfl:=ay.1 h6;refine kQ λt ht=> ?_
    rw[aaX t (hx t ht) (hy t ht),hx t ht,hy t ht];unfold xB;simp only[hd]at aDL IS ⊢;simp only[IS,aE9,aDL];refine ax.2 ⟨m,by rw[hm t ht];exact h1,?_⟩;exact bO.2 ⟨h5,ay.2 rfl⟩
   |false=>
   rw[aDL]at h2;simp only at h2;obtain⟨h3,h4⟩:=aD.1 h2;obtain⟨h5,h6⟩:=bO.1 h4;obtain rfl:=ay.1 h6;refine wH (ids:=[]) hd h3 (λ_ h=>by cases h) λt ht hv=> ?_
   rw[aaX t (hx t ht) (hy t ht),hx t ht,hy t ht];unfold xB;simp only[hd]at aDL IS ⊢;simp only[IS,aE9,aDL];refine ax.2 ⟨m,by rw[hm t ht];exact h1,?_⟩;exact aD.2 ⟨hv,bO.2 ⟨h5,ay.2 rfl⟩⟩
  ·rename_i id ver len aE9;split at h2
   ·rename_i v fr e' t' l ko;obtain⟨h3,h4⟩:=aD.1 h2;obtain⟨l',h5,h6⟩:=ax.1 h4;obtain⟨h7,h8⟩:=bO.1 h6;obtain⟨h9,aEA⟩:=bO.1 h8;obtain⟨aJA,Q3⟩:=bO.1 aEA;obtain rfl:=ay.1 Q3;have hw:id∈(gM Γ ops s o).ws:=by show id∈writes Γ s o;unfold writes;rw[dj];simp only[hc,ha,aE9];simp[aB.ids]
    refine Dl (dA ko) hw λt ht agG=> ?_
    rw[aaX t (hx t ht) (hy t ht),hx t ht,hy t ht];have hob':t.obj id=aw (v,fr,.vec e' t' l):=by simp only[AS.obj,agG];exact ko
    unfold xB;simp only[hd]at IS ⊢;simp only[IS,aE9];refine ax.2 ⟨m,by rw[hm t ht];exact h1,?_⟩;simp only[hob'];exact aD.2 ⟨h3,ax.2 ⟨l',h5,bO.2 ⟨h7,bO.2 ⟨h9,bO.2 ⟨aJA,ay.2 rfl⟩⟩⟩⟩⟩
   ·simp only[av]at h2
  ·simp only[av]at h2
 ·simp only[av]at he
theorem P8:∀(n:Nat) (todo acc:List Id),∀id∈acc,id∈s.reach n todo acc
 | 0,_,_,id,h=>h
 |_+1,[],_,id,h=>h
 |n+1,x::todo,acc,id,h=>by
  rw[AS.reach];split
  ·exact P8 n todo acc id h
  ·exact P8 n _ _ id (bJ.2 (.inl h))
theorem wQ:∀(n:Nat) (todo acc:List Id),(∀id∈s.reach n todo acc,((t.bV id).getD .dead).ids=((s.bV id).getD .dead).ids)->t.reach n todo acc=s.reach n todo acc
 | 0,_,_,_=>rfl
 |_+1,[],_,_=>rfl
 |n+1,x::todo,acc,h=>by
  rw[AS.reach]at h;rw[AS.reach,AS.reach];split
  ·rename_i hc;rw[if_pos hc]at h;exact wQ n todo acc h
  ·rename_i hc;rw[if_neg hc]at h;have hx:=h x (P8 n _ _ x (bJ.2 (.inr (cX.2 rfl))));rw[hx];exact wQ n _ _ h
theorem azU(e:Option dP):((e.map dP.aon).getD .dead).ids=(e.getD .dead).ids:=by
 cases e with
 |none=>rfl
 |some x=>cases x <;> rfl
theorem Th(ids:List Id)(n:Nat)(todo acc:List Id):(s.bq ids).reach n todo acc=s.reach n todo acc:=by
 refine wQ n todo acc λid _=> ?_
 rw[fu];split
 ·exact azU _
 ·rfl
theorem Kn:∀(ps:List (Option Ty)) (vs:List aB),(∀v∈vs,∀id∈v.ids,yx (t.bV id) (s.bV id))->t.conv ps vs=s.conv ps vs
 |[],[],_=>rfl
 |[],_::_,_=>rfl
 |some _::_,[],_=>rfl
 |none::_,[],_=>rfl
 |some ty::ps,v::vs,h=>by simp only[AS.conv];rw[pE v ty (h v (bf ..)),Kn ps vs λx hx=>h x (aV _ hx)]
 |none::ps,v::vs,h=>by simp only[AS.conv];rw[Kn ps vs λx hx=>h x (aV _ hx)]
theorem Ko:∀(ps:List (Option Ty)) (vs:List aB) (r:List aB×List Id),(s.conv ps vs).eval=aw r->r.1.flatMap aB.ids=vK ps vs/\∀id∈r.2,∃v∈vs,id∈v.ids
 |[],[],r,h=>by simp only[AS.conv,ay]at h;subst h;exact⟨rfl,λ_ h=>by cases h⟩
 |some ty::ps,v::vs,r,h=>by
  simp only[AS.conv]at h;obtain⟨x,h1,h2⟩:=ax.1 h;obtain⟨r',h3,h4⟩:=ax.1 h2;obtain rfl:=ay.1 h4;obtain⟨i1,i2⟩:=Ko ps vs r' h3;refine⟨by simp[vK,i1,aB.ids],λid dd=> ?_⟩;rcases bJ.1 dd with dd | dd
  ·exact⟨v,bf ..,vC v id dd⟩
  ·obtain⟨u,hu,afD⟩:=i2 id dd;exact⟨u,aV _ hu,afD⟩
 |none::ps,v::vs,r,h=>by simp only[AS.conv]at h;obtain⟨r',h3,h4⟩:=ax.1 h;obtain rfl:=ay.1 h4;obtain⟨i1,i2⟩:=Ko ps vs r' h3;refine⟨by simp[vK,i1],λid dd=> ?_⟩;obtain⟨u,hu,afD⟩:=i2 id dd;exact⟨u,aV _ hu,afD⟩
 |[],_::_,_,h=>by simp only[AS.conv,av]at h
 |some _::_,[],_,h=>by simp only[AS.conv,av]at h
 |none::_,[],_,h=>by simp only[AS.conv,av]at h
theorem agU:∀(c:aB),∀v∈c.list,∀id∈v.ids,id∈c.ids
 | .cons a b,v,hv,id,dd=>by
  simp only[aB.list,cz]at hv;simp only[aB.ids,bJ];rcases hv with rfl | hv
  ·exact .inl dd
  ·exact .inr (agU b v hv id dd)
 | .sb _,_,h,_,_ | .undef,_,h,_,_ | .gone,_,h,_,_ | .cw,_,h,_,_ | .kq,_,h,_,_ | .vh,_,h,_,_ | .zZ,_,h,_,_ | .d _ _,_,h,_,_ | .ptr ..,_,h,_,_ | .dB ..,_,h,_,_
 | .fn ..,_,h,_,_ | .pr ..,_,h,_,_ | .nil,_,h,_,_ | .vec ..,_,h,_,_ | .bx ..,_,h,_,_ | .sG ..,_,h,_,_ | .mp ..,_,h,_,_ | .rA ..,_,h,_,_ | .yl ..,_,h,_,_ | .xx ..,_,h,_,_ | .dx ..,_,h,_,_=>by simp[aB.list]at h
theorem R6{ids:List Id}(h:∀id∈ids,t.bV id=s.bV id):t.wS ids=s.wS ids:=by
 funext id ver;unfold AS.wS;cases hi:idxOf id ids with
 |none=>rfl
 |some k=>
  have:t.obj id=s.obj id:=by simp only[AS.obj,h id (cE (pf hi))]
  rw[this]
theorem Sy{id:Id}(h:t.bV id=s.bV id):t.A6 id=s.A6 id:=by simp only[AS.A6,AS.obj,h]
theorem NH{ids:List Id}(h:∀id∈ids,t.bV id=s.bV id)(q:Nat):t.vy ids q=s.vy ids q:=by
 funext id ver;cases id with
 |new i j=>rfl
 |eC k=>
  simp only[AS.vy];cases hk:ids[k]? with
  |none=>rfl
  |some id=>simp only[Sy (h id (cE hk))]
theorem Mg{ids:List Id}(h:∀id∈ids,t.bV id=s.bV id)(q b:Nat):t.sw ids q b=s.sw ids q b:=by funext e;cases e <;> simp only[AS.sw,NH h]
theorem agm{ids:List Id}(h:∀id∈ids,t.bV id=s.bV id){id:Id}(dd:id∈ids):t.mW ids id=s.mW ids id:=by unfold AS.mW;rw[h id dd,R6 h]
def oI(s:AS)(ids:List Id)(d:Option Tmp)(G:oH):AS:=(AS.jM s ids (d.getD 0) (s.made ids (d.getD 0) G.news) ids G.dg).put d (G.val.iI (s.vy ids (d.getD 0)))
theorem aaB{ids:List Id}{d:Option Tmp}{G:oH}{s':AS}:(s.back ids d G).eval=aw s'↔(G.dg.length=ids.length/\(G.news=[]\/∃q,d=aw q/\s.ej q=aW))/\s'=oI s ids d G:=by
 unfold AS.back;cases d with
 |none=>
  rw[aD,ay];simp only[al,dp,List.isEmpty_iff,oI,AS.put,Option.getD_none];constructor
  ·rintro⟨⟨h1,h2⟩,rfl⟩;rw[h2];exact⟨⟨h1,.inl rfl⟩,rfl⟩
  ·rintro⟨⟨h1,h2⟩,rfl⟩;rcases h2 with h2 | ⟨q,hq,_⟩
   ·rw[h2];exact⟨⟨h1,rfl⟩,rfl⟩
   ·cases hq
 |some q=>
  rw[aD,ay];simp only[al,dp,ju,List.isEmpty_iff,oI,eM];constructor
  ·rintro⟨⟨h1,h2⟩,rfl⟩;exact⟨⟨h1,h2.imp id λh=>⟨q,rfl,h⟩⟩,rfl⟩
  ·rintro⟨⟨h1,h2⟩,rfl⟩;refine⟨⟨h1,h2.imp id λ⟨q',hq,h⟩=> ?_⟩,rfl⟩;obtain rfl:q=q':=by simpa using hq
   exact h
theorem Rg(s0:AS)(all:List Id)(q:Nat):∀(ids:List Id) (es:List dP) (s:AS),(AS.jM s0 all q s ids es).news.length=s.news.length
 |[],_,_=>by simp[AS.jM]
 |_::_,[],_=>by simp[AS.jM]
 |id::ids,e::es,s=>by rw[AS.jM,Rg s0 all q ids es,KF]
theorem av4(s:AS)(ids:List Id)(q:Nat)(es:List dP):(s.made ids q es).news.length=s.news.length:=by cases es <;> simp[AS.made,AS.born]
def IN(ids:List Id)(d:Option Tmp)(G:oH)(id:Id):Prop:=id∈ids\/(G.news≠ []/\∃q j,d=aw q/\id= .new q j)
theorem T1{ids:List Id}{d:Option Tmp}{G:oH}(hn:ids.Nodup)(hp:∀id∈ids,s.bV id≠aF)(hl:G.dg.length=ids.length)(hv:G.news=[]\/∃q,d=aw q/\s.ej q=aW):
  (∀id,¬IN ids d G id->(oI s ids d G).bV id=s.bV id)/\
  (∀(k:Nat) (id:Id) (e:dP),ids[k]? =aw id->G.dg[k]? =aw e->(oI s ids d G).bV id=aw (s.sw ids (d.getD 0) (s.A6 id) e))/\
  (∀q j,G.news≠ []->d=aw q->(oI s ids d G).bV (.new q j)=(G.news[j]?).map (s.sw ids q 0))/\
  (∀q j,G.news≠ []->d=aw q->s.bV (.new q j)=aF):=by
 have hv':G.news=[]\/s.ej (d.getD 0)=aW:=by
  rcases hv with h | ⟨q,rfl,h⟩
  ·exact .inl h
  ·exact .inr h
 obtain⟨m1,m2⟩:=agn s ids (d.getD 0) G.news hv';have aBF:∀q j,G.news≠ []->d=aw q->s.bV (.new q j)=aF:=λq j h1 h2=>by
  rcases hv' with h | h
  ·exact absurd h h1
  ·subst h2;exact(zR.1 h).2 j
 have FE:∀id,s.bV id≠aF->G.news=[]\/∀j,id≠ .new (d.getD 0) j:=λid dd=>by
  rcases hv with h | ⟨q,rfl,h⟩
  ·exact .inl h
  ·exact .inr λj e=>dd (by rw[e];exact(zR.1 h).2 j)
 obtain⟨n1,n2⟩:=F2 s ids (d.getD 0) ids G.dg (s.made ids (d.getD 0) G.news) hn hl (λid dd=>by rw[m1 id (FE id (hp id dd))];exact hp id dd);refine⟨λid dd=> ?_,λk id e h1 h2=> ?_,λq j h1 h2=> ?_,aBF⟩
 ·unfold IN at dd;simp only[not_or]at dd;rw[oI,Io,n1 id dd.1];refine m1 id ?_
  by_cases jR:G.news=[]
  ·exact .inl jR
  ·right;intro j e;rcases hv with h | ⟨q,hq,_⟩
   ·exact jR h
   ·exact dd.2 ⟨jR,q,j,hq,by rw[e,hq];rfl⟩
 ·rw[oI,Io,n2 k id e h1 h2]
 ·subst h2;have aG2:Id.new q j ∉ ids:=λdd=>hp _ dd (aBF q j h1 rfl)
  rw[oI,Io,n1 _ aG2];exact m2 h1 j
open Classical in
theorem akg{c:Call}{F:bH}{f:jF}{caps:aB}{en:Entry}(dj:o.op= .call c)(hc:c.callee= .value F)(hF:s.ev F= .fn f caps)(hΓ:Γ f (c.args.toList.map s.ev++caps.list)=aw en)(jQ:Nat.blt f yB=aW){s':AS}
  (he:(s.call en o.dst (c.args.toList.map s.ev++caps.list)).eval=aw s'):LR P Γ bD ops o s s':=by
 have IU:∀z,z=F\/z∈c.args.toList->z∈o.op.operands.toList:=λz hz=>by
  rw[dj];simp only[bW,dY,hc,bZ,bJ];rcases hz with rfl | hz
  ·exact .inl (by simp)
  ·exact .inr hz
 have avK:∀v∈c.args.toList.map s.ev++caps.list,∀id∈v.ids,id∈(gM Γ ops s o).rs:=λv hv id dd=>by
  rcases bJ.1 hv with hv | hv
  ·obtain⟨x,hx,rfl⟩:=fm.1 hv;exact KD (abo dj rfl) (IU x (.inr hx)) dd
  ·refine KD (abo dj rfl) (IU F (.inl rfl)) ?_
   rw[hF];exact agU caps v hv id dd
 generalize YW:c.args.toList.map s.ev++caps.list=vs at he avK hΓ;have ayS:(gM Γ ops s o).ws=s.reach 64 (vK en.params vs) []:=by show writes Γ s o=_;unfold writes;rw[dj];simp only[hc,hF,YW,hΓ]
 have aaX:∀t,mT (gM Γ ops s o) s t->pL P Γ bD o t=t.call en o.dst vs:=λt ht=>by
  unfold pL;rw[dj];have h1:t.ev F= .fn f caps:=by rw[ht.ev (IU F (.inl rfl)),hF]
  have h2:c.args.toList.map t.ev=c.args.toList.map s.ev:=hZ λx hx=>ht.ev (IU x (.inr hx))
  obtain⟨cal,args,tys⟩:=c;simp only at hc YW h2;subst hc;simp only[h1,h2,YW,hΓ,jQ,Out.guard]
 unfold AS.call at he;obtain⟨r,h1,h2⟩:=ax.1 he;obtain⟨aCB,aow⟩:=Ko _ _ r h1;have hlends:∀t:AS,(t.bq r.2).aa8 r.1=t.reach 64 (vK en.params vs) []:=λt=>by unfold AS.aa8;rw[Th,aCB]
 rw[hlends]at h2;generalize hW:s.reach 64 (vK en.params vs) []=W at h2 ayS;have hWn:W.Nodup:=by rw[<-hW];exact s7 s _ _ _ (by simp)
 unfold AS.enter at h2;obtain⟨aBu,h3⟩:=aD.1 h2;have sz:=((al _ _).mp aBu).1;obtain⟨x,hx,h4⟩:=lA.1 h3;obtain⟨x0,azR,h4⟩:=ax.1 h4;have akQ:=en.ajb _ _ azR;rw[akQ]at h4 azR;obtain⟨⟨hl,hv⟩,rfl⟩:=aaB.1 h4;generalize hG:en.out (r.1.map (aB.iI ((s.bq r.2).wS W))) (W.map ((s.bq r.2).mW W)) x=G at hl hv h4 ⊢;have hp:∀id∈W,(s.bq r.2).bV id≠aF:=λid dd=>by have:=(al _ _▸cf.1 sz id dd).1;obtain⟨⟨v,fr,c⟩,hr⟩:=cv.1 this;rw[dA hr];simp
 obtain⟨b1,b2,b3,b4⟩:=T1 (s:=s.bq r.2) (d:=o.dst) hWn hp hl hv;have hfzent:∀(u:AS) id,u.bV id=aF↔(u.bq r.2).bV id=aF:=λu id=>by rw[fu];split <;> simp
 let E:aEf:=⟨G.val.iI ((s.bq r.2).vy W (o.dst.getD 0)),λid=>if IN W o.dst G id then(oI (s.bq r.2) W o.dst G).bV id else aF,r.2⟩
 have hslots:∀u:AS,(oI (u.bq r.2) W o.dst G).ck=(u.put o.dst (G.val.iI ((u.bq r.2).vy W (o.dst.getD 0)))).ck:=λu=>by unfold oI;cases o.dst <;> simp[AS.put,B0,XE,oh]
 have hlen:∀u:AS,(oI (u.bq r.2) W o.dst G).news.length=u.news.length:=λu=>by unfold oI;cases o.dst <;> simp[AS.put,Rg,av4,qR]
 refine⟨E,⟨hslots s,hlen s,λid=> ?_⟩,⟨λid e KB=> ?_,λid dd=> ?_⟩,λt ht=> ?_⟩
 ·by_cases at0:IN W o.dst G id
  ·have KB:E.up id=(oI (s.bq r.2) W o.dst G).bV id:=if_pos at0;rw[KB];cases hb:(oI (s.bq r.2) W o.dst G).bV id with
   |some e=>rfl
   |none=>
    rcases at0 with dd | ⟨jR,q,j,hq,rfl⟩
    ·obtain⟨k,hk⟩:=kO.1 dd;have jQ:k < G.dg.length:=by rw[hl];exact(dE.1 hk).1
     rw[b2 k id _ hk (cn jQ)]at hb;cases hb
    ·have:=(hfzent s _).2 (b4 q j jR hq);simp[this]
  ·have KB:E.up id=aF:=if_neg at0;rw[KB,b1 id at0,fu]
 ·by_cases at0:IN W o.dst G id
  ·rcases at0 with dd | ⟨_,q,j,hq,rfl⟩
   ·left;refine⟨by rw[ayS];exact dd,λh=>hp id dd ((hfzent s id).1 h)⟩
   ·exact .inr ⟨q,j,hq,rfl⟩
  ·have:E.up id=aF:=if_neg at0;rw[this]at KB;cases KB
 ·obtain⟨v,hv,dd⟩:=aow id dd;exact avK v hv id dd
 ·have aEP:t.conv en.params vs=s.conv en.params vs:=Kn _ _ λv hv id dd=>ht.rs id (avK v hv id dd)
  have LM:∀id∈W,t.bV id=s.bV id:=λid dd=>ht.ws id (by rw[ayS];exact dd)
  have agv:∀id∈W,(t.bq r.2).bV id=(s.bq r.2).bV id:=λid dd=>by rw[fu,fu,LM id dd]
  have hWt:t.reach 64 (vK en.params vs) []=W:=by
   rw[<-hW];refine wQ _ _ _ λid dd=> ?_
   rw[LM id (by rw[<-hW];exact dd)]
  have aCH:G.news=[]\/∃q,o.dst=aw q/\(t.bq r.2).ej q=aW:=hv.imp id λ⟨q,hq,h⟩=>⟨q,hq,by
   rw[vD]at h ⊢;rw[ht.ej q hq];exact h⟩
  have aDV:∀id∈W,(t.bq r.2).bV id≠aF:=λid dd=>by rw[agv id dd];exact hp id dd
  obtain⟨d1,d2,d3,d4⟩:=T1 (s:=t.bq r.2) (d:=o.dst) hWn aDV hl aCH;refine⟨oI (t.bq r.2) W o.dst G,?_,⟨?_,hlen t,λid=> ?_⟩⟩
  ·rw[aaX t ht];unfold AS.call;rw[aEP];refine ax.2 ⟨r,h1,?_⟩;rw[hlends,hWt];unfold AS.enter;have hA:(t.bq r.2).wS W=(s.bq r.2).wS W:=R6 agv;have hO:W.map ((t.bq r.2).mW W)=W.map ((s.bq r.2).mW W):=hZ λid dd=>agm agv dd
   refine aD.2 ⟨?_,lA.2 ⟨x,?_,ax.2 ⟨x,azR,?_⟩⟩⟩
   ·refine(al _ _).mpr ⟨?_,((al _ _).mp aBu).2⟩;refine cf.2 λid dd=> ?_
    have:=cf.1 sz id dd;simp only[AS.obj,AS.Dj]at this ⊢;rw[agv id dd];exact this
   ·rw[hA,hO,<-hx]
   ·rw[hA,hO,hG];exact aaB.2 ⟨⟨hl,aCH⟩,rfl⟩
  ·rw[hslots t,NH agv]
  ·by_cases at0:IN W o.dst G id
   ·have KB:E.up id=(oI (s.bq r.2) W o.dst G).bV id:=if_pos at0;rw[KB];rcases at0 with dd | ⟨jR,q,j,hq,rfl⟩
    ·obtain⟨k,hk⟩:=kO.1 dd;have jQ:k < G.dg.length:=by rw[hl];exact(dE.1 hk).1
     rw[b2 k id _ hk (cn jQ),d2 k id _ hk (cn jQ),Mg agv,Sy (agv id dd)]
    ·rw[b3 q j jR hq,d3 q j jR hq,Mg agv];cases hn:G.news[j]? with
     |some e=>rfl
     |none=>
      have:=(hfzent t _).2 (d4 q j jR hq);simp[this]
   ·have KB:E.up id=aF:=if_neg at0;rw[KB,d1 id at0,fu]
end
end Go.Ab
namespace Go.Ab
section
variable {P:aR} {Γ:uO} {bD:List Nat} {ops:Array Oper} {o:Oper} {s t:AS}
theorem Out.bind_assoc{α β γ:Type}(o:Out α)(f:α->Out β)(g:β->Out γ):(o.bind f).bind g=o.bind λa=>(f a).bind g:=by
 induction o with
 |ok a=>rfl
 |fail=>rfl
 |sQ c r ih=>simp only[Out.bind,ih]
 |get x h ih=>simp only[Out.bind,ih]
 |br c x y ih1 ih2=>simp only[Out.bind,ih1,ih2]
theorem ahB{parts:Array (Nat×bH)}{x:Nat×bH}(h:x∈parts.toList):x.2∈(parts.toList.map (·.2)).toArray.toList:=fm.2 ⟨x,h,rfl⟩
theorem apD{T:TypeId}{x:bH}(dj:o.op= .box T x){s':AS}(he:(afW P s (isObj bD o.dst) (akW bD o.dst) o.dst T (s.ev x)).eval=aw s'):LR P Γ bD ops o s s':=by
 have aaX:∀t,pL P Γ bD o t=afW P t (isObj bD o.dst) (akW bD o.dst) o.dst T (t.ev x):=λt=>by unfold pL;rw[dj]
 have hm:x∈o.op.operands.toList:=by rw[dj];simp[bW]
 unfold afW at he;split at he
 ·rename_i q hd;split at he
  ·rename_i ho;obtain⟨h1,h2⟩:=aD.1 he;obtain rfl:=ay.1 h2;simp only[al]at h1;refine wH (ids:=[]) hd h1.1 (λ_ h=>by cases h) λt ht hv=> ?_
   rw[aaX,ht.ev hm];unfold afW;simp only[hd]at ho ⊢;simp only[ho];exact aD.2 ⟨by simp[hv,h1.2],ay.2 rfl⟩
  ·rename_i ho;split at he
   ·rename_i ty aFh;obtain⟨h1,h2⟩:=aD.1 he;obtain⟨y,h3,h4⟩:=ax.1 h2;obtain rfl:=ay.1 h4;refine TE (λid dd=>KD (abo dj rfl) hm (vC _ _ dd)) λt ht=> ?_
    rw[aaX,ht.ev hm];unfold afW;simp only[hd]at ho ⊢;simp only[ho,aFh];refine aD.2 ⟨h1,ax.2 ⟨y,?_,ay.2 rfl⟩⟩;rw[pE _ _ λid dd=>ht.afF (abo dj rfl) hm dd];exact h3
   ·simp only[av]at he
 ·simp only[av]at he
theorem ajt{T:TypeId}{x:bH}(dj:o.op= .sliceToArrayPointer T x){s':AS}(he:(Lv P s o.dst T (s.ev x)).eval=aw s'):LR P Γ bD ops o s s':=by
 have aaX:∀t,pL P Γ bD o t=Lv P t o.dst T (t.ev x):=λt=>by unfold pL;rw[dj]
 have hm:x∈o.op.operands.toList:=by rw[dj];simp[bW]
 unfold Lv at he;split at he
 ·rename_i n e hT;split at he
  ·rename_i ty aFh;obtain⟨h1,h2⟩:=aD.1 he;obtain⟨l,h3,h4⟩:=ax.1 h2;obtain⟨h5,h6⟩:=bO.1 h4;obtain rfl:=ay.1 h6;refine TE (λid dd=>KD (abo dj rfl) hm (vC _ _ dd)) λt ht=> ?_
   rw[aaX,ht.ev hm];unfold Lv;simp only[hT,aFh];refine aD.2 ⟨h1,ax.2 ⟨l,?_,bO.2 ⟨h5,ay.2 rfl⟩⟩⟩;rw[pE _ _ λid dd=>ht.afF (abo dj rfl) hm dd];exact h3
  ·simp only[av]at he
 ·simp only[av]at he
theorem af2{T:TypeId}{parts:Array (Nat×bH)}(dj:o.op= .build T parts){s':AS}(he:(FY P s o.dst T parts.toList).eval=aw s'):LR P Γ bD ops o s s':=by
 have aaX:∀t,pL P Γ bD o t=FY P t o.dst T parts.toList:=λt=>by unfold pL;rw[dj]
 have hm:∀x∈parts.toList,x.2∈o.op.operands.toList:=λx hx=>by rw[dj];exact ahB hx
 unfold FY at he;split at he
 ·rename_i fs hT;split at he
  ·rename_i z hz;obtain⟨h1,h2⟩:=aD.1 he;obtain⟨v,h3,h4⟩:=ax.1 h2;obtain rfl:=ay.1 h4;refine kQ λt ht=> ?_
   rw[aaX];unfold FY;simp only[hT,hz];refine aD.2 ⟨h1,ax.2 ⟨v,?_,ay.2 rfl⟩⟩;rw[Fl _ _ λx hx=>ht.ev (hm x hx)];exact h3
  ·simp only[av]at he
 ·rename_i n e hT;split at he
  ·rename_i ty aFh;obtain⟨h1,h2⟩:=aD.1 he;obtain⟨r,h3,h4⟩:=ax.1 h2;obtain rfl:=ay.1 h4;refine TE (λid dd=> ?_) λt ht=> ?_
   ·obtain⟨x,hx,hi⟩:=xq _ _ _ h3 id dd;exact KD (abo dj rfl) (hm x hx) hi
   ·rw[aaX];unfold FY;simp only[hT,aFh];refine aD.2 ⟨h1,ax.2 ⟨r,?_,ay.2 rfl⟩⟩;rw[zD _ _ λx hx=>⟨ht.ev (hm x hx),λid dd=>ht.afF (abo dj rfl) (hm x hx) dd⟩];exact h3
  ·simp only[av]at he
 ·simp only[av]at he
theorem O3{T:TypeId}{n:Nat}{parts:Array (Nat×bH)}(dj:o.op= .buildSlice T n parts){s':AS}(he:(mV P s (aqy bD o.dst) (isObj bD o.dst) o.dst T n parts.toList).eval=aw s'):LR P Γ bD ops o s s':=by
 have aaX:∀t,pL P Γ bD o t=mV P t (aqy bD o.dst) (isObj bD o.dst) o.dst T n parts.toList:=λt=>by unfold pL;rw[dj]
 have hm:∀x∈parts.toList,x.2∈o.op.operands.toList:=λx hx=>by rw[dj];exact ahB hx
 unfold mV at he;split at he
 ·rename_i e ty b q IS hd;obtain⟨h1,h2⟩:=aD.1 he;obtain⟨r,h3,h4⟩:=ax.1 h2;have adk:∀id∈r.2,id∈(gM Γ ops s o).rs:=λid dd=>by obtain⟨x,hx,hi⟩:=xq _ _ _ h3 id dd;exact KD (abo dj rfl) (hm x hx) hi
  have aEP:∀t,mT (gM Γ ops s o) s t->∀l,jD ty t parts.toList l=jD ty s parts.toList l:=λt ht l=>zD _ _ λx hx=>⟨ht.ev (hm x hx),λid dd=>ht.afF (abo dj rfl) (hm x hx) dd⟩
  split at h4
  ·rename_i ho;obtain⟨h5,h6⟩:=aD.1 h4;obtain rfl:=ay.1 h6;refine wH hd h5 adk λt ht hv=> ?_
   rw[aaX];unfold mV;simp only[hd]at ho IS ⊢;simp only[IS,ho];refine aD.2 ⟨h1,ax.2 ⟨r,by rw[aEP t ht];exact h3,aD.2 ⟨hv,ay.2 rfl⟩⟩⟩
  ·rename_i ho;obtain rfl:=ay.1 h4;refine TE adk λt ht=> ?_
   rw[aaX];unfold mV;simp only[hd]at ho IS ⊢;simp only[IS,ho];exact aD.2 ⟨h1,ax.2 ⟨r,by rw[aEP t ht];exact h3,ay.2 rfl⟩⟩
 ·simp only[av]at he
theorem SI{T:TypeId}{x y:bH}(dj:o.op= .makeSlice T x y){len cap:Int}(hx:(asInt (s.ev x)).eval=aw len)(hy:(asInt (s.ev y)).eval=aw cap){s':AS}(he:(sF P s o.dst T len cap).eval=aw s'):LR P Γ bD ops o s s':=by
 have aaX:∀t,pL P Γ bD o t=(asInt (t.ev x)).bind λl=>(asInt (t.ev y)).bind λc=>sF P t o.dst T l c:=λt=>by unfold pL;rw[dj]
 have hm:∀z,z=x\/z=y->z∈o.op.operands.toList:=λz hz=>by rw[dj];simpa[bW]using hz
 unfold sF at he;split at he
 ·rename_i e ty b q IS hd;obtain⟨h1,h2⟩:=aD.1 he;obtain⟨h3,h4⟩:=bO.1 h2;obtain rfl:=ay.1 h4;refine wH (ids:=[]) hd h1 (λ_ h=>by cases h) λt ht hv=> ?_
  rw[aaX,ht.ev (hm x (.inl rfl)),ht.ev (hm y (.inr rfl))];refine ax.2 ⟨len,hx,ax.2 ⟨cap,hy,?_⟩⟩;unfold sF;simp only[IS,hd];exact aD.2 ⟨hv,bO.2 ⟨h3,ay.2 rfl⟩⟩
 ·simp only[av]at he
theorem adG{id:Id}{ver:Nat}{kt vt:Ty}(h:yx (t.bV id) (s.bV id)):t.qH id ver kt vt=s.qH id ver kt vt:=by
 unfold AS.qH;rcases Oc h with⟨h1,h2⟩ | ⟨v,f,f',c,h1,h2⟩
 ·rw[h1,h2]
 ·rw[h1,h2];cases c <;> rfl
theorem Y2{T:TypeId}{m k:aB}{ok:Bool}(h:∀id∈m.ids,yx (t.bV id) (s.bV id)):Dm P t T m k ok=Dm P s T m k ok:=by
 unfold Dm;split
 ·rename_i id ver hm;rw[adG (h id (by simp[aB.ids]))]
 ·rfl
theorem abc{id:Id}{ver:Nat}{kt vt:Ty}{l:List (kt.den×vt.den)}(h:(s.qH id ver kt vt).eval=aw l):∃e,s.bV id=aw e:=by
 unfold AS.qH at h;split at h
 ·rename_i v fr k' v' l' ko;exact⟨_,dA ko⟩
 ·simp only[av]at h
theorem alc{id:Id}{ver:Nat}{kt vt:Ty}{l:List (kt.den×vt.den)}(h:(s.qH id ver kt vt).eval=aw l):∃fr,s.bV id=aw (.obj ver fr (.mp kt vt l)):=by
 unfold AS.qH at h;split at h
 ·rename_i v fr k' v' l' ko;obtain⟨avJ,aG4⟩:=aD.1 h;have avJ:v=ver:=by simpa using avJ
  obtain⟨rfl,rfl,rfl⟩:=QX (gB.1 aG4);subst avJ;exact⟨fr,dA ko⟩
 ·simp only[av]at h
theorem Gm{id:Id}{ver:Nat}{kt vt:Ty}(h:t.bV id=s.bV id):t.qH id ver kt vt=s.qH id ver kt vt:=by unfold AS.qH AS.obj;rw[h]
theorem B6{id:Id}(h:t.bV id=s.bV id):t.uN id=s.uN id:=by unfold AS.uN AS.obj;rw[h]
theorem Y6{T:TypeId}{m k v:aB}{s':AS}(h:(Dr P s T m k v).eval=aw s'):
  ∃id e0 e,m.ids=[id]/\s.bV id=aw e0/\s'=s.aZ id e/\∀t:AS,t.bV id=s.bV id->(Dr P t T m k v).eval=aw (t.aZ id e):=by
 unfold Dr at h;split at h
 ·rename_i K V kt vt id ver hm;obtain⟨l,h1,h⟩:=ax.1 h;obtain⟨kx,h2,h⟩:=ax.1 h;obtain⟨vx,h3,h⟩:=ax.1 h;obtain⟨hu,h⟩:=aD.1 h;obtain rfl:=ay.1 h;obtain⟨e0,adf⟩:=abc h1;refine⟨id,e0,_,rfl,adf,rfl,λt ht=> ?_⟩;unfold Dr;simp only[hm];exact ax.2 ⟨l,by rw[Gm ht];exact h1,ax.2 ⟨kx,h2,ax.2 ⟨vx,h3,aD.2 ⟨by rw[B6 ht];exact hu,ay.2 rfl⟩⟩⟩⟩
 ·simp only[av]at h
theorem Y5{T:TypeId}{m k:aB}{s':AS}(h:(Dq P s T m k).eval=aw s'):
  ∃id e0 e,m.ids=[id]/\s.bV id=aw e0/\s'=s.aZ id e/\∀t:AS,t.bV id=s.bV id->(Dq P t T m k).eval=aw (t.aZ id e):=by
 unfold Dq at h;split at h
 ·rename_i K V kt vt id ver hm;obtain⟨l,h1,h⟩:=ax.1 h;obtain⟨kx,h2,h⟩:=ax.1 h;obtain⟨hu,h⟩:=aD.1 h;obtain rfl:=ay.1 h;obtain⟨e0,adf⟩:=abc h1;refine⟨id,e0,_,rfl,adf,rfl,λt ht=> ?_⟩;unfold Dq;simp only[hm];exact ax.2 ⟨l,by rw[Gm ht];exact h1,ax.2 ⟨kx,h2,aD.2 ⟨by rw[B6 ht];exact hu,ay.2 rfl⟩⟩⟩
 ·simp only[av]at h
theorem aaz{s':AS}(he:(pL P Γ bD o s).eval=aw s'):LR P Γ bD ops o s s':=by
 have adf:=he;have one:∀x,o.op.operands= #[x]->∀t,mT (gM Γ ops s o) s t->t.ev x=s.ev x/\(abe o.op=aQ->∀id∈(s.ev x).ids,yx (t.bV id) (s.bV id)):=λx hx t ht=>
  have hm:x∈o.op.operands.toList:=by rw[hx];simp
  ⟨ht.ev hm,λhn _ dd=>ht.afF hn hm dd⟩
 unfold pL at he;split at he
 ·rename_i x dj;obtain rfl:=ay.1 he;refine kQ λt ht=> ?_
  unfold pL;rw[dj];simp only;rw[(one x (by rw[dj];rfl) t ht).1];rfl
 ·rename_i x dj;obtain rfl:=ay.1 he;refine kQ λt ht=> ?_
  unfold pL;rw[dj];simp only;rw[(one x (by rw[dj];rfl) t ht).1];rfl
 ·rename_i c x y dj;refine oO (F:=λt=>aoT (t.ev c) (t.ev x) (t.ev y)) (λt=>by unfold pL;rw[dj]) (λt ht=> ?_) adf;rw[ht.ev (by rw[dj];simp[bW]),ht.ev (by rw[dj];simp[bW]),ht.ev (by rw[dj];simp[bW])]
 ·rename_i T dj;split at he
  ·rename_i z q hz hq;obtain⟨h1,h2⟩:=aD.1 he;obtain rfl:=ay.1 h2;simp only[al]at h1;refine wH (ids:=[]) hq h1.1 (λ_ h=>by cases h) λt ht hv=> ?_
   unfold pL;rw[dj];simp only[hz,hq];exact aD.2 ⟨by simp[hv,h1.2],ay.2 rfl⟩
  ·exact(av.1 he).elim
 ·rename_i T x dj;exact apD dj he
 ·rename_i T parts dj;exact af2 dj he
 ·rename_i T n parts dj;exact O3 dj he
 ·rename_i T x dj;refine oO (F:=λt=>MM P t T (t.ev x)) (λt=>by unfold pL;rw[dj]) (λt ht=> ?_) adf;obtain⟨h1,h2⟩:=one x (by rw[dj];rfl) t ht;rw[h1,agV (h2 (abo dj rfl))]
 ·rename_i T x v dj;obtain⟨s1,h1,h2⟩:=ax.1 he;obtain rfl:=ay.1 h2;obtain⟨id,e0,e,dd,hs,rfl,hl⟩:=aeZ h1;refine Dl hs ?_ λt ht agG=> ?_
  ·show id∈writes Γ s o;unfold writes;rw[dj];simp only[dd,cX]
  ·unfold pL;rw[dj];simp only;rw[ht.ev (x:=x) (by rw[dj];simp[bW]),ht.ev (x:=v) (by rw[dj];simp[bW])];exact ax.2 ⟨_,hl t agG,ay.2 rfl⟩
 ·rename_i x dj;split at he
  ·rename_i id v p n hx;obtain rfl:=ay.1 he;refine kQ λt ht=> ?_
   unfold pL;rw[dj];simp only[(one x (by rw[dj];rfl) t ht).1,hx];rfl
  ·rename_i ty y hx;obtain rfl:=ay.1 he;refine kQ λt ht=> ?_
   unfold pL;rw[dj];simp only[(one x (by rw[dj];rfl) t ht).1,hx];rfl
  ·rename_i ty y hx;obtain⟨z,e,he⟩:=lA.1 he;obtain rfl:=ay.1 he;refine kQ λt ht=> ?_
   unfold pL;rw[dj];simp only[(one x (by rw[dj];rfl) t ht).1,hx];exact lA.2 ⟨z,e,ay.2 rfl⟩
  ·rename_i ty y hx;obtain⟨z,e,he⟩:=lA.1 he;obtain rfl:=ay.1 he;refine kQ λt ht=> ?_
   unfold pL;rw[dj];simp only[(one x (by rw[dj];rfl) t ht).1,hx];exact lA.2 ⟨z,e,ay.2 rfl⟩
  ·rename_i n u hx;obtain rfl:=ay.1 he;refine kQ λt ht=> ?_
   unfold pL;rw[dj];simp only[(one x (by rw[dj];rfl) t ht).1,hx];rfl
  ·rename_i f c hx;obtain rfl:=ay.1 he;refine kQ λt ht=> ?_
   unfold pL;rw[dj];simp only[(one x (by rw[dj];rfl) t ht).1,hx];rfl
  ·exact(av.1 he).elim
 ·rename_i op T x y U dj;have avy:x∈o.op.operands.toList:=by rw[dj];simp[bW]
  have aDS:y∈o.op.operands.toList:=by rw[dj];simp[bW]
  split at he
  ·rename_i i v1 j v2 hx hy;obtain⟨v,h1,h2⟩:=ax.1 he;obtain rfl:=ay.1 h2;refine kQ λt ht=> ?_
   unfold pL;rw[dj];simp only[ht.ev avy,ht.ev aDS,hx,hy];exact ax.2 ⟨v,by rw[ap7 (ht.afF (abo dj rfl) avy (by rw[hx];simp[aB.ids]))];exact h1,rfl⟩
  ·rename_i jR;obtain⟨v,h1,h2⟩:=ax.1 he;obtain rfl:=ay.1 h2;refine kQ λt ht=> ?_
   unfold pL;rw[dj];simp only[ht.ev avy,ht.ev aDS];exact ax.2 ⟨v,h1,rfl⟩
 ·rename_i op T x dj;refine oO (F:=λt=>aGl op (t.ev x)) (λt=>by unfold pL;rw[dj]) (λt ht=> ?_) adf;rw[(one x (by rw[dj];rfl) t ht).1]
 ·rename_i T U x dj;split at he
  ·rename_i id ver len hTU hx;unfold agc at he;split at he
   ·rename_i v e0 l e ko hD;split at he
    ·rename_i hE;obtain⟨h1,h2⟩:=aD.1 he;obtain⟨h3,h4⟩:=bO.1 h2;obtain rfl:=ay.1 h4;refine Dl (dA ko) ?_ λt ht agG=> ?_
     ·show id∈writes Γ s o;unfold writes;rw[dj];simp only[hTU,hx];simp[aB.ids]
     ·have hob':t.obj id=aw (v,aQ,.vec e0 (.int .u8) l):=by simp only[AS.obj,agG];exact ko
      unfold pL;rw[dj];simp only[hTU,(one x (by rw[dj];rfl) t ht).1,hx];unfold agc;simp only[hob',hD,hE];exact aD.2 ⟨h1,bO.2 ⟨h3,ay.2 rfl⟩⟩
    ·exact(av.1 he).elim
   ·exact(av.1 he).elim
  ·rename_i id ver hx;obtain⟨v,h1,h2⟩:=ax.1 he;obtain rfl:=ay.1 h2;refine kQ λt ht=> ?_
   obtain⟨h3,h4⟩:=one x (by rw[dj];rfl) t ht;unfold pL;rw[dj];simp only[h3,hx];exact ax.2 ⟨v,by rw[agd (h4 (abo dj rfl) _ (by rw[hx];simp[aB.ids]))];exact h1,rfl⟩
  ·rename_i jR;obtain⟨v,h1,h2⟩:=ax.1 he;obtain rfl:=ay.1 h2;refine kQ λt ht=> ?_
   obtain⟨h3,h4⟩:=one x (by rw[dj];rfl) t ht;unfold pL;rw[dj];simp only[h3];exact ax.2 ⟨v,by rw[agb (h4 (abo dj rfl))];exact h1,rfl⟩
 ·rename_i T x dj;exact ajt dj he
 ·rename_i f first caps dj
  obtain⟨h1,h2⟩:=aD.1 he;obtain rfl:=ay.1 h2;refine kQ λt ht=> ?_
  have hc:so t caps.toList=so s caps.toList:=L1 _ λx hx=>ht.ev (by rw[dj];simp only[bW,bZ];exact bJ.2 (.inr hx))
  unfold pL;rw[dj];simp only[hc];exact aD.2 ⟨h1,ay.2 rfl⟩
 ·rename_i T l c dj;obtain⟨n,h1,h2⟩:=ax.1 he;obtain⟨m,h3,h4⟩:=ax.1 h2;exact SI dj h1 h3 h4
 ·rename_i T x lo hi dj;refine oO (F:=λt=>HG P t T (t.ev x) lo hi) (λt=>by unfold pL;rw[dj]) (λt ht=> ?_) adf;have hm:∀z,(z=x\/lo=aw z\/hi=aw z)->z∈o.op.operands.toList:=λz hz=>by
   rw[dj];simp only[bW,bZ,bJ];rcases hz with rfl | rfl | rfl
   ·left;left;left;simp
   ·left;left;right;simp
   ·left;right;simp
  have hx:=hm x (.inl rfl);rw[ht.ev hx];exact Og (λid dd=>ht.afF (abo dj rfl) hx dd) (λy hy=>ht.ev (hm y (.inr (.inl hy)))) (λy hy=>ht.ev (hm y (.inr (.inr hy))))
 ·rename_i T x lo y m dj;refine oO (F:=λt=>Of P t T (t.ev x) lo y m) (λt=>by unfold pL;rw[dj]) (λt ht=> ?_) adf;have hm:∀z,(z=x\/lo=aw z\/y=z\/m=z)->z∈o.op.operands.toList:=λz hz=>by
   rw[dj];simp only[bW,bZ,bJ];rcases hz with rfl | rfl | rfl | rfl
   ·left;left;left;simp
   ·left;left;right;simp
   ·left;right;simp
   ·right;simp
  have hx:=hm x (.inl rfl);rw[ht.ev hx];exact Z6 (λid dd=>ht.afF (abo dj rfl) hx dd) (λz hz=>ht.ev (hm z (.inr (.inl hz)))) (ht.ev (hm y (.inr (.inr (.inl rfl))))) (ht.ev (hm m (.inr (.inr (.inr rfl)))))
 ·rename_i T x f dj;refine oO (F:=λt=>Dh P T (t.ev x) f) (λt=>by unfold pL;rw[dj]) (λt ht=> ?_) adf;rw[(one x (by rw[dj];rfl) t ht).1]
 ·rename_i T x f dj;refine oO (F:=λt=>ac6 P T (t.ev x) f) (λt=>by unfold pL;rw[dj]) (λt ht=> ?_) adf;rw[(one x (by rw[dj];rfl) t ht).1]
 ·rename_i T x i dj;refine oO (F:=λt=>(asInt (t.ev i)).bind λi=>sA P t T (t.ev x) i) (λt=>by unfold pL;rw[dj,Out.bind_assoc]) (λt ht=> ?_) adf;have hx:x∈o.op.operands.toList:=by rw[dj];simp[bW]
  rw[ht.ev (x:=i) (by rw[dj];simp[bW]),ht.ev hx];congr 1;funext i;exact Ps λid dd=>ht.afF (abo dj rfl) hx dd
 ·rename_i T x i dj;refine oO (F:=λt=>(asInt (t.ev i)).bind λi=>ado P T (t.ev x) i) (λt=>by unfold pL;rw[dj,Out.bind_assoc]) (λt ht=> ?_) adf;rw[ht.ev (x:=i) (by rw[dj];simp[bW]),ht.ev (x:=x) (by rw[dj];simp[bW])]
 ·rename_i x i dj;refine oO (F:=λt=>Out.opt ((t.ev x).list[i]?)) (λt=>by unfold pL;rw[dj]) (λt ht=> ?_) adf;rw[(one x (by rw[dj];rfl) t ht).1]
 ·rename_i T dj;have FL:=he;unfold Gl at FL;split at FL
  ·rename_i K V kt vt q hm hd;obtain⟨h1,h2⟩:=aD.1 FL;obtain rfl:=ay.1 h2;refine wH (ids:=[]) hd h1 (λ_ h=>by cases h) λt ht hv=> ?_
   unfold pL;rw[dj];simp only;unfold Gl;simp only[hm,hd];exact aD.2 ⟨hv,ay.2 rfl⟩
  ·exact(av.1 FL).elim
 ·rename_i T x i ok dj;refine oO (F:=λt=>Dm P t T (t.ev x) (t.ev i) ok) (λt=>by unfold pL;rw[dj]) (λt ht=> ?_) adf;have hx:x∈o.op.operands.toList:=by rw[dj];simp[bW]
  rw[ht.ev (x:=i) (by rw[dj];simp[bW]),ht.ev hx];exact Y2 λid dd=>ht.afF (abo dj rfl) hx dd
 ·rename_i T m k x dj;obtain⟨s1,h1,h2⟩:=ax.1 he;obtain rfl:=ay.1 h2;obtain⟨id,e0,e,dd,hs,rfl,hl⟩:=Y6 h1;refine Dl hs ?_ λt ht agG=> ?_
  ·show id∈writes Γ s o;unfold writes;rw[dj];simp only[dd,cX]
  ·unfold pL;rw[dj];simp only;rw[ht.ev (x:=m) (by rw[dj];simp[bW]),ht.ev (x:=k) (by rw[dj];simp[bW]),ht.ev (x:=x) (by rw[dj];simp[bW])];exact ax.2 ⟨_,hl t agG,ay.2 rfl⟩
 ·rename_i T m dj;have FL:=he;unfold P7 at FL;split at FL
  ·rename_i K V kt vt id ver q hm hv hd;obtain⟨l,h1,h2⟩:=ax.1 FL;obtain⟨h3,h4⟩:=aD.1 h2;obtain rfl:=ay.1 h4;simp only[al]at h3;obtain⟨hu,hq⟩:=h3;have cQ:=alc h1;obtain⟨fr,cQ⟩:=cQ;obtain rfl:=zO cQ hu;have hf:∀t:AS,t.bV id=s.bV id->t.bq [id]=t.aZ id (.obj ver aW (.mp kt vt l)):=λt ht=>by show t.freeze id=_;unfold AS.freeze;rw[ht,cQ]
   have aE7:m∈o.op.operands.toList:=by rw[dj];simp[bW]
   have hw:id∈writes Γ s o:=by unfold writes;rw[dj];simp only[hv,aB.ids,cX]
   rw[<-hf s rfl];refine wH (ids:=[id]) hd hq (λi hi=> ?_) λt ht aCH=> ?_
   ·rw[cX.1 hi];exact bJ.2 (.inr hw)
   ·have agG:t.bV id=s.bV id:=ht.ws id hw;unfold pL;rw[dj];simp only;unfold P7;rw[ht.ev aE7];simp only[hm,hv,hd];rw[hf t agG];exact ax.2 ⟨l,by rw[Gm agG];exact h1,aD.2 ⟨by rw[B6 agG,hu,aCH];rfl,ay.2 rfl⟩⟩
  ·simp only[av]at FL
 ·rename_i c dj;obtain⟨cal,args,tys⟩:=c;simp only at he;split at he
  ·split at he
   ·rename_i m k T T2 ha ht';have aE7:m∈o.op.operands.toList:=by rw[dj];simp only[bW,dY,aO,bZ,ha];simp
    have akI:k∈o.op.operands.toList:=by rw[dj];simp only[bW,dY,aO,bZ,ha];simp
    obtain⟨s1,h1,h2⟩:=ax.1 he;obtain rfl:=ay.1 h2;obtain⟨id,e0,e,dd,hs,rfl,hl⟩:=Y5 h1;refine Dl hs ?_ λt ht agG=> ?_
    ·show id∈writes Γ s o;unfold writes;rw[dj];simp only[ha,dd,cX]
    ·unfold pL;rw[dj];simp only[ha,ht'];rw[ht.ev aE7,ht.ev akI];exact ax.2 ⟨_,hl t agG,ay.2 rfl⟩
   ·exact(av.1 he).elim
  ·split at he
   ·rename_i x y T X ha ht';exact akn dj rfl ha ht' he
   ·exact(av.1 he).elim
  ·split at he
   ·rename_i x T ha ht';refine oO (F:=λt=>az5 P T (t.ev x)) (λt=>by unfold pL;rw[dj];simp only[ha,ht']) (λt ht=> ?_) adf;rw[ht.ev (by rw[dj];simp only[bW,dY,aO,bZ,ha];simp)]
   ·exact(av.1 he).elim
  ·split at he
   ·rename_i x y T X ha ht';have avy:x∈o.op.operands.toList:=by rw[dj];simp only[bW,dY,aO,bZ,ha];simp
    have aDS:y∈o.op.operands.toList:=by rw[dj];simp only[bW,dY,aO,bZ,ha];simp
    split at he
    ·rename_i k n hx hy;have FL:=he;unfold agu at FL;split at FL
     ·rename_i e t0 b q kn IS hd hX;obtain⟨h1,h2⟩:=aD.1 FL;obtain⟨h3,h4⟩:=bO.1 h2;obtain rfl:=ay.1 h4;refine wH (ids:=[]) hd h1 (λ_ h=>by cases h) λt ht hv=> ?_
      unfold pL;rw[dj];simp only[ha,ht',ht.ev avy,ht.ev aDS,hx,hy];unfold agu;simp only[IS,hd,hX];exact aD.2 ⟨hv,bO.2 ⟨h3,ay.2 rfl⟩⟩
     ·exact(av.1 FL).elim
    ·rename_i jR;exact acF dj rfl ha ht' jR he
   ·exact(av.1 he).elim
  ·split at he
   ·rename_i x T ha ht';have avy:x∈o.op.operands.toList:=by rw[dj];simp only[bW,dY,aO,bZ,ha];simp
    split at he
    ·rename_i e hx hT;obtain rfl:=ay.1 he;refine kQ λt ht=> ?_
     unfold pL;rw[dj];simp only[ha,ht',ht.ev avy,hx,hT];rfl
    ·exact(av.1 he).elim
   ·exact(av.1 he).elim
  ·refine oO (F:=λt=>aqS aW (args.toList.map t.ev)) (λt=>by unfold pL;rw[dj]) (λt ht=> ?_) adf;congr 1;exact hZ λx hx=>ht.ev (by rw[dj];simp only[bW,dY,aO,bZ];exact hx)
  ·refine oO (F:=λt=>aqS aQ (args.toList.map t.ev)) (λt=>by unfold pL;rw[dj]) (λt ht=> ?_) adf;congr 1;exact hZ λx hx=>ht.ev (by rw[dj];simp only[bW,dY,aO,bZ];exact hx)
  ·split at he
   ·rename_i x ha;have avy:x∈o.op.operands.toList:=by rw[dj];simp only[bW,dY,aO,bZ,ha];simp
    split at he
    ·rename_i id ver len hx;obtain⟨h1,h2⟩:=bO.1 he;obtain rfl:=ay.1 h2;refine kQ λt ht=> ?_
     unfold pL;rw[dj];simp only[ha,ht.ev avy,hx];exact bO.2 ⟨h1,rfl⟩
    ·exact(av.1 he).elim
   ·exact(av.1 he).elim
  ·split at he
   ·rename_i x y T U ha ht';have avy:x∈o.op.operands.toList:=by rw[dj];simp only[bW,dY,aO,bZ,ha];simp
    have aDS:y∈o.op.operands.toList:=by rw[dj];simp only[bW,dY,aO,bZ,ha];simp
    split at he
    ·rename_i id ver n hx hy;have FL:=he;unfold ajp at FL;split at FL
     ·rename_i v e l u ko hT;obtain⟨h1,h2⟩:=aD.1 FL;obtain⟨h3,h4⟩:=bO.1 h2;obtain rfl:=ay.1 h4;refine Dl (dA ko) ?_ λt ht agG=> ?_
      ·show id∈writes Γ s o;unfold writes;rw[dj];simp only[ha,hx];simp[aB.ids]
      ·have hob':t.obj id=aw (v,aQ,.vec e (.int .u8) l):=by simp only[AS.obj,agG];exact ko
       unfold pL;rw[dj];simp only[ha,ht',ht.ev avy,ht.ev aDS,hx,hy];unfold ajp;simp only[hob',hT];exact aD.2 ⟨h1,bO.2 ⟨h3,ay.2 rfl⟩⟩
     ·exact(av.1 FL).elim
    ·exact(av.1 he).elim
   ·exact(av.1 he).elim
  ·rename_i F _;split at he
   ·rename_i f caps hF;split at he
    ·rename_i en Mo;obtain⟨jQ,he⟩:=aD.1 he;exact akg dj rfl hF Mo jQ he
    ·exact(av.1 he).elim
   ·exact(av.1 he).elim
  ·exact(av.1 he).elim
 ·exact(av.1 he).elim
end
end Go.Ab
end
