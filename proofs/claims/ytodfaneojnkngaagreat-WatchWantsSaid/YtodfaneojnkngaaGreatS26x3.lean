/-
  Made short by a program of mine (wip/tools/mini.py).
-/
import Derived.Test.YtodfaneojnkngaaGreatS26x2
import Derived.Scope
import Derived.Laws.Externs
import Derived.KernelRfl
import Derived.ProofKit
import Derived.OpenShut
import Derived.Deep.Slices
import Derived.Carry
set_option linter.unusedVariables false
set_option linter.unusedSimpArgs false
set_option maxRecDepth 100000
set_option synthInstance.maxSize 5000
open Int renaming toNat->ae
open List renaming replicate->ab
open BitVec renaming ofInt->ba
open Nat renaming beq->ix
open UInt8 renaming ofNat->fb
open Sum renaming getLeft?->cR
noncomputable section
namespace Go.Ab
section
variable {P:Program} {Γ:ot} {an:wQ} {C:Ctx}
open Classical in
def aN3(p:Prop):Option Unit:=if p then some () else none
theorem amN{p:Prop}(h:aN3 p=some ()):p:=by
 unfold aN3 at h;split at h
 ·assumption
 ·cases h
theorem aEU{p:Prop}(h:p):aN3 p=some ():=by unfold aN3;rw[if_pos h]
theorem at3{X R:Type}{S:X->Prop}{k:X->Option R}{x:Option R}(hn:∃y,S y)(h:∀y,S y->k y=x):Yo S k=x:=by
 unfold Yo;cases x with
 |none=>exact BK λ⟨r,⟨y,hy⟩,hr⟩=>by have:=h y hy;rw[hr y hy]at this;cases this
 |some r=>
  have hx:∃r,(∃x,S x)/\∀x,S x->k x=some r:=⟨r,hn,h⟩;rw[yF hx];obtain⟨⟨y,hy⟩,h1⟩:=hx.choose_spec;have:=h1 y hy;rw[h y hy]at this;exact this.symm
def atq(P:Program)(Γ:ot)(an:wQ)(N:Nat)(b:Code):Prop:=∀le,an.fw (dL b)=some le->(le.set=none->∀s x,le.run s=some x->∃n,UE (norm P (an.loops (dL b))) (λe=>norm P (an.outs (dL b) (amb e))) (ev P Γ an N b) n s (λe s'=>some (e,s'))=(le.out x).eval)/\∀S,le.set=some S->∀s,(∃x,S s x)->∃n,UE (norm P (an.loops (dL b))) (λe=>norm P (an.outs (dL b) (amb e))) (ev P Γ an N b) n s (λe s'=>aN3 (∃x,S s x/\(le.out x).eval=some (e,s')))=some ()
def jR(P:Program)(Γ:ot)(an:wQ)(N:Nat):List Code->Prop
 |[]=>True
 |b::l=>atq P Γ an N b/\jR P Γ an N l
theorem jR.append{N:Nat}:∀ {l l':List Code},jR P Γ an N (l++l')->jR P Γ an N l/\jR P Γ an N l'
 |[],_,h=>⟨trivial,h⟩
 |_::_,_,⟨h1,h2⟩=>⟨⟨h1,(jR.append h2).1⟩,(jR.append h2).2⟩
theorem s9{c:Code}{b:Frame}{a:Act}{k:List Item}{cs:List Frame}{w:World}:step P (lone (b.atR a (.code (.scope c)::k)) cs w)= .next (lone (b.atR a (.code c:: .inScope c::k)) cs w):=
 step_lone_go (by simp[stepG,stepG.exec,Frame.atR])
theorem adC{c:Code}{b:Frame}{a:Act}{k:List Item}{cs:List Frame}{w:World}:step P (lone (b.atR a (.inScope c::k)) cs w)= .next (lone (b.atR a k) cs w):=
 step_lone_go (by simp[stepG,stepG.exec,Frame.atR])
theorem Kn{F:Fence}{n:Nat}{Q:Exit->Act->World->Prop}{a:Act}{w:World}{c:Code}(h:c.wpIn F n P (Exit.noGoto Q) a w):(Code.scope c).wpIn F n P Q a w:=by
 intro b k cs aVf hb hr;have h0:(lone (b.atR a (.code (.scope c)::k)) cs w).fenced P F:=fenced_calm hb hr rfl;obtain⟨e,a1,w1,hq,hx⟩:=h b (.inScope c::k) cs aVf hb hr;cases e with
 |normal=>exact⟨.normal,a1,w1,hq,.head h0 s9 (StepsIn.trans hx (.one (fenced_calm hb hr rfl) adC))⟩
 |exit i=>
  have e1:exitTo i (.inScope c::k)=exitTo i k:=by simp[exitTo]
  exact⟨.exit i,a1,w1,hq,λk' hk=> .head h0 s9 (hx.1 k' (e1.trans hk)),λh1 hk=>let⟨k2,h2,h3⟩:=hx.2 h1 (e1.trans hk);⟨k2,h2,.head h0 s9 h3⟩⟩
 |goto l=>exact hq.elim
 |ret=>exact⟨_,a1,w1,hq,.of_steps (.one h0 s9) hx⟩
 |panic ch=>exact⟨_,a1,w1,hq,.of_steps (.one h0 s9) hx⟩
 |outgrown=>exact⟨_,a1,w1,hq,.of_steps (.one h0 s9) hx⟩
theorem E3{rd:Option Nat}{m:Nat}{R:Type}{r:R}{b:Code}{nrm:AS->Out AS}{nrmX:Exit->AS->Out AS}{body:AS->(Exit->AS->Option R)->Option R}
  (hn:∀s s1 a w,ik C s a w->(nrm s).eval=some s1->ik C s1 a w) (hx:∀e s s1 a w,ik C s a w->(nrmX e s).eval=some s1->ik C s1 a w)
  (hb:∀(s:AS) (a:Act) (w:World) (k:Exit->AS->Option R) (Q:Exit->Act->World->Prop),ik C s a w->body s k=some r->(∀e s' a' w',ik C s' a' w'->k e s'=some r->Q e a' w')->b.wpIn (Fr rd) m P Q a w)
  {k:Exit->AS->Option R} {Q:Exit->Act->World->Prop} (hk:∀e s' a' w',ik C s' a' w'->k e s'=some r->Q e a' w'):
  ∀(n:Nat) (s:AS) (a:Act) (w:World),ik C s a w->UE nrm nrmX body n s k=some r->Code.roundsIn (Fr rd) m P b Q n a w
 | 0,s,a,w,_,h=>by simp[UE]at h
 |n+1,s,a,w,hs,h=>by
  simp only[UE]at h;rw[roundsIn_succ];refine hb s a w _ _ hs h λe s' a' w' hs' aP5=> ?_
  have exits:∀e,(nrmX e s').run (k e)=some r->Q e a' w':=λe aP5=>by obtain⟨s1,h1,h2⟩:=ij.1 aP5;exact hk e s1 a' w' (hx e s' s1 a' w' hs' h1) h2
  cases e with
  |normal=>
   simp only at aP5;obtain⟨s1,h1,h2⟩:=ij.1 aP5;exact E3 hn hx hb hk n s1 a' w' (hn s' s1 a' w' hs' h1) h2
  |_=>exact exits _ aP5
theorem Pz{rd:Option Nat}{n:Nat}(hC:C.ok){j:Option qL}{run: {R:Type}->(Exit->AS->Option R)->Option R}{c:Code}{a:Act}{w:World}
  (pV:∀ {R:Type} {r:R} (k:Exit->AS->Option R) (Q:Exit->Act->World->Prop),run k=some r->(∀e s' a' w',ik C s' a' w'->k e s'=some r->Q e a' w')->c.wpIn (Fr rd) n P Q a w)
  {R:Type} {r:R} {k:Exit->AS->Option R} {Q:Exit->Act->World->Prop} (h:Sw P j run k=some r) (hk:∀e s' a' w',ik C s' a' w'->k e s'=some r->Q e a' w'):c.wpIn (Fr rd) n P Q a w:=by
 cases j with
 |none=>exact pV k Q h hk
 |some j=>
  simp only[Sw]at h;cases hx:run λe s=>(norm P j.an s).run (j.axr e) with
  |none=>rw[hx]at h;cases h
  |some x=>
   rw[hx]at h;simp only[al]at h;obtain⟨y,hy,h⟩:=ij.1 h;refine pV _ Q hx λe s' a' w' hs' hK=> ?_
   obtain⟨s1,h1,h2⟩:=ij.1 hK;have he:=j.ok _ _ _ h2;rw[hy,az]at he;subst he;exact hk e s1 a' w' (pa hC hs' h1) h
theorem Inv.avq{g:Nat->lU}{β:Id->Option Pl}{s:AS}{a:Act}{w:World}(h:Inv C g β s a w):
  Inv C (nk g w.heap.size (.own .ed 0)) β s {a with defers:=vh w.heap.size::a.defers} (w.alloc (.deferred (some []))):=by
 have ht:=Trans.alloc w g (.deferred (some [])) (.own .ed 0);have he:cM (s.env w g β) (s.env (w.alloc (.deferred (some []))) (nk g w.heap.size (.own .ed 0)) β):=cM.same ht;have h1:=h.step rfl ht he (iI.same h.bJ he λi ver fr c pl hi hp=>by
  have hl:=((h.bJ i ver fr c hi).label (pl:=pl) hp).1;have hl':pl.b < w.heap.size:=hl;exact⟨qO w _ hl',fk _ _ _ ak⟩)
 refine⟨⟨c9.2 ⟨λhm=> ?_,h1.defers.1⟩,λd hd=> ?_⟩,h1.size,h1.cm,h1.bJ,h1.trans,h1.le⟩
 ·obtain⟨D,e,_,hh,_⟩:=h.defers.2 _ hm;have e:Deferred.mk (.collected w.heap.size) #[]=Deferred.mk (.collected D) #[]:=e;injection e with e _
  injection e with e
  have:=(bM.1 hh).1;omega
 ·rcases cn.1 hd with rfl | hd
  ·exact⟨w.heap.size,rfl,h.trans.size,tw w _,fx _ _ _⟩
  ·exact h1.defers.2 d hd
theorem Mr:∀l:List aB,(lZ l).list=l
 |[]=>rfl
 |a::l=>by simp[lZ,aB.list,Mr l]
theorem DG(aV:List Nat):∀(i:Nat) (l:List aB),(eF aV i l).length=l.length
 |_,[]=>rfl
 |i,_::l=>by simp[eF,DG aV (i+1) l]
theorem K5(aV:List Nat):∀(l:List aB) (i j:Nat),(eF aV i l).getD j .undef=l.getD j .undef\/(eF aV i l).getD j .undef= .undef
 |[],_,_=> .inl rfl
 |v::l,i,0=>by
  simp only[eF,jj];split
  ·exact .inl rfl
  ·exact .inr rfl
 |v::l,i,j+1=>by simpa[eF]using K5 aV l (i+1) j
theorem Inv.frame{g:Nat->lU}{β:Id->Option Pl}{s:AS}{a:Act}{w:World}(h:Inv C g β s a w)(aV:List Nat):Eh (s.env w g β) (lZ (eF aV 0 s.cm)) a.tmps:=by
 refine⟨by rw[Mr,DG,h.size],λi=> ?_⟩;rw[Mr];rcases K5 aV s.cm 0 i with e | e
 ·rw[e];exact h.cm i
 ·rw[e];exact VS.undef
theorem aKz(a:Act)(q:Nat)(x:Value):(a.put (some q) x).put (some q) (a.tmps.getD q undef)=a:=by
 obtain⟨t,d⟩:=a;simp only[Act.put];congr 1;apply rO;intro i;simp only[dR,Array.size_setIfInBounds];by_cases h:q=i
 ·subst h;by_cases hl:q < t.size
  ·simp[hl]
  ·simp[hl]
 ·simp[h]
theorem Qf{g:Nat->lU}{β:Id->Option Pl}{s s':AS}{a:Act}{w:World}{q p:Nat}(h:Inv C g β s a w)(he:s.SY q p=some s'):∃pl r,β (.bj 0)=some pl/\(s.env w g β).cur (.bj 0) 0/\w.heap[pl.b]? =some (.loop r)/\anw q r.state r.pending/\
  ∀r':Loop,r'.params=r.params->r'.assign=r.assign->r'.body=r.body->r'.tmps=r.tmps->anw p r'.state r'.pending->Inv C g β s' a (w.putObj pl.b (.loop r')):=by
 unfold AS.SY at he;split at he;rotate_left
 ·cases he
 rename_i c f q' cP;split at he;rotate_left
 ·cases he
 rename_i hq;obtain rfl:q=q':=eQ hq;obtain rfl:=bl he;obtain⟨pl,r,hp,hb,hg,⟨q1,q2,q3⟩,aud,mn⟩:=h.bJ (.bj 0) 0 false _ cP;have hp:β (.bj 0)=some pl:=hp;have hb:w.heap[pl.b]? =some (.loop r):=hb
 have hg:g pl.b= .own (.id (.bj 0)) 0:=hg;refine⟨pl,r,hp,⟨false,_,cP⟩,hb,mn,λr' e1 e2 e3 e4 hs'=> ?_⟩;have gB:pl.b < w.heap.size:=(bM.1 hb).1;have hother:∀b',b'≠pl.b->(w.putObj pl.b (.loop r')).heap[b']? =w.heap[b']? :=λb' gj=>World.putObj_heap_other gj
 have ht:Trans w (w.putObj pl.b (.loop r')) g g:=by
  refine⟨rfl,rfl,⟨rfl,ax _⟩,by simp,λb' _=> ?_⟩;by_cases he:b'=pl.b
  ·subst he;rw[hg];exact⟨.inr ⟨_,0,rfl,ax _⟩,λ_ _ hh=>ak⟩
  ·rw[hother b' he];cases VW:g b' with
   |free=>exact⟨rfl,rfl⟩
   |own o' k=>cases o' with
    |ed=>exact⟨rfl,rfl⟩
    |id i'=>exact⟨.inr ⟨i',k,rfl,ax _⟩,λoff v _ hv=>by simpa only[World.cell?,hother b' he]using hv⟩
 have hle:cM (s.env w g β) ((s.bh (.bj 0) (.obj 0 false (.qZ c f p))).env (w.putObj pl.b (.loop r')) g β):=cM.bh cP (ax _) ht (λ_ _=>rfl) (λ_=>rfl);refine h.step (dd _ _ _) ht hle (iI.bh h.bJ (by rw[cP];simp) hle (λ_ _=>rfl) (λi ver fr c pl2 hi YK ae1=>⟨hother _ (h.apart hg hi YK ae1),rfl⟩) ?_ (PI cP));exact⟨pl,r',hp,World.putObj_heap_same gB,hg,⟨e1.trans q1,e2.trans q2,e3.trans q3⟩,by rw[e4];exact aud.mono hle,hs'⟩
theorem Wo{n:Nat}(hΓ:Sound P Γ){f:Operand}{ps:Array Tmp}{as b:Code}{R:Type}{r:R}{k:Exit->AS->Option R}{Q:Exit->Act->World->Prop}{s:AS}{a:Act}{w:World}(h:ik C s a w)
  (he:Fm P Γ an s f ps as b k=some r) (hk:∀e s' a' w',ik C s' a' w'->k e s'=some r->Q e a' w'):(Code.rangeFunc f ps as b).wpIn (Fr none) n P Q a w:=by
 obtain⟨g,β,h⟩:=h;unfold Fm at he;split at he;rotate_left
 ·cases he
 rename_i y aV h0 caps aVe aVU hF;split at he;rotate_left
 ·cases he
 rename_i en aPR aqv;simp only[au]at aPR;obtain⟨⟨⟨axb,aDL⟩,hq⟩,gB⟩:=aPR;have hd:=(hΓ _ _ _ aqv).1 gB;have hdR:=(hΓ _ _ _ aqv).2.2 gB;generalize aSy:ps.getD 0 0=q at aDL hq he aqv;have hq:q < s.cm.length:=dJ hq;obtain⟨vs,hy,aO5⟩:=Yw (hF▸h.ev f);refine wpIn_rangeFunc λfn _=> ?_
 have cP:=run_enterLoop_outer (P:=P) (w:=w) fn a.tmps ps as b;have i1:=h.avq;generalize aVm:w.alloc (.deferred (some []))=w1 at i1 cP;have te:w1.heap.size=w.heap.size+1:=by rw[<-aVm];exact World.size_alloc ..
 generalize aSz:({state:= .ready,pending:=none,fn,tmps:=a.tmps,params:=ps,assign:=as,body:=b,defers:=w.heap.size}:Loop)=r0 at cP;have ht:=Trans.alloc w1 (nk g w.heap.size (.own .ed 0)) (.loop r0) (.own (.id (.new q 0)) 0);obtain⟨i2,e2⟩:=i1.RP aDL (c:= .qZ ⟨y,ps,as,b⟩ (lZ (eF aV 0 s.cm)) 0) (p:=some ⟨w1.heap.size,0⟩) ht (λb hb=>⟨qO w1 _ hb,fk _ _ _ ak⟩) (λhe=>
  ⟨⟨w1.heap.size,0⟩,r0,jQ _ _ _,tw w1 _,fx _ _ _,by subst aSz;exact⟨rfl,rfl,rfl⟩,by subst aSz;exact(i1.frame aV).mono he,by subst aSz;exact⟨rfl,rfl⟩⟩)
 generalize nk (nk g w.heap.size (.own .ed 0)) w1.heap.size (.own (.id (.new q 0)) 0)=g2 at i2 e2;generalize hβ2:Jn β (.new q 0) (some ⟨w1.heap.size,0⟩)=β2 at i2 e2;generalize aAE:w1.alloc (.loop r0)=w2 at i2 e2 cP;have aUb:VS ((s.born q [.obj 0 false (.qZ ⟨y,ps,as,b⟩ (lZ (eF aV 0 s.cm)) 0)]).env w2 g2 β2) (.yl (.new q 0) 0) (.func (.yield w1.heap.size) #[] #[]):=by refine⟨[.func (.yield w1.heap.size) #[] #[]],?_,rfl⟩;simp only[V];exact⟨_,rfl,pU aDL _ _ _ _,λ_=>⟨⟨w1.heap.size,0⟩,by rw[<-hβ2];exact jQ _ _ _,rfl⟩⟩
 have i3:=i2.put (some q) aUb;have hF2:(s.born q [.obj 0 false (.qZ ⟨y,ps,as,b⟩ (lZ (eF aV 0 s.cm)) 0)]).ev f= .fn h0 caps:=by rw[<-hF];cases f <;> rfl
 obtain⟨vs2,aO7,aSM⟩:=Yw (hF2▸i2.ev f);have Uu:vs2=vs:=by
  have e:Value.func (.func h0) #[] vs2.toArray= .func (.func h0) #[] vs.toArray:=by rw[<-aO7,<-hy];cases f <;> rfl
  injection e with _ _ e
  simpa using bm Array.toList e
 subst Uu;have KV:xS (((s.born q [.obj 0 false (.qZ ⟨y,ps,as,b⟩ (lZ (eF aV 0 s.cm)) 0)]).put (some q) (.yl (.new q 0) 0)).env w2 g2 β2) (.yl (.new q 0) 0::caps.list) (.func (.yield w1.heap.size) #[] #[]::vs2):=by rw[ahv];exact⟨aUb,ags aSM⟩
 have aTP:∀args:Array Value,(callFunc h0 args).run P w2= .ok (.enter h0 args) w2:=λargs=>by
  unfold anA at axb;split at axb
  ·rename_i fn' aNi;simp only[au,cv,gh]at axb;obtain⟨c,hc⟩:=bQ.1 axb.2;unfold callFunc;simp[aNi,axb.1,hc]
  ·cases axb
 have post:∀ {s3:AS} {w3:World} {v:Value},ik C s3 ((({a with defers:=vh w.heap.size::a.defers}:Act).put (some q) (.func (.yield w1.heap.size) #[] #[])).put none v) w3->∀ {c:u6} {fr:aB} {p:Nat},s3.bR (.new q 0)=some (.obj 0 false (.qZ c fr p))->s3.slot q= .yl (.new q 0) 0->p≠1->
   ∃jump w4,(Instr.endLoop w1.heap.size).run P w3= .ok jump w4/\anw p (if p=0 then .ready else .done) jump/\ik C ((s3.bh (.new q 0) .dead).put (some q) .undef) {a with defers:=vh w.heap.size::a.defers} w4:=by
  intro s3 w3 v aNx c fr p YI aDG aO1;obtain⟨g3,β3,i5⟩:=aNx;obtain⟨pl,r3,hp,hb,hg,_,_,mn⟩:=i5.bJ (.new q 0) 0 false _ YI;have hp:β3 (.new q 0)=some pl:=hp;have hb:w3.heap[pl.b]? =some (.loop r3):=hb
  have hg:g3 pl.b= .own (.id (.new q 0)) 0:=hg;have aLW:=i5.cm q;rw[aDG]at aLW;obtain⟨cs,hV,hO⟩:=aLW;simp only[V]at hV;obtain⟨l,rfl,_,fo⟩:=hV;obtain⟨pl',hp',rfl⟩:=fo ⟨false,_,YI⟩;have hp':β3 (.new q 0)=some pl':=hp';rw[hp]at hp';obtain rfl:pl=pl':=by simpa using hp'
  have hO: [Value.func (.yield pl.b) #[] #[]]=[((({a with defers:=vh w.heap.size::a.defers}:Act).put (some q) (.func (.yield w1.heap.size) #[] #[])).put none v).tmps.getD q undef]:=hO;have Sf:q < ({a with defers:=vh w.heap.size::a.defers}:Act).tmps.size:=by show q < a.tmps.size;rw[h.size];exact hq
  have hO2:((({a with defers:=vh w.heap.size::a.defers}:Act).put (some q) (.func (.yield w1.heap.size) #[] #[])).put none v).tmps.getD q undef= .func (.yield w1.heap.size) #[] #[]:=by show((({a with defers:=vh w.heap.size::a.defers}:Act).put (some q) (.func (.yield w1.heap.size) #[] #[]))).tmps.getD q undef=_;rw[aos,if_pos ⟨rfl,Sf⟩]
  rw[hO2]at hO;have hl:pl.b=w1.heap.size:=by simpa using hO
  have aPQ:r3.state≠ .busy:=by
   match p,mn,aO1 with
   | 0,mn,_=>rw[mn.1];simp
   | 1,_,h=>exact absurd rfl h
   | 2,mn,_=>rw[mn.1];simp
   |_+3,mn,_=>rw[mn.1];simp
  have gB:pl.b < w3.heap.size:=(bM.1 hb).1;refine⟨r3.pending,_,by rw[<-hl];exact run_endLoop hb aPQ,?_,?_⟩
  ·match p,mn,aO1 with
   | 0,mn,_=>exact⟨rfl,mn.2⟩
   | 1,_,h=>exact absurd rfl h
   | 2,mn,_=>exact⟨rfl,mn.2⟩
   |_+3,mn,_=>exact⟨rfl,mn.2⟩
  ·have i6:=i5.kill YI hg (w':=w3.putObj pl.b (.loop {r3 with state:= .exhausted})) rfl rfl ⟨rfl,ax _⟩ (by simp) (λb' hb'=>World.putObj_heap_other hb');have i7:=i6.put (some q) (v:= .undef) (x:=({a with defers:=vh w.heap.size::a.defers}:Act).tmps.getD q undef) VS.undef;have e:=aKz {a with defers:=vh w.heap.size::a.defers} q (.func (.yield w1.heap.size) #[] #[]);refine⟨nk g3 pl.b .free,β3,?_⟩;simp only[Act.put]at e i7;rw[e]at i7;exact i7
 generalize hK:(λs3:AS=>(match s3.bR (.new q 0),s3.slot q with
   |some (.obj 0 false (.qZ _ _ p)),.yl (.new q' 0) 0=>match ix q' q,p with
    |true,0=>k .normal ((s3.bh (.new q 0) .dead).put (some q) .undef)
    |true,2=>k .ret ((s3.bh (.new q 0) .dead).put (some q) .undef)
    |true,i+3=>k (.exit i) ((s3.bh (.new q 0) .dead).put (some q) .undef)
    |_,_=>none
   |_,_=>none))=K at he
 have hc:Calls P h0 (.func (.yield w1.heap.size) #[] #[]::vs2).toArray w2 λe w'=>∃v,e= .returned v/\∃s3,ik C s3 ((({a with defers:=vh w.heap.size::a.defers}:Act).put (some q) (.func (.yield w1.heap.size) #[] #[])).put none v) w'/\K s3=some r:=by
  unfold AS.aLB at he;split at he
  ·exact(T4 (o:= {(default:Oper) with dst:=none}) i3 hdR KV he).2
  ·obtain⟨s3,aLJ,he⟩:=ij.1 he;unfold AS.call at aLJ;obtain⟨r2,h1,h2⟩:=aw.1 aLJ;obtain⟨g',i4,e4,_,f1⟩:=fq r2.2 i3;obtain⟨x,hx,k1,k2,key⟩:=R9 (o:= {(default:Oper) with dst:=none}) i4 (B0 _ _) (Dv rfl i3.bJ e4 _ _ _ r2 KV h1 f1) h2;rcases hd _ _ _ _ _ _ _ k1 k2 hx with⟨_,hc⟩ | ⟨v,w',aRm,_⟩
   ·exact hc.mono λe w' ⟨v,alS,ha⟩=>⟨v,alS,s3,key v w' ha,he⟩
   ·rw[aTP]at aRm;cases aRm
 refine⟨w1.heap.size,[vh w.heap.size],w2,⟨.fn (.func h0) vs2.toArray,#[.func (.yield w1.heap.size) #[] #[]]⟩,w2,h0,(.func (.yield w1.heap.size) #[] #[]::vs2).toArray,w2,?_,?_,λ_ _=>trivial,?_,λh=>(by cases h),?_⟩
 ·rw[te];exact cP
 ·have e:resolve a.eval (rangeCall f w1.heap.size) 0=Deferred.ofValue (a.eval f) #[.func (.yield w1.heap.size) #[] #[]]:=by simp[resolve,rangeCall,Act.eval]
  rw[e,hy];simp[Deferred.ofValue]
 ·have e:(#[.func (.yield w1.heap.size) #[] #[]]++vs2.toArray:Array Value)=(.func (.yield w1.heap.size) #[] #[]::vs2).toArray:=by simp
  rw[<-aTP,<-e];rfl
 ·have h1:CallsIn (Fr none) (n - 1) P h0 (.func (.yield w1.heap.size) #[] #[]::vs2).toArray w2 _:=callsIn_wide.2 hc;refine h1.mono λe w3 ⟨v,alS,s3,aNx,he⟩=> ?_
  subst alS;subst hK;show ∃jump w4,_/\_;simp only at he;split at he;rotate_left
  ·cases he
  rename_i c3 fr3 p3 q' YI aDG;split at he
  ·rename_i hq';obtain rfl:q'=q:=eQ hq';obtain⟨jump,w4,aDw,mn,aQj⟩:=post aNx YI aDG (by decide);obtain⟨_,rfl⟩:=mn;exact⟨none,w4,aDw,hk _ _ _ _ aQj he⟩
  ·rename_i hq';obtain rfl:q'=q:=eQ hq';obtain⟨jump,w4,aDw,mn,aQj⟩:=post aNx YI aDG (by decide);obtain⟨_,rfl⟩:=mn;exact⟨_,w4,aDw,wpIn_ret (hk _ _ _ _ aQj he)⟩
  ·rename_i i hq';obtain rfl:q'=q:=eQ hq';obtain⟨jump,w4,aDw,mn,aQj⟩:=post aNx YI aDG (by simp);obtain⟨_,rfl⟩:=mn;exact⟨_,w4,aDw,wpIn_exit (hk _ _ _ _ aQj he)⟩
  ·cases he
theorem nB{rd:Option Nat}{n:Nat}(hm:P.follows .mixedOrders=true)(hΓ:Sound P Γ)(hC:C.ok){N:Nat}(axi:rd=none\/an.lp.isSome=true):∀(c:Code),jR P Γ an N (js c)->∀ {R:Type} {r:R} (s:AS) (a:Act) (w:World) (k:Exit->AS->Option R) (Q:Exit->Act->World->Prop),
  ik C s a w->ev P Γ an N c s k=some r->(∀e s' a' w',ik C s' a' w'->k e s'=some r->Q e a' w')->c.wpIn (Fr rd) n P Q a w
 | .skip,hL,_,_,s,a,w,k,Q,hs,h,hk=>wpIn_skip (hk _ _ _ _ hs h)
 | .region id ops draw,hL,_,_,s,a,w,k,Q,hs,h,hk=>by
  simp only[ev]at h;refine Pz hC (λk Q h hk=> ?_) h hk;cases draw with
  |true=>
   simp only at h;split at h
   ·rename_i hE;exact anx hm hΓ hs hE h λs' a' w' hs' hk'=>hk _ _ _ _ hs' hk'
   ·cases h
  |false=>exact wpIn_region_list (Un hΓ ops.toList hs h λs' a' w' hs' hk'=>hk _ _ _ _ hs' hk')
 | .seq x y,hL,_,_,s,a,w,k,Q,hs,h,hk=>by
  simp only[ev]at h;refine wpIn_seq (Pz hC (λk Q h hk=>nB hm hΓ hC axi x hL.append.1 s a w k Q hs h hk) h λe s' a' w' hs' hk'=> ?_);cases e with
  |normal=>exact nB hm hΓ hC axi y hL.append.2 s' a' w' k Q hs' hk' hk
  |_=>exact hk _ s' a' w' hs' hk'
 | .cond c x y,hL,_,_,s,a,w,k,Q,hs,h,hk=>by
  simp only[ev]at h;split at h
  ·rename_i b hb;have hc:a.eval c= .bool b:=by obtain⟨g,β,hi⟩:=hs;have:=hi.ev c;rw[hb]at this;exact Wy this
   refine wpIn_cond hc ?_
   cases b with
   |true=>exact nB hm hΓ hC axi x hL.append.1 s a w k Q hs h hk
   |false=>exact nB hm hΓ hC axi y hL.append.2 s a w k Q hs h hk
  ·cases h
 | .block id b,hL,_,_,s,a,w,k,Q,hs,h,hk=>by
  simp only[ev]at h;refine wpIn_block (nB hm hΓ hC axi b hL s a w _ _ hs h λe s' a' w' hs' hk'=> ?_);cases e with
  |exit i=>
   simp only at hk';simp only[Exit.inBlock];by_cases hi:i=id
   ·rw[if_pos hi];simp only[hi,cr]at hk';exact hk _ s' a' w' hs' hk'
   ·rw[if_neg hi];simp only[hi,decide_false]at hk';exact hk _ s' a' w' hs' hk'
  |_=>exact hk _ s' a' w' hs' hk'
 | .loop b,hL,R,r,s,a,w,k,Q,hs,h,hk=>by
  simp only[ev]at h;obtain⟨s1,h1,h⟩:=ij.1 h;have Rx:=pa hC hs h1;obtain⟨hL1,hL2⟩:=(hL:atq P Γ an N b/\jR P Γ an N (js b));split at h
  ·rename_i le hle;unfold aHd at h;cases ahS:le.set with
   |some S=>
    rw[ahS]at h;simp only at h;obtain⟨h2,h3⟩:=aeI h;obtain⟨n,hn⟩:=(hL1 le hle).2 S ahS s1 h2;refine wpIn_loop_rounds n (E3 (λs s1 a w hs hn=>pa hC hs hn) (λe s s1 a w hs hn=>pa hC hs hn) (λs a w k Q hs hb hk=>nB hm hΓ hC axi b hL2 s a w k Q hs hb hk) (λe s' a' w' hs' he=> ?_) n s1 a w Rx hn);obtain⟨x,aND,aRn⟩:=amN he;obtain⟨y,hy,h4⟩:=ij.1 (h3 x aND);rw[aRn,az]at hy;subst hy;exact hk _ _ _ _ hs' h4
   |none=>
   rw[ahS]at h;simp only at h;cases hr:le.run s1 with
   |none=>rw[hr]at h;cases h
   |some x=>
    rw[hr]at h;simp only[al]at h;obtain⟨y,hy,h⟩:=ij.1 h;obtain⟨n,hn⟩:=(hL1 le hle).1 ahS s1 x hr;rw[hy]at hn;refine wpIn_loop_rounds n (E3 (λs s1 a w hs hn=>pa hC hs hn) (λe s s1 a w hs hn=>pa hC hs hn) (λs a w k Q hs hb hk=>nB hm hΓ hC axi b hL2 s a w k Q hs hb hk) (λe s' a' w' hs' he=> ?_) n s1 a w Rx hn);simp only[az]at he;subst he;exact hk e s' a' w' hs' h
  ·exact wpIn_loop_rounds N (E3 (λs s1 a w hs hn=>pa hC hs hn) (λe s s1 a w hs hn=>pa hC hs hn) (λs a w k Q hs hb hk=>nB hm hΓ hC axi b hL2 s a w k Q hs hb hk) hk N s1 a w Rx h)
 | .exit id,hL,_,_,s,a,w,k,Q,hs,h,hk=>wpIn_exit (hk _ _ _ _ hs h)
 | .ret,hL,_,_,s,a,w,k,Q,hs,h,hk=>wpIn_ret (hk _ _ _ _ hs h)
 | .rangeFunc f ps as b,_,_,_,s,a,w,k,Q,hs,h,hk=>by
  simp only[ev]at h;obtain⟨s1,h1,h⟩:=ij.1 h;have hs:=lD hC _ hs h1;rcases axi with rfl | axi
  ·exact Wo hΓ hs h hk
  ·unfold Fm at h;split at h
   ·rename_i h0 _ _;rw[h0]at axi;cases axi
   ·cases h
 | .scope b,hL,_,_,s,a,w,k,Q,hs,h,hk=>by
  simp only[ev]at h;refine Kn (nB hm hΓ hC axi b hL s a w _ _ hs h λe s' a' w' hs' hk'=> ?_);cases e with
  |goto l=>cases hk'
  |_=>exact hk _ s' a' w' hs' hk'
 | .label _,hL,_,_,s,a,w,k,Q,hs,h,hk=>wpIn_label (hk _ _ _ _ hs h)
 | .goto _,_,_,_,_,_,_,_,_,_,h,_=>by simp[ev]at h
 | .refuse _,_,_,_,_,_,_,_,_,_,h,_=>by simp[ev]at h
variable {g:Nat->lU} {β:Id->Option Pl} {s:AS} {a:Act} {w:World}
def aaI(tmps:Array Value)(r:ResultVar):Sem Value:=
 match r with
 | .tmp t=>pure (tmps.getD t undef)
 | .cell a t=>do loadVar t (<-asAddr (tmps.getD a undef))
theorem Ql(h:Inv C g β s a w){r:ResultVar}{v:aB}(he:(aaK P s r).eval=some v):∃x,(aaI a.tmps r).run P w= .ok x w/\VS (s.env w g β) v x:=by
 cases r with
 |tmp t=>
  simp only[aaK]at he;obtain rfl:=ay.1 he;exact⟨_,by simp[aaI],h.cm t⟩
 |cell t T=>
  simp only[aaK]at he;obtain⟨ad,z,hy,hr,hv⟩:=Y8 h (h.cm t) he;exact⟨z,by simp[aaI,hy,asAddr,hr],hv⟩
theorem Qk(h:Inv C g β s a w){r:ResultVar}{o:Option Ty}{y:AS×aB}(he:(aaJ P s r o).eval=some y):
  ∃x g',(aaI a.tmps r).run P w= .ok x w/\Inv C g' β y.1 a w/\cM (s.env w g β) (y.1.env w g' β)/\VS (y.1.env w g' β) y.2 x:=by
 cases o with
 |none=>
  simp only[aaJ]at he;obtain⟨v,h1,h2⟩:=aw.1 he;obtain rfl:=ay.1 h2;obtain⟨x,hx,hv⟩:=Ql h h1;exact⟨x,g,hx,h,cM.refl _,hv⟩
 |some t=>
  simp only[aaJ]at he;obtain⟨v,h1,h2⟩:=aw.1 he;obtain⟨d,h3,h4⟩:=aw.1 h2;obtain rfl:=ay.1 h4;obtain⟨x,hx,hv⟩:=Ql h h1;obtain⟨g',i1,e1,_,cs,hR,hO⟩:=A8 h hv h3;exact⟨x,g',hx,i1,e1,VS.of (a:= .d t d) (cs:=cs) (by simpa only[V]using hR) hO⟩
theorem Lv:∀(l:List ResultVar) (ts:List (Option Ty)) {s:AS} {g:Nat->lU} (_:Inv C g β s a w) {y:AS×aB},(Qm P s l ts).eval=some y->
  ∃(xs:List Value) (g':Nat->lU),(l.mapM (aaI a.tmps)).run P w= .ok xs w/\Inv C g' β y.1 a w/\cM (s.env w g β) (y.1.env w g' β)/\VC (y.1.env w g' β) y.2 xs/\xs.length=l.length
 |[],ts,s,g,h,y,he=>by simp only[Qm]at he;obtain rfl:=ay.1 he;exact⟨[],g,by simp,h,cM.refl _,by simp[VC],rfl⟩
 |r::l,ts,s,g,h,y,he=>by simp only[Qm]at he;obtain⟨u,h1,h2⟩:=aw.1 he;obtain⟨hc,h2⟩:=aC.1 h2;obtain⟨us,h3,h4⟩:=aw.1 h2;obtain rfl:=ay.1 h4;obtain⟨x,g1,hx,i1,e1,hv⟩:=Qk h h1;obtain⟨xs,g2,aoX,i2,e2,Uu,hl⟩:=Lv l ts.tail i1 h3;obtain⟨cs,hV,hO⟩:=(hv.mono e2).eN hc;refine⟨x::xs,g2,?_,i2,e1.trans e2,by simp only[VC];exact⟨x,xs,cs,rfl,hV,hO,Uu⟩,by simp[hl]⟩;simp only[List.mapM_cons,Sem.run_bind,hx,Result.andThen_ok,aoX,Sem.run_pure]
theorem aAT{E:Env}{v:aB}{xs:List Value}(h:VC E v xs):VS E v (.tuple xs.toArray):=by
 cases v <;> first
  | (simp only[VC]at h;done)
  |exact⟨xs,rfl,h⟩
  | (simp only[VC]at h;subst h;rfl)
theorem ads(h:Inv C g β s a w){fn:Func}{ts:List (Option Ty)}{y:AS×aB}(he:(aiX P fn ts s).eval=some y):
  ∃x g',(results fn a.tmps).run P w= .ok x w/\Inv C g' β y.1 a w/\VS (y.1.env w g' β) y.2 x:=by
 have key:∀xs:List Value,(fn.results.toList.mapM (aaI a.tmps)).run P w= .ok xs w->(results fn a.tmps).run P w= .ok (if h:xs.length=1 then xs[0] else .tuple xs.toArray) w:=λxs aoX=>by
  have e:results fn a.tmps=(do
   let vs <-fn.results.mapM (aaI a.tmps)
   pure (if h:vs.size=1 then vs[0] else .tuple vs)):=rfl
  rw[e,Array.mapM_eq_mapM_toList];simp only[map_eq_pure_bind,Sem.run_bind,aoX,Result.andThen_ok,Sem.run_pure];congr 1
 unfold aiX at he;split at he
 ·rename_i r hr;obtain⟨x,g',hx,hi,_,hv⟩:=Qk h he;refine⟨x,g',?_,hi,hv⟩;rw[key [x] (by simp[hr,hx])];simp
 ·rename_i rs gj;obtain⟨xs,g',hx,hi,_,hv,hl⟩:=Lv _ _ h he;refine⟨.tuple xs.toArray,g',?_,hi,aAT hv⟩;rw[key xs hx,BK];rw[hl];intro h1;obtain⟨r,hr⟩:=List.length_eq_one_iff.1 h1;exact gj r hr
end
end Go.Ab
namespace Go.Ab
def vf(ids:List Id):lU->lU
 | .own (.id (.new i j)) k=> .own (.id (match idxOf (.new i j) ids with | some m=> .new 0 m | none=> .new 1 0)) k
 |l=>l
def aFe(β:Id->Option Pl)(ids:List Id):Id->Option Pl
 | .bj k=>β (.bj k)
 | .new 0 m=>(ids[m]?).bind β
 | .new (_+1) _=>none
theorem axx{ids:List Id}{g:Nat->lU}{b off:Nat}(h:uT g b off):uT (λb=>vf ids (g b)) b off:=by
 unfold uT at*;simp only;cases hg:g b with
 |free=>simp[vf]
 |own o k=>
  rw[hg]at h;cases o with
  |ed=>exact h
  |id i=>cases i <;> exact h
theorem ahD(s:AS)(v:aB):(s.Sa v).Nodup:=(sU s _ _ _ (by simp)).filter _
theorem aqm{s:AS}{v:aB}{id:Id}(h:id∈s.Sa v):∃i j,id= .new i j:=by
 unfold AS.Sa at h;have:=(nu.1 h).2;cases id with
 |bj k=>simp[Id.aL1]at this
 |new i j=>exact⟨i,j,rfl⟩
section
variable {P:Program} {Γ:ot} {C:Ctx} {g:Nat->lU} {β:Id->Option Pl} {s:AS} {a:Act} {w:World}
theorem aeQ(h:Inv C g β s a w)(hC:C.ok){v:aB}{x:Value}(hv:VS (s.env w g β) v x):tj C.E (s.fin v) x w:=by
 unfold AS.fin;have hn:=ahD s v;have GU:∀id∈s.Sa v,∃i j,id= .new i j:=λid cT=>aqm cT
 generalize s.Sa v=ids at hn GU;generalize hG:s.aLE ids v=G;have Aw:G.val=v.iE (MN ids):=by rw[<-hG];rfl
 have hold:∀k,G.st.bR (.bj k)=(s.bR (.bj k)).map (dE.fin ids):=λk=>by
  rw[<-hG];show(s.bV.map (dE.fin ids))[k]? =_
  rw[ea];rfl
 have aT3:∀m,G.st.bR (.new 0 m)=(ids[m]?).map λid=>((s.bR id).getD .dead).fin ids:=λm=>by
  rw[<-hG];show(ids.map λid=>((s.bR id).getD .dead).fin ids)[m]? =_
  rw[ea]
 have aU8:∀i m,G.st.bR (.new (i+1) m)=none:=λi m=>by simp[fA.st,AS.bR]
 let g':Nat->lU:=λb=>vf ids (g b)
 let β':=aFe β ids
 have axg:∀e ver fr c,dE.fin ids e= .obj ver fr c->∃c0,e= .obj ver fr c0/\c=c0.iE (MN ids):=λe ver fr c he=>by
  cases e with
  |dead=>cases he
  |obj v0 fr0 c0=>
   simp only[dE.fin,dE.obj.injEq]at he;obtain⟨rfl,rfl,rfl⟩:=he;exact⟨c0,rfl,rfl⟩
 have hle:zV (MN ids) (s.env w g β) (G.st.env w g' β'):=by
  refine⟨⟨λb off v ⟨h1,h2⟩=>⟨h1,axx h2⟩,λb ob h1 h2=>⟨by show vf ids (g b)= .free;have h1:g b= .free:=h1;rw[h1];rfl,h2⟩⟩,λid ver r hr hb=> ?_⟩;obtain⟨Rw,WI⟩:=hb;have Rw:s.bR id≠none:=Rw;have WI:∀v fr c,s.bR id=some (.obj v fr c)->ver<=v:=WI;cases id with
  |bj k=>
   simp only[MN,az]at hr;subst hr;refine⟨⟨?_,λv fr c hh=> ?_⟩,λ⟨fr,c,hh⟩=>⟨?_,rfl⟩⟩
   ·show G.st.bR (.bj k)≠none;rw[hold];simpa using Rw
   ·have hh:G.st.bR (.bj k)=some (.obj v fr c):=hh;rw[hold,cW]at hh;obtain⟨e,he,hh⟩:=hh;obtain⟨c0,rfl,_⟩:=axg _ _ _ _ hh;exact WI v fr c0 he
   ·have hh:G.st.bR (.bj k)=some (.obj ver fr c):=hh;rw[hold,cW]at hh;obtain⟨e,he,hh⟩:=hh;obtain⟨c0,rfl,_⟩:=axg _ _ _ _ hh;exact⟨fr,c0,he⟩
  |new i j=>
   simp only[MN]at hr;split at hr
   ·rename_i m hm;simp only[az]at hr;subst hr;have cT:=oR hm;obtain⟨e,he⟩:=Option.ne_none_iff_exists'.1 Rw;have hg:G.st.bR (.new 0 m)=some (e.fin ids):=by rw[aT3,cT];simp[he]
    refine⟨⟨?_,λv fr c hh=> ?_⟩,λ⟨fr,c,hh⟩=>⟨?_,?_⟩⟩
    ·show G.st.bR (.new 0 m)≠none;rw[hg];simp
    ·have hh:G.st.bR (.new 0 m)=some (.obj v fr c):=hh;rw[hg,az]at hh;obtain⟨c0,rfl,_⟩:=axg _ _ _ _ hh;exact WI v fr c0 he
    ·have hh:G.st.bR (.new 0 m)=some (.obj ver fr c):=hh;rw[hg,az]at hh;obtain⟨c0,rfl,_⟩:=axg _ _ _ _ hh;exact⟨fr,c0,he⟩
    ·show(ids[m]?).bind β=β (.new i j);rw[cT];rfl
   ·cases hr
 have aqF:Trans C.E.w w C.E.g g':=by
  have h0:=h.trans;refine⟨h0.os,h0.tape,h0.output,h0.size,λb hb=> ?_⟩;have h1:=h0.RO b hb;show match C.E.g b with | .free=>vf ids (g b)= .free/\_ | .own .ed k=>vf ids (g b)= .own .ed k/\_ | .own (.id _) k=>(vf ids (g b)= .free\/∃i k',vf ids (g b)= .own (.id i) k'/\k<=k')/\_
  cases VW:C.E.g b with
  |free=>simp only[VW]at h1 ⊢;rw[h1.1];exact⟨rfl,h1.2⟩
  |own o k=>cases o with
   |ed=>simp only[VW]at h1 ⊢;rw[h1.1];exact⟨rfl,h1.2⟩
   |id i=>
    simp only[VW]at h1 ⊢;refine⟨?_,h1.2⟩;rcases h1.1 with h2 | ⟨i',k',h2,h3⟩
    ·rw[h2];exact .inl rfl
    ·rw[h2];right;cases i' with
     |bj m=>exact⟨_,k',rfl,h3⟩
     |new i j=>exact⟨_,k',rfl,h3⟩
 have aJu:iI (G.st.env w g' β'):=by
  intro id ver fr c cT;have cT:G.st.bR id=some (.obj ver fr c):=cT;cases id with
  |bj k=>
   rw[hold,cW]at cT;obtain⟨e,he,cT⟩:=cT;obtain⟨c0,rfl,rfl⟩:=axg _ _ _ _ cT;refine wT hle (h.bJ (.bj k) ver fr c0 he) rfl λpl _=>⟨rfl,λn hg=> ?_,λhg=> ?_⟩
   ·have hg:g pl.b= .own (.id (.bj k)) n:=hg;show vf ids (g pl.b)=_;rw[hg];rfl
   ·have hg:g pl.b= .free:=hg;show vf ids (g pl.b)=_;rw[hg];rfl
  |new i m=>
   cases i with
   |succ i=>rw[aU8]at cT;cases cT
   |zero=>
    rw[aT3,cW]at cT;obtain⟨id0,aNo,cT⟩:=cT;obtain⟨c0,he,rfl⟩:=axg _ _ _ _ cT;have cP:s.bR id0=some (.obj ver fr c0):=by
     cases hs:s.bR id0 with
     |none=>rw[hs]at he;cases he
     |some e=>rw[hs]at he;simp only[dN]at he;rw[he]
    obtain⟨i0,j0,rfl⟩:=GU id0 (cI aNo);refine wT hle (h.bJ (.new i0 j0) ver fr c0 cP) (by show(ids[m]?).bind β=_;rw[aNo];rfl) λpl _=>⟨rfl,λn hg=> ?_,λhg=> ?_⟩
    ·have hg:g pl.b= .own (.id (.new i0 j0)) n:=hg;show vf ids (g pl.b)=_;rw[hg];simp only[vf,w6 hn aNo]
    ·have hg:g pl.b= .free:=hg;show vf ids (g pl.b)=_;rw[hg];rfl
 have ho:∀id ver,C.E.F8 id ver->∃k,id= .bj k:=λid ver hb=>by
  cases id with
  |bj k=>exact⟨k,rfl⟩
  |new i j=>exact absurd (hC.1 i j) hb.1
 refine⟨g',β',by rw[Aw];exact G6 hle hv,aJu,aqF,Trans.mem (E:=C.E) (E':=G.st.env w g' β') aqF,λid ver hb=> ?_,λid ver hb hc=> ?_⟩
 ·obtain⟨k,rfl⟩:=ho id ver hb;exact(hle.ref (.bj k) ver (.bj k,ver) rfl (h.le.F8 _ _ hb)).1
 ·obtain⟨k,rfl⟩:=ho id ver hb;obtain⟨h1,h2⟩:=(hle.ref (.bj k) ver (.bj k,ver) rfl (h.le.F8 _ _ hb)).2 hc;obtain⟨h3,h4⟩:=h.le.cur _ _ hb h1;exact⟨h3,h2.trans h4⟩
theorem xS.len{E:Env}:∀ {as:List aB} {vs:List Value},xS E as vs->as.length=vs.length
 |[],[],_=>rfl
 |_::_,_::_,⟨_,h⟩=>by simp[xS.len h]
 |[],_::_,h=>h.elim
 |_::_,[],h=>h.elim
theorem xS.get{E:Env}:∀ {as:List aB} {vs:List Value},xS E as vs->∀i,VS E (as.getD i .undef) (vs.getD i undef)
 |[],[],_,i=>by simpa using VS.undef
 |_::_,_::_,⟨h,_⟩,0=>by simpa using h
 |_::_,_::_,⟨_,h⟩,i+1=>by simpa using xS.get h i
 |[],_::_,h,_=>h.elim
 |_::_,[],h,_=>h.elim
theorem azF{w:World}{g:Nat->lU}{β:Id->Option Pl}{fn:Func}{args:List aB}{bV:List dE}{iO:List Value}(hv:xS ((fC bV).env w g β) args iO)(ho:iI ((fC bV).env w g β)):
  Inv ⟨(fC bV).env w g β⟩ g β (start fn args bV) {tmps:=iO.toArray++Array.replicate (fn.ntmps - iO.toArray.size) undef,defers:=[]} w:=by
 have hl:=hv.len;have cP:(start fn args bV).bR=(fC bV).bR:=by
  funext id;cases id with
  |bj k=>rfl
  |new i j=>
   simp only[start,fC,AS.bR,aF,List.getElem?_replicate];split <;> simp
 have aqw:(start fn args bV).env w g β=(fC bV).env w g β:=by simp only[AS.env,cP]
 refine⟨⟨gr,λ_ h=>by cases h⟩,by simp[start,hl],λi=> ?_,by rw[aqw];exact ho,Trans.refl _ _,by rw[aqw];exact cM.refl _⟩;rw[aqw];have h1:(start fn args bV).slot i=args.getD i .undef:=by
  simp only[start,AS.slot,aF,List.getElem?_append,List.getElem?_replicate];split
  ·rfl
  ·rw[dG (l:=args) ak];split <;> rfl
 have h2:(iO.toArray++Array.replicate (fn.ntmps - iO.toArray.size) undef).getD i undef=iO.getD i undef:=by
  simp only[cH,aF,kg,Array.getElem?_replicate];simp only[hJ,List.getElem?_toArray];split
  ·rfl
  ·rw[dG (l:=iO) ak];split <;> rfl
 rw[h1,h2];exact hv.get i
theorem Inv.aOy{C:Ctx}{g:Nat->lU}{β:Id->Option Pl}{s:AS}{a:Act}{w:World}(h:Inv C g β s a w){D:Nat}{ds:List Deferred}(hd:a.defers=vh D::ds):
  (Instr.takeDeferred D).run P w= .ok [] (w.putObj D (.deferred none))/\Inv C g β s {a with defers:=ds} (w.putObj D (.deferred none)):=by
 obtain⟨hn,CG⟩:=h.defers;rw[hd]at hn CG;obtain⟨D',e,hD,hh,hg⟩:=CG _ (aO ..);have e:Deferred.mk (.collected D) #[]=Deferred.mk (.collected D') #[]:=e;injection e with e _
 injection e with e
 subst e;have gB:=(bM.1 hh).1;refine⟨run_takeDeferred hh,?_⟩;have other:∀b,b≠D->(w.putObj D (.deferred none)).heap[b]? =w.heap[b]? :=λb hb=>World.putObj_heap_other hb
 have DA:∀b off v,w.cell? ⟨b,off,none⟩=some v->b≠D:=λb off v hv e=>by subst e;simp[World.cell?,hh]at hv
 have EZ:tq (s.env w g β) (s.env (w.putObj D (.deferred none)) g β):=by
  refine⟨λb off v ⟨h1,h2⟩=>⟨?_,h2⟩,λb ob h1 h2=>⟨h1,?_⟩⟩
  ·have h1:w.cell? ⟨b,off,none⟩=some v:=h1;show(w.putObj D (.deferred none)).cell? ⟨b,off,none⟩=some v;rw[World.cell?_of_block (other b (DA b off v h1))];exact h1
  ·have h1:g b= .free:=h1;have h2:w.heap[b]? =some ob:=h2
   show(w.putObj D (.deferred none)).heap[b]? =some ob
   rw[other b λe=>by rw[e,hg]at h1;cases h1];exact h2
 have hle:cM (s.env w g β) (s.env (w.putObj D (.deferred none)) g β):=⟨EZ,λ_ _ h=>h,λ_ _ _ h=>⟨h,rfl⟩⟩;have gj:∀ {id:Id} {v:Nat} {fr:Bool} {c:aB} {pl:Pl},s.bR id=some (.obj v fr c)->β id=some pl->pl.b≠D:=λhs hp e=>by
  have:=((h.bJ _ _ _ _ hs).label hp).2;have this:(∃k,g _= .own (.id _) k)\/(_/\g _= .free):=this;rw[e,hg]at this;rcases this with⟨k,hk⟩ | ⟨_,hk⟩
  ·cases hk
  ·cases hk
 refine⟨⟨(c9.1 hn).2,λd hd'=> ?_⟩,h.size,λi=>(h.cm i).mono hle,λid ver fr c hs=> ?_,?_,h.le.trans hle⟩
 ·obtain⟨D2,e1,e2,e3,e4⟩:=CG d (aJ _ hd');refine⟨D2,e1,e2,?_,e4⟩;rw[other D2 λe=>(c9.1 hn).1 (by rw[<-e,<-e1];exact hd')];exact e3
 ·exact wS.mono hle (h.bJ id ver fr c hs) rfl (λpl hp=>⟨other _ (gj hs hp),rfl⟩) λq vq k v l hq _=>⟨⟨k,v,l,hq⟩,λpl hp=>⟨other _ (gj hq hp),rfl⟩⟩
 ·have ht:=h.trans;refine⟨ht.os,ht.tape,ht.output,?_,λb hb=> ?_⟩
  ·have:=ht.size;simpa[World.putObj]using this
  ·have h1:=ht.RO b hb;have hbD:b≠D:=ak;have hc:∀off v,w.cell? ⟨b,off,none⟩=some v->(w.putObj D (.deferred none)).cell? ⟨b,off,none⟩=some v:=λoff v hv=>by rw[World.cell?_of_block (other b hbD)];exact hv
   rw[other b hbD];split at h1
   ·exact h1
   ·exact h1
   ·exact⟨h1.1,λoff v ho hv=>hc off v (h1.2 off v ho hv)⟩
theorem UJ{C:Ctx}{g:Nat->lU}{β:Id->Option Pl}{s:AS}{fn:Func}{R:Ending->World->Prop}:∀(ds:List Deferred) {a:Act} {w:World},Inv C g β s a w->a.defers=ds->
  (∀a2 w2,Inv C g β s a2 w2->a2.tmps=a.tmps->∃v,(results fn a.tmps).run P w2= .ok v w2/\R (.returned v) w2)->LeavesInM Fence.wide 0 P fn a.tmps R ds .returning w
 |[],a,w,h,hd,hk=>hk a w h rfl
 |d::ds,a,w,h,hd,hk=>by obtain⟨D,e,_⟩:=h.defers.2 d (by rw[hd];exact aO ..);subst e;obtain⟨h1,h2⟩:=h.aOy (P:=P) hd;exact⟨by simp,.inl ⟨D,_,rfl,h1,UJ (fn:=fn) (R:=R) ds (a:= {a with defers:=ds}) h2 rfl hk⟩⟩
theorem alF{bV:List dE}{w:World}{g:Nat->lU}{β:Id->Option Pl}(h:bV.all dE.first=true){k v:Nat}{fr:Bool}{c:aB}(hk:((fC bV).env w g β).s (.bj k)=some (.obj v fr c)):v=0:=by
 have hk:bV[k]? =some (.obj v fr c):=by simpa[AS.env,fC,AS.bR]using hk
 have:=df.1 h _ (cI hk);exact eQ this
theorem Ox(hm:P.follows .mixedOrders=true)(hΓ:Sound P Γ){f:FuncId}{fn:Func}(hf:P.funcs[f]? =some fn)(hb:fn.body.isSome=true)(Av:(fn.name== "runtime.NumGoroutine")=false){an:wQ}{N:Nat}(hL:∀c,fn.body=some c->jR P Γ an N (js c))
  {args:List aB} {bV:List dE} {R:Type} {k:fA->Option R} {r:R} (hN:akf P Γ an N fn args bV k=some r) (ahR:an.lp=none)
  {iO:List Value} (hv:xS ((fC bV).env w g β) args iO) (ho:iI ((fC bV).env w g β)):(callFunc f iO.toArray).run P w= .ok (.enter f iO.toArray) w/\
   Calls P f iO.toArray w λe w'=>∃v G,e= .returned v/\k G=some r/\tj ((fC bV).env w g β) G v w':=by
 obtain⟨c,hc⟩:=bQ.1 hb;refine⟨?_,?_⟩
 ·unfold callFunc;have hname':¬fn.name= "runtime.NumGoroutine" :=by simpa using Av
  simp[hf,hname',hc]
 ·unfold akf at hN;rw[ahR,hc]at hN;simp only at hN;split at hN
  ·cases hN
  rename_i hF;have hC:(Ctx.mk ((fC bV).env w g β)).ok:=⟨λi j=>by simp[AS.env,fC,AS.bR],λk v fr c hk=>alF hF hk⟩;refine callsIn_wide.1 (callsIn_of_wp_marks (F:=Fence.wide) (n:=0) hf hc trivial (nB (rd:=none) (C:=⟨(fC bV).env w g β⟩) hm hΓ hC (.inl rfl) c (hL c hc) _ _ w _ _ ⟨g,β,azF hv ho⟩ hN λe s' a' w' hs' hk'=> ?_));have fin:(finish P an fn s').run k=some r->LeavesInM Fence.wide 0 P fn a'.tmps (λe w'=>∃v G,e= .returned v/\k G=some r/\tj ((fC bV).env w g β) G v w') a'.defers .returning w':=λhr=>by
   obtain⟨G,h1,h2⟩:=ij.1 hr;unfold finish at h1;obtain⟨sd,aRT,h1⟩:=aw.1 h1;obtain⟨s2,h3,h4⟩:=aw.1 h1;obtain⟨s3,aUD,h4⟩:=aw.1 h4;obtain⟨s4,aUE,h4⟩:=aw.1 h4;obtain⟨y,h5,h6⟩:=aw.1 h4;obtain⟨g1,β1,aHQ⟩:=hs';refine UJ a'.defers aHQ rfl λa2 w2 aNm aSG=> ?_
   obtain⟨g0,β0,aDx⟩:=Ap _ ⟨g1,β1,aNm⟩ aRT;obtain⟨g',β',hi⟩:=NS _ (lD hC _ ⟨g0,β0,aDx.drop _⟩ h3) aUD;have hi:=Et hC _ hi aUE;obtain⟨z,g2,h7,h8,h9⟩:=ads hi h5;refine⟨z,by rw[<-aSG];exact h7,z,G,rfl,h2,?_⟩;rw[<-ay.1 h6];exact aeQ h8 hC h9
  cases e with
  |normal=>exact fin hk'
  |ret=>exact fin hk'
  |_=>cases hk'
theorem qA.vk(hm:P.follows .mixedOrders=true)(hΓ:Sound P Γ){f:FuncId}{fn:Func}(hf:P.funcs[f]? =some fn)(hb:fn.body.isSome=true)(Av:(fn.name== "runtime.NumGoroutine")=false){en:Entry}{an:wQ}{N:Nat}(hL:∀c,fn.body=some c->jR P Γ an N (js c))
  (h:∀args bV x,en.run args bV=some x->akf P Γ an N fn args bV some=some (en.out args bV x)) (ahR:an.lp=none):qA P f en:=by
 intro w g β args bV iO x hv ho hx;obtain⟨h1,h2⟩:=Ox hm hΓ hf hb Av hL (h args bV x hx) ahR hv ho;exact .inl ⟨h1,h2.mono λe w' ⟨v,G,e1,e2,e3⟩=>⟨v,e1,by rw[<-bl e2];exact e3⟩⟩
theorem N4.vk(hm:P.follows .mixedOrders=true)(hΓ:Sound P Γ){f:FuncId}{fn:Func}(hf:P.funcs[f]? =some fn)(hb:fn.body.isSome=true)(Av:(fn.name== "runtime.NumGoroutine")=false){en:Entry}{an:wQ}{N:Nat}(hL:∀c,fn.body=some c->jR P Γ an N (js c))
  (h:∀args bV,(∃x,en.set args bV x)->akf P Γ an N fn args bV (λG=>aN3 (∃x,en.set args bV x/\G=en.out args bV x))=some ()) (ahR:an.lp=none):N4 P f en:=by
 intro w g β args bV iO hv ho hx;obtain⟨h1,h2⟩:=Ox hm hΓ hf hb Av hL (h args bV hx) ahR hv ho;refine⟨h1,h2.mono λe w' ⟨v,G,e1,e2,e3⟩=> ?_⟩;obtain⟨x,hs,rfl⟩:=amN e2;exact⟨v,x,e1,hs,e3⟩
theorem LA:∀(l:List (Tmp×Value)) (t:Array Value),(l.foldl (λtmps (x:Tmp×Value)=>tmps.setIfInBounds x.1 x.2) t).size=t.size
 |[],_=>rfl
 |x::l,t=>by rw[bp,LA l];simp
theorem IL:∀(l:List (Tmp×aB)) (fs:List aB),(zm l fs).length=fs.length
 |[],_=>rfl
 |x::l,fs=>by rw[zm,IL l];simp
theorem LB{E:Env}:∀(ps:List Tmp) (vs:List aB) (us:List Value) (fs:List aB) (t:Array Value),xS E vs us->fs.length=t.size->(∀i,VS E (fs.getD i .undef) (t.getD i undef))->
  ∀i,VS E ((zm (ps.zip vs) fs).getD i .undef) (((ps.zip us).foldl (λtmps (x:Tmp×Value)=>tmps.setIfInBounds x.1 x.2) t).getD i undef)
 |[],_,_,fs,t,_,_,h=>by simpa[zm]using h
 |_::_,[],[],fs,t,_,_,h=>by simpa[zm]using h
 |_::_,[],_::_,_,_,h,_,_=>h.elim
 |_::_,_::_,[],_,_,h,_,_=>h.elim
 |p::ps,v::vs,u::us,fs,t,⟨h1,h2⟩,hl,h=>by
  simp only[List.zip_cons_cons,zm,bp];refine LB ps vs us _ _ h2 (by simpa using hl) λi=> ?_
  simp only[aF,cH,List.getElem?_set,dR,hl];have hi:=h i;simp only[aF,cH]at hi;split
  ·split
   ·simpa using h1
   ·simpa using VS.undef
  ·exact hi
theorem xS.split{E:Env}:∀(n:Nat) {as:List aB} {us ts:List Value},us.length=n->xS E as (us++ts)->xS E (as.take n) us/\xS E (as.drop n) ts
 | 0,as,[],ts,_,h=>by simpa using⟨trivial,h⟩
 | 0,as,_::_,ts,hn,h=>by simp at hn
 |n+1,as,[],ts,hn,h=>by simp at hn
 |n+1,[],u::us,ts,_,h=>h.elim
 |n+1,a::as,u::us,ts,hn,⟨h1,h2⟩=>by have:=xS.split n (by simpa using hn) h2;exact⟨⟨h1,this.1⟩,this.2⟩
theorem asJ{w:World}{g:Nat->lU}{β:Id->Option Pl}{ps:Array Tmp}{args:List aB}{bV:List dE}{us ts:List Value}(hl:us.length=ps.size)(hv:xS ((fC bV).env w g β) args (us++ts))(ho:iI ((fC bV).env w g β)):
  Inv ⟨(fC bV).env w g β⟩ g β (abj ps.toList args bV) {tmps:=(ps.zip us.toArray).foldl (λtmps (t,a)=>tmps.setIfInBounds t a) ts.toArray,defers:=[]} w:=by
 obtain⟨h1,h2⟩:=xS.split ps.toList.length (by simpa using hl) hv;have cP:(abj ps.toList args bV).bR=(fC bV).bR:=by
  funext id;cases id with
  |bj k=>rfl
  |new i j=>
   simp only[abj,fC,AS.bR,aF,List.getElem?_replicate];split <;> simp
 have aqw:(abj ps.toList args bV).env w g β=(fC bV).env w g β:=by simp only[AS.env,cP]
 have e:(ps.zip us.toArray).foldl (λtmps (x:Tmp×Value)=>tmps.setIfInBounds x.1 x.2) ts.toArray=(ps.toList.zip us).foldl (λtmps (x:Tmp×Value)=>tmps.setIfInBounds x.1 x.2) ts.toArray:=by rw[<-Array.foldl_toList,Array.toList_zip]
 have e':(ps.zip us.toArray).foldl (λtmps (t,a)=>tmps.setIfInBounds t a) ts.toArray=(ps.toList.zip us).foldl (λtmps (x:Tmp×Value)=>tmps.setIfInBounds x.1 x.2) ts.toArray:=e;rw[e'];refine⟨⟨gr,λ_ h=>by cases h⟩,?_,λi=> ?_,by rw[aqw];exact ho,Trans.refl _ _,by rw[aqw];exact cM.refl _⟩
 ·show Array.size _=(zm _ _).length;rw[LA,IL];simpa using h2.len.symm
 ·rw[aqw];exact LB ps.toList _ us _ _ h1 (by simpa using h2.len) (λi=>by simpa[cH,aF]using h2.get i) i
theorem F0.vk(hm:P.follows .mixedOrders=true)(hΓ:Sound P Γ){y:Nat}{fn:Func}{en:Entry}{an:wQ}{N:Nat}(hL:jR P Γ an N (js (qG P y).as++js (qG P y).b))
  (h:∀args bV x,en.run args bV=some x->akf P Γ an N fn args bV some=some (en.out args bV x)) (ahR:an.lp=some y):F0 P y en:=by
 intro w g β args bV iO x hv ho hx l us ts f rd n aQo te;have hN:=h args bV x hx;unfold akf at hN;rw[ahR]at hN;simp only at hN;unfold aF3 at hN;split at hN;rotate_left
 ·cases hN
 rename_i args;split at hN
 ·cases hN
 rename_i hF;subst aQo;obtain⟨aNz,Ut⟩:=hv;have hC:(Ctx.mk ((fC bV).env w g β)).ok:=⟨λi j=>by simp[AS.env,fC,AS.bR],λk v fr c hk=>alF hF hk⟩;obtain⟨cs,hV,hO⟩:=aNz;simp only[V]at hV;obtain⟨l',rfl,alR,fo⟩:=hV;have hl:l'=l:=by simpa[fJ,aB.agg]using hO
 subst hl;have at_l:∀ {s:AS} {g1:Nat->lU} {β1:Id->Option Pl} {a:Act} {w1:World} {pl:Pl},Inv ⟨(fC bV).env w g β⟩ g1 β1 s a w1->(s.env w1 g1 β1).cur (.bj 0) 0->β1 (.bj 0)=some pl->pl.b=l':=by intro s g1 β1 a w1 pl hi hc hp;obtain⟨c1,c2⟩:=hi.le.cur _ _ alR hc;obtain⟨pl',hp',rfl⟩:=fo c1;have c2:β1 (.bj 0)=β (.bj 0):=c2;have hp':β (.bj 0)=some pl':=hp';rw[c2,hp']at hp;exact(bm Pl.b (bl hp)).symm
 refine roundIn_of_wpIn (F:=Fr rd) trivial ?_
 have acO:some l'=none\/an.lp.isSome=true:= .inr (by rw[ahR];rfl);refine nB (rd:=some l') hm hΓ hC acO _ hL.append.1 _ _ w _ _ ⟨g,β,asJ te Ut ho⟩ hN λe s1 a1 w1 Rx ahN=> ?_
 cases e with
 |normal=>
  simp only at ahN;cases h1:s1.SY 0 1 with
  |none=>rw[h1]at ahN;cases ahN
  |some s2=>
   rw[h1]at ahN;simp only[al]at ahN;obtain⟨g1,β1,aHQ⟩:=Rx;obtain⟨pl,r,hp,hc,hb,mn,aQc⟩:=Qf aHQ h1;have:=at_l aHQ hc hp;subst this;refine⟨_,run_beginRound hb mn.1,?_⟩;have aNm:=aQc {r with state:= .busy} rfl rfl rfl rfl rfl;refine nB (rd:=some pl.b) hm hΓ hC acO _ hL.append.2 _ _ _ _ _ ⟨_,_,aNm⟩ ahN λe s3 a3 w3 aNx aJp=> ?_
   cases aLM:aLD e with
   |none=>rw[aLM]at aJp;cases aJp
   |some p=>
    rw[aLM]at aJp;simp only[al]at aJp;cases h4:s3.SY 1 p with
    |none=>rw[h4]at aJp;cases aJp
    |some s4=>
     rw[h4]at aJp;simp only at aJp;obtain⟨g3,β3,aTV⟩:=aNx;obtain⟨pl3,r3,aVa,aDu,aTM,aVi,hnext3⟩:=Qf aTV h4;have aU1:=at_l aTV aDu aVa;rw[aU1]at aTM hnext3
     have fin:∀(jump:Option Code) (b:Bool),ix p 0=jump.isNone->anw p (if jump.isNone then .ready else .done) jump->
       ∃v w',(Instr.endRound pl.b jump).run P w3= .ok v w'/\∃v',Ending.returned v= .returned v'/\tj ((fC bV).env w g β) (en.out (.yl (.bj 0) 0::args) bV x) v' w':=λjump b hb hr=>by
      have aUV:=hnext3 {r3 with state:=if jump.isNone then .ready else .done,pending:=jump} rfl rfl rfl rfl hr;refine⟨_,_,run_endRound jump aTM,_,rfl,?_⟩;obtain⟨G,k1,k2⟩:=ij.1 aJp;simp only[az]at k2;subst k2;unfold at4 at k1;obtain⟨sd,m1,k1⟩:=aw.1 k1;obtain⟨s5,m2,k1⟩:=aw.1 k1;obtain⟨s6,m3,k1⟩:=aw.1 k1;obtain⟨s7,m4,k1⟩:=aw.1 k1;obtain⟨g0,β0,aDx⟩:=Ap _ ⟨_,_,aUV⟩ m1;obtain⟨g',β',hi⟩:=NS _ (lD hC _ ⟨g0,β0,aDx.drop _⟩ m2) m3;have hi:=Et hC _ hi m4;rw[<-ay.1 k1,hb];exact aeQ hi hC (vO _)
     cases e with
     |normal=>
      obtain rfl:=bl aLM;exact fin none true rfl ⟨rfl,rfl⟩
     |ret=>
      obtain rfl:=bl aLM;exact fin (some .ret) false rfl ⟨rfl,rfl⟩
     |exit i=>
      obtain rfl:=bl aLM;exact fin (some (.exit i)) false rfl ⟨rfl,rfl⟩
     |goto _=>cases aLM
     |panic _=>cases aLM
     |outgrown=>cases aLM
 |_=>cases ahN
end
end Go.Ab
namespace Go.Ab
def dV(k:IntKind)(n:Int):Int:=k.wrap n
def bI(k:IntKind)(x y:Int):Int:=k.wrap (x+y)
def cK(k:IntKind)(x y:Int):Int:=k.wrap (x - y)
def fZ(k:IntKind)(x y:Int):Int:=k.wrap (x*y)
def tf(k:IntKind)(x y:Int):Int:=k.wrap (x.tdiv y)
def mq(x y:Int):Int:=x.tmod y
def l7(k:IntKind)(x y:Int):Int:=k.wrap (x*2^(min y.toNat k.bits))
def ct(k:IntKind)(x y:Int):Int:=x.fdiv (2^(min y.toNat k.bits))
def aJP(k:IntKind)(x:Int):Int:=cF .xor k (if k.signed then -1 else k.max) x
def qQ(x y:Int):Bool:=x==y
def BT(x y:Int):Bool:=x !=y
def fR(x y:Int):Bool:=decide (x < y)
def ajU(x y:Int):Bool:=decide (x<=y)
def w7(x y:Int):Bool:=decide (x > y)
def BS(x y:Int):Bool:=decide (x>=y)
def seq(x y:ByteArray):Bool:=x.toList==y.toList
def an4(a:ByteArray)(i:Int):Int:=((a.data.toList.getD i.toNat 0).toNat:Int)
def eg(i n:Int):Bool:=decide (0<=i/\i < n)
def inc(i n:Int):Bool:=decide (0<=i/\i<=n)
def me(y:Int):Bool:=decide (0<=y)
def rk(y:Int):Bool:= !(decide (y=0))
open Classical in
def dC.of{D X:Type}(st:D->AS)(fy:D->Prop)(F:D->X)(out:X->Out (Exit×AS)):dC:= {X,run:=λs=>if h:∃d,st d=s/\fy d then some (F h.choose) else none,out}
open Classical in
theorem dC.vk{D X:Type}{st:D->AS}{fy:D->Prop}{F:D->X}{out:X->Out (Exit×AS)}(MV:∀d d',st d=st d'->d=d'){d:D}(h:fy d):(dC.of st fy F out).run (st d)=some (F d):=by have hex:∃d',st d'=st d/\fy d':=⟨d,rfl,h⟩;show(if h:∃d',st d'=st d/\fy d' then some (F h.choose) else none)=_;rw[yF hex,MV _ _ hex.choose_spec.1]
open Classical in
def qL.of{X:Type}(an:od)(st:X->AS):qL:=
 {an,X,axr:=λe s=>if h:e= .normal/\∃x,st x=s then some h.2.choose else none,out:=λx=> .ok (.normal,st x),
  ok:=λe s x h=>by
   by_cases h1:e= .normal/\∃x,st x=s
   ·rw[yF h1]at h;have h2:=h1.2.choose_spec;rw[bl h]at h2;rw[h1.1,<-h2];rfl
   ·rw[BK h1]at h;cases h}
open Classical in
theorem qL.H4{X:Type}{an:od}{st:X->AS}(MV:∀d d',st d=st d'->d=d')(x:X):(qL.of an st).axr .normal (st x)=some x:=by have hex:Exit.normal= .normal/\∃y,st y=st x:=⟨rfl,x,rfl⟩;show(if h:Exit.normal= .normal/\∃y,st y=st x then some h.2.choose else none)=_;rw[yF hex,MV _ _ hex.2.choose_spec]
open Classical in
theorem atq.of{P:Program}{Γ:ot}{an:wQ}{N:Nat}{fn:Func}{i:Nat}{D X:Type}{st:D->AS}{fy:D->Prop}{F:D->X}{out:X->Out (Exit×AS)}
  (hle:an.fw (dL (oP fn i))=some (dC.of st fy F out)) (h:∀d,fy d->∃n,PN P Γ an N fn i n (st d) (λe s=>some (e,s))=(out (F d)).eval):atq P Γ an N (oP fn i):=by
 intro le hle';rw[hle]at hle';simp only[az]at hle';subst hle';refine⟨λ_ s x hx=> ?_,λS hS=>by cases hS⟩;change (if h:∃d',st d'=s/\fy d' then some (F h.choose) else none)=some x at hx;split at hx
 ·rename_i hex;obtain rfl:=bl hx;obtain⟨h1,h2⟩:=hex.choose_spec;obtain⟨n,hn⟩:=h _ h2;refine⟨n,?_⟩;show PN P Γ an N fn i n s _=_;rw[h1]at hn;exact hn
 ·cases hx
theorem zO(P:Program)(Γ:ot)(an:wQ)(N:Nat)(fn:Func)(i:Nat){R:Type}(n:Nat)(s:AS)(k:Exit->AS->Option R):PN P Γ an N fn i (n+1) s k=CK P Γ an N fn i s (λs1=>PN P Γ an N fn i n s1 k) k:=rfl
theorem aut{P:Program}{Γ:ot}{an:wQ}{N:Nat}{fn:Func}{i:Nat}{D X:Type}{st:D->AS}{fy:D->Prop}{F:D->X}{out:X->Out (Exit×AS)}(μ:D->Nat)
  (h:∀d,fy d->(∃d',fy d'/\μ d' < μ d/\F d'=F d/\∀ {R:Type} (kn:AS->Option R) (kx:Exit->AS->Option R),CK P Γ an N fn i (st d) kn kx=kn (st d'))\/
   (∃r,(out (F d)).eval=some r/\∀ {R:Type} (kn:AS->Option R) (kx:Exit->AS->Option R),CK P Γ an N fn i (st d) kn kx=kx r.1 r.2)):
  ∀d,fy d->∃n,PN P Γ an N fn i n (st d) (λe s=>some (e,s))=(out (F d)).eval:=by
 have key:∀m d,μ d=m->fy d->∃n,PN P Γ an N fn i n (st d) (λe s=>some (e,s))=(out (F d)).eval:=by
  intro m
  induction m using Nat.strongRecOn with
  |_ m ih=>
   intro d hm hp;rcases h d hp with⟨d',hp',gB,hF,hr⟩ | ⟨r,hr,hx⟩
   ·obtain⟨n,hn⟩:=ih (μ d') ak d' rfl hp';exact⟨n+1,by rw[zO,hr,hn,hF]⟩
   ·exact⟨1,by rw[zO,hx,hr]⟩
 exact λd hp=>key _ d rfl hp
open Classical in
def dC.V4{D X Y:Type}(st:D->AS)(fy:D->Prop)(add:D->Y->X)(Post:D->Y->Prop)(out:X->Out (Exit×AS)):dC:= {X,run:=λ_=>none,out,set:=some λs x=>∃d,st d=s/\fy d/\∃y,Post d y/\x=add d y}
def aQJ{D X Y:Type}(st:D->AS)(fy:D->Prop)(add:D->Y->X)(Post:D->Y->Prop):D->X->Prop:=λd0 x=>∃d,st d=st d0/\fy d/\∃y,Post d y/\x=add d y
abbrev avp{D X Y:Type}(set:D->X->Prop)(fy:D->Prop)(add:D->Y->X)(Post:D->Y->Prop):Prop:=∀ {d:D} {R:Type} {k:X->Option R} {r:Option R},fy d->(∃y,Post d y)->(∀y,Post d y->k (add d y)=r)->Yo (set d) k=r
theorem aTg{D X Y:Type}{st:D->AS}{fy:D->Prop}{add:D->Y->X}{Post:D->Y->Prop}(MV:∀d d',st d=st d'->d=d'):avp (aQJ st fy add Post) fy add Post:=λh h1 h2=>by
 obtain⟨y,hy⟩:=h1;refine at3 ⟨_,_,rfl,h,y,hy,rfl⟩ λx hx=> ?_
 obtain⟨d',h3,_,y',h4,rfl⟩:=hx;obtain rfl:=MV _ _ h3;exact h2 y' h4
abbrev atr(P:Program)(G:ot)(an:wQ)(N:Nat)(fn:Func)(i:Nat){D X Y:Type}(st:D->AS)(fy:D->Prop)(add:D->Y->X)(Post:D->Y->Prop)(out:X->Out (Exit×AS)):Prop:=∀d,fy d->∃n,∀k:Exit->AS->Option Unit,(∀y e s,Post d y->(out (add d y)).eval=some (e,s)->k e s=some ())->PN P G an N fn i n (st d) k=some ()
theorem atq.V4{P:Program}{Γ:ot}{an:wQ}{N:Nat}{fn:Func}{i:Nat}{D X Y:Type}{st:D->AS}{fy:D->Prop}{add:D->Y->X}{Post:D->Y->Prop}{out:X->Out (Exit×AS)}
  (h:atr P Γ an N fn i st fy add Post out) (hle:an.fw (dL (oP fn i))=some (dC.V4 st fy add Post out)):atq P Γ an N (oP fn i):=by
 intro le hle';rw[hle]at hle';simp only[az]at hle';subst hle';refine⟨λhS=>(by cases hS),λS hS s hs=> ?_⟩;obtain rfl:=bl hS;obtain⟨x,d,rfl,hp,y,hy,rfl⟩:=hs;obtain⟨n,hn⟩:=h d hp;exact⟨n,hn _ λy e s h1 h2=>aEU ⟨add d y,⟨d,rfl,hp,y,h1,rfl⟩,h2⟩⟩
theorem ael{n:Nat}{Q:Nat->Nat->Prop}(h:∀j,j < n->∃N,∀M,N<=M->Q j M):∃N,∀M,N<=M->∀j,j < n->Q j M:=by
 induction n with
 |zero=>exact⟨0,λ_ _ j hj=>ak⟩
 |succ n ih=>
  obtain⟨N1,h1⟩:=ih λj hj=>h j ak
  obtain⟨N2,h2⟩:=h n ak;refine⟨max N1 N2,λM hM j hj=> ?_⟩;by_cases aTY:j=n
  ·subst aTY;exact h2 M ak
  ·exact h1 M ak j ak
theorem aEy{P:Program}{Γ:ot}{an:wQ}{N:Nat}{fn:Func}{i:Nat}{D X:Type}{st:D->AS}{fy:D->Prop}{F:D->X}{out:X->Out (Exit×AS)}(μ:D->Nat)
  (h:∀d,fy d->(∃(m:Nat) (d':Nat->D),0 < m/\(∀j,j < m->fy (d' j)/\μ (d' j) < μ d/\F (d' j)=F d)/\∀ {R:Type} (kn:AS->Option R) (kx:Exit->AS->Option R),CK P Γ an N fn i (st d) kn kx=aCS m λj=>kn (st (d' j)))\/
   (∃r,(out (F d)).eval=some r/\∀ {R:Type} (kn:AS->Option R) (kx:Exit->AS->Option R),CK P Γ an N fn i (st d) kn kx=kx r.1 r.2)):
  ∀d,fy d->∃n,PN P Γ an N fn i n (st d) (λe s=>some (e,s))=(out (F d)).eval:=by
 have key:∀m d,μ d=m->fy d->∃n,∀M,n<=M->PN P Γ an N fn i M (st d) (λe s=>some (e,s))=(out (F d)).eval:=by
  intro m
  induction m using Nat.strongRecOn with
  |_ m ih=>
   intro d hm hp;rcases h d hp with⟨c,d',hc,hd,hr⟩ | ⟨r,hr,hx⟩
   ·obtain⟨n,hn⟩:=ael (n:=c) (Q:=λj M=>PN P Γ an N fn i M (st (d' j)) (λe s=>some (e,s))=(out (F d)).eval) λj hj=>by obtain⟨h1,h2,h3⟩:=hd j hj;obtain⟨n,hn⟩:=ih (μ (d' j)) ak (d' j) rfl h1;exact⟨n,λM hM=>by rw[hn M hM,h3]⟩
    refine⟨n+1,λM hM=> ?_⟩;obtain⟨M,rfl⟩:∃M',M=M'+1:=⟨M - 1,ak⟩;rw[zO,hr];exact aCT hc λj hj=>hn M ak j hj
   ·refine⟨1,λM hM=> ?_⟩;obtain⟨M,rfl⟩:∃M',M=M'+1:=⟨M - 1,ak⟩;rw[zO,hx,hr]
 exact λd hp=>let⟨n,hn⟩:=key _ d rfl hp;⟨n,hn n (ax _)⟩
theorem aEz{P:Program}{Γ:ot}{an:wQ}{N:Nat}{fn:Func}{i:Nat}{D X Y:Type}{st:D->AS}{fy:D->Prop}{add:D->Y->X}{Post:D->Y->Prop}{out:X->Out (Exit×AS)}(μ:D->Nat)
  (h:∀d,fy d->(∃(m:Nat) (d':Nat->D),0 < m/\(∀j,j < m->fy (d' j)/\μ (d' j) < μ d/\∀y,Post (d' j) y->∃y',Post d y'/\add (d' j) y=add d y')/\∀ {R:Type} (kn:AS->Option R) (kx:Exit->AS->Option R),CK P Γ an N fn i (st d) kn kx=aCS m λj=>kn (st (d' j)))\/
   (∃y r,Post d y/\(out (add d y)).eval=some r/\∀ {R:Type} (kn:AS->Option R) (kx:Exit->AS->Option R),CK P Γ an N fn i (st d) kn kx=kx r.1 r.2)):atr P Γ an N fn i st fy add Post out:=by
 have key:∀m d,μ d=m->fy d->∃n,∀M,n<=M->∀k:Exit->AS->Option Unit,(∀y e s,Post d y->(out (add d y)).eval=some (e,s)->k e s=some ())->PN P Γ an N fn i M (st d) k=some ():=by
  intro m
  induction m using Nat.strongRecOn with
  |_ m ih=>
   intro d hm hp;rcases h d hp with⟨c,d',hc,hd,hr⟩ | ⟨y,r,hy,hr,hx⟩
   ·obtain⟨n,hn⟩:=ael (n:=c) (Q:=λj M=>∀k:Exit->AS->Option Unit,(∀y e s,Post (d' j) y->(out (add (d' j) y)).eval=some (e,s)->k e s=some ())->PN P Γ an N fn i M (st (d' j)) k=some ()) λj hj=>by obtain⟨h1,h2,h3⟩:=hd j hj;exact ih (μ (d' j)) ak (d' j) rfl h1
    refine⟨n+1,λM hM k hk=> ?_⟩;obtain⟨M,rfl⟩:∃M',M=M'+1:=⟨M - 1,ak⟩;rw[zO,hr];refine aCT hc λj hj=>hn M ak j hj k λy e s h1 h2=> ?_
    obtain⟨y',h3,h4⟩:=(hd j hj).2.2 y h1;rw[h4]at h2;exact hk y' e s h3 h2
   ·refine⟨1,λM hM k hk=> ?_⟩;obtain⟨M,rfl⟩:∃M',M=M'+1:=⟨M - 1,ak⟩;rw[zO,hx];exact hk y r.1 r.2 hy hr
 exact λd hp=>let⟨n,hn⟩:=key _ d rfl hp;⟨n,hn n (ax _)⟩
theorem amt{P:Program}{Γ:ot}{an:wQ}{N:Nat}{fn:Func}{i:Nat}{D X:Type}{st:D->AS}{fy:D->Prop}{F:D->X}{ex:X->Exit×AS}(μ:D->Nat)(h:∀d,fy d->(∃d',fy d'/\μ d' < μ d/\F d'=F d/\∀ {R:Type} (kn:AS->Option R) (kx:Exit->AS->Option R),CK P Γ an N fn i (st d) kn kx=kn (st d'))\/(∀ {R:Type} (kn:AS->Option R) (kx:Exit->AS->Option R),CK P Γ an N fn i (st d) kn kx=kx (ex (F d)).1 (ex (F d)).2)):∀d,fy d->∃n,PN P Γ an N fn i n (st d) (λe s=>some (e,s))=(Out.ok (ex (F d))).eval:=aut (out:=λx=> .ok (ex x)) μ λd hp=>(h d hp).imp id λh=>⟨_,rfl,h⟩
open Classical in
def Entry.of{D X:Type}(params:List (Option Ty))(st:D->List aB×List dE)(fy:D->Prop)(F:D->X)(out:X->fA):Entry:= {params,X,run:=λargs bV=>if h:∃d,st d=(args,bV)/\fy d then some (F h.choose) else none,out:=λ_ _=>out}
open Classical in
theorem Entry.vk{D X:Type}{params:List (Option Ty)}{st:D->List aB×List dE}{fy:D->Prop}{F:D->X}{out:X->fA}(MV:∀d d',st d=st d'->d=d'){d:D}(h:fy d):
  (Entry.of params st fy F out).run (st d).1 (st d).2=some (F d):=by
 have hex:∃d',st d'=((st d).1,(st d).2)/\fy d':=⟨d,rfl,h⟩;show(if h:∃d',st d'=((st d).1,(st d).2)/\fy d' then some (F h.choose) else none)=_;rw[yF hex,MV _ _ hex.choose_spec.1]
open Classical in
theorem auC{D X:Type}{params:List (Option Ty)}{st:D->List aB×List dE}{fy:D->Prop}{F:D->X}{out:X->fA}{args:List aB}{bV:List dE}{x:X}(hx:(Entry.of params st fy F out).run args bV=some x):∃d,st d=(args,bV)/\fy d/\x=F d:=by
 change (if h:∃d',st d'=(args,bV)/\fy d' then some (F h.choose) else none)=some x at hx;split at hx
 ·rename_i hex;obtain rfl:=bl hx;exact⟨_,hex.choose_spec.1,hex.choose_spec.2,rfl⟩
 ·cases hx
theorem qA.of{P:Program}{Γ:ot}(hm:P.follows .mixedOrders=true)(hΓ:Sound P Γ){f:FuncId}{fn:Func}(hf:P.funcs[f]? =some fn)(hb:fn.body.isSome=true)(Av:(fn.name== "runtime.NumGoroutine")=false){an:wQ}{N:Nat}
  (hL:∀c,fn.body=some c->jR P Γ an N (js c)) {D X:Type} {params:List (Option Ty)} {st:D->List aB×List dE} {fy:D->Prop} {F:D->X} {out:X->fA}
  (h:∀d,fy d->akf P Γ an N fn (st d).1 (st d).2 some=some (out (F d))) (ahR:an.lp=none:=by exact rfl):qA P f (Entry.of params st fy F out):=by
 refine qA.vk hm hΓ hf hb Av hL (λargs bV x hx=> ?_) ahR;obtain⟨d,e1,e2,rfl⟩:=auC hx;have:=h d e2;rw[e1]at this;exact this
def aAN(P:Program)(Γ:ot)(an:wQ)(N:Nat)(fn:Func):Nat->Nat->Prop
 | 0,_=>True
 |n+1,i=>atq P Γ an N (oP fn i)/\aAN P Γ an N fn n (i+1)
theorem aAN.get{P:Program}{Γ:ot}{an:wQ}{N:Nat}{fn:Func}:∀ {n i:Nat},aAN P Γ an N fn n i->∀j,j < n->atq P Γ an N (oP fn (i+j))
 | 0,_,_,j,hj=>ak
 |n+1,i,h,0,_=>h.1
 |n+1,i,h,j+1,hj=>by have:=aAN.get h.2 j ak;rwa[show i+1+j=i+(j+1) by omega]at this
theorem jR.aET{P:Program}{Γ:ot}{an:wQ}{N:Nat}:∀(l:List Code),(∀j,j < l.length->atq P Γ an N (l.getD j .skip))->jR P Γ an N l
 |[],_=>trivial
 |b::l,h=>⟨h 0 (by simp),jR.aET l λj hj=>by have:=h (j+1) (by simpa using hj);simpa using this⟩
theorem jR.fn{P:Program}{Γ:ot}{an:wQ}{N:Nat}{fn:Func}(n:Nat)(hn:(match fn.body with | some c=>(js c).length | none=>0)=n)(h:aAN P Γ an N fn n 0):∀c,fn.body=some c->jR P Γ an N (js c):=by
 intro c hc;refine jR.aET _ λj hj=> ?_
 rw[hc]at hn;simp only at hn;have:=h.get j ak;unfold oP at this;rw[hc]at this;simpa using this
theorem atq.none{P:Program}{Γ:ot}{an:wQ}{N:Nat}{fn:Func}{i:Nat}(h:an.fw (dL (oP fn i))=none):atq P Γ an N (oP fn i):=λle hle=>by
 rw[h]at hle;cases hle
def aNa:ot:=λ_ _=>none
theorem Sound.nil(P:Program):Sound P aNa:=λ_ _ _ h=>by cases h
def at9(f:FuncId)(p:List aB->Bool)(en:Entry)(Γ:ot):ot:=λg vs=>match ix g f with | true=>(match p vs with | true=>some en | false=>Γ g vs) | false=>Γ g vs
theorem Sound.cons{P:Program}{f:FuncId}{p:List aB->Bool}{en:Entry}{Γ:ot}(h:uU P f en)(hΓ:Sound P Γ):Sound P (at9 f p en Γ):=λg vs e hg=>by
 unfold at9 at hg;split at hg
 ·rename_i he;have:g=f:=eQ he;split at hg
  ·simp only[az]at hg;subst hg this;exact h
  ·exact hΓ g vs e hg
 ·exact hΓ g vs e hg
theorem aLC{t:Ty}{x y:t.den}(h:aB.d t x=aB.d t y):x=y:=by injection h with _ h
theorem aLl{e:TypeId}{t:Ty}{x y:List t.den}(h:aB.vec e t x=aB.vec e t y):x=y:=by injection h with _ _ h
def lQ:List aB->Bool:=λ_=>true
def ax3:List aB->Bool | .cX::_=>true | _=>false
def af3:List aB->Bool | .bz .. ::_=>true | _=>false
@[simp] theorem aj{α:Type}(x y:Option α):aH true x y=x:=rfl
@[simp] theorem ao{α:Type}(x y:Option α):aH false x y=y:=rfl
@[simp] theorem ah{α β:Type}(x:α)(f:α->Option β):al (some x) f=f x:=rfl
@[simp] theorem Tl{α:Type}(c:u6)(x:Option α):same c c x=x:=by simp[same]
@[simp] theorem y5{α:Type}(x:Option α):nd x x=x:=by simp[nd]
structure SG(P:Program) where
 f:FuncId
 p:List aB->Bool
 e:Entry
 h:uU P f e
def kj{P:Program}:List (SG P)->ot
 |[]=>aNa
 |a::l=>at9 a.f a.p a.e (kj l)
theorem Sound.kj{P:Program}:∀l:List (SG P),Sound P (kj l)
 |[]=>Sound.nil P
 |a::l=>Sound.cons a.h (Sound.kj l)
abbrev SA:=List aB×List dE
def G4(P:Program)(G:ot)(an:wQ)(N:Nat)(fn:Func){D:Type}(st:D->SA){R:Type}(d:D)(k:fA->Option R):Option R:=akf P G an N fn (st d).1 (st d).2 k
def eG(P:Program)(G:ot)(an:wQ)(N:Nat)(fn:Func)(i:Nat){D:Type}(st:D->AS){R:Type}(d:D)(kn:AS->Option R)(kx:Exit->AS->Option R):Option R:=CK P G an N fn i (st d) kn kx
abbrev agp{D X Y:Type}(A: {R:Type}->D->(fA->Option R)->Option R)(fy:D->Prop)(add:D->Y->X)(F:D->Y)(out:X->fA):Prop:=∀d,fy d->A d some=some (out (add d (F d)))
abbrev lz(P:Program)(G:ot)(an:wQ)(N:Nat)(fn:Func)(i:Nat){D X Y:Type}(st:D->AS)(fy:D->Prop)(add:D->Y->X)(F:D->Y)(out:X->Out (Exit×AS)):Prop:=∀d,fy d->∃n,PN P G an N fn i n (st d) (λe s=>some (e,s))=(out (add d (F d))).eval
abbrev aAL{D X Y:Type}(R: {R:Type}->D->(AS->Option R)->(Exit->AS->Option R)->Option R)(st:D->AS)(fy:D->Prop)(add:D->Y->X)(F:D->Y)(ex:X->Exit×AS)(C:Prop):Prop:=∀μ:D->Nat,(∀d,fy d->(∃d',fy d'/\μ d' < μ d/\add d' (F d')=add d (F d)/\∀ {T:Type} (kn:AS->Option T) (kx:Exit->AS->Option T),R d kn kx=kn (st d'))\/(∀ {T:Type} (kn:AS->Option T) (kx:Exit->AS->Option T),R d kn kx=kx (ex (add d (F d))).1 (ex (add d (F d))).2))->C
abbrev om{D X Y:Type}(R: {R:Type}->D->(AS->Option R)->(Exit->AS->Option R)->Option R)(st:D->AS)(fy:D->Prop)(add:D->Y->X)(F:D->Y)(out:X->Out (Exit×AS))(C:Prop):Prop:=∀μ:D->Nat,(∀d,fy d->(∃d',fy d'/\μ d' < μ d/\add d' (F d')=add d (F d)/\∀ {T:Type} (kn:AS->Option T) (kx:Exit->AS->Option T),R d kn kx=kn (st d'))\/(∃r,(out (add d (F d))).eval=some r/\∀ {T:Type} (kn:AS->Option T) (kx:Exit->AS->Option T),R d kn kx=kx r.1 r.2))->C
abbrev aPl{D X Y:Type}(R: {R:Type}->D->(AS->Option R)->(Exit->AS->Option R)->Option R)(st:D->AS)(fy:D->Prop)(add:D->Y->X)(F:D->Y)(ex:X->Exit×AS)(C:Prop):Prop:=∀μ:D->Nat,(∀d,fy d->(∃(m:Nat) (d':Nat->D),0 < m/\(∀j,j < m->fy (d' j)/\μ (d' j) < μ d/\add (d' j) (F (d' j))=add d (F d))/\∀ {T:Type} (kn:AS->Option T) (kx:Exit->AS->Option T),R d kn kx=aCS m λj=>kn (st (d' j)))\/(∀ {T:Type} (kn:AS->Option T) (kx:Exit->AS->Option T),R d kn kx=kx (ex (add d (F d))).1 (ex (add d (F d))).2))->C
theorem aRM{P:Program}{G:ot}{an:wQ}{N:Nat}{fn:Func}{i:Nat}{D X Y:Type}{st:D->AS}{fy:D->Prop}{add:D->Y->X}{F:D->Y}{ex:X->Exit×AS}:aPl (eG P G an N fn i st) st fy add F ex (lz P G an N fn i st fy add F λx=> .ok (ex x)):=λ μ h=>aEy (F:=λd=>add d (F d)) (out:=λx=> .ok (ex x)) μ λd hp=>(h d hp).imp id λh=>⟨_,rfl,h⟩
abbrev aLy{D X Y:Type}(R: {R:Type}->D->(AS->Option R)->(Exit->AS->Option R)->Option R)(st:D->AS)(fy:D->Prop)(add:D->Y->X)(Post:D->Y->Prop)(ex:X->Exit×AS)(C:Prop):Prop:=∀μ:D->Nat,(∀d,fy d->(∃(m:Nat) (d':Nat->D),0 < m/\(∀j,j < m->fy (d' j)/\μ (d' j) < μ d/\∀y,Post (d' j) y->∃y',Post d y'/\add (d' j) y=add d y')/\∀ {T:Type} (kn:AS->Option T) (kx:Exit->AS->Option T),R d kn kx=aCS m λj=>kn (st (d' j)))\/(∃y,Post d y/\∀ {T:Type} (kn:AS->Option T) (kx:Exit->AS->Option T),R d kn kx=kx (ex (add d y)).1 (ex (add d y)).2))->C
theorem aPr{P:Program}{G:ot}{an:wQ}{N:Nat}{fn:Func}{i:Nat}{D X Y:Type}{st:D->AS}{fy:D->Prop}{add:D->Y->X}{Post:D->Y->Prop}{ex:X->Exit×AS}:aLy (eG P G an N fn i st) st fy add Post ex (atr P G an N fn i st fy add Post λx=> .ok (ex x)):=λ μ h=>aEz (out:=λx=> .ok (ex x)) μ λd hp=>(h d hp).imp (λh=>h) λ⟨y,hy,h⟩=>⟨y,_,hy,rfl,h⟩
theorem aMK{P:Program}{G:ot}{an:wQ}{N:Nat}{fn:Func}{i:Nat}{D X Y:Type}{st:D->AS}{fy:D->Prop}{add:D->Y->X}{F:D->Y}{ex:X->Exit×AS}:aAL (eG P G an N fn i st) st fy add F ex (lz P G an N fn i st fy add F λx=> .ok (ex x)):=λ μ h=>amt (F:=λd=>add d (F d)) μ h
theorem oE{P:Program}{G:ot}{an:wQ}{N:Nat}{fn:Func}{i:Nat}{D X Y:Type}{st:D->AS}{fy:D->Prop}{add:D->Y->X}{F:D->Y}{out:X->Out (Exit×AS)}:om (eG P G an N fn i st) st fy add F out (lz P G an N fn i st fy add F out):=λ μ h=>aut (F:=λd=>add d (F d)) (out:=out) μ h
def nF:List (Nat×od)->Nat->od
 |[],_=> {}
 |a::l,r=>bif ix r a.1 then a.2 else nF l r
def nE:List (Nat×od×od)->Nat->Bool->od
 |[],_,_=> {}
 |a::l,r,b=>bif ix r a.1 then(bif b then a.2.2 else a.2.1) else nE l r b
def nr.{v} {α:Type v}:List (Nat×α)->Nat->Option α
 |[],_=>none
 |a::l,r=>bif ix r a.1 then some a.2 else nr l r
inductive Lf where
 |d (t:Ty)
 |n
@[reducible] def Lf.den:Lf->Type
 | .d t=>t.den
 | .n=>Nat
@[reducible] def Lf.aAa:List Lf->Type
 |[]=>Unit
 |[a]=>a.den
 |a::b::l=>a.den×Lf.aAa (b::l)
abbrev aPn:=List (Sigma Lf.den)
def Lf.mk:(ts:List Lf)->Lf.aAa ts->aPn
 |[],_=> []
 |[a],x=> [⟨a,x⟩]
 |a::b::l,x=>⟨a,x.1⟩::Lf.mk (b::l) x.2
theorem Lf.mk_inj:∀(ts:List Lf) (x y:Lf.aAa ts),Lf.mk ts x=Lf.mk ts y->x=y
 |[],_,_,_=>rfl
 |[a],x,y,h=>by
  injection h with h _
  injection h
 |a::b::l,(x,u),(y,v),h=>by
  injection h with h h2
  injection h with _ h
  have h:x=y:=h;rw[h,Lf.mk_inj (b::l) u v h2]
def aB.leaves:aB->aPn
 | .d .unit _=> []
 | .d (.arr _ t) l=> [⟨.d (.slice t),l⟩]
 | .d t x=> [⟨.d t,x⟩]
 | .dO t x=> [⟨.d t,x⟩]
 | .vec _ t l=> [⟨.d (.slice t),l⟩]
 | .mp k v l=> [⟨.d (.slice (.pair k v)),l⟩]
 | .sJ _ _ k v l _=> [⟨.d (.slice (.pair k v)),l⟩]
 | .qZ _ f _=>f.leaves
 | .bz _ _ _ _ _ n=> [⟨.n,n⟩]
 | .pr a b=>a.leaves++b.leaves
 | .cons a b=>a.leaves++b.leaves
 | .fn _ c=>c.leaves
 | .bx _ _ c=>c.leaves
 |_=> []
def dE.leaves:dE->aPn
 | .obj _ _ c=>c.leaves
 | .dead=> []
def SA.leaves(s:SA):aPn:=s.1.flatMap aB.leaves++s.2.flatMap dE.leaves
def AS.leaves(s:AS):aPn:=s.cm.flatMap aB.leaves++(s.bV.flatMap dE.leaves++s.news.flatMap (·.flatMap dE.leaves))
theorem VZ(ts:List Lf){st:Lf.aAa ts->SA}(h:∀d,SA.leaves (st d)=Lf.mk ts d)(d d':Lf.aAa ts)(e:st d=st d'):d=d':=Lf.mk_inj ts d d' (by rw[<-h,<-h,e])
theorem jM(ts:List Lf){st:Lf.aAa ts->AS}(h:∀d,AS.leaves (st d)=Lf.mk ts d)(d d':Lf.aAa ts)(e:st d=st d'):d=d':=Lf.mk_inj ts d d' (by rw[<-h,<-h,e])
def Entry.fp{D X Y:Type}(params:List (Option Ty))(st:D->SA)(fy:D->Prop)(add:D->Y->X)(F:D->Y)(out:X->fA):Entry:=Entry.of params st fy (λd=>add d (F d)) out
def aUl{X Y:Type}(x:X⊕Y):Out (X⊕Y):= .br x.isLeft (.get x.getLeft? λa=> .ok (.inl a)) (.get x.getRight? λb=> .ok (.inr b))
theorem aOo{X Y:Type}(x y:X⊕Y)(h:(aUl x).eval=some y):y=x:=by cases x <;> exact(bl h).symm
def Entry.ac1{D X X' Y:Type}(params:List (Option Ty))(st:D->SA)(fy:D->Prop)(add:D->Y->X⊕X')(F:D->Y)(out:X⊕X'->fA):Entry:= {Entry.fp params st fy add F out with sp:=aUl,au2:=aOo}
theorem F0.aMh{P:Program}{y:Nat}{D X X' Y:Type}{params:List (Option Ty)}{st:D->SA}{fy:D->Prop}{add:D->Y->X⊕X'}{F:D->Y}{out:X⊕X'->fA}(h:F0 P y (Entry.fp params st fy add F out)):F0 P y (Entry.ac1 params st fy add F out):=h
theorem qA.aMh{P:Program}{f:FuncId}{D X X' Y:Type}{params:List (Option Ty)}{st:D->SA}{fy:D->Prop}{add:D->Y->X⊕X'}{F:D->Y}{out:X⊕X'->fA}(h:qA P f (Entry.fp params st fy add F out)):qA P f (Entry.ac1 params st fy add F out):=h
def Entry.V4{D X Y:Type}(params:List (Option Ty))(st:D->SA)(fy:D->Prop)(add:D->Y->X)(Post:D->Y->Prop)(out:X->fA):Entry:= {params,X,run:=λ_ _=>none,out:=λ_ _ x=>out x,rel:=true,set:=λargs bV x=>∃d,st d=(args,bV)/\fy d/\∃y,Post d y/\x=add d y}
def aKX{D:Type}(E:Entry)(st:D->SA):D->E.X->Prop:=λd=>E.set (st d).1 (st d).2
theorem aGf{D X Y:Type}{params:List (Option Ty)}{st:D->SA}{fy:D->Prop}{add:D->Y->X}{Post:D->Y->Prop}{out:X->fA}(MV:∀d d',st d=st d'->d=d'):avp (aKX (Entry.V4 params st fy add Post out) st) fy add Post:=λh h1 h2=>by
 obtain⟨y,hy⟩:=h1;refine at3 ⟨_,_,rfl,h,y,hy,rfl⟩ λx hx=> ?_
 obtain⟨d',h3,_,y',h4,rfl⟩:=hx;obtain rfl:=MV _ _ h3;exact h2 y' h4
abbrev atp{D X Y:Type}(A: {R:Type}->D->(fA->Option R)->Option R)(fy:D->Prop)(add:D->Y->X)(Post:D->Y->Prop)(out:X->fA):Prop:=∀d,fy d->∀k:fA->Option Unit,(∀y,Post d y->k (out (add d y))=some ())->A d k=some ()
def dC.fp{D X Y:Type}(st:D->AS)(fy:D->Prop)(add:D->Y->X)(F:D->Y)(out:X->Out (Exit×AS)):dC:=dC.of st fy (λd=>add d (F d)) out
def Kv{D:Type}(E:Entry)(st:D->SA):D->Option E.X:=λd=>E.run (st d).1 (st d).2
def gS{D:Type}(E:dC)(st:D->AS):D->Option E.X:=λd=>E.run (st d)
abbrev jf{D X Y:Type}(call:D->Option X)(fy:D->Prop)(add:D->Y->X)(F:D->Y):Prop:=∀ {d:D},fy d->call d=some (add d (F d))
theorem aQG{D X Y:Type}{params:List (Option Ty)}{st:D->SA}{fy:D->Prop}{add:D->Y->X}{F:D->Y}{out:X->fA}(MV:∀d d',st d=st d'->d=d'):jf (Kv (Entry.fp params st fy add F out) st) fy add F:=λh=>Entry.vk MV h
theorem aaY{D X X' Y:Type}{params:List (Option Ty)}{st:D->SA}{fy:D->Prop}{add:D->Y->X⊕X'}{F:D->Y}{out:X⊕X'->fA}(MV:∀d d',st d=st d'->d=d'){d:D}(h:fy d):(Entry.ac1 params st fy add F out).run (st d).1 (st d).2=some (add d (F d)):=aQG (params:=params) (out:=out) MV h
theorem nf{D X Y:Type}{st:D->AS}{fy:D->Prop}{add:D->Y->X}{F:D->Y}{out:X->Out (Exit×AS)}(MV:∀d d',st d=st d'->d=d'):jf (gS (dC.fp st fy add F out) st) fy add F:=λh=>dC.vk MV h
def awQ(P:Program)(fn:Func):Bool:=P.follows .mixedOrders && fn.body.isSome && !(fn.name== "runtime.NumGoroutine")
def awU(fn:Func):Nat:=match fn.body with | some c=>(js c).length | none=>0
theorem qA.fn{P:Program}{l:List (SG P)}{f:FuncId}{fn:Func}{an:wQ}{N:Nat}{D X Y:Type}{params:List (Option Ty)}{st:D->SA}{fy:D->Prop}{add:D->Y->X}{F:D->Y}{out:X->fA}(n:Nat)
  (hc:(P.funcs[f]?,awQ P fn,awU fn)=(some fn,true,n))
  (h:agp (@G4 P (kj l) an N fn D st) fy add F out)
  (hL:aAN P (kj l) an N fn n 0) (ahR:an.lp=none:=by exact rfl):qA P f (Entry.fp params st fy add F out):=by
 injection hc with h1 h2
 injection h2 with h2 h3
 unfold awQ at h2;simp only[au,cv]at h2;exact qA.of h2.1.1 (Sound.kj l) h1 h2.1.2 h2.2 (jR.fn n h3 hL) h ahR
theorem N4.fn{P:Program}{l:List (SG P)}{f:FuncId}{fn:Func}{an:wQ}{N:Nat}{D X Y:Type}{params:List (Option Ty)}{st:D->SA}{fy:D->Prop}{add:D->Y->X}{Post:D->Y->Prop}{out:X->fA}(n:Nat)
  (hc:(P.funcs[f]?,awQ P fn,awU fn)=(some fn,true,n))
  (h:atp (@G4 P (kj l) an N fn D st) fy add Post out)
  (hL:aAN P (kj l) an N fn n 0) (ahR:an.lp=none:=by exact rfl):N4 P f (Entry.V4 params st fy add Post out):=by
 injection hc with h1 h2
 injection h2 with h2 h3
 unfold awQ at h2;simp only[au,cv]at h2;refine N4.vk h2.1.1 (Sound.kj l) h1 h2.1.2 h2.2 (jR.fn n h3 hL) (λargs bV hx=> ?_) ahR;obtain⟨x,d,e,hp,y,hy,rfl⟩:=hx;have:=h d hp (λG=>aN3 (∃x,(Entry.V4 params st fy add Post out).set args bV x/\G=(Entry.V4 params st fy add Post out).out args bV x)) λy hy=>aEU ⟨_,⟨d,e,hp,y,hy,rfl⟩,rfl⟩
 unfold G4 at this;rw[e]at this;exact this
theorem F0.fn{P:Program}{l:List (SG P)}{y:Nat}{an:wQ}{N:Nat}{D X Y:Type}{params:List (Option Ty)}{st:D->SA}{fy:D->Prop}{add:D->Y->X}{F:D->Y}{out:X->fA}(n:Nat)
  (hc:(P.follows .mixedOrders,awU (aLx P y))=(true,n))
  (h:agp (@G4 P (kj l) an N (aLx P y) D st) fy add F out)
  (hL:aAN P (kj l) an N (aLx P y) n 0) (ahR:an.lp=some y):F0 P y (Entry.fp params st fy add F out):=by
 injection hc with h1 h2
 refine F0.vk h1 (Sound.kj l) (fn:=aLx P y) (jR.fn (fn:=aLx P y) n h2 hL _ rfl) (λargs bV x hx=> ?_) ahR;obtain⟨d,e1,e2,rfl⟩:=auC hx;have:=h d e2;unfold G4 at this;rw[e1]at this;exact this
theorem atq.fp{P:Program}{Γ:ot}{an:wQ}{N:Nat}{fn:Func}{i:Nat}{D X Y:Type}{st:D->AS}{fy:D->Prop}{add:D->Y->X}{F:D->Y}{out:X->Out (Exit×AS)}
  (h:lz P Γ an N fn i st fy add F out) (hle:an.fw (dL (oP fn i))=some (dC.fp st fy add F out):=by kernel_rfl):atq P Γ an N (oP fn i):=atq.of hle h
abbrev K1(R:Type):=fA->Option R
abbrev K2(R:Type):=AS->Option R
abbrev K3(R:Type):=Exit->AS->Option R
@[reducible] def bn{D Y:Type}(_:D)(y:Y):Y:=y
structure Ls{D Y X:Type}(fy:D->Prop)(add:D->Y->X)(F:D->Y) where
 st:D->AS
 ex:X->Exit×AS
noncomputable def qz{D Y X:Type}{fy:D->Prop}{add:D->Y->X}{F:D->Y}(st:D->AS)(ex:X->Exit×AS):Ls fy add F:=⟨st,ex⟩
section
variable {D Y X:Type} {fy:D->Prop} {add:D->Y->X} {F:D->Y} (L:Ls fy add F)
def Ls.out:X->Out (Exit×AS):=λx=> .ok (L.ex x)
def Ls.E:dC:=dC.fp L.st fy add F L.out
def Ls.call:D->Option X:=gS L.E L.st
abbrev Ls.go{R:Type}(kx:K3 R)(x:X):Option R:=kx (L.ex x).1 (L.ex x).2
abbrev Ls.RS:Prop:=jf L.call fy add F
end
theorem rL(ts:List Lf){Y X:Type}{fy:Lf.aAa ts->Prop}{add:Lf.aAa ts->Y->X}{F:Lf.aAa ts->Y}(L:Ls fy add F)(h:∀d,AS.leaves (L.st d)=Lf.mk ts d:=by exact λ_=>bX):jf L.call fy add F:=nf (jM ts h)
structure Fs(P:Program){D Y X:Type}(fy:D->Prop)(add:D->Y->X)(F:D->Y) where
 i:FuncId
 fn:Func
 st:D->SA
 out:X->fA
 ps:List (Option Ty)
 G:List (SG P)
 an:wQ
 N:Nat
noncomputable def eK{P:Program}{D Y X:Type}{fy:D->Prop}{add:D->Y->X}{F:D->Y}(i:FuncId)(fn:Func)(st:D->SA)(out:X->fA)(ps:List (Option Ty))(G:List (SG P):=[])(an:wQ:= {})(N:Nat:=0):Fs P fy add F:=⟨i,fn,st,out,ps,G,an,N⟩
section
variable {P:Program} {D Y X:Type} {fy:D->Prop} {add:D->Y->X} {F:D->Y} (f:Fs P fy add F) {D' Y' X':Type} {Pre':D'->Prop} {add':D'->Y'->X'} {F':D'->Y'}
def Fs.A{R:Type}(d:D)(k:K1 R):Option R:=G4 P (kj f.G) f.an f.N f.fn f.st d k
def Fs.R(i:Nat)(L:Ls Pre' add' F'){R:Type}(d:D')(kn:K2 R)(kx:K3 R):Option R:=eG P (kj f.G) f.an f.N f.fn i L.st d kn kx
abbrev Fs.Ok:Prop:=∀d,fy d->f.A d some=some (f.out (add d (F d)))
abbrev Fs.jR(i:Nat)(L:Ls Pre' add' F'):Prop:=lz P (kj f.G) f.an f.N f.fn i L.st Pre' add' F' L.out
def Fs.E:Entry:=Entry.fp f.ps f.st fy add F f.out
def Fs.call:D->Option X:=Kv f.E f.st
theorem Fs.lp(i:Nat)(L:Ls Pre' add' F'):aAL (@Fs.R P D Y X fy add F f D' Y' X' Pre' add' F' i L) L.st Pre' add' F' L.ex (f.jR i L):=λ μ h=>amt (F:=λd=>add' d (F' d)) μ h
theorem Fs.aTe(i:Nat)(L:Ls Pre' add' F'):aPl (@Fs.R P D Y X fy add F f D' Y' X' Pre' add' F' i L) L.st Pre' add' F' L.ex (f.jR i L):=aRM
abbrev Fs.RS:Prop:=jf f.call fy add F
def Fs.aRw(p:List aB->Bool)(ok:f.Ok)(n:Nat:=0)(hL:aAN P (kj f.G) f.an f.N f.fn n 0:=by exact trivial)(hc:(P.funcs[f.i]?,awQ P f.fn,awU f.fn)=(some f.fn,true,n):=by kernel_rfl)(hy:Nat.blt f.i yB=true:=by exact rfl)(hn:f.an.lp=none:=by exact rfl):SG P:=⟨f.i,p,f.E,.of (qA.fn n hc ok hL hn) hy⟩
def Fs.aVA(ok:f.Ok)(n:Nat:=0)(hL:aAN P (kj f.G) f.an f.N f.fn n 0:=by exact trivial)(hc:(P.follows .mixedOrders,awU (aLx P f.i))=(true,n):=by kernel_rfl)(hf:f.fn=aLx P f.i:=by exact rfl)(hy:Nat.ble yB f.i=true:=by exact rfl)(hn:f.an.lp=some f.i:=by exact rfl):SG P:=
 ⟨f.i,lQ,f.E,.aUe (F0.fn n hc (by have:=ok;unfold Fs.Ok Fs.A at this;rw[hf]at this;exact this) (by rw[<-hf];exact hL) hn) hy⟩
def Fs.eP(ok:f.Ok)(n:Nat:=0)(hL:aAN P (kj f.G) f.an f.N f.fn n 0:=by exact trivial)(hc:(P.funcs[f.i]?,awQ P f.fn,awU f.fn)=(some f.fn,true,n):=by kernel_rfl)(hy:Nat.blt f.i yB=true:=by exact rfl)(hn:f.an.lp=none:=by exact rfl):SG P:=f.aRw lQ ok n hL hc hy hn
end
theorem rE(ts:List Lf){P:Program}{Y X:Type}{fy:Lf.aAa ts->Prop}{add:Lf.aAa ts->Y->X}{F:Lf.aAa ts->Y}(f:Fs P fy add F)(h:∀d,SA.leaves (f.st d)=Lf.mk ts d:=by exact λ_=>bX):jf f.call fy add F:=aQG (VZ ts h)
abbrev tu:Ty:=(.int .u64)
abbrev ti:Ty:=(.int .i64)
abbrev tb:Ty:=(.int .u8)
abbrev tB:Ty:=(.slice tb)
abbrev Bs:=(List Int)
abbrev tH:Ty:=(.arr 32 tb)
abbrev tU:Ty:=(.slice tu)
abbrev aW:Ty:=(.pair tH (.pair ti .unit))
abbrev bu:=(Bs×(Int×Unit))
abbrev zQ:Ty:=(.pair tu (.pair tu .unit))
abbrev Sg:=(Int×(Int×Unit))
abbrev azH:Ty:=(.pair ti (.pair (.slice zQ) (.pair tu .unit)))
abbrev VQ:=(Int×((List Sg)×(Int×Unit)))
abbrev fX:Ty:=(.pair aW (.pair azH .unit))
abbrev gz:=(bu×(VQ×Unit))
abbrev km:Ty:=(.pair tU (.pair ti (.pair ti (.pair tu .unit))))
abbrev nV:=(Bs×(Int×(Int×(Int×Unit))))
abbrev N0:Ty:=(.pair (.slice km) .unit)
abbrev Lk:=((List nV)×Unit)
abbrev iX:Ty:=(.pair ti (.pair N0 .unit))
abbrev gG:=(Int×(Lk×Unit))
abbrev eJ:Ty:=(.pair (.slice fX) (.pair (.slice iX) (.pair ti .unit)))
abbrev dD:=((List gz)×((List gG)×(Int×Unit)))
abbrev th:Ty:=(.pair tB (.pair .bool .unit))
abbrev gA:=(Bs×(Bool×Unit))
abbrev aVF:Ty:=(.pair ti (.pair (.gR zQ) (.pair tu .unit)))
abbrev aRE:=(Int×((Option (List Sg))×(Int×Unit)))
abbrev ra:Ty:=(.pair aW (.pair aVF .unit))
abbrev zU:=(bu×(aRE×Unit))
end Go.Ab
namespace Go.Ab
theorem tW{n:Int}(h1: -9223372036854775808<=n)(h2:n<=9223372036854775807):IntKind.i64.wrap n=n:=by simp[IntKind.wrap,IntKind.bits,IntKind.signed];split <;> omega
theorem fG{x y:Int}(h1: -9223372036854775808<=x+y)(h2:x+y<=9223372036854775807):bI .i64 x y=x+y:=tW h1 h2
theorem eC{x y:Int}(h1: -9223372036854775808<=x - y)(h2:x - y<=9223372036854775807):cK .i64 x y=x - y:=tW h1 h2
theorem HI{x y:Int}(h1: -9223372036854775808<=x*y)(h2:x*y<=9223372036854775807):fZ .i64 x y=x*y:=tW h1 h2
theorem aJF{x:Int}(h1: -9223372036854775808<=x)(h2:x<=9223372036854775807):dV .i64 x=x:=tW h1 h2
def vw{n:Nat}(w:BitVec n):Int:=(w.toNat:Int)
theorem gQ(n:Nat)(x:Int):vw (ba n x)=x%((2^n:Nat):Int):=by unfold vw;rw[rP];have:0<=x%((2^n:Nat):Int):=kr _ (by have:=Nat.two_pow_pos n;omega);omega
theorem TE{n:Nat}(w:BitVec n):0<=vw w:=gE _
theorem aHe{n:Nat}(w:BitVec n):vw w < ((2^n:Nat):Int):=by have:=w.isLt;unfold vw;omega
theorem uj{n:Nat}(w:BitVec n):ba n (vw w)=w:=by apply BitVec.eq_of_toNat_eq;have:=gQ n (vw w);unfold vw at this ⊢;have h:=w.isLt;rw[eW (gE _) ak]at this;omega
theorem wrap_u32(x:Int):IntKind.u32.wrap x=vw (ba 32 x):=by rw[gQ];simp[IntKind.wrap,IntKind.bits,IntKind.signed]
theorem wrap_u64(x:Int):IntKind.u64.wrap x=vw (ba 64 x):=by rw[gQ];simp[IntKind.wrap,IntKind.bits,IntKind.signed]
theorem wrap_u8(x:Int):IntKind.u8.wrap x=vw (ba 8 x):=by rw[gQ];simp[IntKind.wrap,IntKind.bits,IntKind.signed]
theorem ofInt_add(n:Nat)(x y:Int):ba n (x+y)=ba n x+ba n y:=BitVec.ofInt_add ..
theorem DD(x y:BitVec 32):bI .u32 (vw x) (vw y)=vw (x+y):=by rw[bI,wrap_u32,BitVec.ofInt_add,uj,uj]
theorem aue(x:Int):dV .u32 x=vw (ba 32 x):=wrap_u32 x
theorem WM(x:Int):dV .u64 x=vw (ba 64 x):=wrap_u64 x
theorem Sp(x:Int):dV .u8 x=vw (ba 8 x):=wrap_u8 x
theorem aEM{n:Nat}(x:BitVec n):ba n ((x.toNat:Nat):Int)=x:=uj x
theorem pR(op:BinOp)(x y:BitVec 32):cF op .u32 (vw x) (vw y)=vw (match op with | .and=>x &&& y | .or=>x ||| y | .xor=>x^^^y | _=>x &&& ~~~y):=by unfold cF;split <;> (simp only[IntKind.bits,uj,wrap_u32,aEM];rfl)
theorem avF(op:BinOp)(x y:BitVec 64):cF op .u64 (vw x) (vw y)=vw (match op with | .and=>x &&& y | .or=>x ||| y | .xor=>x^^^y | _=>x &&& ~~~y):=by unfold cF;split <;> (simp only[IntKind.bits,uj,wrap_u64,aEM];rfl)
theorem aDa(x y:Nat):Int.fdiv (x:Int) (y:Int)=((x / y:Nat):Int):=by rw[jU _ (gE _)];rfl
theorem Q5(k:Nat):(2:Int)^k=((2^k:Nat):Int):=by simp
theorem aOj{n:Nat}(w:BitVec n)(k:Nat):Int.fdiv (vw w) (2^(min k n))=vw (w >>> k):=by
 rw[Q5];unfold vw;rw[aDa,BitVec.toNat_ushiftRight,Nat.shiftRight_eq_div_pow];congr 1;rcases Nat.le_total k n with hk | hk
 ·rw[fO hk]
 ·rw[Nat.min_eq_right hk,Nat.div_eq_of_lt w.isLt,Nat.div_eq_of_lt];exact Nat.lt_of_lt_of_le w.isLt (Nat.pow_le_pow_right ak hk)
theorem HL(w:BitVec 32)(k:Int):ct .u32 (vw w) k=vw (w >>> k.toNat):=aOj w k.toNat
theorem aOi{n:Nat}(w:BitVec n)(k:Nat):ba n (vw w*2^(min k n))=w <<< k:=by
 apply BitVec.eq_of_toNat_eq;rw[rP,BitVec.toNat_shiftLeft,Nat.shiftLeft_eq];unfold vw;rw[Q5];have e:((w.toNat:Int)*((2^min k n:Nat):Int))=((w.toNat*2^min k n:Nat):Int):=by simp
 rw[e];have:(((w.toNat*2^min k n:Nat):Int)%((2^n:Nat):Int)).toNat=(w.toNat*2^min k n)%2^n:=ak;rw[this];rcases Nat.le_total k n with hk | hk
 ·rw[fO hk]
 ·rw[Nat.min_eq_right hk,Nat.mul_mod_left];obtain⟨m,rfl⟩:=Nat.exists_eq_add_of_le hk;rw[ov,<-Nat.mul_assoc,Nat.mul_right_comm,Nat.mul_mod_left]
theorem Py(w:BitVec 32)(k:Int):l7 .u32 (vw w) k=vw (w <<< k.toNat):=by rw[l7,wrap_u32];congr 1;exact aOi w k.toNat
theorem bg{i n:Int}(h1:0<=i)(h2:i < n):eg i n=true:=by simp[eg,h1,h2]
theorem tY{i n:Int}(h1:0<=i)(h2:i<=n):inc i n=true:=by simp[inc,h1,h2]
theorem aU{x y:Int}(h:x < y):fR x y=true:=by simp[fR,h]
theorem aP{x y:Int}(h:¬x < y):fR x y=false:=by simp[fR];omega
theorem oS{x y:Int}(h:x<=y):ajU x y=true:=by simp[ajU,h]
theorem l5{x y:Int}(h:¬x<=y):ajU x y=false:=by simp[ajU];omega
theorem di{x y:Int}(h:x > y):w7 x y=true:=by simp[w7];omega
theorem cG{x y:Int}(h:¬x > y):w7 x y=false:=by simp[w7];omega
theorem fY{x y:Int}(h:x>=y):BS x y=true:=by simp[BS];omega
theorem eA{x y:Int}(h:¬x>=y):BS x y=false:=by simp[BS];omega
theorem dp{x y:Int}(h:x=y):qQ x y=true:=by simp[qQ,h]
theorem eO{x y:Int}(h:¬x=y):qQ x y=false:=by simp[qQ,h]
theorem fe{x y:Int}(h:¬x=y):BT x y=true:=by simp[BT,h]
theorem dA{x y:Int}(h:x=y):BT x y=false:=by simp[BT,h]
theorem sQ{x:Int}(h:0<=x):me x=true:=by simp[me,h]
theorem aI{p:Prop} [Decidable p] (h:p):decide p=true:=by simp[h]
theorem aT{p:Prop} [Decidable p] (h:¬p):decide p=false:=by simp[h]
theorem dh{n b:Nat}(h:n*b<=140737488355328)(h2:n<=9223372036854775807):cV n b=true:=by simp[cV,h,h2]
def from_{α:Type}(f:Nat->α->α)(t:Nat)(l:List α):List α:=l.mapIdx λi x=>if i < t then x else f i x
theorem JF{α:Type}(f:Nat->α->α)(l:List α)(t:Nat)(h:t < l.length):from_ f (t+1) (l.set t (f t l[t]))=from_ f t l:=by
 unfold from_;apply List.ext_getElem (by simp);intro i h1 h2;simp only[List.getElem_mapIdx,List.getElem_set];by_cases hi:t=i
 ·subst hi;simp
 ·simp only[if_neg hi];by_cases h3:i < t
  ·rw[if_pos ak,if_pos h3]
  ·rw[if_neg ak,if_neg h3]
theorem Pe{α:Type}(f:Nat->α->α)(l:List α)(t:Nat)(h:l.length<=t):from_ f t l=l:=by unfold from_;apply List.ext_getElem (by simp);intro i h1 h2;simp only[List.getElem_mapIdx];rw[if_pos ak]
theorem YA{α:Type}(f:Nat->α->α)(n:Nat)(x:α):from_ f 0 (ab n x)=(List.range n).map λi=>f i x:=by unfold from_;apply List.ext_getElem (by simp);intro i h1 h2;simp
theorem bW{t:Ty}{l:List t.den}{i:Nat}(h:i < l.length):nth t l i=l[i]:=by simp[nth,h]
end Go.Ab
namespace Go.Ab.N
section
variable {α:Type} {x y:Option α} {a b n:Nat} {i j:Int}
theorem lt:aH (fR i j) x y=if i < j then x else y:=by unfold fR;split <;> rename_i h <;> simp[h]
theorem le:aH (ajU i j) x y=if i<=j then x else y:=by unfold ajU;split <;> rename_i h <;> simp[h]
theorem gt:aH (w7 i j) x y=if j < i then x else y:=by unfold w7;split <;> rename_i h <;> simp[h]
theorem ge:aH (BS i j) x y=if j<=i then x else y:=by unfold BS;split <;> rename_i h <;> simp[h]
theorem eq:aH (qQ i j) x y=if i=j then x else y:=by
 by_cases h:i=j
 ·rw[dp h,if_pos h];rfl
 ·rw[eO h,if_neg h];rfl
theorem ne:aH (BT i j) x y=if i=j then y else x:=by
 by_cases h:i=j
 ·rw[dA h,if_pos h];rfl
 ·rw[fe h,if_neg h];rfl
theorem ib:aH (eg i j) x y=if 0<=i/\i < j then x else y:=by unfold eg;split <;> rename_i h <;> simp[h]
theorem ic:aH (inc i j) x y=if 0<=i/\i<=j then x else y:=by unfold inc;split <;> rename_i h <;> simp[h]
theorem nn:aH (me i) x y=if 0<=i then x else y:=by unfold me;split <;> rename_i h <;> simp[h]
theorem nz:aH (rk i) x y=if i=0 then y else x:=by unfold rk;split <;> rename_i h <;> simp[h]
theorem dc{p:Prop} [Decidable p]:aH (decide p) x y=if p then x else y:=by split <;> rename_i h <;> simp[h]
theorem rm:aH (cV n b) x y=if n*b<=140737488355328/\n<=9223372036854775807 then x else y:=by unfold cV;exact dc
theorem an{c d:Bool}:aH (c && d) x y=aH c (aH d x y) y:=by cases c <;> rfl
theorem or{c d:Bool}:aH (c || d) x y=aH c x (aH d x y):=by cases c <;> rfl
theorem no{c:Bool}:aH (!c) x y=aH c y x:=by cases c <;> rfl
theorem aQ3(h:a+b<=9223372036854775807):bI .i64 (a:Int) (b:Int)=((a+b:Nat):Int):=by rw[fG ak ak];omega
theorem mu(h:a+OfNat.ofNat n<=9223372036854775807):bI .i64 (a:Int) (no_index (OfNat.ofNat n))=((a+OfNat.ofNat n:Nat):Int):=aQ3 h
theorem aTD(h:OfNat.ofNat n+a<=9223372036854775807):bI .i64 (no_index (OfNat.ofNat n)) (a:Int)=((OfNat.ofNat n+a:Nat):Int):=aQ3 h
theorem aRv(h:b<=a)(h2:a<=9223372036854775807):cK .i64 (a:Int) (b:Int)=((a - b:Nat):Int):=by rw[eC ak ak];omega
theorem aUk(h:OfNat.ofNat n<=a)(h2:a<=9223372036854775807):cK .i64 (a:Int) (no_index (OfNat.ofNat n))=((a - OfNat.ofNat n:Nat):Int):=aRv h h2
theorem aUj(h:a<=OfNat.ofNat n)(h2:(OfNat.ofNat n:Nat)<=9223372036854775807):cK .i64 (no_index (OfNat.ofNat n)) (a:Int)=((OfNat.ofNat n - a:Nat):Int):=aRv h h2
theorem aRs(h:a*b<=9223372036854775807):fZ .i64 (a:Int) (b:Int)=((a*b:Nat):Int):=by
 have e:(a:Int)*(b:Int)=((a*b:Nat):Int):=by simp
 rw[HI ak ak,e]
theorem aUc(h:a*OfNat.ofNat n<=9223372036854775807):fZ .i64 (a:Int) (no_index (OfNat.ofNat n))=((a*OfNat.ofNat n:Nat):Int):=aRs h
theorem aQw(h:OfNat.ofNat n*a<=9223372036854775807):fZ .i64 (no_index (OfNat.ofNat n)) (a:Int)=((OfNat.ofNat n*a:Nat):Int):=aRs h
theorem aS6(h:a<=9223372036854775807):tf .i64 (a:Int) (b:Int)=((a / b:Nat):Int):=by
 have:(a:Int).tdiv (b:Int)=((a / b:Nat):Int):=by rw[jV ak];simp
 have hl:a / b<=a:=Nat.div_le_self a b;unfold tf;rw[this];generalize a / b=c at hl;exact tW ak ak
theorem aS5(h:a<=9223372036854775807):tf .i64 (a:Int) (no_index (OfNat.ofNat n))=((a / OfNat.ofNat n:Nat):Int):=aS6 h
theorem aS7:mq (a:Int) (b:Int)=((a%b:Nat):Int):=by unfold mq;rw[gX ak];simp
theorem aRu:mq (a:Int) (no_index (OfNat.ofNat n))=((a%OfNat.ofNat n:Nat):Int):=aS7
theorem cN(h:a<=9223372036854775807):dV .i64 (a:Int)=(a:Int):=aJF ak ak
theorem cL(h:(OfNat.ofNat n:Nat)<=9223372036854775807):dV .i64 (no_index (OfNat.ofNat n))=OfNat.ofNat n:=cN h
theorem tL:ae (no_index (OfNat.ofNat n))=OfNat.ofNat n:=rfl
end
end Go.Ab.N
namespace Go.Ab
section
variable {P:Program}
theorem aC4{E E':Env}(h1:E'.w=E.w)(h2:E'.g=E.g)(h3:E'.β=E.β)(h4:E'.s=E.s):E'=E:=by obtain⟨a,b,c,d⟩:=E;obtain⟨a',b',c',d'⟩:=E';simp only at h1 h2 h3 h4;subst h1 h2 h3 h4;rfl
theorem tj.same{w:World}{g:Nat->lU}{β:Id->Option Pl}{bV:List dE}{a:aB}{v:Value}(hv:VS ((fC bV).env w g β) a v)(ho:iI ((fC bV).env w g β)):
  tj ((fC bV).env w g β) ⟨a,bV,[]⟩ v w:=by
 have hE:(fA.st ⟨a,bV,[]⟩).env w g β=(fC bV).env w g β:=by
  refine aC4 rfl rfl rfl ?_
  funext id;cases id with
  |bj k=>rfl
  |new i j=>
   show([([]:List dE)].getD i [])[j]? =(([]:List (List dE)).getD i [])[j]?
   cases i <;> rfl
 refine⟨g,β,?_⟩;rw[hE];exact⟨hv,ho,Trans.refl w g,cM.refl _⟩
theorem qA.extern{f:FuncId}{fn:Func}{e:Array Value->Sem Value}(hf:P.funcs[f]? =some fn)(Av:(fn.name== "runtime.NumGoroutine")=false)(hb:fn.body.isNone=true)(hn:Extern.findNext fn=none)(he:Extern.find fn=some e){en:Entry}
  (h:∀w g β args bV iO x,xS ((fC bV).env w g β) args iO->iI ((fC bV).env w g β)->en.run args bV=some x->∃v,(e iO.toArray).run P w= .ok v w/\tj ((fC bV).env w g β) (en.out args bV x) v w):qA P f en:=by
 intro w g β args bV iO x h1 h2 h3;obtain⟨v,h4,h5⟩:=h w g β args bV iO x h1 h2 h3;refine .inr ⟨v,w,?_,h5⟩;rw[run_callFunc_extern hf Av hb hn he,h4];rfl
def aL9.E:Entry:= {params:=[none],X:=Unit,run:=λargs _=>match args with | [_]=>some () | _=>none,out:=λargs bV _=>⟨args.headD .undef,bV,[]⟩}
theorem aL9.of{f:FuncId}{fn:Func}(hf:P.funcs[f]? =some fn)(Av:(fn.name== "runtime.NumGoroutine")=false)(hb:fn.body.isNone=true)(hn:Extern.findNext fn=none)(he:Extern.find fn=some Extern.AbiNoEscape.same):qA P f aL9.E:=by
 refine qA.extern hf Av hb hn he λw g β args bV iO x h1 h2 h3=> ?_
 cases args with
 |nil=>cases h3
 |cons a as=>
  cases as with
  |cons _ _=>cases h3
  |nil=>
   cases iO with
   |nil=>exact h1.elim
   |cons v vs=>
    obtain⟨h4,h5⟩:=h1;cases vs with
    |cons _ _=>exact h5.elim
    |nil=>exact⟨v,rfl,tj.same h4 h2⟩
theorem afU{w:World}:∀(xs:List Int) (a:Addr) (acc:ByteArray),(∀j x,xs[j]? =some x->w.cell? (a.add j)=some (.int .u8 x))->
  (Extern.Bytes.loadBytes a xs.length acc).run P w= .ok ⟨acc.data++(xs.map λn=>fb n.toNat).toArray⟩ w
 |[],a,acc,_=>by simp[Extern.Bytes.loadBytes]
 |x::l,a,acc,h=>by
  have h0:w.cell? a=some (.int .u8 x):=by have:=h 0 x rfl;simpa[Addr.add]using this
  have ih:=afU l (a.add 1) (acc.push x.toNat.toUInt8) (λj y hy=>by
   have:=h (j+1) y (by simpa using hy);have e:(a.add 1).add j=a.add (j+1):=by
    unfold Addr.add;by_cases hj:j=0
    ·subst hj;simp
    ·simp[hj];omega
   rw[e];exact this)
  simp only[aA,Extern.Bytes.loadBytes,Sem.run_bind,run_load,h0,Result.andThen];rw[ih];congr 1;apply ByteArray.ext;simp[ByteArray.push]
theorem aaZ{E:Env}{l:List Int}{y:Value}(h:VS E (.d (.slice (.int .u8)) l) y):(Extern.Bytes.bytesOf y).run P E.w= .ok (fj l) E.w:=by
 obtain⟨a,cap,vs,rfl,_,hs,r9,v7⟩:=uu h;have Uu:=wY (k:= .u8) (vs:=vs) (l:=l) v7;cases a with
 |none=>
  have hl:l=[]:=by
   cases l with
   |nil=>rfl
   |cons _ _=>simp at hs
  subst hl;rfl
 |some ad=>
  have aDz:=afU (P:=P) (w:=E.w) l ad .empty λj x hx=>by
   obtain⟨b,off,e,hh⟩:=r9 j (.int .u8 x) (by rw[Uu];simp[hx]);have e:ad=⟨b,off,none⟩:=by simpa using e
   subst e;have h1:=hh.1;unfold Addr.add;by_cases hj:j=0
   ·subst hj;simpa using h1
   ·simpa[hj]using h1
  show(Extern.Bytes.loadBytes ad l.length .empty).run P E.w=_;rw[aDz];congr 1;apply ByteArray.ext;simp[fj]
def acI(a b:List Int):Int:=Extern.BytealgCompare.cmp (fj a) (fj b)
def atx:Entry:=Entry.of (D:=List Int×List Int) (X:=Int) [some (.slice (.int .u8)),some (.slice (.int .u8))] (λd=>([.d (.slice (.int .u8)) d.1,.d (.slice (.int .u8)) d.2],[])) (λ_=>True) (λd=>acI d.1 d.2) (λx=>⟨.d (.int .i64) x,[],[]⟩)
theorem aIf:∀d d':List Int×List Int,(([aB.d (.slice (.int .u8)) d.1,aB.d (.slice (.int .u8)) d.2],([]:List dE)):List aB×List dE)=([.d (.slice (.int .u8)) d'.1,.d (.slice (.int .u8)) d'.2],[])->d=d':=by rintro⟨a,b⟩ ⟨a',b'⟩ h;have e1:a=a':=aLC (t:= .slice (.int .u8)) (bm (λs:List aB×List dE=>s.1.getD 0 .undef) h);have e2:b=b':=aLC (t:= .slice (.int .u8)) (bm (λs:List aB×List dE=>s.1.getD 1 .undef) h);rw[e1,e2]
def akh:List Int×List Int->Option Int:=λd=>atx.run [.d (.slice (.int .u8)) d.1,.d (.slice (.int .u8)) d.2] []
theorem aty(d:List Int×List Int):akh d=some (acI d.1 d.2):=Entry.vk (d:=d) aIf trivial
theorem aMv{f:FuncId}{fn:Func}(hf:P.funcs[f]? =some fn)(Av:(fn.name== "runtime.NumGoroutine")=false)(hb:fn.body.isNone=true)(hn:Extern.findNext fn=none)(he:Extern.find fn=some Extern.BytealgCompare.compare):qA P f atx:=by
 refine qA.extern hf Av hb hn he λw g β args bV iO x h1 h2 h3=> ?_
 have hx:∃d:List Int×List Int,(([aB.d (.slice (.int .u8)) d.1,aB.d (.slice (.int .u8)) d.2],([]:List dE)):List aB×List dE)=(args,bV):=by
  by_cases hh:∃d:List Int×List Int,(([aB.d (.slice (.int .u8)) d.1,aB.d (.slice (.int .u8)) d.2],([]:List dE)):List aB×List dE)=(args,bV)
  ·exact hh
  ·exfalso;have hn:atx.run args bV=none:=BK λ⟨d,h,_⟩=>hh ⟨d,h⟩
   rw[hn]at h3;cases h3
 obtain⟨d,hd⟩:=hx;simp only[cC]at hd;obtain⟨rfl,rfl⟩:=hd;have hr:=aty d;have hx:x=acI d.1 d.2:=bl (h3.symm.trans hr);subst hx
 match iO,h1 with
 |[u,v],⟨h4,h5,_⟩=>
  refine⟨.int .i64 (acI d.1 d.2),?_,tj.same (lB _ _) h2⟩;have e1:=aaZ (P:=P) h4;have e2:=aaZ (P:=P) h5;have e1:(Extern.Bytes.bytesOf u).run P w= .ok (fj d.1) w:=e1;have e2:(Extern.Bytes.bytesOf v).run P w= .ok (fj d.2) w:=e2;have aNh:Extern.BytealgCompare.compare [u,v].toArray=(do let a <-Extern.Bytes.bytesOf u;let b <-Extern.Bytes.bytesOf v;pure (goInt (Extern.BytealgCompare.cmp a b))):=rfl;rw[aNh];simp[e1,e2,goInt,acI]
def aRI{X Y:Type} [Inhabited Y] (x:Option X):Option (X×Y):=al x λy=>some (y,default)
def aRJ{X Y:Type} [Inhabited X] (x:Option Y):Option (X×Y):=al x λy=>some (default,y)
@[simp] theorem aOI{X Y:Type} [Inhabited Y] (x:X):aRI (Y:=Y) (some x)=some (x,default):=rfl
@[simp] theorem aOJ{X Y:Type} [Inhabited X] (x:Y):aRJ (X:=X) (some x)=some (default,x):=rfl
def Entry.half(params:List (Option Ty)){X Z:Type}(run:List aB->List dE->Option X)(out:List aB->List dE->X->fA)(i:Z->X)(p:X->Option Z):Entry:= {params,X:=Z,run:=λa o=>(run a o).bind p,out:=λa o z=>out a o (i z)}
def jx{X Z:Type}(p:X->Option Z)(x:Option X):Option Z:=x.bind p
theorem og{X Y:Type}(x:X):jx cR (some (Sum.inl x:X⊕Y))=some x:=rfl
theorem aJo{X Y:Type}(x:Y):jx Sum.getRight? (some (Sum.inr x:X⊕Y))=some x:=rfl
theorem qA.half{f:FuncId}{params:List (Option Ty)}{X Z:Type}{run:List aB->List dE->Option X}{out:List aB->List dE->X->fA}{i:Z->X}{p:X->Option Z}(hp:∀x z,p x=some z->x=i z)
  (h:qA P f {params,X,run,out}):qA P f (Entry.half params run out i p):=by
 intro w g β args bV iO z h3 h4 h5;have h5:(run args bV).bind p=some z:=h5;cases hr:run args bV with
 |none=>rw[hr]at h5;cases h5
 |some x=>
  rw[hr]at h5;obtain rfl:=hp x z h5;exact h w g β args bV iO (i z) h3 h4 hr
theorem aPI{X Y:Type}(x:X⊕Y)(z:X)(h:x.getLeft?=some z):x= .inl z:=by cases x <;> cases h;rfl
theorem aPJ{X Y:Type}(x:X⊕Y)(z:Y)(h:x.getRight?=some z):x= .inr z:=by cases x <;> cases h;rfl
end
theorem S1:(type_of% @N.lt)/\(type_of% @N.le)/\(type_of% @N.gt)/\(type_of% @N.ge)/\(type_of% @N.eq)/\(type_of% @N.ne)/\(type_of% @N.ib)/\(type_of% @N.ic)/\(type_of% @N.nn)/\(type_of% @N.nz)/\(type_of% @N.dc)/\(type_of% @N.rm)/\(type_of% @N.an)/\(type_of% @N.or)/\(type_of% @N.no)/\(type_of% @aj)/\(type_of% @ao)/\(type_of% @ah):=⟨@N.lt,@N.le,@N.gt,@N.ge,@N.eq,@N.ne,@N.ib,@N.ic,@N.nn,@N.nz,@N.dc,@N.rm,@N.an,@N.or,@N.no,@aj,@ao,@ah⟩
theorem S2:(type_of% @ah)/\(type_of% @N.aQ3)/\(type_of% @N.mu)/\(type_of% @N.aTD)/\(type_of% @N.aRv)/\(type_of% @N.aUk)/\(type_of% @N.aUj)/\(type_of% @N.aRs)/\(type_of% @N.aUc)/\(type_of% @N.aQw)/\(type_of% @N.aS6)/\(type_of% @N.aS5)/\(type_of% @N.aS7)/\(type_of% @N.aRu)/\(type_of% @N.cN)/\(type_of% @N.cL)/\(type_of% @N.tL)/\(type_of% @aa)/\(type_of% @iT)/\(type_of% @ml)/\(type_of% @iA):=⟨@ah,@N.aQ3,@N.mu,@N.aTD,@N.aRv,@N.aUk,@N.aUj,@N.aRs,@N.aUc,@N.aQw,@N.aS6,@N.aS5,@N.aS7,@N.aRu,@N.cN,@N.cL,@N.tL,@aa,@iT,@ml,@iA⟩
end Go.Ab
namespace Go.Ab
open Go.ChangeShapes Go.WideShapes Go.ChangeAt Go.RowKit Go.Deep
def avo:(t:Ty)->t.den->Prop
 | .int k,x=>(Lit.int k x).wf=true
 | .bool,_=>True
 | .str,s=>(s:ByteArray).size<=maxLen
 | .slice t,l=>(l:List t.den).length<=maxLen/\∀x∈(l:List t.den),avo t x
 | .unit,_=>True
 | .pair a b,x=>avo a x.1/\avo b x.2
 | .arr n t,l=>(l:List t.den).length=n/\∀x∈(l:List t.den),avo t x
 | .gR _,_ | .tT _,_=>False
def Au(P:Program)(rd:TypeId->Ty->Bool):Nat->List Field->Ty->Bool
 |_,[],.unit=>true
 |off,f::fs,.pair a b=>ix f.offset off && (rd f.type a && (ix (P.cellsOf f.type) a.size && Au P rd (off+a.size) fs b))
 |_,_,_=>false
def C4(P:Program):Nat->TypeId->Ty->Bool
 | 0,_,_=>false
 |n+1,T,ty=>
  match P.underlying T,ty with
  |some (.int k),.int k'=>decide (k=k')
  |some .bool,.bool=>true
  |some .string,.str=>true
  |some (.slice e),.slice t=>C4 P n e t && ix (P.cellsOf e) t.size
  |some (.array k e),.arr k' t=>ix k k' && (C4 P n e t && (ix (P.cellsOf e) t.size && ix (P.cellsOf T) (k*t.size)))
  |some (.struct fs),ty=>Au P (C4 P n) 0 fs.toList ty && ix (P.cellsOf T) ty.size
  |_,_=>false
theorem aIm{a b:Nat}:(ix a b=true)=(a=b):=propext ⟨eQ,λh=>by subst h;exact Nat.beq_refl a⟩
theorem amv{α β:Type}{f:α->Option β}:∀ {l:List α} {r:List β},l.mapM f=some r->r.length=l.length/\∀(i:Nat) (x:α),l[i]? =some x->f x=r[i]?
 |[],r,h=>by simp only[List.mapM_nil,Option.pure_def,az]at h;subst h;exact⟨rfl,λi x h=>by simp at h⟩
 |y::l,r,h=>by
  simp only[List.mapM_cons,Option.bind_eq_bind,Option.pure_def,Option.bind_eq_some_iff,az]at h;obtain⟨b,hb,r',hr,rfl⟩:=h;obtain⟨h1,h2⟩:=amv hr;refine⟨by simp[h1],λi x hi=> ?_⟩;cases i with
  |zero=>
   simp only[fH,az]at hi;subst hi;simpa using hb
  |succ i=>
   simp only[lV]at hi ⊢;exact h2 i x hi
theorem awc{w:World}{base:Nat}{a:Addr}{n:Nat}{cs:List Value}(h:w.cells? base a n=some cs):cs.length=n/\∀i,i < n->w.cell? (a.add i)=cs[i]? :=by
 unfold World.cells? at h;split at h
 ·obtain⟨h1,h2⟩:=amv h;exact⟨by simpa using h1,λi hi=>h2 i i (by simp[hi])⟩
 ·cases h
theorem add_add(a:Addr)(x y:Nat):(a.add x).add y=a.add (x+y):=by unfold Addr.add;by_cases hx:x=0 <;> by_cases hy:y=0 <;> simp[hx,hy,eM]
theorem azC{w:World}{a:Addr}{v:Value}(h:w.cell? a=some v):a.spot=none:=by
 unfold World.cell? at h;split at h
 ·split at h
  ·cases h
  ·rename_i hs;cases hh:a.spot with
   |none=>rfl
   |some _=>simp[hh]at hs
 ·cases h
theorem aOd{E:Env}(hg:∀b,E.g b= .free){a:Addr}{vs:List Value}(h:∀i,i < vs.length->E.w.cell? (a.add i)=vs[i]?):F2 E (some a) vs:=by
 intro i v hv;have hi:i < vs.length:=(dF.1 hv).1;have h0:=h 0 ak;rw[bP ak]at h0;have hs:a.spot=none:=azC (a:=a) (by simpa[Addr.add]using h0);obtain⟨b,off,sp⟩:=a;simp only at hs;subst hs;refine⟨b,off,rfl,?_,?_⟩
 ·have:=h i hi;rw[hv]at this;rw[<-this];unfold Addr.add;split
  ·rename_i h;subst h;rfl
  ·rfl
 ·unfold uT;rw[hg b];trivial
section
variable {H:Type} {enc:TypeId×Value->H} {P:Program} {base:Nat} {spare:Nat->Bool} {held:Bool} {E:Env}
theorem auX{t:Ty}{R:List Value->t.den->Prop}{G:t.den->Prop}{w:World}{a:Addr}{z:Nat}(hR:∀c x,R c x->c.length=z):∀(len:Nat),(∀i,i < len->∃c x,R c x/\G x/\∀j,j < z->w.cell? (a.add (i*z+j))=c[j]?)->
  ∃(vs:List Value) (l:List t.den),vs.length=len*z/\l.length=len/\(∀i,i < vs.length->w.cell? (a.add i)=vs[i]?)/\bA R vs l/\∀x∈l,G x
 | 0,_=>⟨[],[],by simp,rfl,λi h=>by simp at h,rfl,λ_ h=>by cases h⟩
 |len+1,h=>by
  obtain⟨vs,l,h1,h2,h3,h4,h5⟩:=auX hR len λi hi=>h i ak
  obtain⟨c,x,g1,g2,g3⟩:=h len ak;have hc:=hR c x g1;refine⟨vs++c,l++ [x],by rw[ai,h1,hc,eo,il],by rw[ai,h2];rfl,λi hi=> ?_,bA.append h4 ⟨c,[],by simp,g1,rfl⟩,λy hy=> ?_⟩
  ·rw[ai,h1,hc]at hi;by_cases hl:i < vs.length
   ·rw[h3 i hl,fg hl]
   ·rw[List.getElem?_append_right ak,h1,<-g3 (i - len*z) ak,show len*z+(i - len*z)=i by omega]
  ·rcases bE.1 hy with hy | hy
   ·exact h5 y hy
   ·rw[bo.1 hy];exact g2
theorem aex{t:Ty}{R:List Value->t.den->Prop}{G:t.den->Prop}{z:Nat}:∀(n:Nat) (cs:List Value),cs.length=n*z->(∀i,i < n->∃x,R ((cs.drop (i*z)).take z) x/\G x)->
  ∃l:List t.den,l.length=n/\bA R cs l/\∀x∈l,G x
 | 0,cs,h,_=>⟨[],rfl,bC (by simpa using h),λ_ h=>by cases h⟩
 |n+1,cs,h,hi=>by
  obtain⟨x,g1,g2⟩:=hi 0 ak;obtain⟨l,h1,h2,h3⟩:=aex (R:=R) (G:=G) (z:=z) n (cs.drop z) (by rw[dm,h,eo];omega) λi alT=>by obtain⟨y,k1,k2⟩:=hi (i+1) ak;refine⟨y,?_,k2⟩;rw[fK,show z+i*z=(i+1)*z by rw[eo];omega];exact k1
  refine⟨x::l,by simp[h1],⟨cs.take z,cs.drop z,(dH z cs).symm,by simpa using g1,h2⟩,λy hy=> ?_⟩;rcases cn.1 hy with rfl | hy
  ·exact g2
  ·exact h3 y hy
theorem Vj{rd:TypeId->Ty->Bool}{cs:List Value}:∀(fs:List Field) (off:Nat) (ty:Ty),Au P rd off fs ty=true->off+ty.size<=cs.length->
  (∀f∈fs,∀t,rd f.type t=true->P.cellsOf f.type=t.size->∃v,cY E t ((cs.drop f.offset).take (P.cellsOf f.type)) v/\avo t v)->∃v,cY E ty ((cs.drop off).take ty.size) v/\avo ty v
 |[],off,ty,h,hl,_=>by
  cases ty <;> simp only[Au]at h <;> first | cases h | skip
  exact⟨(),by simp[cY,Ty.size],trivial⟩
 |f::fs,off,ty,h,hl,hf=>by
  cases ty <;> simp only[Au]at h <;> first | cases h | skip
  rename_i a b;simp only[au,aIm]at h;obtain⟨h1,h2,h3,h4⟩:=h;have hl:off+(a.size+b.size)<=cs.length:=hl;obtain⟨v,k1,k2⟩:=hf f (aO ..) a h2 h3;obtain⟨u,k3,k4⟩:=Vj fs (off+a.size) b h4 ak λf' hf'=>hf f' (aJ _ hf')
  refine⟨(v,u),⟨(cs.drop off).take a.size,(cs.drop (off+a.size)).take b.size,?_,?_,k3⟩,k2,k4⟩
  ·rw[show Ty.size (.pair a b)=a.size+b.size from rfl,List.take_add,fK]
  ·rw[h1,h3]at k1;exact k1
theorem Qe(hg:∀b,E.g b= .free):∀(n:Nat) (T:TypeId) (ty:Ty),C4 P n T ty=true->∀ {fuel:Nat} {cs:List Value} {x:DataW H×List MemPlace},DataW.trod enc P E.w base spare held fuel T cs=some x->∃v,cY E ty cs v/\avo ty v
 | 0,_,_,h,_,_,_,_=>by simp[C4]at h
 |n+1,T,ty,h,fuel,cs,x,hx=>by
  unfold C4 at h;split at h
  ·rename_i k k' hu;obtain rfl:=of_decide_eq_true h;obtain⟨m,rfl,_,hw⟩:=DataW.trod_int hu hx;exact⟨m,rfl,hw⟩
  ·rename_i hu;obtain⟨b,rfl,_⟩:=DataW.trod_bool hu hx;exact⟨b,rfl,trivial⟩
  ·rename_i hu;obtain⟨s,rfl,_,hs⟩:=DataW.trod_string hu hx;exact⟨s,rfl,hs⟩
  ·rename_i e t hu;simp only[au,aIm]at h;obtain⟨h1,h2⟩:=h;rcases open_slice hu hx with⟨rfl,_⟩ | ⟨a,len,cap,m,f,D,Pl,rfl,_,hl,hm,aSm,_,he⟩
   ·exact⟨([]:List t.den),⟨none,0,[],rfl,ax _,λh=>by simp at h,λi v hv=>by simp at hv,rfl⟩,aM _,λ_ h=>by cases h⟩
   ·have aRi:len<=m:=by rw[aSm];split <;> omega
    obtain⟨vs,l,k1,k2,k3,k4,k5⟩:=auX (t:=t) (R:=cY E t) (G:=avo t) (w:=E.w) (a:=a) (z:=t.size) (λc x h=>cY.size h) len λi hi=>by obtain⟨cs',g1,g2⟩:=he i ak;obtain⟨v,g3,g4⟩:=Qe hg n e t h1 g2;obtain⟨g5,g6⟩:=awc g1;refine⟨cs',v,g3,g4,λj hj=> ?_⟩;rw[<-g6 j ak,add_add,h2]
    refine⟨l,⟨some a,cap,vs,by rw[k2],by rw[k2];exact hl,λ_=>rfl,aOd hg k3,k4⟩,by rw[k2];omega,k5⟩
  ·rename_i k e k' t hu;simp only[au,aIm]at h;obtain⟨rfl,h1,h2,h3⟩:=h;obtain⟨xs,m,rfl,_,hl,aHU,he⟩:=DataW.trod_array hu hx;obtain⟨l,k1,k2,k3⟩:=aex (t:=t) (R:=cY E t) (G:=avo t) (z:=t.size) k cs (by rw[hl,h3]) λi hi=>by have:=he i hi;rw[bP ak,h2]at this;exact Qe hg n e t h1 this
   exact⟨l,⟨k1,k2⟩,k1,k3⟩
  ·rename_i ty fs hu;simp only[au,aIm]at h;obtain⟨h1,h2⟩:=h;obtain⟨xs,m,rfl,_,hl,aHU,he⟩:=DataW.trod_struct hu hx;obtain⟨v,k1,k2⟩:=Vj (E:=E) (cs:=cs) fs.toList 0 _ h1 (by rw[hl,h2];omega) λf hf t ht hc=>by
    obtain⟨i,hi,aUQ⟩:=List.mem_iff_getElem.1 hf;have hi':i < fs.size:=by simpa using hi
    have:=he i f (by rw[<-aUQ];simp[hi']);rw[bP ak]at this;exact Qe hg n f.type t ht this
   refine⟨v,?_,k2⟩;rwa[aG,aX ak]at k1
  ·cases h
end
end Go.Ab
namespace Go.Ab
open Go.ChangeShapes Go.WideShapes Go.ChangeAt Go.RowKit Go.Deep
section
variable {H:Type} {enc:TypeId×Value->H} {P:Program} {base b0:Nat} {spare:Nat->Bool} {held:Bool} {E:Env} {W:World}
theorem aql{rd:TypeId->Ty->Bool}{fs:List Field}{off:Nat}{ty:Ty}(h:Au P rd off fs ty=true):ty.agg=true:=by cases fs <;> cases ty <;> first | rfl | (simp[Au]at h)
theorem aFG(hw:E.w=W)(hg:∀b,E.g b= .free){n:Nat}{t:TypeId}{ty:Ty}(h:C4 P n t ty=true){v:Value}{d:DataW H}{ps:List MemPlace}(Aw:Value.okWide P W .any base t v)(hd:DataW.Trod enc P W b0 spare held t v d ps):
  ∃x:ty.den,VS E (.d ty x) v/\avo ty x:=by
 subst hw;obtain⟨fuel,hf⟩:=hd;obtain⟨x,h1,h2⟩:=Qe hg n t ty h hf;refine⟨x,⟨v.cells.toList,h1,?_⟩,h2⟩;cases n with
 |zero=>simp[C4]at h
 |succ n=>
  unfold C4 at h;split at h
  ·rename_i k k' hu;obtain⟨m,rfl⟩:=okWide_int hu Aw;rfl
  ·rename_i hu;obtain⟨m,rfl⟩:=okWide_bool hu Aw;rfl
  ·rename_i hu;obtain⟨m,rfl⟩:=okWide_string hu Aw;rfl
  ·rename_i hu;obtain⟨a,len,cap,rfl⟩:=okWide_slice hu Aw;rfl
  ·rename_i hu;simp only[Value.okWide,hu]at Aw;obtain⟨cs,rfl,_⟩:=Aw;show _=_;simp[Value.cells]
  ·rename_i fs hu;simp only[Value.okWide,hu]at Aw;obtain⟨cs,rfl,_⟩:=Aw;simp only[au]at h;have:=aql h.1;simp only[aB.agg,this,fJ,Value.cells,Array.toArray_toList]
  ·cases h
def DV:List Ty->Type
 |[]=>Unit
 |t::ts=>t.den×DV ts
def DV.iO:(ts:List Ty)->DV ts->List aB
 |[],_=> []
 |t::ts,x=> .d t x.1::DV.iO ts x.2
def DV.aTf:(ts:List Ty)->DV ts->Prop
 |[],_=>True
 |t::ts,x=>avo t x.1/\DV.aTf ts x.2
def wC(P:Program)(n:Nat):List TypeId->List Ty->Bool
 |[],[]=>true
 |T::Ts,t::ts=>C4 P n T t && wC P n Ts ts
 |_,_=>false
theorem afH(hw:E.w=W)(hg:∀b,E.g b= .free){n:Nat}:∀ {Ts:List TypeId} {ts:List Ty} {vs:List Value} {ds:List (DataW H)} {ps:List MemPlace},wC P n Ts ts=true->
  (∀(j:Nat) t v,Ts[j]? =some t->vs[j]? =some v->Value.okWide P W .any base t v)->DataW.TrodAll enc P W b0 spare held Ts vs ds ps->∃x:DV ts,xS E (DV.iO ts x) vs/\DV.aTf ts x
 |[],[],vs,ds,ps,_,_,h=>by obtain⟨rfl,rfl,rfl⟩:=trodAll_nil h;exact⟨(),trivial,trivial⟩
 |T::Ts,[],_,_,_,h,_,_=>by simp[wC]at h
 |[],t::ts,_,_,_,h,_,_=>by simp[wC]at h
 |T::Ts,t::ts,vs,ds,ps,h,Aw,hd=>by simp only[wC,au]at h;obtain⟨v,vs',d,ds',p,q,rfl,rfl,rfl,h1,h2⟩:=trodAll_cons hd;obtain⟨x,k1,k2⟩:=aFG hw hg h.1 (Aw 0 T v rfl rfl) h1;obtain⟨y,k3,k4⟩:=afH hw hg h.2 (λj t v hj hv=>Aw (j+1) t v (by simpa using hj) (by simpa using hv)) h2;exact⟨(x,y),⟨k1,k3⟩,⟨k2,k4⟩⟩
def xj(P:Program)(Ts:List TypeId):Bool:=Ts.all λt=>P.readableRec t && decide (t < P.types.size)
theorem LL(hl:laidOutB P=true){W':World}(hb:Below W.heap.size W W')(sp:Nat->Bool):∀ {Ts:List TypeId} {vs:List Value} {ds:List (DataW H)} {ps:List MemPlace},xj P Ts=true->(∀p∈ps,p.block < W.heap.size)->(∀p∈ps,sp p.block=true)->
  DataW.TrodAll enc P W 0 (λ_=>true) true Ts vs ds ps->DataW.TrodAll enc P W' 0 sp true Ts vs ds ps
 |[],vs,ds,ps,_,_,_,h=>by obtain⟨rfl,rfl,rfl⟩:=trodAll_nil h;exact trodAll_mk0
 |T::Ts,vs,ds,ps,hr,gB,hs,h=>by obtain⟨v,vs',d,ds',p,q,rfl,rfl,rfl,h1,h2⟩:=trodAll_cons h;simp only[xj,iM,au,bf]at hr;have h3:=WideElems.Trod_stays hl hr.1.1 hr.1.2 h1 (λx hx=>hb.same (gB x (bE.2 (.inl hx)))) (λx hx=>hs x (bE.2 (.inl hx)));exact⟨p,q,h3,LL hl hb sp (by simpa[xj]using hr.2) (λx hx=>gB x (bE.2 (.inr hx))) (λx hx=>hs x (bE.2 (.inr hx))) h2,rfl⟩
end
theorem Ji{H:Type}{enc:TypeId×Value->H}{P:Program}{W:World}{b0:Nat}{spare:Nat->Bool}{held:Bool}:∀ {Ts:List TypeId} {vs:List Value} {ds:List (DataW H)} {ps:List MemPlace},DataW.TrodAll enc P W b0 spare held Ts vs ds ps->ds.length=Ts.length
 |[],_,_,_,h=>by obtain⟨_,rfl,_⟩:=trodAll_nil h;rfl
 |_::_,_,_,_,h=>by obtain⟨v,vs',d,ds',p,q,rfl,rfl,rfl,h1,h2⟩:=trodAll_cons h;simp[Ji h2]
theorem am3{H:Type}{enc:TypeId×Value->H}{P:Program}{f:Func}{s:ChangeSpec}{W W':World}{args:Array Value}{v:Value}{ds gs:List (DataW H)}{before:List MemPlace}{tb:TypeId}
  (hl:laidOutB P=true) (aoV:xj P f.params.toList=true) (al1:s.vars=[]) (aSH:f.resultTypes= #[tb]) (aSK:P.underlying tb=some .bool)
  (hW:DataW.Whole enc P f.params.toList s.vars false W args.toList ds gs before) (aNi:s.fn H (ds++gs)= {results:=[.lit (.bool true)],args:=ds}) (hb:Below W.heap.size W W') (hv:v= .bool true):
  s.post enc P f false true false false W args v W':=by
 subst hv;have hW':=hW;have hold:∀p∈before,(λb=>decide (b < W.heap.size)) p.block=true:=λp hp=>by simpa using hW.lt p hp
 obtain⟨p,q,hA,hV,rfl,hz,_⟩:=hW;rw[al1]at hV;obtain⟨rfl,rfl⟩:=trodVars_none hV;have gB:∀x∈p,x.block < W.heap.size:=λx hx=>hW'.lt x (bE.2 (.inl hx))
 have KV:∀sp:Nat->Bool,(∀x∈p,sp x.block=true)->DataW.TrodAll enc P W' 0 sp true f.params.toList args.toList (s.fn H (ds++ [])).args p:=λsp hs=>by rw[aNi];exact LL hl hb sp aoV gB hs hA
 have aSB:∀(b:Nat) (sp:Nat->Bool) (hd:Bool),DataW.TrodAll enc P W' b sp hd f.resultTypes.toList ((Value.bool true).resultList f.resultTypes.size) (s.fn H (ds++ [])).results []:=λb sp hd=>by rw[aNi,aSH];exact trodAll_mk1 (shut_bool aSK _)
 have Uu:∀sp:Nat->Bool,DataW.TrodVars enc P W' sp s.vars (s.fn H (ds++ [])).vars []:=λsp=>by rw[aNi,al1];rfl
 refine⟨ds,[],p++ [],[],p,[],hW',aSB _ _ _,KV _ (λx hx=>hold x (bE.2 (.inl hx))),Uu _,hb.frame _,λh=>by cases h⟩
theorem IA{P:Program}{n:Nat}:∀ {Ts:List TypeId} {ts:List Ty},wC P n Ts ts=true->Ts.length=ts.length
 |[],[],_=>rfl
 |[],_::_,h=>by simp[wC]at h
 |_::_,[],h=>by simp[wC]at h
 |_::_,_::_,h=>by simp only[wC,au]at h;simp[IA h.2]
theorem axy{H:Type}{enc:TypeId×Value->H}{P:Program}{f:FuncId}{fn:Func}{en:Entry}{s:ChangeSpec}{tb:TypeId}(n:Nat)(tys:List Ty)(hD:qA P f en)(hf:P.funcs[f]? =some fn)(aPP:fn.body.isSome=true)(Av:(fn.name== "runtime.NumGoroutine")=false)
  (hl:laidOutB P=true) (aLV:wC P n fn.params.toList tys=true) (aoV:xj P fn.params.toList=true) (al1:s.vars=[]) (aSH:fn.resultTypes= #[tb]) (aSK:P.underlying tb=some .bool)
  (aNi:∀ds:List (DataW H),ds.length=tys.length->s.fn H (ds++ [])= {results:=[.lit (.bool true)],args:=ds})
  (pV:∀x:DV tys,DV.aTf tys x->∃r,en.run (DV.iO tys x) []=some r/\en.out (DV.iO tys x) [] r=⟨.d .bool true,[],[]⟩)
  {W:World} {base:Nat} {args:Array Value} {ds gs:List (DataW H)} {before:List MemPlace}
  (Aw:∀(j:Nat) t v,fn.params[j]? =some t->args[j]? =some v->Value.okWide P W .any base t v)
  (hW:DataW.Whole enc P fn.params.toList s.vars false W args.toList ds gs before):
  Calls P f args W λe W'=>∃v,e= .returned v/\s.post enc P fn false true false false W args v W':=by
 have hW':=hW;obtain⟨p,q,hA,hV,_,_,_⟩:=hW;rw[al1]at hV;obtain⟨rfl,rfl⟩:=trodVars_none hV;obtain⟨x,aND,aRn⟩:=afH (E:=(fC []).env W (λ_=> .free) (λ_=>none)) rfl (λ_=>rfl) aLV (λj t v hj hv=>Aw j t v (by simpa using hj) (by simpa using hv)) hA;obtain⟨r,aDC,acO⟩:=pV x aRn;have cP:(callFunc f args).run P W= .ok (.enter f args) W:=by
  unfold callFunc;obtain⟨c,hc⟩:=bQ.1 aPP;have hname':¬fn.name= "runtime.NumGoroutine" :=by simpa using Av
  simp[hf,hname',hc]
 have hlen:ds.length=tys.length:=by rw[Ji hA,IA aLV]
 have ho:iI ((fC []).env W (λ_=> .free) (λ_=>none)):=λid ver fr c h=>by
  exfalso;cases id with
  |bj k=>simp[AS.env,AS.bR,fC]at h
  |new i j=>simp[AS.env,AS.bR,fC]at h
 rcases hD W (λ_=> .free) (λ_=>none) (DV.iO tys x) [] args.toList r aND ho aDC with⟨_,hc⟩ | ⟨v,w',hc,_⟩
 ·refine hc.mono λe w' he=> ?_
  obtain⟨v,rfl,g',β',h1,_,h2,_⟩:=he;rw[acO]at h1;refine⟨v,rfl,am3 hl aoV al1 aSH aSK hW' (aNi ds hlen) ⟨h2.os,h2.tape,h2.output.1,h2.size,λb hb=>(h2.RO b hb).2⟩ ?_⟩;obtain⟨cs,k1,k2⟩:=h1;have k1:cs=[.bool true]:=k1;subst k1;have k2: [Value.bool true]=[v]:=k2;simpa using k2.symm
 ·rw[show args.toList.toArray=args from Array.toArray_toList ..,cP]at hc;cases hc
end Go.Ab
namespace Go.Ab
abbrev W:=BitVec 32
def vE(w:W)(k:Nat):W:=w <<< (32 - k) ||| w >>> k
def aPq(a b c d:Int):W:=ba 32 a <<< 24 ||| ba 32 b <<< 16 ||| ba 32 c <<< 8 ||| ba 32 d
def be(l:List Int)(i:Nat):W:=aPq (l.getD (4*i) 0) (l.getD (4*i+1) 0) (l.getD (4*i+2) 0) (l.getD (4*i+3) 0)
structure St where
 a:W
 b:W
 c:W
 d:W
 e:W
 f:W
 g:W
 h:W
def St.l(s:St):List Int:=[vw s.a,vw s.b,vw s.c,vw s.d,vw s.e,vw s.f,vw s.g,vw s.h]
def aTi(x:W):W:=vE x 7^^^vE x 18^^^x >>> 3
def aTj(y:W):W:=vE y 17^^^vE y 19^^^y >>> 10
def aL8(l:List W)(i:Nat):W:=l.getD (i - 16) 0+aTi (l.getD (i - 15) 0)+l.getD (i - 7) 0+aTj (l.getD (i - 2) 0)
def ext(l:List W):List W:=l++ [aL8 l l.length]
def aHZ(m:List W):Nat->List W
 | 0=>m
 |n+1=>ext (aHZ m n)
def words(b:List Int):List W:=(List.range 16).map (be b)
def sched(b:List Int):List W:=aHZ (words b) 48
def kl:List Nat:=[0x428a2f98,0x71374491,0xb5c0fbcf,0xe9b5dba5,0x3956c25b,0x59f111f1,0x923f82a4,0xab1c5ed5,0xd807aa98,0x12835b01,0x243185be,0x550c7dc3,0x72be5d74,0x80deb1fe,0x9bdc06a7,0xc19bf174,0xe49b69c1,0xefbe4786,0x0fc19dc6,0x240ca1cc,0x2de92c6f,0x4a7484aa,0x5cb0a9dc,0x76f988da,0x983e5152,0xa831c66d,0xb00327c8,0xbf597fc7,0xc6e00bf3,0xd5a79147,0x06ca6351,0x14292967,0x27b70a85,0x2e1b2138,0x4d2c6dfc,0x53380d13,0x650a7354,0x766a0abb,0x81c2c92e,0x92722c85,0xa2bfe8a1,0xa81a664b,0xc24b8b70,0xc76c51a3,0xd192e819,0xd6990624,0xf40e3585,0x106aa070,0x19a4c116,0x1e376c08,0x2748774c,0x34b0bcb5,0x391c0cb3,0x4ed8aa4a,0x5b9cca4f,0x682e6ff3,0x748f82ee,0x78a5636f,0x84c87814,0x8cc70208,0x90befffa,0xa4506ceb,0xbef9a3f7,0xc67178f2]
def kw(i:Nat):W:=BitVec.ofNat 32 (kl.getD i 0)
def SB:List Int:=kl.map λ(n:Nat)=>(n:Int)
def lp(s:St)(k w:W):St:=
 let t:=s.h+(vE s.e 6^^^vE s.e 11^^^vE s.e 25)+(s.g^^^s.e &&& (s.f^^^s.g))+k+w
 let r:=vE s.a 2^^^vE s.a 13^^^vE s.a 22
 let most:=s.a &&& s.b ||| s.c &&& (s.a ||| s.b)
 ⟨t+r+most,s.a,s.b,s.c,s.d+t,s.e,s.f,s.g⟩
def rounds(ws:List W)(s:St):Nat->St
 | 0=>s
 |n+1=>lp (rounds ws s n) (kw n) (ws.getD n 0)
def SJ(s:St)(b:List Int):St:=
 let v:=rounds (sched b) s 64
 ⟨v.a+s.a,v.b+s.b,v.c+s.c,v.d+s.d,v.e+s.e,v.f+s.f,v.g+s.g,v.h+s.h⟩
def rY:St:=⟨0x6a09e667,0xbb67ae85,0x3c6ef372,0xa54ff53a,0x510e527f,0x9b05688c,0x1f83d9ab,0x5be0cd19⟩
def BD:Nat->St->List Int->St
 | 0,s,_=>s
 |n+1,s,l=>BD n (SJ s (l.take 64)) (l.drop 64)
def blocks(s:St)(l:List Int):St:=BD (l.length / 64) s l
def aQ5(w:W)(k:Nat):Int:=vw ((w >>> (24 - 8*k)).setWidth 8)
def aIv(w:W):List Int:=[aQ5 w 0,aQ5 w 1,aQ5 w 2,aQ5 w 3]
def aKm(s:St):List Int:=aIv s.a++aIv s.b++aIv s.c++aIv s.d++aIv s.e++aIv s.f++aIv s.g++aIv s.h
def iZ(n:Int):List Int:=[n / 2^56%256,n / 2^48%256,n / 2^40%256,n / 2^32%256,n / 2^24%256,n / 2^16%256,n / 2^8%256,n%256]
def AM(n:Nat):Nat:=(119 - n%64)%64
def pad(b:List Int):List Int:=b++128::(ab (AM b.length) 0++iZ (8*b.length))
def aOh(b:List Int):List Int:=aKm (blocks rY (pad b))
def oo(parts:List (List Int)):List Int:=parts.flatMap λp=>iZ p.length++p
def Tx(name:List Int)(parts:List (List Int)):List Int:=iZ name.length++name++oo parts
def tag(name:List Int)(parts:List (List Int)):List Int:=aOh (Tx name parts)
theorem asv(b:List Int):(aOh b).length=32:=rfl
theorem b8(n:Int):(iZ n).length=8:=rfl
theorem vc(l:List W):(ext l).length=l.length+1:=by simp[ext]
theorem Bm(m:List W):∀n,(aHZ m n).length=m.length+n
 | 0=>rfl
 |n+1=>by rw[aHZ,vc,Bm m n];omega
theorem eS(b:List Int):(words b).length=16:=by simp[words]
theorem Hf:∀(n:Nat) (s:St) (a b:List Int),a.length=64*n->∀m,BD (n+m) s (a++b)=BD m (BD n s a) b
 | 0,s,a,b,h,m=>by have:a=[]:=bC ak;subst this;simp[BD]
 |n+1,s,a,b,h,m=>by rw[show n+1+m=(n+m)+1 by omega,BD,BD];rw[iR ak,List.drop_append_of_le_length ak];exact Hf n _ _ _ (by simp;omega) m
theorem Kr(s:St)(a b:List Int)(h:a.length%64=0):blocks s (a++b)=blocks (blocks s a) b:=by
 unfold blocks;have e:(a++b).length / 64=a.length / 64+b.length / 64:=by simp;omega
 rw[e];exact Hf _ _ _ _ ak _
theorem Hg(s:St)(l:List Int)(h:64<=l.length):blocks s l=blocks (SJ s (l.take 64)) (l.drop 64):=by unfold blocks;rw[show l.length / 64=(l.drop 64).length / 64+1 by simp;omega];rfl
theorem Er(s:St)(l:List Int)(h:l.length < 64):blocks s l=s:=by unfold blocks;rw[show l.length / 64=0 by omega];rfl
def ago(x:Int):Prop:=0<=x/\x < 256
def Bytes(l:List Int):Prop:=∀x∈l,ago x
theorem aIw(w:BitVec 8):ago (vw w):=⟨TE w,aHe w⟩
theorem ago.vw{x:Int}(h:ago x):x=vw (ba 8 x):=by rw[gQ];obtain⟨h1,h2⟩:=h;omega
theorem apH(s:St):Bytes (aKm s):=by intro x hx;simp only[aKm,aIv,bE,cn,List.not_mem_nil,or_false]at hx;rcases hx with((((((hx | hx) | hx) | hx) | hx) | hx) | hx) | hx <;> rcases hx with rfl | rfl | rfl | rfl <;> exact aIw _
theorem av7(b:List Int):Bytes (aOh b):=apH _
theorem Ds(n:Int):Bytes (iZ n):=by intro x hx;simp only[iZ,cn,List.not_mem_nil,or_false]at hx;rcases hx with rfl | rfl | rfl | rfl | rfl | rfl | rfl | rfl <;> exact⟨ak,ak⟩
end Go.Ab
end
