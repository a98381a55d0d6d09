/-
  Made short by a program of mine (wip/tools/mini.py).
-/
import Derived.Test.YtlfkbbankpbinaaGreatS31x2
import Derived.Scope
import Derived.Laws.Externs
import Derived.KernelRfl
import Derived.ProofKit
import Derived.OpenShut
import Derived.Deep.Slices
import Derived.Carry
set_option linter.unusedVariables false
set_option linter.unusedSimpArgs false
set_option maxRecDepth 100000
set_option synthInstance.maxSize 5000
open Go renaming IntKind->kR,FuncId->fK,Operand->bK,Program->aM,World->bW
open List renaming replicate->ai
open BitVec renaming ofInt->bj
open UInt8 renaming ofNat->fo
open Nat renaming beq->iG
open Go.World renaming cell?->eN
open Go.Sem renaming run_bind->cg,run_pure->dY
open Go.Result renaming andThen_ok->bH
open OfNat renaming ofNat->dy
open Int renaming toNat->ab
open Option renaming some->ao,none->aJ
open Bool renaming true->aT,false->aR
noncomputable section
namespace Go.Ab
section
variable {P:aM} {Γ:qi} {an:w7} {C:Ctx}
open Classical in
def aEE(p:Prop):Option Unit:=if p then ao () else aJ
theorem agm{p:Prop}(h:aEE p=ao ()):p:=by
 unfold aEE at h;split at h
 ·assumption
 ·cases h
theorem awg{p:Prop}(h:p):aEE p=ao ():=by unfold aEE;rw[if_pos h]
theorem aa4{X R:Type}{S:X->Prop}{k:X->Option R}{x:Option R}(hn:∃y,S y)(h:∀y,S y->k y=x):Rq S k=x:=by
 unfold Rq;cases x with
 |none=>exact AA λ⟨r,⟨y,hy⟩,hr⟩=>by have:=h y hy;rw[hr y hy]at this;cases this
 |some r=>
  have hx:∃r,(∃x,S x)/\∀x,S x->k x=ao r:=⟨r,hn,h⟩;rw[xJ hx];obtain⟨⟨y,hy⟩,h1⟩:=hx.choose_spec;have:=h1 y hy;rw[h y hy]at this;exact this.symm
def alE(P:aM)(Γ:qi)(an:w7)(N:Nat)(b:Code):Prop:=∀le,an.gS (dV b)=ao le->(le.set=aJ->∀s x,le.run s=ao x->∃n,Qh (norm P (an.loops (dV b))) (λe=>norm P (an.outs (dV b) (afK e))) (ev P Γ an N b) n s (λe s'=>ao (e,s'))=(le.out x).eval)/\∀S,le.set=ao S->∀s,(∃x,S s x)->∃n,Qh (norm P (an.loops (dV b))) (λe=>norm P (an.outs (dV b) (afK e))) (ev P Γ an N b) n s (λe s'=>aEE (∃x,S s x/\(le.out x).eval=ao (e,s')))=ao ()
def mM(P:aM)(Γ:qi)(an:w7)(N:Nat):List Code->Prop
 |[]=>True
 |b::l=>alE P Γ an N b/\mM P Γ an N l
theorem mM.append{N:Nat}:∀ {l l':List Code},mM P Γ an N (l++l')->mM P Γ an N l/\mM P Γ an N l'
 |[],_,h=>⟨trivial,h⟩
 |_::_,_,⟨h1,h2⟩=>⟨⟨h1,(mM.append h2).1⟩,(mM.append h2).2⟩
theorem sG{c:Code}{b:Frame}{a:Act}{k:List Item}{cs:List Frame}{w:bW}:step P (lone (b.atR a (.code (.scope c)::k)) cs w)= .next (lone (b.atR a (.code c:: .inScope c::k)) cs w):=
 step_lone_go (by simp[stepG,stepG.exec,Frame.atR])
theorem XZ{c:Code}{b:Frame}{a:Act}{k:List Item}{cs:List Frame}{w:bW}:step P (lone (b.atR a (.inScope c::k)) cs w)= .next (lone (b.atR a k) cs w):=
 step_lone_go (by simp[stepG,stepG.exec,Frame.atR])
theorem HG{F:Fence}{n:Nat}{Q:Exit->Act->bW->Prop}{a:Act}{w:bW}{c:Code}(h:c.wpIn F n P (Exit.noGoto Q) a w):(Code.scope c).wpIn F n P Q a w:=by
 intro b k cs aFz hb hr;have h0:(lone (b.atR a (.code (.scope c)::k)) cs w).fenced P F:=fenced_calm hb hr rfl;obtain⟨e,a1,w1,hq,hx⟩:=h b (.inScope c::k) cs aFz hb hr;cases e with
 |normal=>exact⟨.normal,a1,w1,hq,.head h0 sG (StepsIn.trans hx (.one (fenced_calm hb hr rfl) XZ))⟩
 |exit i=>
  have e1:exitTo i (.inScope c::k)=exitTo i k:=by simp[exitTo]
  exact⟨.exit i,a1,w1,hq,λk' hk=> .head h0 sG (hx.1 k' (e1.trans hk)),λh1 hk=>let⟨k2,h2,h3⟩:=hx.2 h1 (e1.trans hk);⟨k2,h2,.head h0 sG h3⟩⟩
 |goto l=>exact hq.elim
 |ret=>exact⟨_,a1,w1,hq,.of_steps (.one h0 sG) hx⟩
 |panic ch=>exact⟨_,a1,w1,hq,.of_steps (.one h0 sG) hx⟩
 |outgrown=>exact⟨_,a1,w1,hq,.of_steps (.one h0 sG) hx⟩
theorem Dy{rd:Option Nat}{m:Nat}{R:Type}{r:R}{b:Code}{nrm:AS->Out AS}{nrmX:Exit->AS->Out AS}{body:AS->(Exit->AS->Option R)->Option R}
  (hn:∀s s1 a w,gT C s a w->(nrm s).eval=ao s1->gT C s1 a w) (hx:∀e s s1 a w,gT C s a w->(nrmX e s).eval=ao s1->gT C s1 a w)
  (hb:∀(s:AS) (a:Act) (w:bW) (k:Exit->AS->Option R) (Q:Exit->Act->bW->Prop),gT C s a w->body s k=ao r->(∀e s' a' w',gT C s' a' w'->k e s'=ao r->Q e a' w')->b.wpIn (Fr rd) m P Q a w)
  {k:Exit->AS->Option R} {Q:Exit->Act->bW->Prop} (hk:∀e s' a' w',gT C s' a' w'->k e s'=ao r->Q e a' w'):
  ∀(n:Nat) (s:AS) (a:Act) (w:bW),gT C s a w->Qh nrm nrmX body n s k=ao r->Code.roundsIn (Fr rd) m P b Q n a w
 | 0,s,a,w,_,h=>by simp[Qh]at h
 |n+1,s,a,w,hs,h=>by
  simp only[Qh]at h;rw[roundsIn_succ];refine hb s a w _ _ hs h λe s' a' w' hs' aGz=> ?_
  have exits:∀e,(nrmX e s').run (k e)=ao r->Q e a' w':=λe aGz=>by obtain⟨s1,h1,h2⟩:=gQ.1 aGz;exact hk e s1 a' w' (hx e s' s1 a' w' hs' h1) h2
  cases e with
  |normal=>
   simp only at aGz;obtain⟨s1,h1,h2⟩:=gQ.1 aGz;exact Dy hn hx hb hk n s1 a' w' (hn s' s1 a' w' hs' h1) h2
  |_=>exact exits _ aGz
theorem LY{rd:Option Nat}{n:Nat}(hC:C.ok){j:Option Ky}{run: {R:Type}->(Exit->AS->Option R)->Option R}{c:Code}{a:Act}{w:bW}
  (pK:∀ {R:Type} {r:R} (k:Exit->AS->Option R) (Q:Exit->Act->bW->Prop),run k=ao r->(∀e s' a' w',gT C s' a' w'->k e s'=ao r->Q e a' w')->c.wpIn (Fr rd) n P Q a w)
  {R:Type} {r:R} {k:Exit->AS->Option R} {Q:Exit->Act->bW->Prop} (h:Ou P j run k=ao r) (hk:∀e s' a' w',gT C s' a' w'->k e s'=ao r->Q e a' w'):c.wpIn (Fr rd) n P Q a w:=by
 cases j with
 |none=>exact pK k Q h hk
 |some j=>
  simp only[Ou]at h;cases hx:run λe s=>(norm P j.an s).run (j.aEk e) with
  |none=>rw[hx]at h;cases h
  |some x=>
   rw[hx]at h;simp only[aq]at h;obtain⟨y,hy,h⟩:=gQ.1 h;refine pK _ Q hx λe s' a' w' hs' hK=> ?_
   obtain⟨s1,h1,h2⟩:=gQ.1 hK;have he:=j.ok _ _ _ h2;rw[hy,az]at he;subst he;exact hk e s1 a' w' (oX hC hs' h1) h
theorem Inv.anZ{g:Nat->lY}{β:Id->Option Pl}{s:AS}{a:Act}{w:bW}(h:Inv C g β s a w):
  Inv C (nu g w.heap.size (.own .eL 0)) β s {a with defers:=uw w.heap.size::a.defers} (w.alloc (.deferred (ao []))):=by
 have ht:=Trans.alloc w g (.deferred (ao [])) (.own .eL 0);have he:cU (s.env w g β) (s.env (w.alloc (.deferred (ao []))) (nu g w.heap.size (.own .eL 0)) β):=cU.same ht;have h1:=h.step rfl ht he (iN.same h.bN he λi ver fr c pl hi hp=>by
  have hl:=((h.bN i ver fr c hi).label (pl:=pl) hp).1;have hl':pl.b < w.heap.size:=hl;exact⟨qv w _ hl',fC _ _ _ au⟩)
 refine⟨⟨dm.2 ⟨λhm=> ?_,h1.defers.1⟩,λd hd=> ?_⟩,h1.size,h1.ct,h1.bN,h1.trans,h1.le⟩
 ·obtain⟨D,e,_,hh,_⟩:=h.defers.2 _ hm;have e:Deferred.mk (.collected w.heap.size) #[]=Deferred.mk (.collected D) #[]:=e;injection e with e _
  injection e with e
  have:=(bO.1 hh).1;omega
 ·rcases cj.1 hd with rfl | hd
  ·exact⟨w.heap.size,rfl,h.trans.size,sW w _,fH _ _ _⟩
  ·exact h1.defers.2 d hd
theorem I9:∀l:List aD,(K7 l).list=l
 |[]=>rfl
 |a::l=>by simp[K7,aD.list,I9 l]
theorem Cp(bp:List Nat):∀(i:Nat) (l:List aD),(eV bp i l).length=l.length
 |_,[]=>rfl
 |i,_::l=>by simp[eV,Cp bp (i+1) l]
theorem H8(bp:List Nat):∀(l:List aD) (i j:Nat),(eV bp i l).getD j .undef=l.getD j .undef\/(eV bp i l).getD j .undef= .undef
 |[],_,_=> .inl rfl
 |v::l,i,0=>by
  simp only[eV,lV];split
  ·exact .inl rfl
  ·exact .inr rfl
 |v::l,i,j+1=>by simpa[eV]using H8 bp l (i+1) j
theorem Inv.frame{g:Nat->lY}{β:Id->Option Pl}{s:AS}{a:Act}{w:bW}(h:Inv C g β s a w)(bp:List Nat):CX (s.env w g β) (K7 (eV bp 0 s.ct)) a.tmps:=by
 refine⟨by rw[I9,Cp,h.size],λi=> ?_⟩;rw[I9];rcases H8 bp s.ct 0 i with e | e
 ·rw[e];exact h.ct i
 ·rw[e];exact VS.undef
theorem aBn(a:Act)(q:Nat)(x:Value):(a.put (ao q) x).put (ao q) (a.tmps.getD q undef)=a:=by
 obtain⟨t,d⟩:=a;simp only[Act.put];congr 1;apply rj;intro i;simp only[ek,Array.size_setIfInBounds];by_cases h:q=i
 ·subst h;by_cases hl:q < t.size
  ·simp[hl]
  ·simp[hl]
 ·simp[h]
theorem MR{g:Nat->lY}{β:Id->Option Pl}{s s':AS}{a:Act}{w:bW}{q p:Nat}(h:Inv C g β s a w)(he:s.OW q p=ao s'):∃pl r,β (.bF 0)=ao pl/\(s.env w g β).cur (.bF 0) 0/\w.heap[pl.b]? =ao (.loop r)/\agZ q r.state r.pending/\
  ∀r':Loop,r'.params=r.params->r'.assign=r.assign->r'.body=r.body->r'.tmps=r.tmps->agZ p r'.state r'.pending->Inv C g β s' a (w.putObj pl.b (.loop r')):=by
 unfold AS.OW at he;split at he;rotate_left
 ·cases he
 rename_i c f q' cP;split at he;rotate_left
 ·cases he
 rename_i hq;obtain rfl:q=q':=fa hq;obtain rfl:=aP he;obtain⟨pl,r,hp,hb,hg,⟨q1,q2,q3⟩,asr,nQ⟩:=h.bN (.bF 0) 0 aR _ cP;have hp:β (.bF 0)=ao pl:=hp;have hb:w.heap[pl.b]? =ao (.loop r):=hb
 have hg:g pl.b= .own (.id (.bF 0)) 0:=hg;refine⟨pl,r,hp,⟨aR,_,cP⟩,hb,nQ,λr' e1 e2 e3 e4 hs'=> ?_⟩;have je:pl.b < w.heap.size:=(bO.1 hb).1;have hother:∀b',b'≠pl.b->(w.putObj pl.b (.loop r')).heap[b']? =w.heap[b']? :=λb' gj=>World.putObj_heap_other gj
 have ht:Trans w (w.putObj pl.b (.loop r')) g g:=by
  refine⟨rfl,rfl,⟨rfl,aF _⟩,by simp,λb' _=> ?_⟩;by_cases he:b'=pl.b
  ·subst he;rw[hg];exact⟨.inr ⟨_,0,rfl,aF _⟩,λ_ _ hh=>au⟩
  ·rw[hother b' he];cases Rt:g b' with
   |free=>exact⟨rfl,rfl⟩
   |own o' k=>cases o' with
    |eL=>exact⟨rfl,rfl⟩
    |id i'=>exact⟨.inr ⟨i',k,rfl,aF _⟩,λoff v _ hv=>by simpa only[eN,hother b' he]using hv⟩
 have hle:cU (s.env w g β) ((s.aZ (.bF 0) (.obj 0 aR (.yZ c f p))).env (w.putObj pl.b (.loop r')) g β):=cU.aZ cP (aF _) ht (λ_ _=>rfl) (λ_=>rfl);refine h.step (dr _ _ _) ht hle (iN.aZ h.bN (by rw[cP];simp) hle (λ_ _=>rfl) (λi ver fr c pl2 hi TQ Rv=>⟨hother _ (h.apart hg hi TQ Rv),rfl⟩) ?_ (L7 cP));exact⟨pl,r',hp,World.putObj_heap_same je,hg,⟨e1.trans q1,e2.trans q2,e3.trans q3⟩,by rw[e4];exact asr.mono hle,hs'⟩
theorem RJ{n:Nat}(hΓ:Sound P Γ){f:bK}{ps:Array Tmp}{as b:Code}{R:Type}{r:R}{k:Exit->AS->Option R}{Q:Exit->Act->bW->Prop}{s:AS}{a:Act}{w:bW}(h:gT C s a w)
  (he:DR P Γ an s f ps as b k=ao r) (hk:∀e s' a' w',gT C s' a' w'->k e s'=ao r->Q e a' w'):(Code.rangeFunc f ps as b).wpIn (Fr aJ) n P Q a w:=by
 obtain⟨g,β,h⟩:=h;unfold DR at he;split at he;rotate_left
 ·cases he
 rename_i y bp h0 caps aLy aMf hF;split at he;rotate_left
 ·cases he
 rename_i en aGk ajm;simp only[av]at aGk;obtain⟨⟨⟨apw,avc⟩,hq⟩,je⟩:=aGk;have hd:=(hΓ _ _ _ ajm).1 je;have hdR:=(hΓ _ _ _ ajm).2.2 je;generalize aJe:ps.getD 0 0=q at avc hq he ajm;have hq:q < s.ct.length:=dF hq;obtain⟨vs,hy,aFB⟩:=TE (hF▸h.ev f);refine wpIn_rangeFunc λfn _=> ?_
 have cP:=run_enterLoop_outer (P:=P) (w:=w) fn a.tmps ps as b;have i1:=h.anZ;generalize aLG:w.alloc (.deferred (ao []))=w1 at i1 cP;have sj:w1.heap.size=w.heap.size+1:=by rw[<-aLG];exact World.size_alloc ..
 generalize aJf:({state:= .ready,pending:=aJ,fn,tmps:=a.tmps,params:=ps,assign:=as,body:=b,defers:=w.heap.size}:Loop)=r0 at cP;have ht:=Trans.alloc w1 (nu g w.heap.size (.own .eL 0)) (.loop r0) (.own (.id (.new q 0)) 0);obtain⟨i2,e2⟩:=i1.NV avc (c:= .yZ ⟨y,ps,as,b⟩ (K7 (eV bp 0 s.ct)) 0) (p:=ao ⟨w1.heap.size,0⟩) ht (λb hb=>⟨qv w1 _ hb,fC _ _ _ au⟩) (λhe=>
  ⟨⟨w1.heap.size,0⟩,r0,j7 _ _ _,sW w1 _,fH _ _ _,by subst aJf;exact⟨rfl,rfl,rfl⟩,by subst aJf;exact(i1.frame bp).mono he,by subst aJf;exact⟨rfl,rfl⟩⟩)
 generalize nu (nu g w.heap.size (.own .eL 0)) w1.heap.size (.own (.id (.new q 0)) 0)=g2 at i2 e2;generalize hβ2:GW β (.new q 0) (ao ⟨w1.heap.size,0⟩)=β2 at i2 e2;generalize ast:w1.alloc (.loop r0)=w2 at i2 e2 cP;have aKJ:VS ((s.born q [.obj 0 aR (.yZ ⟨y,ps,as,b⟩ (K7 (eV bp 0 s.ct)) 0)]).env w2 g2 β2) (.yl (.new q 0) 0) (.func (.yield w1.heap.size) #[] #[]):=by refine⟨[.func (.yield w1.heap.size) #[] #[]],?_,rfl⟩;simp only[V];exact⟨_,rfl,pI avc _ _ _ _,λ_=>⟨⟨w1.heap.size,0⟩,by rw[<-hβ2];exact j7 _ _ _,rfl⟩⟩
 have i3:=i2.put (ao q) aKJ;have hF2:(s.born q [.obj 0 aR (.yZ ⟨y,ps,as,b⟩ (K7 (eV bp 0 s.ct)) 0)]).ev f= .fn h0 caps:=by rw[<-hF];cases f <;> rfl
 obtain⟨vs2,aFD,aJr⟩:=TE (hF2▸i2.ev f);have P9:vs2=vs:=by
  have e:Value.func (.func h0) #[] vs2.toArray= .func (.func h0) #[] vs.toArray:=by rw[<-aFD,<-hy];cases f <;> rfl
  injection e with _ _ e
  simpa using bD Array.toList e
 subst P9;have H3:w8 (((s.born q [.obj 0 aR (.yZ ⟨y,ps,as,b⟩ (K7 (eV bp 0 s.ct)) 0)]).put (ao q) (.yl (.new q 0) 0)).env w2 g2 β2) (.yl (.new q 0) 0::caps.list) (.func (.yield w1.heap.size) #[] #[]::vs2):=by rw[aba];exact⟨aKJ,aak aJr⟩
 have aGj:∀args:Array Value,(callFunc h0 args).run P w2= .ok (.enter h0 args) w2:=λargs=>by
  unfold ag1 at apw;split at apw
  ·rename_i fn' aDV;simp only[av,cv,gh]at apw;obtain⟨c,hc⟩:=bA.1 apw.2;unfold callFunc;simp[aDV,apw.1,hc]
  ·cases apw
 have post:∀ {s3:AS} {w3:bW} {v:Value},gT C s3 ((({a with defers:=uw w.heap.size::a.defers}:Act).put (ao q) (.func (.yield w1.heap.size) #[] #[])).put aJ v) w3->∀ {c:uk} {fr:aD} {p:Nat},s3.bU (.new q 0)=ao (.obj 0 aR (.yZ c fr p))->s3.slot q= .yl (.new q 0) 0->p≠1->
   ∃jump w4,(Instr.endLoop w1.heap.size).run P w3= .ok jump w4/\agZ p (if p=0 then .ready else .done) jump/\gT C ((s3.aZ (.new q 0) .dead).put (ao q) .undef) {a with defers:=uw w.heap.size::a.defers} w4:=by
  intro s3 w3 v aEb c fr p TO au7 aFv;obtain⟨g3,β3,i5⟩:=aEb;obtain⟨pl,r3,hp,hb,hg,_,_,nQ⟩:=i5.bN (.new q 0) 0 aR _ TO;have hp:β3 (.new q 0)=ao pl:=hp;have hb:w3.heap[pl.b]? =ao (.loop r3):=hb
  have hg:g3 pl.b= .own (.id (.new q 0)) 0:=hg;have aCy:=i5.ct q;rw[au7]at aCy;obtain⟨cs,hV,hO⟩:=aCy;simp only[V]at hV;obtain⟨l,rfl,_,fD⟩:=hV;obtain⟨pl',hp',rfl⟩:=fD ⟨aR,_,TO⟩;have hp':β3 (.new q 0)=ao pl':=hp';rw[hp]at hp';obtain rfl:pl=pl':=by simpa using hp'
  have hO: [Value.func (.yield pl.b) #[] #[]]=[((({a with defers:=uw w.heap.size::a.defers}:Act).put (ao q) (.func (.yield w1.heap.size) #[] #[])).put aJ v).tmps.getD q undef]:=hO;have Oi:q < ({a with defers:=uw w.heap.size::a.defers}:Act).tmps.size:=by show q < a.tmps.size;rw[h.size];exact hq
  have hO2:((({a with defers:=uw w.heap.size::a.defers}:Act).put (ao q) (.func (.yield w1.heap.size) #[] #[])).put aJ v).tmps.getD q undef= .func (.yield w1.heap.size) #[] #[]:=by show((({a with defers:=uw w.heap.size::a.defers}:Act).put (ao q) (.func (.yield w1.heap.size) #[] #[]))).tmps.getD q undef=_;rw[ahF,if_pos ⟨rfl,Oi⟩]
  rw[hO2]at hO;have hl:pl.b=w1.heap.size:=by simpa using hO
  have aGh:r3.state≠ .busy:=by
   match p,nQ,aFv with
   | 0,nQ,_=>rw[nQ.1];simp
   | 1,_,h=>exact absurd rfl h
   | 2,nQ,_=>rw[nQ.1];simp
   |_+3,nQ,_=>rw[nQ.1];simp
  have je:pl.b < w3.heap.size:=(bO.1 hb).1;refine⟨r3.pending,_,by rw[<-hl];exact run_endLoop hb aGh,?_,?_⟩
  ·match p,nQ,aFv with
   | 0,nQ,_=>exact⟨rfl,nQ.2⟩
   | 1,_,h=>exact absurd rfl h
   | 2,nQ,_=>exact⟨rfl,nQ.2⟩
   |_+3,nQ,_=>exact⟨rfl,nQ.2⟩
  ·have i6:=i5.kill TO hg (w':=w3.putObj pl.b (.loop {r3 with state:= .exhausted})) rfl rfl ⟨rfl,aF _⟩ (by simp) (λb' hb'=>World.putObj_heap_other hb');have i7:=i6.put (ao q) (v:= .undef) (x:=({a with defers:=uw w.heap.size::a.defers}:Act).tmps.getD q undef) VS.undef;have e:=aBn {a with defers:=uw w.heap.size::a.defers} q (.func (.yield w1.heap.size) #[] #[]);refine⟨nu g3 pl.b .free,β3,?_⟩;simp only[Act.put]at e i7;rw[e]at i7;exact i7
 generalize hK:(λs3:AS=>(match s3.bU (.new q 0),s3.slot q with
   |some (.obj 0 aR (.yZ _ _ p)),.yl (.new q' 0) 0=>match iG q' q,p with
    |true,0=>k .normal ((s3.aZ (.new q 0) .dead).put (ao q) .undef)
    |true,2=>k .ret ((s3.aZ (.new q 0) .dead).put (ao q) .undef)
    |true,i+3=>k (.exit i) ((s3.aZ (.new q 0) .dead).put (ao q) .undef)
    |_,_=>aJ
   |_,_=>aJ))=K at he
 have hc:Calls P h0 (.func (.yield w1.heap.size) #[] #[]::vs2).toArray w2 λe w'=>∃v,e= .returned v/\∃s3,gT C s3 ((({a with defers:=uw w.heap.size::a.defers}:Act).put (ao q) (.func (.yield w1.heap.size) #[] #[])).put aJ v) w'/\K s3=ao r:=by
  unfold AS.aCd at he;split at he
  ·exact(PF (o:= {(default:Oper) with dst:=aJ}) i3 hdR H3 he).2
  ·obtain⟨s3,aCl,he⟩:=gQ.1 he;unfold AS.call at aCl;obtain⟨r2,h1,h2⟩:=ax.1 aCl;obtain⟨g',i4,e4,_,f1⟩:=fb r2.2 i3;obtain⟨x,hx,k1,k2,key⟩:=Ob (o:= {(default:Oper) with dst:=aJ}) i4 (AK _ _) (Cf rfl i3.bN e4 _ _ _ r2 H3 h1 f1) h2;rcases hd _ _ _ _ _ _ _ k1 k2 hx with⟨_,hc⟩ | ⟨v,w',aH2,_⟩
   ·exact hc.mono λe w' ⟨v,afq,ha⟩=>⟨v,afq,s3,key v w' ha,he⟩
   ·rw[aGj]at aH2;cases aH2
 refine⟨w1.heap.size,[uw w.heap.size],w2,⟨.fn (.func h0) vs2.toArray,#[.func (.yield w1.heap.size) #[] #[]]⟩,w2,h0,(.func (.yield w1.heap.size) #[] #[]::vs2).toArray,w2,?_,?_,λ_ _=>trivial,?_,λh=>(by cases h),?_⟩
 ·rw[sj];exact cP
 ·have e:resolve a.eval (rangeCall f w1.heap.size) 0=Deferred.ofValue (a.eval f) #[.func (.yield w1.heap.size) #[] #[]]:=by simp[resolve,rangeCall,Act.eval]
  rw[e,hy];simp[Deferred.ofValue]
 ·have e:(#[.func (.yield w1.heap.size) #[] #[]]++vs2.toArray:Array Value)=(.func (.yield w1.heap.size) #[] #[]::vs2).toArray:=by simp
  rw[<-aGj,<-e];rfl
 ·have h1:CallsIn (Fr aJ) (n - 1) P h0 (.func (.yield w1.heap.size) #[] #[]::vs2).toArray w2 _:=callsIn_wide.2 hc;refine h1.mono λe w3 ⟨v,afq,s3,aEb,he⟩=> ?_
  subst afq;subst hK;show ∃jump w4,_/\_;simp only at he;split at he;rotate_left
  ·cases he
  rename_i c3 fr3 p3 q' TO au7;split at he
  ·rename_i hq';obtain rfl:q'=q:=fa hq';obtain⟨jump,w4,auZ,nQ,aGR⟩:=post aEb TO au7 eZ;obtain⟨_,rfl⟩:=nQ;exact⟨aJ,w4,auZ,hk _ _ _ _ aGR he⟩
  ·rename_i hq';obtain rfl:q'=q:=fa hq';obtain⟨jump,w4,auZ,nQ,aGR⟩:=post aEb TO au7 eZ;obtain⟨_,rfl⟩:=nQ;exact⟨_,w4,auZ,wpIn_ret (hk _ _ _ _ aGR he)⟩
  ·rename_i i hq';obtain rfl:q'=q:=fa hq';obtain⟨jump,w4,auZ,nQ,aGR⟩:=post aEb TO au7 (by simp);obtain⟨_,rfl⟩:=nQ;exact⟨_,w4,auZ,wpIn_exit (hk _ _ _ _ aGR he)⟩
  ·cases he
theorem nB{rd:Option Nat}{n:Nat}(hm:P.follows .mixedOrders=aT)(hΓ:Sound P Γ)(hC:C.ok){N:Nat}(apB:rd=aJ\/an.qG.isSome=aT):∀(c:Code),mM P Γ an N (jE c)->∀ {R:Type} {r:R} (s:AS) (a:Act) (w:bW) (k:Exit->AS->Option R) (Q:Exit->Act->bW->Prop),
  gT C s a w->ev P Γ an N c s k=ao r->(∀e s' a' w',gT C s' a' w'->k e s'=ao r->Q e a' w')->c.wpIn (Fr rd) n P Q a w
 | .skip,hL,_,_,s,a,w,k,Q,hs,h,hk=>wpIn_skip (hk _ _ _ _ hs h)
 | .region id ops draw,hL,_,_,s,a,w,k,Q,hs,h,hk=>by
  simp only[ev]at h;obtain⟨s,hs,h⟩:=Qz _ hs h;refine LY hC (λk Q h hk=> ?_) h hk;cases draw with
  |true=>
   simp only at h;split at h
   ·rename_i hE;exact ag0 hm hΓ hs hE h λs' a' w' hs' hk'=>hk _ _ _ _ hs' hk'
   ·cases h
  |false=>exact wpIn_region_list (P2 hΓ ops.toList hs h λs' a' w' hs' hk'=>hk _ _ _ _ hs' hk')
 | .seq x y,hL,_,_,s,a,w,k,Q,hs,h,hk=>by
  simp only[ev]at h;refine wpIn_seq (LY hC (λk Q h hk=>nB hm hΓ hC apB x hL.append.1 s a w k Q hs h hk) h λe s' a' w' hs' hk'=> ?_);cases e with
  |normal=>exact nB hm hΓ hC apB y hL.append.2 s' a' w' k Q hs' hk' hk
  |_=>exact hk _ s' a' w' hs' hk'
 | .cond c x y,hL,_,_,s,a,w,k,Q,hs,h,hk=>by
  simp only[ev]at h;split at h
  ·rename_i b hb;have hc:a.eval c= .bool b:=by obtain⟨g,β,hi⟩:=hs;have:=hi.ev c;rw[hb]at this;exact RW this
   refine wpIn_cond hc ?_
   cases b with
   |true=>exact nB hm hΓ hC apB x hL.append.1 s a w k Q hs h hk
   |false=>exact nB hm hΓ hC apB y hL.append.2 s a w k Q hs h hk
  ·cases h
 | .block id b,hL,_,_,s,a,w,k,Q,hs,h,hk=>by
  simp only[ev]at h;refine wpIn_block (nB hm hΓ hC apB b hL s a w _ _ hs h λe s' a' w' hs' hk'=> ?_);cases e with
  |exit i=>
   simp only at hk';simp only[Exit.inBlock];by_cases hi:i=id
   ·rw[if_pos hi];simp only[hi,cV]at hk';exact hk _ s' a' w' hs' hk'
   ·rw[if_neg hi];simp only[hi,decide_false]at hk';exact hk _ s' a' w' hs' hk'
  |_=>exact hk _ s' a' w' hs' hk'
 | .loop b,hL,R,r,s,a,w,k,Q,hs,h,hk=>by
  simp only[ev]at h;obtain⟨s1,h1,h⟩:=gQ.1 h;have NI:=oX hC hs h1;obtain⟨hL1,hL2⟩:=(hL:alE P Γ an N b/\mM P Γ an N (jE b));split at h
  ·rename_i le hle;unfold ayz at h;cases abw:le.set with
   |some S=>
    rw[abw]at h;simp only at h;obtain⟨h2,h3⟩:=N9 h;obtain⟨n,hn⟩:=(hL1 le hle).2 S abw s1 h2;refine wpIn_loop_rounds n (Dy (λs s1 a w hs hn=>oX hC hs hn) (λe s s1 a w hs hn=>oX hC hs hn) (λs a w k Q hs hb hk=>nB hm hΓ hC apB b hL2 s a w k Q hs hb hk) (λe s' a' w' hs' he=> ?_) n s1 a w NI hn);obtain⟨x,aH3,aH4⟩:=agm he;obtain⟨y,hy,h4⟩:=gQ.1 (h3 x aH3);rw[aH4,az]at hy;subst hy;exact hk _ _ _ _ hs' h4
   |none=>
   rw[abw]at h;simp only at h;cases hr:le.run s1 with
   |none=>rw[hr]at h;cases h
   |some x=>
    rw[hr]at h;simp only[aq]at h;obtain⟨y,hy,h⟩:=gQ.1 h;obtain⟨n,hn⟩:=(hL1 le hle).1 abw s1 x hr;rw[hy]at hn;refine wpIn_loop_rounds n (Dy (λs s1 a w hs hn=>oX hC hs hn) (λe s s1 a w hs hn=>oX hC hs hn) (λs a w k Q hs hb hk=>nB hm hΓ hC apB b hL2 s a w k Q hs hb hk) (λe s' a' w' hs' he=> ?_) n s1 a w NI hn);simp only[az]at he;subst he;exact hk e s' a' w' hs' h
  ·exact wpIn_loop_rounds N (Dy (λs s1 a w hs hn=>oX hC hs hn) (λe s s1 a w hs hn=>oX hC hs hn) (λs a w k Q hs hb hk=>nB hm hΓ hC apB b hL2 s a w k Q hs hb hk) hk N s1 a w NI h)
 | .exit id,hL,_,_,s,a,w,k,Q,hs,h,hk=>wpIn_exit (hk _ _ _ _ hs h)
 | .ret,hL,_,_,s,a,w,k,Q,hs,h,hk=>wpIn_ret (hk _ _ _ _ hs h)
 | .rangeFunc f ps as b,_,_,_,s,a,w,k,Q,hs,h,hk=>by
  simp only[ev]at h;obtain⟨s1,h1,h⟩:=gQ.1 h;have hs:=lK hC _ hs h1;rcases apB with rfl | apB
  ·exact RJ hΓ hs h hk
  ·unfold DR at h;split at h
   ·rename_i h0 _ _;rw[h0]at apB;cases apB
   ·cases h
 | .scope b,hL,_,_,s,a,w,k,Q,hs,h,hk=>by
  simp only[ev]at h;refine HG (nB hm hΓ hC apB b hL s a w _ _ hs h λe s' a' w' hs' hk'=> ?_);cases e with
  |goto l=>cases hk'
  |_=>exact hk _ s' a' w' hs' hk'
 | .label _,hL,_,_,s,a,w,k,Q,hs,h,hk=>wpIn_label (hk _ _ _ _ hs h)
 | .goto _,_,_,_,_,_,_,_,_,_,h,_=>by simp[ev]at h
 | .refuse _,_,_,_,_,_,_,_,_,_,h,_=>by simp[ev]at h
variable {g:Nat->lY} {β:Id->Option Pl} {s:AS} {a:Act} {w:bW}
def VT(tmps:Array Value)(r:ResultVar):Sem Value:=
 match r with
 | .tmp t=>pure (tmps.getD t undef)
 | .cell a t=>do loadVar t (<-asAddr (tmps.getD a undef))
theorem MX(h:Inv C g β s a w){r:ResultVar}{v:aD}(he:(VV P s r).eval=ao v):∃x,(VT a.tmps r).run P w= .ok x w/\VS (s.env w g β) v x:=by
 cases r with
 |tmp t=>
  simp only[VV]at he;obtain rfl:=ay.1 he;exact⟨_,by simp[VT],h.ct t⟩
 |cell t T=>
  simp only[VV]at he;obtain⟨ad,z,hy,hr,hv⟩:=Ug h (h.ct t) he;exact⟨z,by simp[VT,hy,asAddr,hr],hv⟩
theorem MW(h:Inv C g β s a w){r:ResultVar}{o:Option Ty}{y:AS×aD}(he:(VU P s r o).eval=ao y):
  ∃x g',(VT a.tmps r).run P w= .ok x w/\Inv C g' β y.1 a w/\cU (s.env w g β) (y.1.env w g' β)/\VS (y.1.env w g' β) y.2 x:=by
 cases o with
 |none=>
  simp only[VU]at he;obtain⟨v,h1,h2⟩:=ax.1 he;obtain rfl:=ay.1 h2;obtain⟨x,hx,hv⟩:=MX h h1;exact⟨x,g,hx,h,cU.refl _,hv⟩
 |some t=>
  simp only[VU]at he;obtain⟨v,h1,h2⟩:=ax.1 he;obtain⟨d,h3,h4⟩:=ax.1 h2;obtain rfl:=ay.1 h4;obtain⟨x,hx,hv⟩:=MX h h1;obtain⟨g',i1,e1,_,cs,hR,hO⟩:=z8 h hv h3;exact⟨x,g',hx,i1,e1,VS.of (a:= .d t d) (cs:=cs) (by simpa only[V]using hR) hO⟩
theorem Ix:∀(l:List ResultVar) (ts:List (Option Ty)) {s:AS} {g:Nat->lY} (_:Inv C g β s a w) {y:AS×aD},(MY P s l ts).eval=ao y->
  ∃(xs:List Value) (g':Nat->lY),(l.mapM (VT a.tmps)).run P w= .ok xs w/\Inv C g' β y.1 a w/\cU (s.env w g β) (y.1.env w g' β)/\VC (y.1.env w g' β) y.2 xs/\xs.length=l.length
 |[],ts,s,g,h,y,he=>by simp only[MY]at he;obtain rfl:=ay.1 he;exact⟨[],g,by simp,h,cU.refl _,by simp[VC],rfl⟩
 |r::l,ts,s,g,h,y,he=>by simp only[MY]at he;obtain⟨u,h1,h2⟩:=ax.1 he;obtain⟨hc,h2⟩:=aG.1 h2;obtain⟨us,h3,h4⟩:=ax.1 h2;obtain rfl:=ay.1 h4;obtain⟨x,g1,hx,i1,e1,hv⟩:=MW h h1;obtain⟨xs,g2,ah4,i2,e2,P9,hl⟩:=Ix l ts.tail i1 h3;obtain⟨cs,hV,hO⟩:=(hv.mono e2).eQ hc;refine⟨x::xs,g2,?_,i2,e1.trans e2,by simp only[VC];exact⟨x,xs,cs,rfl,hV,hO,P9⟩,by simp[hl]⟩;simp only[List.mapM_cons,cg,hx,bH,ah4,dY]
theorem asG{E:Env}{v:aD}{xs:List Value}(h:VC E v xs):VS E v (.tuple xs.toArray):=by
 cases v <;> first
  | (simp only[VC]at h;done)
  |exact⟨xs,rfl,h⟩
  | (simp only[VC]at h;subst h;rfl)
theorem XT(h:Inv C g β s a w){fn:Func}{ts:List (Option Ty)}{y:AS×aD}(he:(acH P fn ts s).eval=ao y):
  ∃x g',(results fn a.tmps).run P w= .ok x w/\Inv C g' β y.1 a w/\VS (y.1.env w g' β) y.2 x:=by
 have key:∀xs:List Value,(fn.results.toList.mapM (VT a.tmps)).run P w= .ok xs w->(results fn a.tmps).run P w= .ok (if h:xs.length=1 then xs[0] else .tuple xs.toArray) w:=λxs ah4=>by
  have e:results fn a.tmps=(do
   let vs <-fn.results.mapM (VT a.tmps)
   pure (if h:vs.size=1 then vs[0] else .tuple vs)):=rfl
  rw[e,Array.mapM_eq_mapM_toList];simp only[map_eq_pure_bind,cg,ah4,bH,dY];congr 1
 unfold acH at he;split at he
 ·rename_i r hr;obtain⟨x,g',hx,hi,_,hv⟩:=MW h he;refine⟨x,g',?_,hi,hv⟩;rw[key [x] (by simp[hr,hx])];simp
 ·rename_i rs gj;obtain⟨xs,g',hx,hi,_,hv,hl⟩:=Ix _ _ h he;refine⟨.tuple xs.toArray,g',?_,hi,asG hv⟩;rw[key xs hx,AA];rw[hl];intro h1;obtain⟨r,hr⟩:=List.length_eq_one_iff.1 h1;exact gj r hr
end
end Go.Ab
namespace Go.Ab
def uu(ids:List Id):lY->lY
 | .own (.id (.new i j)) k=> .own (.id (match idxOf (.new i j) ids with | some m=> .new 0 m | none=> .new 1 0)) k
 |l=>l
def awW(β:Id->Option Pl)(ids:List Id):Id->Option Pl
 | .bF k=>β (.bF k)
 | .new 0 m=>(ids[m]?).bind β
 | .new (_+1) _=>aJ
theorem apP{ids:List Id}{g:Nat->lY}{b off:Nat}(h:sM g b off):sM (λb=>uu ids (g b)) b off:=by
 unfold sM at*;simp only;cases hg:g b with
 |free=>simp[uu]
 |own o k=>
  rw[hg]at h;cases o with
  |eL=>exact h
  |id i=>cases i <;> exact h
theorem abl(s:AS)(v:aD):(s.Oc v).Nodup:=(sC s _ _ _ (by simp)).filter _
theorem ajc{s:AS}{v:aD}{id:Id}(h:id∈s.Oc v):∃i j,id= .new i j:=by
 unfold AS.Oc at h;have:=(nv.1 h).2;cases id with
 |bF k=>simp[Id.aCC]at this
 |new i j=>exact⟨i,j,rfl⟩
section
variable {P:aM} {Γ:qi} {C:Ctx} {g:Nat->lY} {β:Id->Option Pl} {s:AS} {a:Act} {w:bW}
theorem YZ(h:Inv C g β s a w)(hC:C.ok){v:aD}{x:Value}(hv:VS (s.env w g β) v x):sR C.E (s.fin v) x w:=by
 unfold AS.fin;have hn:=abl s v;have Co:∀id∈s.Oc v,∃i j,id= .new i j:=λid de=>ajc de
 generalize s.Oc v=ids at hn Co;generalize hG:s.aCg ids v=G;have zx:G.val=v.iJ (Jw ids):=by rw[<-hG];rfl
 have hold:∀k,G.st.bU (.bF k)=(s.bU (.bF k)).map (dU.fin ids):=λk=>by
  rw[<-hG];show(s.cn.map (dU.fin ids))[k]? =_
  rw[eJ];rfl
 have aKC:∀m,G.st.bU (.new 0 m)=(ids[m]?).map λid=>((s.bU id).getD .dead).fin ids:=λm=>by
  rw[<-hG];show(ids.map λid=>((s.bU id).getD .dead).fin ids)[m]? =_
  rw[eJ]
 have aLs:∀i m,G.st.bU (.new (i+1) m)=aJ:=λi m=>by simp[ig.st,AS.bU]
 let g':Nat->lY:=λb=>uu ids (g b)
 let β':=awW β ids
 have apy:∀e ver fr c,dU.fin ids e= .obj ver fr c->∃c0,e= .obj ver fr c0/\c=c0.iJ (Jw ids):=λe ver fr c he=>by
  cases e with
  |dead=>cases he
  |obj v0 fr0 c0=>
   simp only[dU.fin,dU.obj.injEq]at he;obtain⟨rfl,rfl,rfl⟩:=he;exact⟨c0,rfl,rfl⟩
 have hle:y5 (Jw ids) (s.env w g β) (G.st.env w g' β'):=by
  refine⟨⟨λb off v ⟨h1,h2⟩=>⟨h1,apP h2⟩,λb ob h1 h2=>⟨by show uu ids (g b)= .free;have h1:g b= .free:=h1;rw[h1];rfl,h2⟩⟩,λid ver r hr hb=> ?_⟩;obtain⟨NH,R4⟩:=hb;have NH:s.bU id≠aJ:=NH;have R4:∀v fr c,s.bU id=ao (.obj v fr c)->ver<=v:=R4;cases id with
  |bF k=>
   simp only[Jw,az]at hr;subst hr;refine⟨⟨?_,λv fr c hh=> ?_⟩,λ⟨fr,c,hh⟩=>⟨?_,rfl⟩⟩
   ·show G.st.bU (.bF k)≠aJ;rw[hold];simpa using NH
   ·have hh:G.st.bU (.bF k)=ao (.obj v fr c):=hh;rw[hold,dw]at hh;obtain⟨e,he,hh⟩:=hh;obtain⟨c0,rfl,_⟩:=apy _ _ _ _ hh;exact R4 v fr c0 he
   ·have hh:G.st.bU (.bF k)=ao (.obj ver fr c):=hh;rw[hold,dw]at hh;obtain⟨e,he,hh⟩:=hh;obtain⟨c0,rfl,_⟩:=apy _ _ _ _ hh;exact⟨fr,c0,he⟩
  |new i j=>
   simp only[Jw]at hr;split at hr
   ·rename_i m hm;simp only[az]at hr;subst hr;have de:=oN hm;obtain⟨e,he⟩:=Option.ne_none_iff_exists'.1 NH;have hg:G.st.bU (.new 0 m)=ao (e.fin ids):=by rw[aKC,de];simp[he]
    refine⟨⟨?_,λv fr c hh=> ?_⟩,λ⟨fr,c,hh⟩=>⟨?_,?_⟩⟩
    ·show G.st.bU (.new 0 m)≠aJ;rw[hg];simp
    ·have hh:G.st.bU (.new 0 m)=ao (.obj v fr c):=hh;rw[hg,az]at hh;obtain⟨c0,rfl,_⟩:=apy _ _ _ _ hh;exact R4 v fr c0 he
    ·have hh:G.st.bU (.new 0 m)=ao (.obj ver fr c):=hh;rw[hg,az]at hh;obtain⟨c0,rfl,_⟩:=apy _ _ _ _ hh;exact⟨fr,c0,he⟩
    ·show(ids[m]?).bind β=β (.new i j);rw[de];rfl
   ·cases hr
 have ajy:Trans C.E.w w C.E.g g':=by
  have h0:=h.trans;refine⟨h0.os,h0.tape,h0.output,h0.size,λb hb=> ?_⟩;have h1:=h0.xo b hb;show match C.E.g b with | .free=>uu ids (g b)= .free/\_ | .own .eL k=>uu ids (g b)= .own .eL k/\_ | .own (.id _) k=>(uu ids (g b)= .free\/∃i k',uu ids (g b)= .own (.id i) k'/\k<=k')/\_
  cases Rt:C.E.g b with
  |free=>simp only[Rt]at h1 ⊢;rw[h1.1];exact⟨rfl,h1.2⟩
  |own o k=>cases o with
   |eL=>simp only[Rt]at h1 ⊢;rw[h1.1];exact⟨rfl,h1.2⟩
   |id i=>
    simp only[Rt]at h1 ⊢;refine⟨?_,h1.2⟩;rcases h1.1 with h2 | ⟨i',k',h2,h3⟩
    ·rw[h2];exact .inl rfl
    ·rw[h2];right;cases i' with
     |bF m=>exact⟨_,k',rfl,h3⟩
     |new i j=>exact⟨_,k',rfl,h3⟩
 have az8:iN (G.st.env w g' β'):=by
  intro id ver fr c de;have de:G.st.bU id=ao (.obj ver fr c):=de;cases id with
  |bF k=>
   rw[hold,dw]at de;obtain⟨e,he,de⟩:=de;obtain⟨c0,rfl,rfl⟩:=apy _ _ _ _ de;refine vL hle (h.bN (.bF k) ver fr c0 he) rfl λpl _=>⟨rfl,λn hg=> ?_,λhg=> ?_⟩
   ·have hg:g pl.b= .own (.id (.bF k)) n:=hg;show uu ids (g pl.b)=_;rw[hg];rfl
   ·have hg:g pl.b= .free:=hg;show uu ids (g pl.b)=_;rw[hg];rfl
  |new i m=>
   cases i with
   |succ i=>rw[aLs]at de;cases de
   |zero=>
    rw[aKC,dw]at de;obtain⟨id0,aD0,de⟩:=de;obtain⟨c0,he,rfl⟩:=apy _ _ _ _ de;have cP:s.bU id0=ao (.obj ver fr c0):=by
     cases hs:s.bU id0 with
     |none=>rw[hs]at he;cases he
     |some e=>rw[hs]at he;simp only[dz]at he;rw[he]
    obtain⟨i0,j0,rfl⟩:=Co id0 (c7 aD0);refine vL hle (h.bN (.new i0 j0) ver fr c0 cP) (by show(ids[m]?).bind β=_;rw[aD0];rfl) λpl _=>⟨rfl,λn hg=> ?_,λhg=> ?_⟩
    ·have hg:g pl.b= .own (.id (.new i0 j0)) n:=hg;show uu ids (g pl.b)=_;rw[hg];simp only[uu,vT hn aD0]
    ·have hg:g pl.b= .free:=hg;show uu ids (g pl.b)=_;rw[hg];rfl
 have ho:∀id ver,C.E.Eg id ver->∃k,id= .bF k:=λid ver hb=>by
  cases id with
  |bF k=>exact⟨k,rfl⟩
  |new i j=>exact absurd (hC.1 i j) hb.1
 refine⟨g',β',by rw[zx];exact ET hle hv,az8,ajy,Trans.mem (E:=C.E) (E':=G.st.env w g' β') ajy,λid ver hb=> ?_,λid ver hb hc=> ?_⟩
 ·obtain⟨k,rfl⟩:=ho id ver hb;exact(hle.ref (.bF k) ver (.bF k,ver) rfl (h.le.Eg _ _ hb)).1
 ·obtain⟨k,rfl⟩:=ho id ver hb;obtain⟨h1,h2⟩:=(hle.ref (.bF k) ver (.bF k,ver) rfl (h.le.Eg _ _ hb)).2 hc;obtain⟨h3,h4⟩:=h.le.cur _ _ hb h1;exact⟨h3,h2.trans h4⟩
theorem w8.len{E:Env}:∀ {as:List aD} {vs:List Value},w8 E as vs->as.length=vs.length
 |[],[],_=>rfl
 |_::_,_::_,⟨_,h⟩=>by simp[w8.len h]
 |[],_::_,h=>h.elim
 |_::_,[],h=>h.elim
theorem w8.get{E:Env}:∀ {as:List aD} {vs:List Value},w8 E as vs->∀i,VS E (as.getD i .undef) (vs.getD i undef)
 |[],[],_,i=>by simpa using VS.undef
 |_::_,_::_,⟨h,_⟩,0=>by simpa using h
 |_::_,_::_,⟨_,h⟩,i+1=>by simpa using w8.get h i
 |[],_::_,h,_=>h.elim
 |_::_,[],h,_=>h.elim
theorem arN{w:bW}{g:Nat->lY}{β:Id->Option Pl}{fn:Func}{args:List aD}{cn:List dU}{jk:List Value}(hv:w8 ((fM cn).env w g β) args jk)(ho:iN ((fM cn).env w g β)):
  Inv ⟨(fM cn).env w g β⟩ g β (start fn args cn) {tmps:=jk.toArray++Array.replicate (fn.ntmps - jk.toArray.size) undef,defers:=[]} w:=by
 have hl:=hv.len;have cP:(start fn args cn).bU=(fM cn).bU:=by
  funext id;cases id with
  |bF k=>rfl
  |new i j=>
   simp only[start,fM,AS.bU,aI,List.getElem?_replicate];split <;> simp
 have ajn:(start fn args cn).env w g β=(fM cn).env w g β:=by simp only[AS.env,cP]
 refine⟨⟨gV,λ_ h=>by cases h⟩,by simp[start,hl],λi=> ?_,by rw[ajn];exact ho,Trans.refl _ _,by rw[ajn];exact cU.refl _⟩;rw[ajn];have h1:(start fn args cn).slot i=args.getD i .undef:=by
  simp only[start,AS.slot,aI,List.getElem?_append,List.getElem?_replicate];split
  ·rfl
  ·rw[dP (l:=args) au];split <;> rfl
 have h2:(jk.toArray++Array.replicate (fn.ntmps - jk.toArray.size) undef).getD i undef=jk.getD i undef:=by
  simp only[cQ,aI,kr,Array.getElem?_replicate];simp only[gW,List.getElem?_toArray];split
  ·rfl
  ·rw[dP (l:=jk) au];split <;> rfl
 rw[h1,h2];exact hv.get i
theorem Inv.aE8{C:Ctx}{g:Nat->lY}{β:Id->Option Pl}{s:AS}{a:Act}{w:bW}(h:Inv C g β s a w){D:Nat}{ds:List Deferred}(hd:a.defers=uw D::ds):
  (Instr.takeDeferred D).run P w= .ok [] (w.putObj D (.deferred aJ))/\Inv C g β s {a with defers:=ds} (w.putObj D (.deferred aJ)):=by
 obtain⟨hn,vS⟩:=h.defers;rw[hd]at hn vS;obtain⟨D',e,hD,hh,hg⟩:=vS _ (aK ..);have e:Deferred.mk (.collected D) #[]=Deferred.mk (.collected D') #[]:=e;injection e with e _
 injection e with e
 subst e;have je:=(bO.1 hh).1;refine⟨run_takeDeferred hh,?_⟩;have other:∀b,b≠D->(w.putObj D (.deferred aJ)).heap[b]? =w.heap[b]? :=λb hb=>World.putObj_heap_other hb
 have Cm:∀b off v,w.cell? ⟨b,off,aJ⟩=ao v->b≠D:=λb off v hv e=>by subst e;simp[eN,hh]at hv
 have tn:sU (s.env w g β) (s.env (w.putObj D (.deferred aJ)) g β):=by
  refine⟨λb off v ⟨h1,h2⟩=>⟨?_,h2⟩,λb ob h1 h2=>⟨h1,?_⟩⟩
  ·have h1:w.cell? ⟨b,off,aJ⟩=ao v:=h1;show(w.putObj D (.deferred aJ)).cell? ⟨b,off,aJ⟩=ao v;rw[World.cell?_of_block (other b (Cm b off v h1))];exact h1
  ·have h1:g b= .free:=h1;have h2:w.heap[b]? =ao ob:=h2
   show(w.putObj D (.deferred aJ)).heap[b]? =ao ob
   rw[other b λe=>by rw[e,hg]at h1;cases h1];exact h2
 have hle:cU (s.env w g β) (s.env (w.putObj D (.deferred aJ)) g β):=⟨tn,λ_ _ h=>h,λ_ _ _ h=>⟨h,rfl⟩⟩;have gj:∀ {id:Id} {v:Nat} {fr:Bool} {c:aD} {pl:Pl},s.bU id=ao (.obj v fr c)->β id=ao pl->pl.b≠D:=λhs hp e=>by
  have:=((h.bN _ _ _ _ hs).label hp).2;have this:(∃k,g _= .own (.id _) k)\/(_/\g _= .free):=this;rw[e,hg]at this;rcases this with⟨k,hk⟩ | ⟨_,hk⟩
  ·cases hk
  ·cases hk
 refine⟨⟨(dm.1 hn).2,λd hd'=> ?_⟩,h.size,λi=>(h.ct i).mono hle,λid ver fr c hs=> ?_,?_,h.le.trans hle⟩
 ·obtain⟨D2,e1,e2,e3,e4⟩:=vS d (aL _ hd');refine⟨D2,e1,e2,?_,e4⟩;rw[other D2 λe=>(dm.1 hn).1 (by rw[<-e,<-e1];exact hd')];exact e3
 ·exact vK.mono hle (h.bN id ver fr c hs) rfl (λpl hp=>⟨other _ (gj hs hp),rfl⟩) λq vq k v l hq _=>⟨⟨k,v,l,hq⟩,λpl hp=>⟨other _ (gj hq hp),rfl⟩⟩
 ·have ht:=h.trans;refine⟨ht.os,ht.tape,ht.output,?_,λb hb=> ?_⟩
  ·have:=ht.size;simpa[World.putObj]using this
  ·have h1:=ht.xo b hb;have hbD:b≠D:=au;have hc:∀off v,w.cell? ⟨b,off,aJ⟩=ao v->(w.putObj D (.deferred aJ)).cell? ⟨b,off,aJ⟩=ao v:=λoff v hv=>by rw[World.cell?_of_block (other b hbD)];exact hv
   rw[other b hbD];split at h1
   ·exact h1
   ·exact h1
   ·exact⟨h1.1,λoff v ho hv=>hc off v (h1.2 off v ho hv)⟩
theorem Ql{C:Ctx}{g:Nat->lY}{β:Id->Option Pl}{s:AS}{fn:Func}{R:Ending->bW->Prop}:∀(ds:List Deferred) {a:Act} {w:bW},Inv C g β s a w->a.defers=ds->
  (∀a2 w2,Inv C g β s a2 w2->a2.tmps=a.tmps->∃v,(results fn a.tmps).run P w2= .ok v w2/\R (.returned v) w2)->LeavesInM Fence.wide 0 P fn a.tmps R ds .returning w
 |[],a,w,h,hd,hk=>hk a w h rfl
 |d::ds,a,w,h,hd,hk=>by obtain⟨D,e,_⟩:=h.defers.2 d (by rw[hd];exact aK ..);subst e;obtain⟨h1,h2⟩:=h.aE8 (P:=P) hd;exact⟨by simp,.inl ⟨D,_,rfl,h1,Ql (fn:=fn) (R:=R) ds (a:= {a with defers:=ds}) h2 rfl hk⟩⟩
theorem afa{cn:List dU}{w:bW}{g:Nat->lY}{β:Id->Option Pl}(h:cn.all dU.first=aT){k v:Nat}{fr:Bool}{c:aD}(hk:((fM cn).env w g β).s (.bF k)=ao (.obj v fr c)):v=0:=by
 have hk:cn[k]? =ao (.obj v fr c):=by simpa[AS.env,fM,AS.bU]using hk
 have:=cS.1 h _ (c7 hk);exact fa this
theorem KW(hm:P.follows .mixedOrders=aT)(hΓ:Sound P Γ){f:fK}{fn:Func}(hf:P.funcs[f]? =ao fn)(hb:fn.body.isSome=aT)(zw:(fn.name== "runtime.NumGoroutine")=aR){an:w7}{N:Nat}(hL:∀c,fn.body=ao c->mM P Γ an N (jE c))
  {args:List aD} {cn:List dU} {R:Type} {k:ig->Option R} {r:R} (hN:adT P Γ an N fn args cn k=ao r) (abv:an.qG=aJ)
  {jk:List Value} (hv:w8 ((fM cn).env w g β) args jk) (ho:iN ((fM cn).env w g β)):(callFunc f jk.toArray).run P w= .ok (.enter f jk.toArray) w/\
   Calls P f jk.toArray w λe w'=>∃v G,e= .returned v/\k G=ao r/\sR ((fM cn).env w g β) G v w':=by
 obtain⟨c,hc⟩:=bA.1 hb;refine⟨?_,?_⟩
 ·unfold callFunc;have hname':¬fn.name= "runtime.NumGoroutine" :=by simpa using zw
  simp[hf,hname',hc]
 ·unfold adT at hN;rw[abv,hc]at hN;simp only at hN;split at hN
  ·cases hN
  rename_i hF;have hC:(Ctx.mk ((fM cn).env w g β)).ok:=⟨λi j=>by simp[AS.env,fM,AS.bU],λk v fr c hk=>afa hF hk⟩;refine callsIn_wide.1 (callsIn_of_wp_marks (F:=Fence.wide) (n:=0) hf hc trivial (nB (rd:=aJ) (C:=⟨(fM cn).env w g β⟩) hm hΓ hC (.inl rfl) c (hL c hc) _ _ w _ _ ⟨g,β,arN hv ho⟩ hN λe s' a' w' hs' hk'=> ?_));have fin:(finish P an fn s').run k=ao r->LeavesInM Fence.wide 0 P fn a'.tmps (λe w'=>∃v G,e= .returned v/\k G=ao r/\sR ((fM cn).env w g β) G v w') a'.defers .returning w':=λhr=>by
   obtain⟨G,h1,h2⟩:=gQ.1 hr;unfold finish at h1;obtain⟨sd,aIx,h1⟩:=ax.1 h1;obtain⟨s2,h3,h4⟩:=ax.1 h1;obtain⟨s3,aK3,h4⟩:=ax.1 h4;obtain⟨s4,aK4,h4⟩:=ax.1 h4;obtain⟨y,h5,h6⟩:=ax.1 h4;obtain⟨g1,β1,aCq⟩:=hs';refine Ql a'.defers aCq rfl λa2 w2 aIQ aJl=> ?_
   obtain⟨g0,β0,az3⟩:=zq _ ⟨g1,β1,aIQ⟩ aIx;obtain⟨g',β',hi⟩:=Kp _ (lK hC _ ⟨g0,β0,az3.drop _⟩ h3) aK3;have hi:=C4 hC _ hi aK4;obtain⟨z,g2,h7,h8,h9⟩:=XT hi h5;refine⟨z,by rw[<-aJl];exact h7,z,G,rfl,h2,?_⟩;rw[<-ay.1 h6];exact YZ h8 hC h9
  cases e with
  |normal=>exact fin hk'
  |ret=>exact fin hk'
  |_=>cases hk'
theorem rp.rO(hm:P.follows .mixedOrders=aT)(hΓ:Sound P Γ){f:fK}{fn:Func}(hf:P.funcs[f]? =ao fn)(hb:fn.body.isSome=aT)(zw:(fn.name== "runtime.NumGoroutine")=aR){en:Entry}{an:w7}{N:Nat}(hL:∀c,fn.body=ao c->mM P Γ an N (jE c))
  (h:∀args cn x,en.run args cn=ao x->adT P Γ an N fn args cn ao=ao (en.out args cn x)) (abv:an.qG=aJ):rp P f en:=by
 intro w g β args cn jk x hv ho hx;obtain⟨h1,h2⟩:=KW hm hΓ hf hb zw hL (h args cn x hx) abv hv ho;exact .inl ⟨h1,h2.mono λe w' ⟨v,G,e1,e2,e3⟩=>⟨v,e1,by rw[<-aP e2];exact e3⟩⟩
theorem Kw.rO(hm:P.follows .mixedOrders=aT)(hΓ:Sound P Γ){f:fK}{fn:Func}(hf:P.funcs[f]? =ao fn)(hb:fn.body.isSome=aT)(zw:(fn.name== "runtime.NumGoroutine")=aR){en:Entry}{an:w7}{N:Nat}(hL:∀c,fn.body=ao c->mM P Γ an N (jE c))
  (h:∀args cn,(∃x,en.set args cn x)->adT P Γ an N fn args cn (λG=>aEE (∃x,en.set args cn x/\G=en.out args cn x))=ao ()) (abv:an.qG=aJ):Kw P f en:=by
 intro w g β args cn jk hv ho hx;obtain⟨h1,h2⟩:=KW hm hΓ hf hb zw hL (h args cn hx) abv hv ho;refine⟨h1,h2.mono λe w' ⟨v,G,e1,e2,e3⟩=> ?_⟩;obtain⟨x,hs,rfl⟩:=agm e2;exact⟨v,x,e1,hs,e3⟩
theorem Iz:∀(l:List (Tmp×Value)) (t:Array Value),(l.foldl (λtmps (x:Tmp×Value)=>tmps.setIfInBounds x.1 x.2) t).size=t.size
 |[],_=>rfl
 |x::l,t=>by rw[aX,Iz l];simp
theorem Gi:∀(l:List (Tmp×aD)) (fs:List aD),(yG l fs).length=fs.length
 |[],_=>rfl
 |x::l,fs=>by rw[yG,Gi l];simp
theorem IA{E:Env}:∀(ps:List Tmp) (vs:List aD) (us:List Value) (fs:List aD) (t:Array Value),w8 E vs us->fs.length=t.size->(∀i,VS E (fs.getD i .undef) (t.getD i undef))->
  ∀i,VS E ((yG (ps.zip vs) fs).getD i .undef) (((ps.zip us).foldl (λtmps (x:Tmp×Value)=>tmps.setIfInBounds x.1 x.2) t).getD i undef)
 |[],_,_,fs,t,_,_,h=>by simpa[yG]using h
 |_::_,[],[],fs,t,_,_,h=>by simpa[yG]using h
 |_::_,[],_::_,_,_,h,_,_=>h.elim
 |_::_,_::_,[],_,_,h,_,_=>h.elim
 |p::ps,v::vs,u::us,fs,t,⟨h1,h2⟩,hl,h=>by
  simp only[List.zip_cons_cons,yG,aX];refine IA ps vs us _ _ h2 (by simpa using hl) λi=> ?_
  simp only[aI,cQ,List.getElem?_set,ek,hl];have hi:=h i;simp only[aI,cQ]at hi;split
  ·split
   ·simpa using h1
   ·simpa using VS.undef
  ·exact hi
theorem w8.split{E:Env}:∀(n:Nat) {as:List aD} {us ts:List Value},us.length=n->w8 E as (us++ts)->w8 E (as.take n) us/\w8 E (as.drop n) ts
 | 0,as,[],ts,_,h=>by simpa using⟨trivial,h⟩
 | 0,as,_::_,ts,hn,h=>by simp at hn
 |n+1,as,[],ts,hn,h=>by simp at hn
 |n+1,[],u::us,ts,_,h=>h.elim
 |n+1,a::as,u::us,ts,hn,⟨h1,h2⟩=>by have:=w8.split n (by simpa using hn) h2;exact⟨⟨h1,this.1⟩,this.2⟩
theorem ald{w:bW}{g:Nat->lY}{β:Id->Option Pl}{ps:Array Tmp}{args:List aD}{cn:List dU}{us ts:List Value}(hl:us.length=ps.size)(hv:w8 ((fM cn).env w g β) args (us++ts))(ho:iN ((fM cn).env w g β)):
  Inv ⟨(fM cn).env w g β⟩ g β (Wl ps.toList args cn) {tmps:=(ps.zip us.toArray).foldl (λtmps (t,a)=>tmps.setIfInBounds t a) ts.toArray,defers:=[]} w:=by
 obtain⟨h1,h2⟩:=w8.split ps.toList.length (by simpa using hl) hv;have cP:(Wl ps.toList args cn).bU=(fM cn).bU:=by
  funext id;cases id with
  |bF k=>rfl
  |new i j=>
   simp only[Wl,fM,AS.bU,aI,List.getElem?_replicate];split <;> simp
 have ajn:(Wl ps.toList args cn).env w g β=(fM cn).env w g β:=by simp only[AS.env,cP]
 have e:(ps.zip us.toArray).foldl (λtmps (x:Tmp×Value)=>tmps.setIfInBounds x.1 x.2) ts.toArray=(ps.toList.zip us).foldl (λtmps (x:Tmp×Value)=>tmps.setIfInBounds x.1 x.2) ts.toArray:=by rw[<-Array.foldl_toList,Array.toList_zip]
 have e':(ps.zip us.toArray).foldl (λtmps (t,a)=>tmps.setIfInBounds t a) ts.toArray=(ps.toList.zip us).foldl (λtmps (x:Tmp×Value)=>tmps.setIfInBounds x.1 x.2) ts.toArray:=e;rw[e'];refine⟨⟨gV,λ_ h=>by cases h⟩,?_,λi=> ?_,by rw[ajn];exact ho,Trans.refl _ _,by rw[ajn];exact cU.refl _⟩
 ·show Array.size _=(yG _ _).length;rw[Iz,Gi];simpa using h2.len.symm
 ·rw[ajn];exact IA ps.toList _ us _ _ h1 (by simpa using h2.len) (λi=>by simpa[cQ,aI]using h2.get i) i
theorem Kx.rO(hm:P.follows .mixedOrders=aT)(hΓ:Sound P Γ){y:Nat}{fn:Func}{en:Entry}{an:w7}{N:Nat}(hL:mM P Γ an N (jE (VW P y).as++jE (VW P y).b))
  (h:∀args cn x,en.run args cn=ao x->adT P Γ an N fn args cn ao=ao (en.out args cn x)) (abv:an.qG=ao y):Kx P y en:=by
 intro w g β args cn jk x hv ho hx l us ts f rd n aGW sj;have hN:=h args cn x hx;unfold adT at hN;rw[abv]at hN;simp only at hN;unfold axK at hN;split at hN;rotate_left
 ·cases hN
 rename_i args;split at hN
 ·cases hN
 rename_i hF;subst aGW;obtain⟨ayO,NJ⟩:=hv;have hC:(Ctx.mk ((fM cn).env w g β)).ok:=⟨λi j=>by simp[AS.env,fM,AS.bU],λk v fr c hk=>afa hF hk⟩;obtain⟨cs,hV,hO⟩:=ayO;simp only[V]at hV;obtain⟨l',rfl,afp,fD⟩:=hV;have hl:l'=l:=by simpa[fR,aD.agg]using hO
 subst hl;have at_l:∀ {s:AS} {g1:Nat->lY} {β1:Id->Option Pl} {a:Act} {w1:bW} {pl:Pl},Inv ⟨(fM cn).env w g β⟩ g1 β1 s a w1->(s.env w1 g1 β1).cur (.bF 0) 0->β1 (.bF 0)=ao pl->pl.b=l':=by intro s g1 β1 a w1 pl hi hc hp;obtain⟨c1,c2⟩:=hi.le.cur _ _ afp hc;obtain⟨pl',hp',rfl⟩:=fD c1;have c2:β1 (.bF 0)=β (.bF 0):=c2;have hp':β (.bF 0)=ao pl':=hp';rw[c2,hp']at hp;exact(bD Pl.b (aP hp)).symm
 refine roundIn_of_wpIn (F:=Fr rd) trivial ?_
 have aft:ao l'=aJ\/an.qG.isSome=aT:= .inr (by rw[abv];rfl);refine nB (rd:=ao l') hm hΓ hC aft _ hL.append.1 _ _ w _ _ ⟨g,β,ald sj NJ ho⟩ hN λe s1 a1 w1 NI ams=> ?_
 cases e with
 |normal=>
  simp only at ams;cases h1:s1.OW 0 1 with
  |none=>rw[h1]at ams;cases ams
  |some s2=>
   rw[h1]at ams;simp only[aq]at ams;obtain⟨g1,β1,aCq⟩:=NI;obtain⟨pl,r,hp,hc,hb,nQ,aGI⟩:=MR aCq h1;have:=at_l aCq hc hp;subst this;refine⟨_,run_beginRound hb nQ.1,?_⟩;have aIQ:=aGI {r with state:= .busy} rfl rfl rfl rfl rfl;refine nB (rd:=ao pl.b) hm hΓ hC aft _ hL.append.2 _ _ _ _ _ ⟨_,_,aIQ⟩ ams λe s3 a3 w3 aEb az4=> ?_
   cases aCn:aCf e with
   |none=>rw[aCn]at az4;cases az4
   |some p=>
    rw[aCn]at az4;simp only[aq]at az4;cases h4:s3.OW 1 p with
    |none=>rw[h4]at az4;cases az4
    |some s4=>
     rw[h4]at az4;simp only at az4;obtain⟨g3,β3,aKv⟩:=aEb;obtain⟨pl3,r3,aLu,aCk,aKn,aLB,hnext3⟩:=MR aKv h4;have aLm:=at_l aKv aCk aLu;rw[aLm]at aKn hnext3
     have fin:∀(jump:Option Code) (b:Bool),iG p 0=jump.isNone->agZ p (if jump.isNone then .ready else .done) jump->
       ∃v w',(Instr.endRound pl.b jump).run P w3= .ok v w'/\∃v',Ending.returned v= .returned v'/\sR ((fM cn).env w g β) (en.out (.yl (.bF 0) 0::args) cn x) v' w':=λjump b hb hr=>by
      have aLh:=hnext3 {r3 with state:=if jump.isNone then .ready else .done,pending:=jump} rfl rfl rfl rfl hr;refine⟨_,_,run_endRound jump aKn,_,rfl,?_⟩;obtain⟨G,k1,k2⟩:=gQ.1 az4;simp only[az]at k2;subst k2;unfold aml at k1;obtain⟨sd,m1,k1⟩:=ax.1 k1;obtain⟨s5,m2,k1⟩:=ax.1 k1;obtain⟨s6,m3,k1⟩:=ax.1 k1;obtain⟨s7,m4,k1⟩:=ax.1 k1;obtain⟨g0,β0,az3⟩:=zq _ ⟨_,_,aLh⟩ m1;obtain⟨g',β',hi⟩:=Kp _ (lK hC _ ⟨g0,β0,az3.drop _⟩ m2) m3;have hi:=C4 hC _ hi m4;rw[<-ay.1 k1,hb];exact YZ hi hC (uQ _)
     cases e with
     |normal=>
      obtain rfl:=aP aCn;exact fin aJ aT rfl ⟨rfl,rfl⟩
     |ret=>
      obtain rfl:=aP aCn;exact fin (ao .ret) aR rfl ⟨rfl,rfl⟩
     |exit i=>
      obtain rfl:=aP aCn;exact fin (ao (.exit i)) aR rfl ⟨rfl,rfl⟩
     |goto _=>cases aCn
     |panic _=>cases aCn
     |outgrown=>cases aCn
 |_=>cases ams
end
end Go.Ab
namespace Go.Ab
def eD(k:kR)(n:Int):Int:=k.wrap n
def bT(k:kR)(x y:Int):Int:=k.wrap (x+y)
def dL(k:kR)(x y:Int):Int:=k.wrap (x - y)
def jj(k:kR)(x y:Int):Int:=k.wrap (x*y)
def Bq(k:kR)(x y:Int):Int:=k.wrap (x.tdiv y)
def ur(x y:Int):Int:=x.tmod y
def oe(k:kR)(x y:Int):Int:=k.wrap (x*2^(min y.toNat k.bits))
def cW(k:kR)(x y:Int):Int:=x.fdiv (2^(min y.toNat k.bits))
def EM(x y:Int):Bool:=x==y
def JE(x y:Int):Bool:=x !=y
def gY(x y:Int):Bool:=decide (x < y)
def adB(x y:Int):Bool:=decide (x<=y)
def Ak(x y:Int):Bool:=decide (x > y)
def Bp(x y:Int):Bool:=decide (x>=y)
def seq(x y:ByteArray):Bool:=x.toList==y.toList
def ahj(a:ByteArray)(i:Int):Int:=((a.data.toList.getD i.toNat 0).toNat:Int)
def imax(x y:Int):Int:=if x < y then y else x
def gI(i n:Int):Bool:=decide (0<=i/\i < n)
def inc(i n:Int):Bool:=decide (0<=i/\i<=n)
def rN(y:Int):Bool:=decide (0<=y)
def qO(y:Int):Bool:= !(decide (y=0))
open Classical in
def dW.of{D X:Type}(st:D->AS)(fJ:D->Prop)(F:D->X)(out:X->Out (Exit×AS)):dW:= {X,run:=λs=>if h:∃d,st d=s/\fJ d then ao (F h.choose) else aJ,out}
open Classical in
theorem dW.rO{D X:Type}{st:D->AS}{fJ:D->Prop}{F:D->X}{out:X->Out (Exit×AS)}(JC:∀d d',st d=st d'->d=d'){d:D}(h:fJ d):(dW.of st fJ F out).run (st d)=ao (F d):=by have hex:∃d',st d'=st d/\fJ d':=⟨d,rfl,h⟩;show(if h:∃d',st d'=st d/\fJ d' then ao (F h.choose) else aJ)=_;rw[xJ hex,JC _ _ hex.choose_spec.1]
open Classical in
def Ky.of{X:Type}(an:nU)(st:X->AS):Ky:=
 {an,X,aEk:=λe s=>if h:e= .normal/\∃x,st x=s then ao h.2.choose else aJ,out:=λx=> .ok (.normal,st x),
  ok:=λe s x h=>by
   by_cases h1:e= .normal/\∃x,st x=s
   ·rw[xJ h1]at h;have h2:=h1.2.choose_spec;rw[aP h]at h2;rw[h1.1,<-h2];rfl
   ·rw[AA h1]at h;cases h}
open Classical in
theorem Ky.awf{X:Type}{an:nU}{st:X->AS}(JC:∀d d',st d=st d'->d=d')(x:X):(Ky.of an st).aEk .normal (st x)=ao x:=by have hex:Exit.normal= .normal/\∃y,st y=st x:=⟨rfl,x,rfl⟩;show(if h:Exit.normal= .normal/\∃y,st y=st x then ao h.2.choose else aJ)=_;rw[xJ hex,JC _ _ hex.2.choose_spec]
open Classical in
theorem alE.of{P:aM}{Γ:qi}{an:w7}{N:Nat}{fn:Func}{i:Nat}{D X:Type}{st:D->AS}{fJ:D->Prop}{F:D->X}{out:X->Out (Exit×AS)}
  (hle:an.gS (dV (oK fn i))=ao (dW.of st fJ F out)) (h:∀d,fJ d->∃n,Mb P Γ an N fn i n (st d) (λe s=>ao (e,s))=(out (F d)).eval):alE P Γ an N (oK fn i):=by
 intro le hle';rw[hle]at hle';simp only[az]at hle';subst hle';refine⟨λ_ s x hx=> ?_,λS hS=>by cases hS⟩;change (if h:∃d',st d'=s/\fJ d' then ao (F h.choose) else aJ)=ao x at hx;split at hx
 ·rename_i hex;obtain rfl:=aP hx;obtain⟨h1,h2⟩:=hex.choose_spec;obtain⟨n,hn⟩:=h _ h2;refine⟨n,?_⟩;show Mb P Γ an N fn i n s _=_;rw[h1]at hn;exact hn
 ·cases hx
theorem yX(P:aM)(Γ:qi)(an:w7)(N:Nat)(fn:Func)(i:Nat){R:Type}(n:Nat)(s:AS)(k:Exit->AS->Option R):Mb P Γ an N fn i (n+1) s k=Bw P Γ an N fn i s (λs1=>Mb P Γ an N fn i n s1 k) k:=rfl
theorem amK{P:aM}{Γ:qi}{an:w7}{N:Nat}{fn:Func}{i:Nat}{D X:Type}{st:D->AS}{fJ:D->Prop}{F:D->X}{out:X->Out (Exit×AS)}(μ:D->Nat)
  (h:∀d,fJ d->(∃d',fJ d'/\μ d' < μ d/\F d'=F d/\∀ {R:Type} (kn:AS->Option R) (kx:Exit->AS->Option R),Bw P Γ an N fn i (st d) kn kx=kn (st d'))\/
   (∃r,(out (F d)).eval=ao r/\∀ {R:Type} (kn:AS->Option R) (kx:Exit->AS->Option R),Bw P Γ an N fn i (st d) kn kx=kx r.1 r.2)):
  ∀d,fJ d->∃n,Mb P Γ an N fn i n (st d) (λe s=>ao (e,s))=(out (F d)).eval:=by
 have key:∀m d,μ d=m->fJ d->∃n,Mb P Γ an N fn i n (st d) (λe s=>ao (e,s))=(out (F d)).eval:=by
  intro m
  induction m using Nat.strongRecOn with
  |_ m ih=>
   intro d hm hp;rcases h d hp with⟨d',hp',je,hF,hr⟩ | ⟨r,hr,hx⟩
   ·obtain⟨n,hn⟩:=ih (μ d') au d' rfl hp';exact⟨n+1,by rw[yX,hr,hn,hF]⟩
   ·exact⟨1,by rw[yX,hx,hr]⟩
 exact λd hp=>key _ d rfl hp
open Classical in
def dW.Xy{D X Y:Type}(st:D->AS)(fJ:D->Prop)(add:D->Y->X)(Post:D->Y->Prop)(out:X->Out (Exit×AS)):dW:= {X,run:=λ_=>aJ,out,set:=ao λs x=>∃d,st d=s/\fJ d/\∃y,Post d y/\x=add d y}
def aHr{D X Y:Type}(st:D->AS)(fJ:D->Prop)(add:D->Y->X)(Post:D->Y->Prop):D->X->Prop:=λd0 x=>∃d,st d=st d0/\fJ d/\∃y,Post d y/\x=add d y
abbrev ayX{D X Y:Type}(set:D->X->Prop)(fJ:D->Prop)(add:D->Y->X)(Post:D->Y->Prop):Prop:=∀ {d:D} {R:Type} {k:X->Option R} {r:Option R},fJ d->(∃y,Post d y)->(∀y,Post d y->k (add d y)=r)->Rq (set d) k=r
theorem aJR{D X Y:Type}{st:D->AS}{fJ:D->Prop}{add:D->Y->X}{Post:D->Y->Prop}(JC:∀d d',st d=st d'->d=d'):ayX (aHr st fJ add Post) fJ add Post:=λh h1 h2=>by
 obtain⟨y,hy⟩:=h1;refine aa4 ⟨_,_,rfl,h,y,hy,rfl⟩ λx hx=> ?_
 obtain⟨d',h3,_,y',h4,rfl⟩:=hx;obtain rfl:=JC _ _ h3;exact h2 y' h4
abbrev alG(P:aM)(G:qi)(an:w7)(N:Nat)(fn:Func)(i:Nat){D X Y:Type}(st:D->AS)(fJ:D->Prop)(add:D->Y->X)(Post:D->Y->Prop)(out:X->Out (Exit×AS)):Prop:=∀d,fJ d->∃n,∀k:Exit->AS->Option Unit,(∀y e s,Post d y->(out (add d y)).eval=ao (e,s)->k e s=ao ())->Mb P G an N fn i n (st d) k=ao ()
theorem alE.Xy{P:aM}{Γ:qi}{an:w7}{N:Nat}{fn:Func}{i:Nat}{D X Y:Type}{st:D->AS}{fJ:D->Prop}{add:D->Y->X}{Post:D->Y->Prop}{out:X->Out (Exit×AS)}
  (h:alG P Γ an N fn i st fJ add Post out) (hle:an.gS (dV (oK fn i))=ao (dW.Xy st fJ add Post out)):alE P Γ an N (oK fn i):=by
 intro le hle';rw[hle]at hle';simp only[az]at hle';subst hle';refine⟨λhS=>(by cases hS),λS hS s hs=> ?_⟩;obtain rfl:=aP hS;obtain⟨x,d,rfl,hp,y,hy,rfl⟩:=hs;obtain⟨n,hn⟩:=h d hp;exact⟨n,hn _ λy e s h1 h2=>awg ⟨add d y,⟨d,rfl,hp,y,h1,rfl⟩,h2⟩⟩
theorem YD{n:Nat}{Q:Nat->Nat->Prop}(h:∀j,j < n->∃N,∀M,N<=M->Q j M):∃N,∀M,N<=M->∀j,j < n->Q j M:=by
 induction n with
 |zero=>exact⟨0,λ_ _ j hj=>au⟩
 |succ n ih=>
  obtain⟨N1,h1⟩:=ih λj hj=>h j au
  obtain⟨N2,h2⟩:=h n au;refine⟨max N1 N2,λM hM j hj=> ?_⟩;by_cases aKy:j=n
  ·subst aKy;exact h2 M au
  ·exact h1 M au j au
theorem avR{P:aM}{Γ:qi}{an:w7}{N:Nat}{fn:Func}{i:Nat}{D X:Type}{st:D->AS}{fJ:D->Prop}{F:D->X}{out:X->Out (Exit×AS)}(μ:D->Nat)
  (h:∀d,fJ d->(∃(m:Nat) (d':Nat->D),0 < m/\(∀j,j < m->fJ (d' j)/\μ (d' j) < μ d/\F (d' j)=F d)/\∀ {R:Type} (kn:AS->Option R) (kx:Exit->AS->Option R),Bw P Γ an N fn i (st d) kn kx=adx m λj=>kn (st (d' j)))\/
   (∃r,(out (F d)).eval=ao r/\∀ {R:Type} (kn:AS->Option R) (kx:Exit->AS->Option R),Bw P Γ an N fn i (st d) kn kx=kx r.1 r.2)):
  ∀d,fJ d->∃n,Mb P Γ an N fn i n (st d) (λe s=>ao (e,s))=(out (F d)).eval:=by
 have key:∀m d,μ d=m->fJ d->∃n,∀M,n<=M->Mb P Γ an N fn i M (st d) (λe s=>ao (e,s))=(out (F d)).eval:=by
  intro m
  induction m using Nat.strongRecOn with
  |_ m ih=>
   intro d hm hp;rcases h d hp with⟨c,d',hc,hd,hr⟩ | ⟨r,hr,hx⟩
   ·obtain⟨n,hn⟩:=YD (n:=c) (Q:=λj M=>Mb P Γ an N fn i M (st (d' j)) (λe s=>ao (e,s))=(out (F d)).eval) λj hj=>by obtain⟨h1,h2,h3⟩:=hd j hj;obtain⟨n,hn⟩:=ih (μ (d' j)) au (d' j) rfl h1;exact⟨n,λM hM=>by rw[hn M hM,h3]⟩
    refine⟨n+1,λM hM=> ?_⟩;obtain⟨M,rfl⟩:∃M',M=M'+1:=⟨M - 1,au⟩;rw[yX,hr];exact ai2 hc λj hj=>hn M au j hj
   ·refine⟨1,λM hM=> ?_⟩;obtain⟨M,rfl⟩:∃M',M=M'+1:=⟨M - 1,au⟩;rw[yX,hx,hr]
 exact λd hp=>let⟨n,hn⟩:=key _ d rfl hp;⟨n,hn n (aF _)⟩
theorem avS{P:aM}{Γ:qi}{an:w7}{N:Nat}{fn:Func}{i:Nat}{D X Y:Type}{st:D->AS}{fJ:D->Prop}{add:D->Y->X}{Post:D->Y->Prop}{out:X->Out (Exit×AS)}(μ:D->Nat)
  (h:∀d,fJ d->(∃(m:Nat) (d':Nat->D),0 < m/\(∀j,j < m->fJ (d' j)/\μ (d' j) < μ d/\∀y,Post (d' j) y->∃y',Post d y'/\add (d' j) y=add d y')/\∀ {R:Type} (kn:AS->Option R) (kx:Exit->AS->Option R),Bw P Γ an N fn i (st d) kn kx=adx m λj=>kn (st (d' j)))\/
   (∃y r,Post d y/\(out (add d y)).eval=ao r/\∀ {R:Type} (kn:AS->Option R) (kx:Exit->AS->Option R),Bw P Γ an N fn i (st d) kn kx=kx r.1 r.2)):alG P Γ an N fn i st fJ add Post out:=by
 have key:∀m d,μ d=m->fJ d->∃n,∀M,n<=M->∀k:Exit->AS->Option Unit,(∀y e s,Post d y->(out (add d y)).eval=ao (e,s)->k e s=ao ())->Mb P Γ an N fn i M (st d) k=ao ():=by
  intro m
  induction m using Nat.strongRecOn with
  |_ m ih=>
   intro d hm hp;rcases h d hp with⟨c,d',hc,hd,hr⟩ | ⟨y,r,hy,hr,hx⟩
   ·obtain⟨n,hn⟩:=YD (n:=c) (Q:=λj M=>∀k:Exit->AS->Option Unit,(∀y e s,Post (d' j) y->(out (add (d' j) y)).eval=ao (e,s)->k e s=ao ())->Mb P Γ an N fn i M (st (d' j)) k=ao ()) λj hj=>by obtain⟨h1,h2,h3⟩:=hd j hj;exact ih (μ (d' j)) au (d' j) rfl h1
    refine⟨n+1,λM hM k hk=> ?_⟩;obtain⟨M,rfl⟩:∃M',M=M'+1:=⟨M - 1,au⟩;rw[yX,hr];refine ai2 hc λj hj=>hn M au j hj k λy e s h1 h2=> ?_
    obtain⟨y',h3,h4⟩:=(hd j hj).2.2 y h1;rw[h4]at h2;exact hk y' e s h3 h2
   ·refine⟨1,λM hM k hk=> ?_⟩;obtain⟨M,rfl⟩:∃M',M=M'+1:=⟨M - 1,au⟩;rw[yX,hx];exact hk y r.1 r.2 hy hr
 exact λd hp=>let⟨n,hn⟩:=key _ d rfl hp;⟨n,hn n (aF _)⟩
theorem af0{P:aM}{Γ:qi}{an:w7}{N:Nat}{fn:Func}{i:Nat}{D X:Type}{st:D->AS}{fJ:D->Prop}{F:D->X}{ex:X->Exit×AS}(μ:D->Nat)(h:∀d,fJ d->(∃d',fJ d'/\μ d' < μ d/\F d'=F d/\∀ {R:Type} (kn:AS->Option R) (kx:Exit->AS->Option R),Bw P Γ an N fn i (st d) kn kx=kn (st d'))\/(∀ {R:Type} (kn:AS->Option R) (kx:Exit->AS->Option R),Bw P Γ an N fn i (st d) kn kx=kx (ex (F d)).1 (ex (F d)).2)):∀d,fJ d->∃n,Mb P Γ an N fn i n (st d) (λe s=>ao (e,s))=(Out.ok (ex (F d))).eval:=amK (out:=λx=> .ok (ex x)) μ λd hp=>(h d hp).imp id λh=>⟨_,rfl,h⟩
open Classical in
def Entry.of{D X:Type}(params:List (Option Ty))(st:D->List aD×List dU)(fJ:D->Prop)(F:D->X)(out:X->ig):Entry:= {params,X,run:=λargs cn=>if h:∃d,st d=(args,cn)/\fJ d then ao (F h.choose) else aJ,out:=λ_ _=>out}
open Classical in
theorem Entry.rO{D X:Type}{params:List (Option Ty)}{st:D->List aD×List dU}{fJ:D->Prop}{F:D->X}{out:X->ig}(JC:∀d d',st d=st d'->d=d'){d:D}(h:fJ d):
  (Entry.of params st fJ F out).run (st d).1 (st d).2=ao (F d):=by
 have hex:∃d',st d'=((st d).1,(st d).2)/\fJ d':=⟨d,rfl,h⟩;show(if h:∃d',st d'=((st d).1,(st d).2)/\fJ d' then ao (F h.choose) else aJ)=_;rw[xJ hex,JC _ _ hex.choose_spec.1]
open Classical in
theorem amU{D X:Type}{params:List (Option Ty)}{st:D->List aD×List dU}{fJ:D->Prop}{F:D->X}{out:X->ig}{args:List aD}{cn:List dU}{x:X}(hx:(Entry.of params st fJ F out).run args cn=ao x):∃d,st d=(args,cn)/\fJ d/\x=F d:=by
 change (if h:∃d',st d'=(args,cn)/\fJ d' then ao (F h.choose) else aJ)=ao x at hx;split at hx
 ·rename_i hex;obtain rfl:=aP hx;exact⟨_,hex.choose_spec.1,hex.choose_spec.2,rfl⟩
 ·cases hx
theorem rp.of{P:aM}{Γ:qi}(hm:P.follows .mixedOrders=aT)(hΓ:Sound P Γ){f:fK}{fn:Func}(hf:P.funcs[f]? =ao fn)(hb:fn.body.isSome=aT)(zw:(fn.name== "runtime.NumGoroutine")=aR){an:w7}{N:Nat}
  (hL:∀c,fn.body=ao c->mM P Γ an N (jE c)) {D X:Type} {params:List (Option Ty)} {st:D->List aD×List dU} {fJ:D->Prop} {F:D->X} {out:X->ig}
  (h:∀d,fJ d->adT P Γ an N fn (st d).1 (st d).2 ao=ao (out (F d))) (abv:an.qG=aJ:=by exact rfl):rp P f (Entry.of params st fJ F out):=by
 refine rp.rO hm hΓ hf hb zw hL (λargs cn x hx=> ?_) abv;obtain⟨d,e1,e2,rfl⟩:=amU hx;have:=h d e2;rw[e1]at this;exact this
def ayI(P:aM)(Γ:qi)(an:w7)(N:Nat)(fn:Func):Nat->Nat->Prop
 | 0,_=>True
 |n+1,i=>alE P Γ an N (oK fn i)/\ayI P Γ an N fn n (i+1)
theorem ayI.get{P:aM}{Γ:qi}{an:w7}{N:Nat}{fn:Func}:∀ {n i:Nat},ayI P Γ an N fn n i->∀j,j < n->alE P Γ an N (oK fn (i+j))
 | 0,_,_,j,hj=>au
 |n+1,i,h,0,_=>h.1
 |n+1,i,h,j+1,hj=>by have:=ayI.get h.2 j au;rwa[show i+1+j=i+(j+1) by omega]at this
theorem mM.awe{P:aM}{Γ:qi}{an:w7}{N:Nat}:∀(l:List Code),(∀j,j < l.length->alE P Γ an N (l.getD j .skip))->mM P Γ an N l
 |[],_=>trivial
 |b::l,h=>⟨h 0 (by simp),mM.awe l λj hj=>by have:=h (j+1) (by simpa using hj);simpa using this⟩
theorem mM.fn{P:aM}{Γ:qi}{an:w7}{N:Nat}{fn:Func}(n:Nat)(hn:(match fn.body with | some c=>(jE c).length | none=>0)=n)(h:ayI P Γ an N fn n 0):∀c,fn.body=ao c->mM P Γ an N (jE c):=by
 intro c hc;refine mM.awe _ λj hj=> ?_
 rw[hc]at hn;simp only at hn;have:=h.get j au;unfold oK at this;rw[hc]at this;simpa using this
theorem alE.none{P:aM}{Γ:qi}{an:w7}{N:Nat}{fn:Func}{i:Nat}(h:an.gS (dV (oK fn i))=aJ):alE P Γ an N (oK fn i):=λle hle=>by
 rw[h]at hle;cases hle
def azW:qi:=λ_ _=>aJ
theorem Sound.nil(P:aM):Sound P azW:=λ_ _ _ h=>by cases h
def afi(f:fK)(p:List aD->Bool)(en:Entry)(Γ:qi):qi:=λg vs=>match iG g f with | true=>(match p vs with | true=>ao en | false=>Γ g vs) | false=>Γ g vs
theorem Sound.cons{P:aM}{f:fK}{p:List aD->Bool}{en:Entry}{Γ:qi}(h:B6 P f en)(hΓ:Sound P Γ):Sound P (afi f p en Γ):=λg vs e hg=>by
 unfold afi at hg;split at hg
 ·rename_i he;have:g=f:=fa he;split at hg
  ·simp only[az]at hg;subst hg this;exact h
  ·exact hΓ g vs e hg
 ·exact hΓ g vs e hg
theorem aCe{t:Ty}{x y:t.den}(h:aD.d t x=aD.d t y):x=y:=by injection h with _ h
theorem aBX{e:TypeId}{t:Ty}{x y:List t.den}(h:aD.vec e t x=aD.vec e t y):x=y:=by injection h with _ _ h
def qN:List aD->Bool:=λ_=>aT
def aql:List aD->Bool | .dH::_=>aT | _=>aR
def Z1:List aD->Bool | .b8 .. ::_=>aT | _=>aR
@[simp] theorem aj{α:Type}(x y:Option α):aS aT x y=x:=rfl
@[simp] theorem al{α:Type}(x y:Option α):aS aR x y=y:=rfl
@[simp] theorem ae{α β:Type}(x:α)(f:α->Option β):aq (ao x) f=f x:=rfl
@[simp] theorem aFH{α:Type}(c:uk)(x:Option α):same c c x=x:=by simp[same]
@[simp] theorem AO{α:Type}(x:Option α):nd x x=x:=by simp[nd]
structure SG(P:aM) where
 f:fK
 p:List aD->Bool
 e:Entry
 h:B6 P f e
def lU{P:aM}:List (SG P)->qi
 |[]=>azW
 |a::l=>afi a.f a.p a.e (lU l)
theorem Sound.lU{P:aM}:∀l:List (SG P),Sound P (lU l)
 |[]=>Sound.nil P
 |a::l=>Sound.cons a.h (Sound.lU l)
abbrev SA:=List aD×List dU
def NL(P:aM)(G:qi)(an:w7)(N:Nat)(fn:Func){D:Type}(st:D->SA){R:Type}(d:D)(k:ig->Option R):Option R:=adT P G an N fn (st d).1 (st d).2 k
def fh(P:aM)(G:qi)(an:w7)(N:Nat)(fn:Func)(i:Nat){D:Type}(st:D->AS){R:Type}(d:D)(kn:AS->Option R)(kx:Exit->AS->Option R):Option R:=Bw P G an N fn i (st d) kn kx
abbrev anS{D X Y:Type}(A: {R:Type}->D->(ig->Option R)->Option R)(fJ:D->Prop)(add:D->Y->X)(F:D->Y)(out:X->ig):Prop:=∀d,fJ d->A d ao=ao (out (add d (F d)))
abbrev mn(P:aM)(G:qi)(an:w7)(N:Nat)(fn:Func)(i:Nat){D X Y:Type}(st:D->AS)(fJ:D->Prop)(add:D->Y->X)(F:D->Y)(out:X->Out (Exit×AS)):Prop:=∀d,fJ d->∃n,Mb P G an N fn i n (st d) (λe s=>ao (e,s))=(out (add d (F d))).eval
abbrev asy{D X Y:Type}(R: {R:Type}->D->(AS->Option R)->(Exit->AS->Option R)->Option R)(st:D->AS)(fJ:D->Prop)(add:D->Y->X)(F:D->Y)(ex:X->Exit×AS)(C:Prop):Prop:=∀μ:D->Nat,(∀d,fJ d->(∃d',fJ d'/\μ d' < μ d/\add d' (F d')=add d (F d)/\∀ {T:Type} (kn:AS->Option T) (kx:Exit->AS->Option T),R d kn kx=kn (st d'))\/(∀ {T:Type} (kn:AS->Option T) (kx:Exit->AS->Option T),R d kn kx=kx (ex (add d (F d))).1 (ex (add d (F d))).2))->C
abbrev qp{D X Y:Type}(R: {R:Type}->D->(AS->Option R)->(Exit->AS->Option R)->Option R)(st:D->AS)(fJ:D->Prop)(add:D->Y->X)(F:D->Y)(out:X->Out (Exit×AS))(C:Prop):Prop:=∀μ:D->Nat,(∀d,fJ d->(∃d',fJ d'/\μ d' < μ d/\add d' (F d')=add d (F d)/\∀ {T:Type} (kn:AS->Option T) (kx:Exit->AS->Option T),R d kn kx=kn (st d'))\/(∃r,(out (add d (F d))).eval=ao r/\∀ {T:Type} (kn:AS->Option T) (kx:Exit->AS->Option T),R d kn kx=kx r.1 r.2))->C
abbrev aC3{D X Y:Type}(R: {R:Type}->D->(AS->Option R)->(Exit->AS->Option R)->Option R)(st:D->AS)(fJ:D->Prop)(add:D->Y->X)(F:D->Y)(ex:X->Exit×AS)(C:Prop):Prop:=∀μ:D->Nat,(∀d,fJ d->(∃(m:Nat) (d':Nat->D),0 < m/\(∀j,j < m->fJ (d' j)/\μ (d' j) < μ d/\add (d' j) (F (d' j))=add d (F d))/\∀ {T:Type} (kn:AS->Option T) (kx:Exit->AS->Option T),R d kn kx=adx m λj=>kn (st (d' j)))\/(∀ {T:Type} (kn:AS->Option T) (kx:Exit->AS->Option T),R d kn kx=kx (ex (add d (F d))).1 (ex (add d (F d))).2))->C
theorem aFU{P:aM}{G:qi}{an:w7}{N:Nat}{fn:Func}{i:Nat}{D X Y:Type}{st:D->AS}{fJ:D->Prop}{add:D->Y->X}{F:D->Y}{ex:X->Exit×AS}:aC3 (fh P G an N fn i st) st fJ add F ex (mn P G an N fn i st fJ add F λx=> .ok (ex x)):=λ μ h=>avR (F:=λd=>add d (F d)) (out:=λx=> .ok (ex x)) μ λd hp=>(h d hp).imp id λh=>⟨_,rfl,h⟩
abbrev aB6{D X Y:Type}(R: {R:Type}->D->(AS->Option R)->(Exit->AS->Option R)->Option R)(st:D->AS)(fJ:D->Prop)(add:D->Y->X)(Post:D->Y->Prop)(ex:X->Exit×AS)(C:Prop):Prop:=∀μ:D->Nat,(∀d,fJ d->(∃(m:Nat) (d':Nat->D),0 < m/\(∀j,j < m->fJ (d' j)/\μ (d' j) < μ d/\∀y,Post (d' j) y->∃y',Post d y'/\add (d' j) y=add d y')/\∀ {T:Type} (kn:AS->Option T) (kx:Exit->AS->Option T),R d kn kx=adx m λj=>kn (st (d' j)))\/(∃y,Post d y/\∀ {T:Type} (kn:AS->Option T) (kx:Exit->AS->Option T),R d kn kx=kx (ex (add d y)).1 (ex (add d y)).2))->C
theorem aFV{P:aM}{G:qi}{an:w7}{N:Nat}{fn:Func}{i:Nat}{D X Y:Type}{st:D->AS}{fJ:D->Prop}{add:D->Y->X}{Post:D->Y->Prop}{ex:X->Exit×AS}:aB6 (fh P G an N fn i st) st fJ add Post ex (alG P G an N fn i st fJ add Post λx=> .ok (ex x)):=λ μ h=>avS (out:=λx=> .ok (ex x)) μ λd hp=>(h d hp).imp (λh=>h) λ⟨y,hy,h⟩=>⟨y,_,hy,rfl,h⟩
theorem aDp{P:aM}{G:qi}{an:w7}{N:Nat}{fn:Func}{i:Nat}{D X Y:Type}{st:D->AS}{fJ:D->Prop}{add:D->Y->X}{F:D->Y}{ex:X->Exit×AS}:asy (fh P G an N fn i st) st fJ add F ex (mn P G an N fn i st fJ add F λx=> .ok (ex x)):=λ μ h=>af0 (F:=λd=>add d (F d)) μ h
theorem rA{P:aM}{G:qi}{an:w7}{N:Nat}{fn:Func}{i:Nat}{D X Y:Type}{st:D->AS}{fJ:D->Prop}{add:D->Y->X}{F:D->Y}{out:X->Out (Exit×AS)}:qp (fh P G an N fn i st) st fJ add F out (mn P G an N fn i st fJ add F out):=λ μ h=>amK (F:=λd=>add d (F d)) (out:=out) μ h
def so:List (Nat×nU)->Nat->nU
 |[],_=> {}
 |a::l,r=>bif iG r a.1 then a.2 else so l r
def sm:List (Nat×nU×nU)->Nat->Bool->nU
 |[],_,_=> {}
 |a::l,r,b=>bif iG r a.1 then(bif b then a.2.2 else a.2.1) else sm l r b
def tt.{v} {α:Type v}:List (Nat×α)->Nat->Option α
 |[],_=>aJ
 |a::l,r=>bif iG r a.1 then ao a.2 else tt l r
inductive Lf where
 |d (t:Ty)
 |n
@[reducible] def Lf.den:Lf->Type
 | .d t=>t.den
 | .n=>Nat
@[reducible] def Lf.asc:List Lf->Type
 |[]=>Unit
 |[a]=>a.den
 |a::b::l=>a.den×Lf.asc (b::l)
abbrev aFN:=List (Sigma Lf.den)
def Lf.mk:(ts:List Lf)->Lf.asc ts->aFN
 |[],_=> []
 |[a],x=> [⟨a,x⟩]
 |a::b::l,x=>⟨a,x.1⟩::Lf.mk (b::l) x.2
theorem Lf.mk_inj:∀(ts:List Lf) (x y:Lf.asc ts),Lf.mk ts x=Lf.mk ts y->x=y
 |[],_,_,_=>rfl
 |[a],x,y,h=>by
  injection h with h _
  injection h
 |a::b::l,(x,u),(y,v),h=>by
  injection h with h h2
  injection h with _ h
  have h:x=y:=h;rw[h,Lf.mk_inj (b::l) u v h2]
def aD.leaves:aD->aFN
 | .d .unit _=> []
 | .d (.arr _ t) l=> [⟨.d (.slice t),l⟩]
 | .d t x=> [⟨.d t,x⟩]
 | .eI t x=> [⟨.d t,x⟩]
 | .vec _ t l=> [⟨.d (.slice t),l⟩]
 | .mp k v l=> [⟨.d (.slice (.pair k v)),l⟩]
 | .qo _ _ k v l _=> [⟨.d (.slice (.pair k v)),l⟩]
 | .yZ _ f _=>f.leaves
 | .b8 _ _ _ _ _ n=> [⟨.n,n⟩]
 | .pr a b=>a.leaves++b.leaves
 | .cons a b=>a.leaves++b.leaves
 | .fn _ c=>c.leaves
 | .bx _ _ c=>c.leaves
 |_=> []
def dU.leaves:dU->aFN
 | .obj _ _ c=>c.leaves
 | .dead=> []
def SA.leaves(s:SA):aFN:=s.1.flatMap aD.leaves++s.2.flatMap dU.leaves
def AS.leaves(s:AS):aFN:=s.ct.flatMap aD.leaves++(s.cn.flatMap dU.leaves++s.news.flatMap (·.flatMap dU.leaves))
theorem afG(ts:List Lf){st:Lf.asc ts->SA}(h:∀d,SA.leaves (st d)=Lf.mk ts d)(d d':Lf.asc ts)(e:st d=st d'):d=d':=Lf.mk_inj ts d d' (by rw[<-h,<-h,e])
theorem na(ts:List Lf){st:Lf.asc ts->AS}(h:∀d,AS.leaves (st d)=Lf.mk ts d)(d d':Lf.asc ts)(e:st d=st d'):d=d':=Lf.mk_inj ts d d' (by rw[<-h,<-h,e])
def Entry.gA{D X Y:Type}(params:List (Option Ty))(st:D->SA)(fJ:D->Prop)(add:D->Y->X)(F:D->Y)(out:X->ig):Entry:=Entry.of params st fJ (λd=>add d (F d)) out
def aKR{X Y:Type}(x:X⊕Y):Out (X⊕Y):= .br x.isLeft (.get x.getLeft? λa=> .ok (.inl a)) (.get x.getRight? λb=> .ok (.inr b))
theorem aEZ{X Y:Type}(x y:X⊕Y)(h:(aKR x).eval=ao y):y=x:=by cases x <;> exact(aP h).symm
def Entry.ajV{D X X' Y:Type}(params:List (Option Ty))(st:D->SA)(fJ:D->Prop)(add:D->Y->X⊕X')(F:D->Y)(out:X⊕X'->ig):Entry:= {Entry.gA params st fJ add F out with sp:=aKR,anz:=aEZ}
theorem Kx.aHw{P:aM}{y:Nat}{D X X' Y:Type}{params:List (Option Ty)}{st:D->SA}{fJ:D->Prop}{add:D->Y->X⊕X'}{F:D->Y}{out:X⊕X'->ig}(h:Kx P y (Entry.gA params st fJ add F out)):Kx P y (Entry.ajV params st fJ add F out):=h
theorem rp.aHw{P:aM}{f:fK}{D X X' Y:Type}{params:List (Option Ty)}{st:D->SA}{fJ:D->Prop}{add:D->Y->X⊕X'}{F:D->Y}{out:X⊕X'->ig}(h:rp P f (Entry.gA params st fJ add F out)):rp P f (Entry.ajV params st fJ add F out):=h
def Entry.Xy{D X Y:Type}(params:List (Option Ty))(st:D->SA)(fJ:D->Prop)(add:D->Y->X)(Post:D->Y->Prop)(out:X->ig):Entry:= {params,X,run:=λ_ _=>aJ,out:=λ_ _ x=>out x,rel:=aT,set:=λargs cn x=>∃d,st d=(args,cn)/\fJ d/\∃y,Post d y/\x=add d y}
def aHp{D:Type}(E:Entry)(st:D->SA):D->E.X->Prop:=λd=>E.set (st d).1 (st d).2
theorem aHn{D X Y:Type}{params:List (Option Ty)}{st:D->SA}{fJ:D->Prop}{add:D->Y->X}{Post:D->Y->Prop}{out:X->ig}(JC:∀d d',st d=st d'->d=d'):ayX (aHp (Entry.Xy params st fJ add Post out) st) fJ add Post:=λh h1 h2=>by
 obtain⟨y,hy⟩:=h1;refine aa4 ⟨_,_,rfl,h,y,hy,rfl⟩ λx hx=> ?_
 obtain⟨d',h3,_,y',h4,rfl⟩:=hx;obtain rfl:=JC _ _ h3;exact h2 y' h4
abbrev aB7{D X Y:Type}(A: {R:Type}->D->(ig->Option R)->Option R)(fJ:D->Prop)(add:D->Y->X)(Post:D->Y->Prop)(out:X->ig):Prop:=∀d,fJ d->∀k:ig->Option Unit,(∀y,Post d y->k (out (add d y))=ao ())->A d k=ao ()
def dW.gA{D X Y:Type}(st:D->AS)(fJ:D->Prop)(add:D->Y->X)(F:D->Y)(out:X->Out (Exit×AS)):dW:=dW.of st fJ (λd=>add d (F d)) out
def PE{D:Type}(E:Entry)(st:D->SA):D->Option E.X:=λd=>E.run (st d).1 (st d).2
def iI{D:Type}(E:dW)(st:D->AS):D->Option E.X:=λd=>E.run (st d)
abbrev kC{D X Y:Type}(call:D->Option X)(fJ:D->Prop)(add:D->Y->X)(F:D->Y):Prop:=∀ {d:D},fJ d->call d=ao (add d (F d))
theorem aHo{D X Y:Type}{params:List (Option Ty)}{st:D->SA}{fJ:D->Prop}{add:D->Y->X}{F:D->Y}{out:X->ig}(JC:∀d d',st d=st d'->d=d'):kC (PE (Entry.gA params st fJ add F out) st) fJ add F:=λh=>Entry.rO JC h
theorem anw{D X X' Y:Type}{params:List (Option Ty)}{st:D->SA}{fJ:D->Prop}{add:D->Y->X⊕X'}{F:D->Y}{out:X⊕X'->ig}(JC:∀d d',st d=st d'->d=d'){d:D}(h:fJ d):(Entry.ajV params st fJ add F out).run (st d).1 (st d).2=ao (add d (F d)):=aHo (params:=params) (out:=out) JC h
theorem og{D X Y:Type}{st:D->AS}{fJ:D->Prop}{add:D->Y->X}{F:D->Y}{out:X->Out (Exit×AS)}(JC:∀d d',st d=st d'->d=d'):kC (iI (dW.gA st fJ add F out) st) fJ add F:=λh=>dW.rO JC h
def apc(P:aM)(fn:Func):Bool:=P.follows .mixedOrders && fn.body.isSome && !(fn.name== "runtime.NumGoroutine")
def auN(fn:Func):Nat:=match fn.body with | some c=>(jE c).length | none=>0
theorem rp.fn{P:aM}{l:List (SG P)}{f:fK}{fn:Func}{an:w7}{N:Nat}{D X Y:Type}{params:List (Option Ty)}{st:D->SA}{fJ:D->Prop}{add:D->Y->X}{F:D->Y}{out:X->ig}(n:Nat)
  (hc:(P.funcs[f]?,apc P fn,auN fn)=(ao fn,aT,n))
  (h:anS (@NL P (lU l) an N fn D st) fJ add F out)
  (hL:ayI P (lU l) an N fn n 0) (abv:an.qG=aJ:=by exact rfl):rp P f (Entry.gA params st fJ add F out):=by
 injection hc with h1 h2
 injection h2 with h2 h3
 unfold apc at h2;simp only[av,cv]at h2;exact rp.of h2.1.1 (Sound.lU l) h1 h2.1.2 h2.2 (mM.fn n h3 hL) h abv
theorem Kw.fn{P:aM}{l:List (SG P)}{f:fK}{fn:Func}{an:w7}{N:Nat}{D X Y:Type}{params:List (Option Ty)}{st:D->SA}{fJ:D->Prop}{add:D->Y->X}{Post:D->Y->Prop}{out:X->ig}(n:Nat)
  (hc:(P.funcs[f]?,apc P fn,auN fn)=(ao fn,aT,n))
  (h:aB7 (@NL P (lU l) an N fn D st) fJ add Post out)
  (hL:ayI P (lU l) an N fn n 0) (abv:an.qG=aJ:=by exact rfl):Kw P f (Entry.Xy params st fJ add Post out):=by
 injection hc with h1 h2
 injection h2 with h2 h3
 unfold apc at h2;simp only[av,cv]at h2;refine Kw.rO h2.1.1 (Sound.lU l) h1 h2.1.2 h2.2 (mM.fn n h3 hL) (λargs cn hx=> ?_) abv;obtain⟨x,d,e,hp,y,hy,rfl⟩:=hx;have:=h d hp (λG=>aEE (∃x,(Entry.Xy params st fJ add Post out).set args cn x/\G=(Entry.Xy params st fJ add Post out).out args cn x)) λy hy=>awg ⟨_,⟨d,e,hp,y,hy,rfl⟩,rfl⟩
 unfold NL at this;rw[e]at this;exact this
theorem Kx.fn{P:aM}{l:List (SG P)}{y:Nat}{an:w7}{N:Nat}{D X Y:Type}{params:List (Option Ty)}{st:D->SA}{fJ:D->Prop}{add:D->Y->X}{F:D->Y}{out:X->ig}(n:Nat)
  (hc:(P.follows .mixedOrders,auN (aHE P y))=(aT,n))
  (h:anS (@NL P (lU l) an N (aHE P y) D st) fJ add F out)
  (hL:ayI P (lU l) an N (aHE P y) n 0) (abv:an.qG=ao y):Kx P y (Entry.gA params st fJ add F out):=by
 injection hc with h1 h2
 refine Kx.rO h1 (Sound.lU l) (fn:=aHE P y) (mM.fn (fn:=aHE P y) n h2 hL _ rfl) (λargs cn x hx=> ?_) abv;obtain⟨d,e1,e2,rfl⟩:=amU hx;have:=h d e2;unfold NL at this;rw[e1]at this;exact this
theorem alE.gA{P:aM}{Γ:qi}{an:w7}{N:Nat}{fn:Func}{i:Nat}{D X Y:Type}{st:D->AS}{fJ:D->Prop}{add:D->Y->X}{F:D->Y}{out:X->Out (Exit×AS)}
  (h:mn P Γ an N fn i st fJ add F out) (hle:an.gS (dV (oK fn i))=ao (dW.gA st fJ add F out):=by kernel_rfl):alE P Γ an N (oK fn i):=alE.of hle h
abbrev K1(R:Type):=ig->Option R
abbrev K2(R:Type):=AS->Option R
abbrev K3(R:Type):=Exit->AS->Option R
@[reducible] def bG{D Y:Type}(_:D)(y:Y):Y:=y
structure Ls{D Y X:Type}(fJ:D->Prop)(add:D->Y->X)(F:D->Y) where
 st:D->AS
 ex:X->Exit×AS
noncomputable def yg{D Y X:Type}{fJ:D->Prop}{add:D->Y->X}{F:D->Y}(st:D->AS)(ex:X->Exit×AS):Ls fJ add F:=⟨st,ex⟩
section
variable {D Y X:Type} {fJ:D->Prop} {add:D->Y->X} {F:D->Y} (L:Ls fJ add F)
def Ls.out:X->Out (Exit×AS):=λx=> .ok (L.ex x)
def Ls.E:dW:=dW.gA L.st fJ add F L.out
def Ls.call:D->Option X:=iI L.E L.st
abbrev Ls.go{R:Type}(kx:K3 R)(x:X):Option R:=kx (L.ex x).1 (L.ex x).2
abbrev Ls.RS:Prop:=kC L.call fJ add F
end
theorem rL(ts:List Lf){Y X:Type}{fJ:Lf.asc ts->Prop}{add:Lf.asc ts->Y->X}{F:Lf.asc ts->Y}(L:Ls fJ add F)(h:∀d,AS.leaves (L.st d)=Lf.mk ts d:=by exact λ_=>cM):kC L.call fJ add F:=og (na ts h)
structure Fs(P:aM){D Y X:Type}(fJ:D->Prop)(add:D->Y->X)(F:D->Y) where
 i:fK
 fn:Func
 st:D->SA
 out:X->ig
 ps:List (Option Ty)
 G:List (SG P)
 an:w7
 N:Nat
noncomputable def fV{P:aM}{D Y X:Type}{fJ:D->Prop}{add:D->Y->X}{F:D->Y}(i:fK)(fn:Func)(st:D->SA)(out:X->ig)(ps:List (Option Ty))(G:List (SG P):=[])(an:w7:= {})(N:Nat:=0):Fs P fJ add F:=⟨i,fn,st,out,ps,G,an,N⟩
section
variable {P:aM} {D Y X:Type} {fJ:D->Prop} {add:D->Y->X} {F:D->Y} (f:Fs P fJ add F) {D' Y' X':Type} {Pre':D'->Prop} {add':D'->Y'->X'} {F':D'->Y'}
def Fs.A{R:Type}(d:D)(k:K1 R):Option R:=NL P (lU f.G) f.an f.N f.fn f.st d k
def Fs.R(i:Nat)(L:Ls Pre' add' F'){R:Type}(d:D')(kn:K2 R)(kx:K3 R):Option R:=fh P (lU f.G) f.an f.N f.fn i L.st d kn kx
abbrev Fs.Ok:Prop:=∀d,fJ d->f.A d ao=ao (f.out (add d (F d)))
abbrev Fs.mM(i:Nat)(L:Ls Pre' add' F'):Prop:=mn P (lU f.G) f.an f.N f.fn i L.st Pre' add' F' L.out
def Fs.E:Entry:=Entry.gA f.ps f.st fJ add F f.out
def Fs.call:D->Option X:=PE f.E f.st
theorem Fs.qG(i:Nat)(L:Ls Pre' add' F'):asy (@Fs.R P D Y X fJ add F f D' Y' X' Pre' add' F' i L) L.st Pre' add' F' L.ex (f.mM i L):=λ μ h=>af0 (F:=λd=>add' d (F' d)) μ h
theorem Fs.aHm(i:Nat)(L:Ls Pre' add' F'):aC3 (@Fs.R P D Y X fJ add F f D' Y' X' Pre' add' F' i L) L.st Pre' add' F' L.ex (f.mM i L):=aFU
abbrev Fs.RS:Prop:=kC f.call fJ add F
def Fs.aIe(p:List aD->Bool)(ok:f.Ok)(n:Nat:=0)(hL:ayI P (lU f.G) f.an f.N f.fn n 0:=by exact trivial)(hc:(P.funcs[f.i]?,apc P f.fn,auN f.fn)=(ao f.fn,aT,n):=by kernel_rfl)(hy:Nat.blt f.i yB=aT:=by exact rfl)(hn:f.an.qG=aJ:=by exact rfl):SG P:=⟨f.i,p,f.E,.of (rp.fn n hc ok hL hn) hy⟩
def Fs.gf(ok:f.Ok)(n:Nat:=0)(hL:ayI P (lU f.G) f.an f.N f.fn n 0:=by exact trivial)(hc:(P.funcs[f.i]?,apc P f.fn,auN f.fn)=(ao f.fn,aT,n):=by kernel_rfl)(hy:Nat.blt f.i yB=aT:=by exact rfl)(hn:f.an.qG=aJ:=by exact rfl):SG P:=f.aIe qN ok n hL hc hy hn
end
theorem rE(ts:List Lf){P:aM}{Y X:Type}{fJ:Lf.asc ts->Prop}{add:Lf.asc ts->Y->X}{F:Lf.asc ts->Y}(f:Fs P fJ add F)(h:∀d,SA.leaves (f.st d)=Lf.mk ts d:=by exact λ_=>cM):kC f.call fJ add F:=aHo (afG ts h)
abbrev tu:Ty:=(.int .u64)
abbrev ti:Ty:=(.int .i64)
abbrev tb:Ty:=(.int .u8)
abbrev tB:Ty:=(.slice tb)
abbrev Bs:=(List Int)
abbrev tH:Ty:=(.arr 32 tb)
abbrev tU:Ty:=(.slice tu)
abbrev bM:Ty:=(.pair tH (.pair ti .unit))
abbrev cw:=(Bs×(Int×Unit))
abbrev No:Ty:=(.pair tu (.pair tu .unit))
abbrev Sg:=(Int×(Int×Unit))
abbrev ayU:Ty:=(.pair ti (.pair (.slice No) (.pair tu .unit)))
abbrev RT:=(Int×((List Sg)×(Int×Unit)))
abbrev gB:Ty:=(.pair bM (.pair ayU .unit))
abbrev j9:=(cw×(RT×Unit))
abbrev sH:Ty:=(.pair tU (.pair ti (.pair ti (.pair tu .unit))))
abbrev ud:=(Bs×(Int×(Int×(Int×Unit))))
abbrev ah7:Ty:=(.pair (.slice sH) .unit)
abbrev Lk:=((List ud)×Unit)
abbrev jy:Ty:=(.pair ti (.pair ah7 .unit))
abbrev lT:=(Int×(Lk×Unit))
abbrev ee:Ty:=(.pair (.slice gB) (.pair (.slice jy) (.pair ti .unit)))
abbrev dM:=((List j9)×((List lT)×(Int×Unit)))
abbrev sO:Ty:=(.pair tB (.pair .bool .unit))
abbrev gG:=(Bs×(Bool×Unit))
abbrev aLU:Ty:=(.pair ti (.pair (.fS No) (.pair tu .unit)))
abbrev aIn:=(Int×((Option (List Sg))×(Int×Unit)))
abbrev qI:Ty:=(.pair bM (.pair aLU .unit))
abbrev Bb:=(cw×(aIn×Unit))
end Go.Ab
namespace Go.Ab
theorem tp{n:Int}(h1: -9223372036854775808<=n)(h2:n<=9223372036854775807):IntKind.i64.wrap n=n:=by simp[IntKind.wrap,IntKind.bits,IntKind.signed];split <;> omega
theorem gX{x y:Int}(h1: -9223372036854775808<=x+y)(h2:x+y<=9223372036854775807):bT .i64 x y=x+y:=tp h1 h2
theorem gz{x y:Int}(h1: -9223372036854775808<=x - y)(h2:x - y<=9223372036854775807):dL .i64 x y=x - y:=tp h1 h2
theorem LS{x y:Int}(h1: -9223372036854775808<=x*y)(h2:x*y<=9223372036854775807):jj .i64 x y=x*y:=tp h1 h2
theorem aAl{x:Int}(h1: -9223372036854775808<=x)(h2:x<=9223372036854775807):eD .i64 x=x:=tp h1 h2
def vw{n:Nat}(w:BitVec n):Int:=(w.toNat:Int)
theorem mm(n:Nat)(x:Int):vw (bj n x)=x%((2^n:Nat):Int):=by unfold vw;rw[rk];have:0<=x%((2^n:Nat):Int):=kF _ (by have:=Nat.two_pow_pos n;omega);omega
theorem aac{n:Nat}(w:BitVec n):0<=vw w:=gF _
theorem aCV{n:Nat}(w:BitVec n):vw w < ((2^n:Nat):Int):=by have:=w.isLt;unfold vw;omega
theorem v7{n:Nat}(w:BitVec n):bj n (vw w)=w:=by apply BitVec.eq_of_toNat_eq;have:=mm n (vw w);unfold vw at this ⊢;have h:=w.isLt;rw[fi (gF _) au]at this;omega
theorem wrap_u32(x:Int):IntKind.u32.wrap x=vw (bj 32 x):=by rw[mm];simp[IntKind.wrap,IntKind.bits,IntKind.signed]
theorem wrap_u64(x:Int):IntKind.u64.wrap x=vw (bj 64 x):=by rw[mm];simp[IntKind.wrap,IntKind.bits,IntKind.signed]
theorem wrap_u8(x:Int):IntKind.u8.wrap x=vw (bj 8 x):=by rw[mm];simp[IntKind.wrap,IntKind.bits,IntKind.signed]
theorem ofInt_add(n:Nat)(x y:Int):bj n (x+y)=bj n x+bj n y:=BitVec.ofInt_add ..
theorem TU(x y:BitVec 32):bT .u32 (vw x) (vw y)=vw (x+y):=by rw[bT,wrap_u32,BitVec.ofInt_add,v7,v7]
theorem aAm(x:Int):eD .u32 x=vw (bj 32 x):=wrap_u32 x
theorem amw(x:Int):eD .u64 x=vw (bj 64 x):=wrap_u64 x
theorem aby(x:Int):eD .u8 x=vw (bj 8 x):=wrap_u8 x
theorem av4{n:Nat}(x:BitVec n):bj n ((x.toNat:Nat):Int)=x:=v7 x
theorem GZ(op:BinOp)(x y:BitVec 32):eh op .u32 (vw x) (vw y)=vw (match op with | .and=>x &&& y | .or=>x ||| y | .xor=>x^^^y | _=>x &&& ~~~y):=by unfold eh;split <;> (simp only[IntKind.bits,v7,wrap_u32,av4];rfl)
theorem aoc(op:BinOp)(x y:BitVec 64):eh op .u64 (vw x) (vw y)=vw (match op with | .and=>x &&& y | .or=>x ||| y | .xor=>x^^^y | _=>x &&& ~~~y):=by unfold eh;split <;> (simp only[IntKind.bits,v7,wrap_u64,av4];rfl)
theorem auB(x y:Nat):Int.fdiv (x:Int) (y:Int)=((x / y:Nat):Int):=by rw[Int.fdiv_eq_ediv_of_nonneg _ (gF _)];rfl
theorem NC(k:Nat):(2:Int)^k=((2^k:Nat):Int):=by simp
theorem aET{n:Nat}(w:BitVec n)(k:Nat):Int.fdiv (vw w) (2^(min k n))=vw (w >>> k):=by
 rw[NC];unfold vw;rw[auB,BitVec.toNat_ushiftRight,Nat.shiftRight_eq_div_pow];congr 1;rcases Nat.le_total k n with hk | hk
 ·rw[gC hk]
 ·rw[Nat.min_eq_right hk,Nat.div_eq_of_lt w.isLt,Nat.div_eq_of_lt];exact Nat.lt_of_lt_of_le w.isLt (Nat.pow_le_pow_right au hk)
theorem T9(w:BitVec 32)(k:Int):cW .u32 (vw w) k=vw (w >>> k.toNat):=aET w k.toNat
theorem aES{n:Nat}(w:BitVec n)(k:Nat):bj n (vw w*2^(min k n))=w <<< k:=by
 apply BitVec.eq_of_toNat_eq;rw[rk,BitVec.toNat_shiftLeft,Nat.shiftLeft_eq];unfold vw;rw[NC];have e:((w.toNat:Int)*((2^min k n:Nat):Int))=((w.toNat*2^min k n:Nat):Int):=by simp
 rw[e];have:(((w.toNat*2^min k n:Nat):Int)%((2^n:Nat):Int)).toNat=(w.toNat*2^min k n)%2^n:=au;rw[this];rcases Nat.le_total k n with hk | hk
 ·rw[gC hk]
 ·rw[Nat.min_eq_right hk,Nat.mul_mod_left];obtain⟨m,rfl⟩:=Nat.exists_eq_add_of_le hk;rw[ot,<-Nat.mul_assoc,Nat.mul_right_comm,Nat.mul_mod_left]
theorem afL(w:BitVec 32)(k:Int):oe .u32 (vw w) k=vw (w <<< k.toNat):=by rw[oe,wrap_u32];congr 1;exact aES w k.toNat
theorem bz{i n:Int}(h1:0<=i)(h2:i < n):gI i n=aT:=by simp[gI,h1,h2]
theorem tq{i n:Int}(h1:0<=i)(h2:i<=n):inc i n=aT:=by simp[inc,h1,h2]
theorem bm{x y:Int}(h:x < y):gY x y=aT:=by simp[gY,h]
theorem bh{x y:Int}(h:¬x < y):gY x y=aR:=by simp[gY];omega
theorem oO{x y:Int}(h:x<=y):adB x y=aT:=by simp[adB,h]
theorem mg{x y:Int}(h:¬x<=y):adB x y=aR:=by simp[adB];omega
theorem dT{x y:Int}(h:x > y):Ak x y=aT:=by simp[Ak];omega
theorem du{x y:Int}(h:¬x > y):Ak x y=aR:=by simp[Ak];omega
theorem gM{x y:Int}(h:x>=y):Bp x y=aT:=by simp[Bp];omega
theorem eT{x y:Int}(h:¬x>=y):Bp x y=aR:=by simp[Bp];omega
theorem lk{x y:Int}(h:x=y):EM x y=aT:=by simp[EM,h]
theorem kL{x y:Int}(h:¬x=y):EM x y=aR:=by simp[EM,h]
theorem gZ{x y:Int}(h:¬x=y):JE x y=aT:=by simp[JE,h]
theorem eU{x y:Int}(h:x=y):JE x y=aR:=by simp[JE,h]
theorem vZ{x:Int}(h:0<=x):rN x=aT:=by simp[rN,h]
theorem ba{p:Prop} [Decidable p] (h:p):decide p=aT:=by simp[h]
theorem bE{p:Prop} [Decidable p] (h:¬p):decide p=aR:=by simp[h]
theorem eW{n b:Nat}(h:n*b<=140737488355328)(h2:n<=9223372036854775807):ea n b=aT:=by simp[ea,h,h2]
def from_{α:Type}(f:Nat->α->α)(t:Nat)(l:List α):List α:=l.mapIdx λi x=>if i < t then x else f i x
theorem Y1{α:Type}(f:Nat->α->α)(l:List α)(t:Nat)(h:t < l.length):from_ f (t+1) (l.set t (f t l[t]))=from_ f t l:=by
 unfold from_;apply py (by simp);intro i h1 h2;simp only[List.getElem_mapIdx,List.getElem_set];by_cases hi:t=i
 ·subst hi;simp
 ·simp only[if_neg hi];by_cases h3:i < t
  ·rw[if_pos au,if_pos h3]
  ·rw[if_neg au,if_neg h3]
theorem aff{α:Type}(f:Nat->α->α)(l:List α)(t:Nat)(h:l.length<=t):from_ f t l=l:=by unfold from_;apply py (by simp);intro i h1 h2;simp only[List.getElem_mapIdx];rw[if_pos au]
theorem TI{α:Type}(f:Nat->α->α)(n:Nat)(x:α):from_ f 0 (ai n x)=(List.range n).map λi=>f i x:=by unfold from_;apply py (by simp);intro i h1 h2;simp
theorem da{t:Ty}{l:List t.den}{i:Nat}(h:i < l.length):nth t l i=l[i]:=by simp[nth,h]
end Go.Ab
namespace Go.Ab.N
section
variable {α:Type} {x y:Option α} {a b n:Nat} {i j:Int}
theorem lt:aS (gY i j) x y=if i < j then x else y:=by unfold gY;split <;> rename_i h <;> simp[h]
theorem le:aS (adB i j) x y=if i<=j then x else y:=by unfold adB;split <;> rename_i h <;> simp[h]
theorem gt:aS (Ak i j) x y=if j < i then x else y:=by unfold Ak;split <;> rename_i h <;> simp[h]
theorem ge:aS (Bp i j) x y=if j<=i then x else y:=by unfold Bp;split <;> rename_i h <;> simp[h]
theorem eq:aS (EM i j) x y=if i=j then x else y:=by
 by_cases h:i=j
 ·rw[lk h,if_pos h];rfl
 ·rw[kL h,if_neg h];rfl
theorem ne:aS (JE i j) x y=if i=j then y else x:=by
 by_cases h:i=j
 ·rw[eU h,if_pos h];rfl
 ·rw[gZ h,if_neg h];rfl
theorem ib:aS (gI i j) x y=if 0<=i/\i < j then x else y:=by unfold gI;split <;> rename_i h <;> simp[h]
theorem ic:aS (inc i j) x y=if 0<=i/\i<=j then x else y:=by unfold inc;split <;> rename_i h <;> simp[h]
theorem nn:aS (rN i) x y=if 0<=i then x else y:=by unfold rN;split <;> rename_i h <;> simp[h]
theorem nz:aS (qO i) x y=if i=0 then y else x:=by unfold qO;split <;> rename_i h <;> simp[h]
theorem dc{p:Prop} [Decidable p]:aS (decide p) x y=if p then x else y:=by split <;> rename_i h <;> simp[h]
theorem rm:aS (ea n b) x y=if n*b<=140737488355328/\n<=9223372036854775807 then x else y:=by unfold ea;exact dc
theorem an{c d:Bool}:aS (c && d) x y=aS c (aS d x y) y:=by cases c <;> rfl
theorem or{c d:Bool}:aS (c || d) x y=aS c x (aS d x y):=by cases c <;> rfl
theorem no{c:Bool}:aS (!c) x y=aS c y x:=by cases c <;> rfl
theorem aHI(h:a+b<=9223372036854775807):bT .i64 (a:Int) (b:Int)=((a+b:Nat):Int):=by rw[gX au au];omega
theorem nV(h:a+dy n<=9223372036854775807):bT .i64 (a:Int) (no_index (dy n))=((a+dy n:Nat):Int):=aHI h
theorem aKd(h:dy n+a<=9223372036854775807):bT .i64 (no_index (dy n)) (a:Int)=((dy n+a:Nat):Int):=aHI h
theorem aId(h:b<=a)(h2:a<=9223372036854775807):dL .i64 (a:Int) (b:Int)=((a - b:Nat):Int):=by rw[gz au au];omega
theorem aKQ(h:dy n<=a)(h2:a<=9223372036854775807):dL .i64 (a:Int) (no_index (dy n))=((a - dy n:Nat):Int):=aId h h2
theorem aKP(h:a<=dy n)(h2:(dy n:Nat)<=9223372036854775807):dL .i64 (no_index (dy n)) (a:Int)=((dy n - a:Nat):Int):=aId h h2
theorem aH9(h:a*b<=9223372036854775807):jj .i64 (a:Int) (b:Int)=((a*b:Nat):Int):=by
 have e:(a:Int)*(b:Int)=((a*b:Nat):Int):=by simp
 rw[LS au au,e]
theorem aKK(h:a*dy n<=9223372036854775807):jj .i64 (a:Int) (no_index (dy n))=((a*dy n:Nat):Int):=aH9 h
theorem aG6(h:dy n*a<=9223372036854775807):jj .i64 (no_index (dy n)) (a:Int)=((dy n*a:Nat):Int):=aH9 h
theorem aJG(h:a<=9223372036854775807):Bq .i64 (a:Int) (b:Int)=((a / b:Nat):Int):=by
 have:(a:Int).tdiv (b:Int)=((a / b:Nat):Int):=by rw[ke au];simp
 have hl:a / b<=a:=Nat.div_le_self a b;unfold Bq;rw[this];generalize a / b=c at hl;exact tp au au
theorem aKO(h:a<=9223372036854775807):Bq .i64 (a:Int) (no_index (dy n))=((a / dy n:Nat):Int):=aJG h
theorem aJI:ur (a:Int) (b:Int)=((a%b:Nat):Int):=by unfold ur;rw[gU au];simp
theorem aJH:ur (a:Int) (no_index (dy n))=((a%dy n:Nat):Int):=aJI
theorem cN(h:a<=9223372036854775807):eD .i64 (a:Int)=(a:Int):=aAl au au
theorem cL(h:(dy n:Nat)<=9223372036854775807):eD .i64 (no_index (dy n))=dy n:=cN h
theorem tL:ab (no_index (dy n))=dy n:=rfl
end
end Go.Ab.N
namespace Go.Ab
section
variable {P:aM}
theorem aut{E E':Env}(h1:E'.w=E.w)(h2:E'.g=E.g)(h3:E'.β=E.β)(h4:E'.s=E.s):E'=E:=by obtain⟨a,b,c,d⟩:=E;obtain⟨a',b',c',d'⟩:=E';simp only at h1 h2 h3 h4;subst h1 h2 h3 h4;rfl
theorem sR.same{w:bW}{g:Nat->lY}{β:Id->Option Pl}{cn:List dU}{a:aD}{v:Value}(hv:VS ((fM cn).env w g β) a v)(ho:iN ((fM cn).env w g β)):
  sR ((fM cn).env w g β) ⟨a,cn,[]⟩ v w:=by
 have hE:(ig.st ⟨a,cn,[]⟩).env w g β=(fM cn).env w g β:=by
  refine aut rfl rfl rfl ?_
  funext id;cases id with
  |bF k=>rfl
  |new i j=>
   show([([]:List dU)].getD i [])[j]? =(([]:List (List dU)).getD i [])[j]?
   cases i <;> rfl
 refine⟨g,β,?_⟩;rw[hE];exact⟨hv,ho,Trans.refl w g,cU.refl _⟩
theorem rp.extern{f:fK}{fn:Func}{e:Array Value->Sem Value}(hf:P.funcs[f]? =ao fn)(zw:(fn.name== "runtime.NumGoroutine")=aR)(hb:fn.body.isNone=aT)(hn:Extern.findNext fn=aJ)(he:Extern.find fn=ao e){en:Entry}
  (h:∀w g β args cn jk x,w8 ((fM cn).env w g β) args jk->iN ((fM cn).env w g β)->en.run args cn=ao x->∃v,(e jk.toArray).run P w= .ok v w/\sR ((fM cn).env w g β) (en.out args cn x) v w):rp P f en:=by
 intro w g β args cn jk x h1 h2 h3;obtain⟨v,h4,h5⟩:=h w g β args cn jk x h1 h2 h3;refine .inr ⟨v,w,?_,h5⟩;rw[run_callFunc_extern hf zw hb hn he,h4];rfl
def aCN.E:Entry:= {params:=[aJ],X:=Unit,run:=λargs _=>match args with | [_]=>ao () | _=>aJ,out:=λargs cn _=>⟨args.headD .undef,cn,[]⟩}
theorem aCN.of{f:fK}{fn:Func}(hf:P.funcs[f]? =ao fn)(zw:(fn.name== "runtime.NumGoroutine")=aR)(hb:fn.body.isNone=aT)(hn:Extern.findNext fn=aJ)(he:Extern.find fn=ao Extern.AbiNoEscape.same):rp P f aCN.E:=by
 refine rp.extern hf zw hb hn he λw g β args cn jk x h1 h2 h3=> ?_
 cases args with
 |nil=>cases h3
 |cons a as=>
  cases as with
  |cons _ _=>cases h3
  |nil=>
   cases jk with
   |nil=>exact h1.elim
   |cons v vs=>
    obtain⟨h4,h5⟩:=h1;cases vs with
    |cons _ _=>exact h5.elim
    |nil=>exact⟨v,rfl,sR.same h4 h2⟩
theorem ZV{w:bW}:∀(xs:List Int) (a:Addr) (acc:ByteArray),(∀j x,xs[j]? =ao x->w.cell? (a.add j)=ao (.int .u8 x))->
  (Extern.Bytes.loadBytes a xs.length acc).run P w= .ok ⟨acc.data++(xs.map λn=>fo n.toNat).toArray⟩ w
 |[],a,acc,_=>by simp[Extern.Bytes.loadBytes]
 |x::l,a,acc,h=>by
  have h0:w.cell? a=ao (.int .u8 x):=by have:=h 0 x rfl;simpa[Addr.add]using this
  have ih:=ZV l (a.add 1) (acc.push x.toNat.toUInt8) (λj y hy=>by
   have:=h (j+1) y (by simpa using hy);have e:(a.add 1).add j=a.add (j+1):=by
    unfold Addr.add;by_cases hj:j=0
    ·subst hj;simp
    ·simp[hj];omega
   rw[e];exact this)
  simp only[aH,Extern.Bytes.loadBytes,cg,run_load,h0,Result.andThen];rw[ih];congr 1;apply ByteArray.ext;simp[ByteArray.push]
theorem V6{E:Env}{l:List Int}{y:Value}(h:VS E (.d (.slice (.int .u8)) l) y):(Extern.Bytes.bytesOf y).run P E.w= .ok (fB l) E.w:=by
 obtain⟨a,cap,vs,rfl,_,hs,sJ,uZ⟩:=tQ h;have P9:=vQ (k:= .u8) (vs:=vs) (l:=l) uZ;cases a with
 |none=>
  have hl:l=[]:=by
   cases l with
   |nil=>rfl
   |cons _ _=>simp at hs
  subst hl;rfl
 |some ad=>
  have au1:=ZV (P:=P) (w:=E.w) l ad .empty λj x hx=>by
   obtain⟨b,off,e,hh⟩:=sJ j (.int .u8 x) (by rw[P9];simp[hx]);have e:ad=⟨b,off,aJ⟩:=by simpa using e
   subst e;have h1:=hh.1;unfold Addr.add;by_cases hj:j=0
   ·subst hj;simpa using h1
   ·simpa[hj]using h1
  show(Extern.Bytes.loadBytes ad l.length .empty).run P E.w=_;rw[au1];congr 1;apply ByteArray.ext;simp[fB]
def S3(a b:List Int):Int:=Extern.BytealgCompare.cmp (fB a) (fB b)
def alO:Entry:=Entry.of (D:=List Int×List Int) (X:=Int) [ao (.slice (.int .u8)),ao (.slice (.int .u8))] (λd=>([.d (.slice (.int .u8)) d.1,.d (.slice (.int .u8)) d.2],[])) (λ_=>True) (λd=>S3 d.1 d.2) (λx=>⟨.d (.int .i64) x,[],[]⟩)
theorem ay1:∀d d':List Int×List Int,(([aD.d (.slice (.int .u8)) d.1,aD.d (.slice (.int .u8)) d.2],([]:List dU)):List aD×List dU)=([.d (.slice (.int .u8)) d'.1,.d (.slice (.int .u8)) d'.2],[])->d=d':=by rintro⟨a,b⟩ ⟨a',b'⟩ h;have e1:a=a':=aCe (t:= .slice (.int .u8)) (bD (λs:List aD×List dU=>s.1.getD 0 .undef) h);have e2:b=b':=aCe (t:= .slice (.int .u8)) (bD (λs:List aD×List dU=>s.1.getD 1 .undef) h);rw[e1,e2]
def adV:List Int×List Int->Option Int:=λd=>alO.run [.d (.slice (.int .u8)) d.1,.d (.slice (.int .u8)) d.2] []
theorem alP(d:List Int×List Int):adV d=ao (S3 d.1 d.2):=Entry.rO (d:=d) ay1 trivial
theorem aDb{f:fK}{fn:Func}(hf:P.funcs[f]? =ao fn)(zw:(fn.name== "runtime.NumGoroutine")=aR)(hb:fn.body.isNone=aT)(hn:Extern.findNext fn=aJ)(he:Extern.find fn=ao Extern.BytealgCompare.compare):rp P f alO:=by
 refine rp.extern hf zw hb hn he λw g β args cn jk x h1 h2 h3=> ?_
 have hx:∃d:List Int×List Int,(([aD.d (.slice (.int .u8)) d.1,aD.d (.slice (.int .u8)) d.2],([]:List dU)):List aD×List dU)=(args,cn):=by
  by_cases hh:∃d:List Int×List Int,(([aD.d (.slice (.int .u8)) d.1,aD.d (.slice (.int .u8)) d.2],([]:List dU)):List aD×List dU)=(args,cn)
  ·exact hh
  ·exfalso;have hn:alO.run args cn=aJ:=AA λ⟨d,h,_⟩=>hh ⟨d,h⟩
   rw[hn]at h3;cases h3
 obtain⟨d,hd⟩:=hx;simp only[cK]at hd;obtain⟨rfl,rfl⟩:=hd;have hr:=alP d;have hx:x=S3 d.1 d.2:=aP (h3.symm.trans hr);subst hx
 match jk,h1 with
 |[u,v],⟨h4,h5,_⟩=>
  refine⟨.int .i64 (S3 d.1 d.2),?_,sR.same (lH _ _) h2⟩;have e1:=V6 (P:=P) h4;have e2:=V6 (P:=P) h5;have e1:(Extern.Bytes.bytesOf u).run P w= .ok (fB d.1) w:=e1;have e2:(Extern.Bytes.bytesOf v).run P w= .ok (fB d.2) w:=e2;have aDU:Extern.BytealgCompare.compare [u,v].toArray=(do let a <-Extern.Bytes.bytesOf u;let b <-Extern.Bytes.bytesOf v;pure (goInt (Extern.BytealgCompare.cmp a b))):=rfl;rw[aDU];simp[e1,e2,goInt,S3]
def aIr{X Y:Type} [Inhabited Y] (x:Option X):Option (X×Y):=aq x λy=>ao (y,default)
def aIs{X Y:Type} [Inhabited X] (x:Option Y):Option (X×Y):=aq x λy=>ao (default,y)
@[simp] theorem aFk{X Y:Type} [Inhabited Y] (x:X):aIr (Y:=Y) (ao x)=ao (x,default):=rfl
@[simp] theorem aFl{X Y:Type} [Inhabited X] (x:Y):aIs (X:=X) (ao x)=ao (default,x):=rfl
end
theorem S1:(type_of% @N.lt)/\(type_of% @N.le)/\(type_of% @N.gt)/\(type_of% @N.ge)/\(type_of% @N.eq)/\(type_of% @N.ne)/\(type_of% @N.ib)/\(type_of% @N.ic)/\(type_of% @N.nn)/\(type_of% @N.nz)/\(type_of% @N.dc)/\(type_of% @N.rm)/\(type_of% @N.an)/\(type_of% @N.or)/\(type_of% @N.no)/\(type_of% @aj)/\(type_of% @al)/\(type_of% @ae):=⟨@N.lt,@N.le,@N.gt,@N.ge,@N.eq,@N.ne,@N.ib,@N.ic,@N.nn,@N.nz,@N.dc,@N.rm,@N.an,@N.or,@N.no,@aj,@al,@ae⟩
theorem S2:(type_of% @ae)/\(type_of% @N.aHI)/\(type_of% @N.nV)/\(type_of% @N.aKd)/\(type_of% @N.aId)/\(type_of% @N.aKQ)/\(type_of% @N.aKP)/\(type_of% @N.aH9)/\(type_of% @N.aKK)/\(type_of% @N.aG6)/\(type_of% @N.aJG)/\(type_of% @N.aKO)/\(type_of% @N.aJI)/\(type_of% @N.aJH)/\(type_of% @N.cN)/\(type_of% @N.cL)/\(type_of% @N.tL)/\(type_of% @aa)/\(type_of% @kf)/\(type_of% @Ae)/\(type_of% @eG):=⟨@ae,@N.aHI,@N.nV,@N.aKd,@N.aId,@N.aKQ,@N.aKP,@N.aH9,@N.aKK,@N.aG6,@N.aJG,@N.aKO,@N.aJI,@N.aJH,@N.cN,@N.cL,@N.tL,@aa,@kf,@Ae,@eG⟩
end Go.Ab
namespace Go.Ab
open Go.ChangeShapes Go.WideShapes Go.ChangeAt Go.RowKit Go.Deep
def Yo:(t:Ty)->t.den->Prop
 | .int k,x=>(Lit.int k x).wf=aT
 | .bool,_=>True
 | .str,s=>(s:ByteArray).size<=maxLen
 | .slice t,l=>(l:List t.den).length<=maxLen/\∀x∈(l:List t.den),Yo t x
 | .unit,_=>True
 | .pair a b,x=>Yo a x.1/\Yo b x.2
 | .arr n t,l=>(l:List t.den).length=n/\∀x∈(l:List t.den),Yo t x
 | .fS _,_ | .od _,_ | .gN _,_=>False
def zt(P:aM)(rd:TypeId->Ty->Bool):Nat->List Field->Ty->Bool
 |_,[],.unit=>aT
 |off,f::fs,.pair a b=>iG f.offset off && (rd f.type a && (iG (P.cellsOf f.type) a.size && zt P rd (off+a.size) fs b))
 |_,_,_=>aR
def BO(P:aM):Nat->TypeId->Ty->Bool
 | 0,_,_=>aR
 |n+1,T,ty=>
  match P.underlying T,ty with
  |some (.int k),.int k'=>decide (k=k')
  |some .bool,.bool=>aT
  |some .string,.str=>aT
  |some (.slice e),.slice t=>BO P n e t && iG (P.cellsOf e) t.size
  |some (.array k e),.arr k' t=>iG k k' && (BO P n e t && (iG (P.cellsOf e) t.size && iG (P.cellsOf T) (k*t.size)))
  |some (.struct fs),ty=>zt P (BO P n) 0 fs.toList ty && iG (P.cellsOf T) ty.size
  |_,_=>aR
theorem ay7{a b:Nat}:(iG a b=aT)=(a=b):=propext ⟨fa,λh=>by subst h;exact Nat.beq_refl a⟩
theorem af2{α β:Type}{f:α->Option β}:∀ {l:List α} {r:List β},l.mapM f=ao r->r.length=l.length/\∀(i:Nat) (x:α),l[i]? =ao x->f x=r[i]?
 |[],r,h=>by simp only[List.mapM_nil,Option.pure_def,az]at h;subst h;exact⟨rfl,λi x h=>by simp at h⟩
 |y::l,r,h=>by
  simp only[List.mapM_cons,Option.bind_eq_bind,Option.pure_def,Option.bind_eq_some_iff,az]at h;obtain⟨b,hb,r',hr,rfl⟩:=h;obtain⟨h1,h2⟩:=af2 hr;refine⟨by simp[h1],λi x hi=> ?_⟩;cases i with
  |zero=>
   simp only[fQ,az]at hi;subst hi;simpa using hb
  |succ i=>
   simp only[lZ]at hi ⊢;exact h2 i x hi
theorem aoG{w:bW}{base:Nat}{a:Addr}{n:Nat}{cs:List Value}(h:w.cells? base a n=ao cs):cs.length=n/\∀i,i < n->w.cell? (a.add i)=cs[i]? :=by
 unfold World.cells? at h;split at h
 ·obtain⟨h1,h2⟩:=af2 h;exact⟨by simpa using h1,λi hi=>h2 i i (by simp[hi])⟩
 ·cases h
theorem add_add(a:Addr)(x y:Nat):(a.add x).add y=a.add (x+y):=by unfold Addr.add;by_cases hx:x=0 <;> by_cases hy:y=0 <;> simp[hx,hy,fF]
theorem arJ{w:bW}{a:Addr}{v:Value}(h:w.cell? a=ao v):a.spot=aJ:=by
 unfold eN at h;split at h
 ·split at h
  ·cases h
  ·rename_i hs;cases hh:a.spot with
   |none=>rfl
   |some _=>simp[hh]at hs
 ·cases h
theorem aEQ{E:Env}(hg:∀b,E.g b= .free){a:Addr}{vs:List Value}(h:∀i,i < vs.length->E.w.cell? (a.add i)=vs[i]?):wW E (ao a) vs:=by
 intro i v hv;have hi:i < vs.length:=(dN.1 hv).1;have h0:=h 0 au;rw[bQ au]at h0;have hs:a.spot=aJ:=arJ (a:=a) (by simpa[Addr.add]using h0);obtain⟨b,off,sp⟩:=a;simp only at hs;subst hs;refine⟨b,off,rfl,?_,?_⟩
 ·have:=h i hi;rw[hv]at this;rw[<-this];unfold Addr.add;split
  ·rename_i h;subst h;rfl
  ·rfl
 ·unfold sM;rw[hg b];trivial
section
variable {H:Type} {enc:TypeId×Value->H} {P:aM} {base:Nat} {spare:Nat->Bool} {held:Bool} {E:Env}
theorem anu{t:Ty}{R:List Value->t.den->Prop}{G:t.den->Prop}{w:bW}{a:Addr}{z:Nat}(hR:∀c x,R c x->c.length=z):∀(len:Nat),(∀i,i < len->∃c x,R c x/\G x/\∀j,j < z->w.cell? (a.add (i*z+j))=c[j]?)->
  ∃(vs:List Value) (l:List t.den),vs.length=len*z/\l.length=len/\(∀i,i < vs.length->w.cell? (a.add i)=vs[i]?)/\bq R vs l/\∀x∈l,G x
 | 0,_=>⟨[],[],by simp,rfl,λi h=>by simp at h,rfl,λ_ h=>by cases h⟩
 |len+1,h=>by
  obtain⟨vs,l,h1,h2,h3,h4,h5⟩:=anu hR len λi hi=>h i au
  obtain⟨c,x,g1,g2,g3⟩:=h len au;have hc:=hR c x g1;refine⟨vs++c,l++ [x],by rw[ak,h1,hc,eM,ik],by rw[ak,h2];rfl,λi hi=> ?_,bq.append h4 ⟨c,[],by simp,g1,rfl⟩,λy hy=> ?_⟩
  ·rw[ak,h1,hc]at hi;by_cases hl:i < vs.length
   ·rw[h3 i hl,fq hl]
   ·rw[List.getElem?_append_right au,h1,<-g3 (i - len*z) au,show len*z+(i - len*z)=i by omega]
  ·rcases bC.1 hy with hy | hy
   ·exact h5 y hy
   ·rw[bw.1 hy];exact g2
theorem YG{t:Ty}{R:List Value->t.den->Prop}{G:t.den->Prop}{z:Nat}:∀(n:Nat) (cs:List Value),cs.length=n*z->(∀i,i < n->∃x,R ((cs.drop (i*z)).take z) x/\G x)->
  ∃l:List t.den,l.length=n/\bq R cs l/\∀x∈l,G x
 | 0,cs,h,_=>⟨[],rfl,bu (by simpa using h),λ_ h=>by cases h⟩
 |n+1,cs,h,hi=>by
  obtain⟨x,g1,g2⟩:=hi 0 au;obtain⟨l,h1,h2,h3⟩:=YG (R:=R) (G:=G) (z:=z) n (cs.drop z) (by rw[dx,h,eM];omega) λi afr=>by obtain⟨y,k1,k2⟩:=hi (i+1) au;refine⟨y,?_,k2⟩;rw[gq,show z+i*z=(i+1)*z by rw[eM];omega];exact k1
  refine⟨x::l,by simp[h1],⟨cs.take z,cs.drop z,(dR z cs).symm,by simpa using g1,h2⟩,λy hy=> ?_⟩;rcases cj.1 hy with rfl | hy
  ·exact g2
  ·exact h3 y hy
theorem Q0{rd:TypeId->Ty->Bool}{cs:List Value}:∀(fs:List Field) (off:Nat) (ty:Ty),zt P rd off fs ty=aT->off+ty.size<=cs.length->
  (∀f∈fs,∀t,rd f.type t=aT->P.cellsOf f.type=t.size->∃v,cI E t ((cs.drop f.offset).take (P.cellsOf f.type)) v/\Yo t v)->∃v,cI E ty ((cs.drop off).take ty.size) v/\Yo ty v
 |[],off,ty,h,hl,_=>by
  cases ty <;> simp only[zt]at h <;> first | cases h | skip
  exact⟨(),by simp[cI,Ty.size],trivial⟩
 |f::fs,off,ty,h,hl,hf=>by
  cases ty <;> simp only[zt]at h <;> first | cases h | skip
  rename_i a b;simp only[av,ay7]at h;obtain⟨h1,h2,h3,h4⟩:=h;have hl:off+(a.size+b.size)<=cs.length:=hl;obtain⟨v,k1,k2⟩:=hf f (aK ..) a h2 h3;obtain⟨u,k3,k4⟩:=Q0 fs (off+a.size) b h4 au λf' hf'=>hf f' (aL _ hf')
  refine⟨(v,u),⟨(cs.drop off).take a.size,(cs.drop (off+a.size)).take b.size,?_,?_,k3⟩,k2,k4⟩
  ·rw[show Ty.size (.pair a b)=a.size+b.size from rfl,List.take_add,gq]
  ·rw[h1,h3]at k1;exact k1
theorem MQ(hg:∀b,E.g b= .free):∀(n:Nat) (T:TypeId) (ty:Ty),BO P n T ty=aT->∀ {fuel:Nat} {cs:List Value} {x:DataW H×List MemPlace},DataW.trod enc P E.w base spare held fuel T cs=ao x->∃v,cI E ty cs v/\Yo ty v
 | 0,_,_,h,_,_,_,_=>by simp[BO]at h
 |n+1,T,ty,h,fuel,cs,x,hx=>by
  unfold BO at h;split at h
  ·rename_i k k' hu;obtain rfl:=of_decide_eq_true h;obtain⟨m,rfl,_,hw⟩:=DataW.trod_int hu hx;exact⟨m,rfl,hw⟩
  ·rename_i hu;obtain⟨b,rfl,_⟩:=DataW.trod_bool hu hx;exact⟨b,rfl,trivial⟩
  ·rename_i hu;obtain⟨s,rfl,_,hs⟩:=DataW.trod_string hu hx;exact⟨s,rfl,hs⟩
  ·rename_i e t hu;simp only[av,ay7]at h;obtain⟨h1,h2⟩:=h;rcases open_slice hu hx with⟨rfl,_⟩ | ⟨a,len,cap,m,f,D,Pl,rfl,_,hl,hm,aGH,_,he⟩
   ·exact⟨([]:List t.den),⟨aJ,0,[],rfl,aF _,λh=>by simp at h,λi v hv=>by simp at hv,rfl⟩,aN _,λ_ h=>by cases h⟩
   ·have aHZ:len<=m:=by rw[aGH];split <;> omega
    obtain⟨vs,l,k1,k2,k3,k4,k5⟩:=anu (t:=t) (R:=cI E t) (G:=Yo t) (w:=E.w) (a:=a) (z:=t.size) (λc x h=>cI.size h) len λi hi=>by obtain⟨cs',g1,g2⟩:=he i au;obtain⟨v,g3,g4⟩:=MQ hg n e t h1 g2;obtain⟨g5,g6⟩:=aoG g1;refine⟨cs',v,g3,g4,λj hj=> ?_⟩;rw[<-g6 j au,add_add,h2]
    refine⟨l,⟨ao a,cap,vs,by rw[k2],by rw[k2];exact hl,λ_=>rfl,aEQ hg k3,k4⟩,by rw[k2];omega,k5⟩
  ·rename_i k e k' t hu;simp only[av,ay7]at h;obtain⟨rfl,h1,h2,h3⟩:=h;obtain⟨xs,m,rfl,_,hl,ayQ,he⟩:=DataW.trod_array hu hx;obtain⟨l,k1,k2,k3⟩:=YG (t:=t) (R:=cI E t) (G:=Yo t) (z:=t.size) k cs (by rw[hl,h3]) λi hi=>by have:=he i hi;rw[bQ au,h2]at this;exact MQ hg n e t h1 this
   exact⟨l,⟨k1,k2⟩,k1,k3⟩
  ·rename_i ty fs hu;simp only[av,ay7]at h;obtain⟨h1,h2⟩:=h;obtain⟨xs,m,rfl,_,hl,ayQ,he⟩:=DataW.trod_struct hu hx;obtain⟨v,k1,k2⟩:=Q0 (E:=E) (cs:=cs) fs.toList 0 _ h1 (by rw[hl,h2];omega) λf hf t ht hc=>by
    obtain⟨i,hi,aLd⟩:=List.mem_iff_getElem.1 hf;have hi':i < fs.size:=by simpa using hi
    have:=he i f (by rw[<-aLd];simp[hi']);rw[bQ au]at this;exact MQ hg n f.type t ht this
   refine⟨v,?_,k2⟩;rwa[aQ,bJ au]at k1
  ·cases h
end
end Go.Ab
namespace Go.Ab
open Go.ChangeShapes Go.WideShapes Go.ChangeAt Go.RowKit Go.Deep
section
variable {H:Type} {enc:TypeId×Value->H} {P:aM} {base b0:Nat} {spare:Nat->Bool} {held:Bool} {E:Env} {W:bW}
theorem ajb{rd:TypeId->Ty->Bool}{fs:List Field}{off:Nat}{ty:Ty}(h:zt P rd off fs ty=aT):ty.agg=aT:=by cases fs <;> cases ty <;> first | rfl | (simp[zt]at h)
theorem axq(hw:E.w=W)(hg:∀b,E.g b= .free){n:Nat}{t:TypeId}{ty:Ty}(h:BO P n t ty=aT){v:Value}{d:DataW H}{ps:List MemPlace}(zx:Value.okWide P W .any base t v)(hd:DataW.Trod enc P W b0 spare held t v d ps):
  ∃x:ty.den,VS E (.d ty x) v/\Yo ty x:=by
 subst hw;obtain⟨fuel,hf⟩:=hd;obtain⟨x,h1,h2⟩:=MQ hg n t ty h hf;refine⟨x,⟨v.cells.toList,h1,?_⟩,h2⟩;cases n with
 |zero=>simp[BO]at h
 |succ n=>
  unfold BO at h;split at h
  ·rename_i k k' hu;obtain⟨m,rfl⟩:=okWide_int hu zx;rfl
  ·rename_i hu;obtain⟨m,rfl⟩:=okWide_bool hu zx;rfl
  ·rename_i hu;obtain⟨m,rfl⟩:=okWide_string hu zx;rfl
  ·rename_i hu;obtain⟨a,len,cap,rfl⟩:=okWide_slice hu zx;rfl
  ·rename_i hu;simp only[Value.okWide,hu]at zx;obtain⟨cs,rfl,_⟩:=zx;show _=_;simp[Value.cells]
  ·rename_i fs hu;simp only[Value.okWide,hu]at zx;obtain⟨cs,rfl,_⟩:=zx;simp only[av]at h;have:=ajb h.1;simp only[aD.agg,this,fR,Value.cells,Array.toArray_toList]
  ·cases h
def DV:List Ty->Type
 |[]=>Unit
 |t::ts=>t.den×DV ts
def DV.jk:(ts:List Ty)->DV ts->List aD
 |[],_=> []
 |t::ts,x=> .d t x.1::DV.jk ts x.2
def DV.aJO:(ts:List Ty)->DV ts->Prop
 |[],_=>True
 |t::ts,x=>Yo t x.1/\DV.aJO ts x.2
def vn(P:aM)(n:Nat):List TypeId->List Ty->Bool
 |[],[]=>aT
 |T::Ts,t::ts=>BO P n T t && vn P n Ts ts
 |_,_=>aR
theorem ZM(hw:E.w=W)(hg:∀b,E.g b= .free){n:Nat}:∀ {Ts:List TypeId} {ts:List Ty} {vs:List Value} {ds:List (DataW H)} {ps:List MemPlace},vn P n Ts ts=aT->
  (∀(j:Nat) t v,Ts[j]? =ao t->vs[j]? =ao v->Value.okWide P W .any base t v)->DataW.TrodAll enc P W b0 spare held Ts vs ds ps->∃x:DV ts,w8 E (DV.jk ts x) vs/\DV.aJO ts x
 |[],[],vs,ds,ps,_,_,h=>by obtain⟨rfl,rfl,rfl⟩:=trodAll_nil h;exact⟨(),trivial,trivial⟩
 |T::Ts,[],_,_,_,h,_,_=>by simp[vn]at h
 |[],t::ts,_,_,_,h,_,_=>by simp[vn]at h
 |T::Ts,t::ts,vs,ds,ps,h,zx,hd=>by simp only[vn,av]at h;obtain⟨v,vs',d,ds',p,q,rfl,rfl,rfl,h1,h2⟩:=trodAll_cons hd;obtain⟨x,k1,k2⟩:=axq hw hg h.1 (zx 0 T v rfl rfl) h1;obtain⟨y,k3,k4⟩:=ZM hw hg h.2 (λj t v hj hv=>zx (j+1) t v (by simpa using hj) (by simpa using hv)) h2;exact⟨(x,y),⟨k1,k3⟩,⟨k2,k4⟩⟩
def wh(P:aM)(Ts:List TypeId):Bool:=Ts.all λt=>P.readableRec t && decide (t < P.types.size)
theorem II(hl:laidOutB P=aT){W':bW}(hb:Below W.heap.size W W')(sp:Nat->Bool):∀ {Ts:List TypeId} {vs:List Value} {ds:List (DataW H)} {ps:List MemPlace},wh P Ts=aT->(∀p∈ps,p.block < W.heap.size)->(∀p∈ps,sp p.block=aT)->
  DataW.TrodAll enc P W 0 (λ_=>aT) aT Ts vs ds ps->DataW.TrodAll enc P W' 0 sp aT Ts vs ds ps
 |[],vs,ds,ps,_,_,_,h=>by obtain⟨rfl,rfl,rfl⟩:=trodAll_nil h;exact trodAll_mk0
 |T::Ts,vs,ds,ps,hr,je,hs,h=>by obtain⟨v,vs',d,ds',p,q,rfl,rfl,rfl,h1,h2⟩:=trodAll_cons h;simp only[wh,iT,av,aW]at hr;have h3:=WideElems.Trod_stays hl hr.1.1 hr.1.2 h1 (λx hx=>hb.same (je x (bC.2 (.inl hx)))) (λx hx=>hs x (bC.2 (.inl hx)));exact⟨p,q,h3,II hl hb sp (by simpa[wh]using hr.2) (λx hx=>je x (bC.2 (.inr hx))) (λx hx=>hs x (bC.2 (.inr hx))) h2,rfl⟩
end
theorem GK{H:Type}{enc:TypeId×Value->H}{P:aM}{W:bW}{b0:Nat}{spare:Nat->Bool}{held:Bool}:∀ {Ts:List TypeId} {vs:List Value} {ds:List (DataW H)} {ps:List MemPlace},DataW.TrodAll enc P W b0 spare held Ts vs ds ps->ds.length=Ts.length
 |[],_,_,_,h=>by obtain⟨_,rfl,_⟩:=trodAll_nil h;rfl
 |_::_,_,_,_,h=>by obtain⟨v,vs',d,ds',p,q,rfl,rfl,rfl,h1,h2⟩:=trodAll_cons h;simp[GK h2]
theorem agL{H:Type}{enc:TypeId×Value->H}{P:aM}{f:Func}{s:ChangeSpec}{W W':bW}{args:Array Value}{v:Value}{ds gs:List (DataW H)}{before:List MemPlace}{tb:TypeId}
  (hl:laidOutB P=aT) (ah2:wh P f.params.toList=aT) (afB:s.vars=[]) (aJm:f.resultTypes= #[tb]) (aJp:P.underlying tb=ao .bool)
  (hW:DataW.Whole enc P f.params.toList s.vars aR W args.toList ds gs before) (aDV:s.fn H (ds++gs)= {results:=[.lit (.bool aT)],args:=ds}) (hb:Below W.heap.size W W') (hv:v= .bool aT):
  s.post enc P f aR aT aR aR W args v W':=by
 subst hv;have hW':=hW;have hold:∀p∈before,(λb=>decide (b < W.heap.size)) p.block=aT:=λp hp=>by simpa using hW.lt p hp
 obtain⟨p,q,hA,hV,rfl,hz,_⟩:=hW;rw[afB]at hV;obtain⟨rfl,rfl⟩:=trodVars_none hV;have je:∀x∈p,x.block < W.heap.size:=λx hx=>hW'.lt x (bC.2 (.inl hx))
 have H3:∀sp:Nat->Bool,(∀x∈p,sp x.block=aT)->DataW.TrodAll enc P W' 0 sp aT f.params.toList args.toList (s.fn H (ds++ [])).args p:=λsp hs=>by rw[aDV];exact II hl hb sp ah2 je hs hA
 have aJg:∀(b:Nat) (sp:Nat->Bool) (hd:Bool),DataW.TrodAll enc P W' b sp hd f.resultTypes.toList ((Value.bool aT).resultList f.resultTypes.size) (s.fn H (ds++ [])).results []:=λb sp hd=>by rw[aDV,aJm];exact trodAll_mk1 (shut_bool aJp _)
 have P9:∀sp:Nat->Bool,DataW.TrodVars enc P W' sp s.vars (s.fn H (ds++ [])).vars []:=λsp=>by rw[aDV,afB];rfl
 refine⟨ds,[],p++ [],[],p,[],hW',aJg _ _ _,H3 _ (λx hx=>hold x (bC.2 (.inl hx))),P9 _,hb.frame _,λh=>by cases h⟩
theorem Gc{P:aM}{n:Nat}:∀ {Ts:List TypeId} {ts:List Ty},vn P n Ts ts=aT->Ts.length=ts.length
 |[],[],_=>rfl
 |[],_::_,h=>by simp[vn]at h
 |_::_,[],h=>by simp[vn]at h
 |_::_,_::_,h=>by simp only[vn,av]at h;simp[Gc h.2]
theorem apQ{H:Type}{enc:TypeId×Value->H}{P:aM}{f:fK}{fn:Func}{en:Entry}{s:ChangeSpec}{tb:TypeId}(n:Nat)(tys:List Ty)(hD:rp P f en)(hf:P.funcs[f]? =ao fn)(aGf:fn.body.isSome=aT)(zw:(fn.name== "runtime.NumGoroutine")=aR)
  (hl:laidOutB P=aT) (aCx:vn P n fn.params.toList tys=aT) (ah2:wh P fn.params.toList=aT) (afB:s.vars=[]) (aJm:fn.resultTypes= #[tb]) (aJp:P.underlying tb=ao .bool)
  (aDV:∀ds:List (DataW H),ds.length=tys.length->s.fn H (ds++ [])= {results:=[.lit (.bool aT)],args:=ds})
  (pK:∀x:DV tys,DV.aJO tys x->∃r,en.run (DV.jk tys x) []=ao r/\en.out (DV.jk tys x) [] r=⟨.d .bool aT,[],[]⟩)
  {W:bW} {base:Nat} {args:Array Value} {ds gs:List (DataW H)} {before:List MemPlace}
  (zx:∀(j:Nat) t v,fn.params[j]? =ao t->args[j]? =ao v->Value.okWide P W .any base t v)
  (hW:DataW.Whole enc P fn.params.toList s.vars aR W args.toList ds gs before):
  Calls P f args W λe W'=>∃v,e= .returned v/\s.post enc P fn aR aT aR aR W args v W':=by
 have hW':=hW;obtain⟨p,q,hA,hV,_,_,_⟩:=hW;rw[afB]at hV;obtain⟨rfl,rfl⟩:=trodVars_none hV;obtain⟨x,aH3,aH4⟩:=ZM (E:=(fM []).env W (λ_=> .free) (λ_=>aJ)) rfl (λ_=>rfl) aCx (λj t v hj hv=>zx j t v (by simpa using hj) (by simpa using hv)) hA;obtain⟨r,aD8,aft⟩:=pK x aH4;have cP:(callFunc f args).run P W= .ok (.enter f args) W:=by
  unfold callFunc;obtain⟨c,hc⟩:=bA.1 aGf;have hname':¬fn.name= "runtime.NumGoroutine" :=by simpa using zw
  simp[hf,hname',hc]
 have hlen:ds.length=tys.length:=by rw[GK hA,Gc aCx]
 have ho:iN ((fM []).env W (λ_=> .free) (λ_=>aJ)):=λid ver fr c h=>by
  exfalso;cases id with
  |bF k=>simp[AS.env,AS.bU,fM]at h
  |new i j=>simp[AS.env,AS.bU,fM]at h
 rcases hD W (λ_=> .free) (λ_=>aJ) (DV.jk tys x) [] args.toList r aH3 ho aD8 with⟨_,hc⟩ | ⟨v,w',hc,_⟩
 ·refine hc.mono λe w' he=> ?_
  obtain⟨v,rfl,g',β',h1,_,h2,_⟩:=he;rw[aft]at h1;refine⟨v,rfl,agL hl ah2 afB aJm aJp hW' (aDV ds hlen) ⟨h2.os,h2.tape,h2.output.1,h2.size,λb hb=>(h2.xo b hb).2⟩ ?_⟩;obtain⟨cs,k1,k2⟩:=h1;have k1:cs=[.bool aT]:=k1;subst k1;have k2: [Value.bool aT]=[v]:=k2;simpa using k2.symm
 ·rw[show args.toList.toArray=args from Array.toArray_toList ..,cP]at hc;cases hc
end Go.Ab
namespace Go.Ab
abbrev W:=BitVec 32
def HE(w:W)(k:Nat):W:=w <<< (32 - k) ||| w >>> k
def aHJ(a b c d:Int):W:=bj 32 a <<< 24 ||| bj 32 b <<< 16 ||| bj 32 c <<< 8 ||| bj 32 d
def be(l:List Int)(i:Nat):W:=aHJ (l.getD (4*i) 0) (l.getD (4*i+1) 0) (l.getD (4*i+2) 0) (l.getD (4*i+3) 0)
structure St where
 a:W
 b:W
 c:W
 d:W
 e:W
 f:W
 g:W
 h:W
def St.l(s:St):List Int:=[vw s.a,vw s.b,vw s.c,vw s.d,vw s.e,vw s.f,vw s.g,vw s.h]
def aJT(x:W):W:=HE x 7^^^HE x 18^^^x >>> 3
def aJU(y:W):W:=HE y 17^^^HE y 19^^^y >>> 10
def aCM(l:List W)(i:Nat):W:=l.getD (i - 16) 0+aJT (l.getD (i - 15) 0)+l.getD (i - 7) 0+aJU (l.getD (i - 2) 0)
def ext(l:List W):List W:=l++ [aCM l l.length]
def aHA(m:List W):Nat->List W
 | 0=>m
 |n+1=>ext (aHA m n)
def words(b:List Int):List W:=(List.range 16).map (be b)
def sched(b:List Int):List W:=aHA (words b) 48
def kl:List Nat:=[0x428a2f98,0x71374491,0xb5c0fbcf,0xe9b5dba5,0x3956c25b,0x59f111f1,0x923f82a4,0xab1c5ed5,0xd807aa98,0x12835b01,0x243185be,0x550c7dc3,0x72be5d74,0x80deb1fe,0x9bdc06a7,0xc19bf174,0xe49b69c1,0xefbe4786,0x0fc19dc6,0x240ca1cc,0x2de92c6f,0x4a7484aa,0x5cb0a9dc,0x76f988da,0x983e5152,0xa831c66d,0xb00327c8,0xbf597fc7,0xc6e00bf3,0xd5a79147,0x06ca6351,0x14292967,0x27b70a85,0x2e1b2138,0x4d2c6dfc,0x53380d13,0x650a7354,0x766a0abb,0x81c2c92e,0x92722c85,0xa2bfe8a1,0xa81a664b,0xc24b8b70,0xc76c51a3,0xd192e819,0xd6990624,0xf40e3585,0x106aa070,0x19a4c116,0x1e376c08,0x2748774c,0x34b0bcb5,0x391c0cb3,0x4ed8aa4a,0x5b9cca4f,0x682e6ff3,0x748f82ee,0x78a5636f,0x84c87814,0x8cc70208,0x90befffa,0xa4506ceb,0xbef9a3f7,0xc67178f2]
def kw(i:Nat):W:=BitVec.ofNat 32 (kl.getD i 0)
def afO:List Int:=kl.map λ(n:Nat)=>(n:Int)
def qG(s:St)(k w:W):St:=
 let t:=s.h+(HE s.e 6^^^HE s.e 11^^^HE s.e 25)+(s.g^^^s.e &&& (s.f^^^s.g))+k+w
 let r:=HE s.a 2^^^HE s.a 13^^^HE s.a 22
 let most:=s.a &&& s.b ||| s.c &&& (s.a ||| s.b)
 ⟨t+r+most,s.a,s.b,s.c,s.d+t,s.e,s.f,s.g⟩
def rounds(ws:List W)(s:St):Nat->St
 | 0=>s
 |n+1=>qG (rounds ws s n) (kw n) (ws.getD n 0)
def aqa(s:St)(b:List Int):St:=
 let v:=rounds (sched b) s 64
 ⟨v.a+s.a,v.b+s.b,v.c+s.c,v.d+s.d,v.e+s.e,v.f+s.f,v.g+s.g,v.h+s.h⟩
def zu:St:=⟨0x6a09e667,0xbb67ae85,0x3c6ef372,0xa54ff53a,0x510e527f,0x9b05688c,0x1f83d9ab,0x5be0cd19⟩
def As:Nat->St->List Int->St
 | 0,s,_=>s
 |n+1,s,l=>As n (aqa s (l.take 64)) (l.drop 64)
def blocks(s:St)(l:List Int):St:=As (l.length / 64) s l
def aHK(w:W)(k:Nat):Int:=vw ((w >>> (24 - 8*k)).setWidth 8)
def azk(w:W):List Int:=[aHK w 0,aHK w 1,aHK w 2,aHK w 3]
def aAV(s:St):List Int:=azk s.a++azk s.b++azk s.c++azk s.d++azk s.e++azk s.f++azk s.g++azk s.h
def mq(n:Int):List Int:=[n / 2^56%256,n / 2^48%256,n / 2^40%256,n / 2^32%256,n / 2^24%256,n / 2^16%256,n / 2^8%256,n%256]
def Mq(n:Nat):Nat:=(119 - n%64)%64
def pad(b:List Int):List Int:=b++128::(ai (Mq b.length) 0++mq (8*b.length))
def aFJ(b:List Int):List Int:=aAV (blocks zu (pad b))
def yI(parts:List (List Int)):List Int:=parts.flatMap λp=>mq p.length++p
def X0(name:List Int)(parts:List (List Int)):List Int:=mq name.length++name++yI parts
def tag(name:List Int)(parts:List (List Int)):List Int:=aFJ (X0 name parts)
theorem ak1(b:List Int):(aFJ b).length=32:=rfl
theorem dA(n:Int):(mq n).length=8:=rfl
theorem ai8(l:List W):(ext l).length=l.length+1:=by simp[ext]
theorem Ku(m:List W):∀n,(aHA m n).length=m.length+n
 | 0=>rfl
 |n+1=>by rw[aHA,ai8,Ku m n];omega
theorem uc(b:List Int):(words b).length=16:=by simp[words]
theorem E1:∀(n:Nat) (s:St) (a b:List Int),a.length=64*n->∀m,As (n+m) s (a++b)=As m (As n s a) b
 | 0,s,a,b,h,m=>by have:a=[]:=bu au;subst this;simp[As]
 |n+1,s,a,b,h,m=>by rw[show n+1+m=(n+m)+1 by omega,As,As];rw[iZ au,List.drop_append_of_le_length au];exact E1 n _ _ _ (by simp;omega) m
theorem HJ(s:St)(a b:List Int)(h:a.length%64=0):blocks s (a++b)=blocks (blocks s a) b:=by
 unfold blocks;have e:(a++b).length / 64=a.length / 64+b.length / 64:=by simp;omega
 rw[e];exact E1 _ _ _ _ au _
theorem Pz(s:St)(l:List Int)(h:64<=l.length):blocks s l=blocks (aqa s (l.take 64)) (l.drop 64):=by unfold blocks;rw[show l.length / 64=(l.drop 64).length / 64+1 by simp;omega];rfl
theorem I2(s:St)(l:List Int)(h:l.length < 64):blocks s l=s:=by unfold blocks;rw[show l.length / 64=0 by omega];rfl
def aai(x:Int):Prop:=0<=x/\x < 256
def Bytes(l:List Int):Prop:=∀x∈l,aai x
theorem azl(w:BitVec 8):aai (vw w):=⟨aac w,aCV w⟩
theorem aai.vw{x:Int}(h:aai x):x=vw (bj 8 x):=by rw[mm];obtain⟨h1,h2⟩:=h;omega
theorem aiK(s:St):Bytes (aAV s):=by intro x hx;simp only[aAV,azk,bC,cj,List.not_mem_nil,or_false]at hx;rcases hx with((((((hx | hx) | hx) | hx) | hx) | hx) | hx) | hx <;> rcases hx with rfl | rfl | rfl | rfl <;> exact azl _
theorem aoC(b:List Int):Bytes (aFJ b):=aiK _
theorem Ce(n:Int):Bytes (mq n):=by intro x hx;simp only[mq,cj,List.not_mem_nil,or_false]at hx;rcases hx with rfl | rfl | rfl | rfl | rfl | rfl | rfl | rfl <;> exact⟨au,au⟩
end Go.Ab
end
