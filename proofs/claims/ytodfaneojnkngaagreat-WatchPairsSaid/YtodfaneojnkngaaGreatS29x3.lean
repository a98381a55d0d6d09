/-
  Made short by a program of mine (wip/tools/mini.py).
-/
import Derived.Test.YtodfaneojnkngaaGreatS29x2
import Derived.Scope
import Derived.Laws.Externs
import Derived.KernelRfl
import Derived.ProofKit
import Derived.OpenShut
import Derived.Deep.Slices
import Derived.Carry
set_option linter.unusedVariables false
set_option linter.unusedSimpArgs false
set_option maxRecDepth 100000
set_option synthInstance.maxSize 5000
open Go renaming IntKind->lC,FuncId->fV,Operand->bU,Program->aT,World->cd
open List renaming replicate->ab
open BitVec renaming ofInt->bo
open UInt8 renaming ofNat->fQ
open Nat renaming beq->ju
open Go.World renaming cell?->fq
open Go.Sem renaming run_bind->cC,run_pure->ez
open Go.Result renaming andThen_ok->bP
open OfNat renaming ofNat->dM
open Int renaming toNat->ae
open Sum renaming getLeft?->dj
open Option renaming some->av,none->aD
open Bool renaming true->aZ,false->aQ
noncomputable section
namespace Go.Ab
section
variable {P:aT} {Γ:pO} {an:yx} {C:Ctx}
open Classical in
def aRR(p:Prop):Option Unit:=if p then av () else aD
theorem ap8{p:Prop}(h:aRR p=av ()):p:=by
 unfold aRR at h;split at h
 ·assumption
 ·cases h
theorem aIA{p:Prop}(h:p):aRR p=av ():=by unfold aRR;rw[if_pos h]
theorem axv{X R:Type}{S:X->Prop}{k:X->Option R}{x:Option R}(hn:∃y,S y)(h:∀y,S y->k y=x):abp S k=x:=by
 unfold abp;cases x with
 |none=>exact Dp λ⟨r,⟨y,hy⟩,hr⟩=>by have:=h y hy;rw[hr y hy]at this;cases this
 |some r=>
  have hx:∃r,(∃x,S x)/\∀x,S x->k x=av r:=⟨r,hn,h⟩;rw[Ao hx];obtain⟨⟨y,hy⟩,h1⟩:=hx.choose_spec;have:=h1 y hy;rw[h y hy]at this;exact this.symm
def awT(P:aT)(Γ:pO)(an:yx)(N:Nat)(b:Code):Prop:=∀le,an.gf (ee b)=av le->(le.set=aD->∀s x,le.run s=av x->∃n,XI (norm P (an.loops (ee b))) (λe=>norm P (an.outs (ee b) (aps e))) (ev P Γ an N b) n s (λe s'=>av (e,s'))=(le.out x).eval)/\∀S,le.set=av S->∀s,(∃x,S s x)->∃n,XI (norm P (an.loops (ee b))) (λe=>norm P (an.outs (ee b) (aps e))) (ev P Γ an N b) n s (λe s'=>aRR (∃x,S s x/\(le.out x).eval=av (e,s')))=av ()
def lF(P:aT)(Γ:pO)(an:yx)(N:Nat):List Code->Prop
 |[]=>True
 |b::l=>awT P Γ an N b/\lF P Γ an N l
theorem lF.append{N:Nat}:∀ {l l':List Code},lF P Γ an N (l++l')->lF P Γ an N l/\lF P Γ an N l'
 |[],_,h=>⟨trivial,h⟩
 |_::_,_,⟨h1,h2⟩=>⟨⟨h1,(lF.append h2).1⟩,(lF.append h2).2⟩
theorem uU{c:Code}{b:Frame}{a:Act}{k:List Item}{cs:List Frame}{w:cd}:step P (lone (b.atR a (.code (.scope c)::k)) cs w)= .next (lone (b.atR a (.code c:: .inScope c::k)) cs w):=
 step_lone_go (by simp[stepG,stepG.exec,Frame.atR])
theorem agG{c:Code}{b:Frame}{a:Act}{k:List Item}{cs:List Frame}{w:cd}:step P (lone (b.atR a (.inScope c::k)) cs w)= .next (lone (b.atR a k) cs w):=
 step_lone_go (by simp[stepG,stepG.exec,Frame.atR])
theorem MX{F:Fence}{n:Nat}{Q:Exit->Act->cd->Prop}{a:Act}{w:cd}{c:Code}(h:c.wpIn F n P (Exit.noGoto Q) a w):(Code.scope c).wpIn F n P Q a w:=by
 intro b k cs aZb hb hr;have h0:(lone (b.atR a (.code (.scope c)::k)) cs w).fenced P F:=fenced_calm hb hr rfl;obtain⟨e,a1,w1,hq,hx⟩:=h b (.inScope c::k) cs aZb hb hr;cases e with
 |normal=>exact⟨.normal,a1,w1,hq,.head h0 uU (StepsIn.trans hx (.one (fenced_calm hb hr rfl) agG))⟩
 |exit i=>
  have e1:exitTo i (.inScope c::k)=exitTo i k:=by simp[exitTo]
  exact⟨.exit i,a1,w1,hq,λk' hk=> .head h0 uU (hx.1 k' (e1.trans hk)),λh1 hk=>let⟨k2,h2,h3⟩:=hx.2 h1 (e1.trans hk);⟨k2,h2,.head h0 uU h3⟩⟩
 |goto l=>exact hq.elim
 |ret=>exact⟨_,a1,w1,hq,.of_steps (.one h0 uU) hx⟩
 |panic ch=>exact⟨_,a1,w1,hq,.of_steps (.one h0 uU) hx⟩
 |outgrown=>exact⟨_,a1,w1,hq,.of_steps (.one h0 uU) hx⟩
theorem Hb{rd:Option Nat}{m:Nat}{R:Type}{r:R}{b:Code}{nrm:AS->Out AS}{nrmX:Exit->AS->Out AS}{body:AS->(Exit->AS->Option R)->Option R}
  (hn:∀s s1 a w,jf C s a w->(nrm s).eval=av s1->jf C s1 a w) (hx:∀e s s1 a w,jf C s a w->(nrmX e s).eval=av s1->jf C s1 a w)
  (hb:∀(s:AS) (a:Act) (w:cd) (k:Exit->AS->Option R) (Q:Exit->Act->cd->Prop),jf C s a w->body s k=av r->(∀e s' a' w',jf C s' a' w'->k e s'=av r->Q e a' w')->b.wpIn (Fr rd) m P Q a w)
  {k:Exit->AS->Option R} {Q:Exit->Act->cd->Prop} (hk:∀e s' a' w',jf C s' a' w'->k e s'=av r->Q e a' w'):
  ∀(n:Nat) (s:AS) (a:Act) (w:cd),jf C s a w->XI nrm nrmX body n s k=av r->Code.roundsIn (Fr rd) m P b Q n a w
 | 0,s,a,w,_,h=>by simp[XI]at h
 |n+1,s,a,w,hs,h=>by
  simp only[XI]at h;rw[roundsIn_succ];refine hb s a w _ _ hs h λe s' a' w' hs' aTS=> ?_
  have exits:∀e,(nrmX e s').run (k e)=av r->Q e a' w':=λe aTS=>by obtain⟨s1,h1,h2⟩:=jd.1 aTS;exact hk e s1 a' w' (hx e s' s1 a' w' hs' h1) h2
  cases e with
  |normal=>
   simp only at aTS;obtain⟨s1,h1,h2⟩:=jd.1 aTS;exact Hb hn hx hb hk n s1 a' w' (hn s' s1 a' w' hs' h1) h2
  |_=>exact exits _ aTS
theorem Sj{rd:Option Nat}{n:Nat}(hC:C.ok){j:Option pP}{run: {R:Type}->(Exit->AS->Option R)->Option R}{c:Code}{a:Act}{w:cd}
  (im:∀ {R:Type} {r:R} (k:Exit->AS->Option R) (Q:Exit->Act->cd->Prop),run k=av r->(∀e s' a' w',jf C s' a' w'->k e s'=av r->Q e a' w')->c.wpIn (Fr rd) n P Q a w)
  {R:Type} {r:R} {k:Exit->AS->Option R} {Q:Exit->Act->cd->Prop} (h:Vv P j run k=av r) (hk:∀e s' a' w',jf C s' a' w'->k e s'=av r->Q e a' w'):c.wpIn (Fr rd) n P Q a w:=by
 cases j with
 |none=>exact im k Q h hk
 |some j=>
  simp only[Vv]at h;cases hx:run λe s=>(norm P j.an s).run (j.axO e) with
  |none=>rw[hx]at h;cases h
  |some x=>
   rw[hx]at h;simp only[al]at h;obtain⟨y,hy,h⟩:=jd.1 h;refine im _ Q hx λe s' a' w' hs' hK=> ?_
   obtain⟨s1,h1,h2⟩:=jd.1 hK;have he:=j.ok _ _ _ h2;rw[hy,aA]at he;subst he;exact hk e s1 a' w' (qv hC hs' h1) h
theorem Inv.ayV{g:Nat->np}{β:Id->Option Pl}{s:AS}{a:Act}{w:cd}(h:Inv C g β s a w):
  Inv C (oS g w.heap.size (.own .eY 0)) β s {a with defers:=w9 w.heap.size::a.defers} (w.alloc (.deferred (av []))):=by
 have ht:=Trans.alloc w g (.deferred (av [])) (.own .eY 0);have he:db (s.env w g β) (s.env (w.alloc (.deferred (av []))) (oS g w.heap.size (.own .eY 0)) β):=db.same ht;have h1:=h.step rfl ht he (jE.same h.bT he λi ver fr c pl hi hp=>by
  have hl:=((h.bT i ver fr c hi).label (pl:=pl) hp).1;have hl':pl.b < w.heap.size:=hl;exact⟨sC w _ hl',fZ _ _ _ ak⟩)
 refine⟨⟨dm.2 ⟨λhm=> ?_,h1.defers.1⟩,λd hd=> ?_⟩,h1.size,h1.cM,h1.bT,h1.trans,h1.le⟩
 ·obtain⟨D,e,_,hh,_⟩:=h.defers.2 _ hm;have e:Deferred.mk (.collected w.heap.size) #[]=Deferred.mk (.collected D) #[]:=e;injection e with e _
  injection e with e
  have:=(bX.1 hh).1;omega
 ·rcases cv.1 hd with rfl | hd
  ·exact⟨w.heap.size,rfl,h.trans.size,vc w _,gm _ _ _⟩
  ·exact h1.defers.2 d hd
theorem Pe:∀l:List aC,(nw l).list=l
 |[]=>rfl
 |a::l=>by simp[nw,aC.list,Pe l]
theorem FF(ba:List Nat):∀(i:Nat) (l:List aC),(fo ba i l).length=l.length
 |_,[]=>rfl
 |i,_::l=>by simp[fo,FF ba (i+1) l]
theorem NO(ba:List Nat):∀(l:List aC) (i j:Nat),(fo ba i l).getD j .undef=l.getD j .undef\/(fo ba i l).getD j .undef= .undef
 |[],_,_=> .inl rfl
 |v::l,i,0=>by
  simp only[fo,j6];split
  ·exact .inl rfl
  ·exact .inr rfl
 |v::l,i,j+1=>by simpa[fo]using NO ba l (i+1) j
theorem Inv.frame{g:Nat->np}{β:Id->Option Pl}{s:AS}{a:Act}{w:cd}(h:Inv C g β s a w)(ba:List Nat):Gk (s.env w g β) (nw (fo ba 0 s.cM)) a.tmps:=by
 refine⟨by rw[Pe,FF,h.size],λi=> ?_⟩;rw[Pe];rcases NO ba s.cM 0 i with e | e
 ·rw[e];exact h.cM i
 ·rw[e];exact VS.undef
theorem aOo(a:Act)(q:Nat)(x:Value):(a.put (av q) x).put (av q) (a.tmps.getD q undef)=a:=by
 obtain⟨t,d⟩:=a;simp only[Act.put];congr 1;apply tN;intro i;simp only[eF,Array.size_setIfInBounds];by_cases h:q=i
 ·subst h;by_cases hl:q < t.size
  ·simp[hl]
  ·simp[hl]
 ·simp[h]
theorem Tb{g:Nat->np}{β:Id->Option Pl}{s s':AS}{a:Act}{w:cd}{q p:Nat}(h:Inv C g β s a w)(he:s.VY q p=av s'):∃pl r,β (.bt 0)=av pl/\(s.env w g β).cur (.bt 0) 0/\w.heap[pl.b]? =av (.loop r)/\aqS q r.state r.pending/\
  ∀r':Loop,r'.params=r.params->r'.assign=r.assign->r'.body=r.body->r'.tmps=r.tmps->aqS p r'.state r'.pending->Inv C g β s' a (w.putObj pl.b (.loop r')):=by
 unfold AS.VY at he;split at he;rotate_left
 ·cases he
 rename_i c f q' dh;split at he;rotate_left
 ·cases he
 rename_i hq;obtain rfl:q=q':=fE hq;obtain rfl:=bn he;obtain⟨pl,r,hp,hb,hg,⟨q1,q2,q3⟩,axH,nA⟩:=h.bT (.bt 0) 0 aQ _ dh;have hp:β (.bt 0)=av pl:=hp;have hb:w.heap[pl.b]? =av (.loop r):=hb
 have hg:g pl.b= .own (.id (.bt 0)) 0:=hg;refine⟨pl,r,hp,⟨aQ,_,dh⟩,hb,nA,λr' e1 e2 e3 e4 hs'=> ?_⟩;have iA:pl.b < w.heap.size:=(bX.1 hb).1;have hother:∀b',b'≠pl.b->(w.putObj pl.b (.loop r')).heap[b']? =w.heap[b']? :=λb' il=>World.putObj_heap_other il
 have ht:Trans w (w.putObj pl.b (.loop r')) g g:=by
  refine⟨rfl,rfl,⟨rfl,ay _⟩,by simp,λb' _=> ?_⟩;by_cases he:b'=pl.b
  ·subst he;rw[hg];exact⟨.inr ⟨_,0,rfl,ay _⟩,λ_ _ hh=>ak⟩
  ·rw[hother b' he];cases YT:g b' with
   |free=>exact⟨rfl,rfl⟩
   |own o' k=>cases o' with
    |eY=>exact⟨rfl,rfl⟩
    |id i'=>exact⟨.inr ⟨i',k,rfl,ay _⟩,λoff v _ hv=>by simpa only[fq,hother b' he]using hv⟩
 have hle:db (s.env w g β) ((s.bq (.bt 0) (.obj 0 aQ (.sS c f p))).env (w.putObj pl.b (.loop r')) g β):=db.bq dh (ay _) ht (λ_ _=>rfl) (λ_=>rfl);refine h.step (dE _ _ _) ht hle (jE.bq h.bT (by rw[dh];simp) hle (λ_ _=>rfl) (λi ver fr c pl2 hi abO ZI=>⟨hother _ (h.apart hg hi abO ZI),rfl⟩) ?_ (Sv dh));exact⟨pl,r',hp,World.putObj_heap_same iA,hg,⟨e1.trans q1,e2.trans q2,e3.trans q3⟩,by rw[e4];exact axH.mono hle,hs'⟩
theorem Zm{n:Nat}(hΓ:Sound P Γ){f:bU}{ps:Array Tmp}{as b:Code}{R:Type}{r:R}{k:Exit->AS->Option R}{Q:Exit->Act->cd->Prop}{s:AS}{a:Act}{w:cd}(h:jf C s a w)
  (he:Hy P Γ an s f ps as b k=av r) (hk:∀e s' a' w',jf C s' a' w'->k e s'=av r->Q e a' w'):(Code.rangeFunc f ps as b).wpIn (Fr aD) n P Q a w:=by
 obtain⟨g,β,h⟩:=h;unfold Hy at he;split at he;rotate_left
 ·cases he
 rename_i y ba h0 caps aZa aZS hF;split at he;rotate_left
 ·cases he
 rename_i en aTE atY;simp only[au]at aTE;obtain⟨⟨⟨aAH,aHo⟩,hq⟩,iA⟩:=aTE;have hd:=(hΓ _ _ _ atY).1 iA;have hdR:=(hΓ _ _ _ atY).2.2 iA;generalize aWo:ps.getD 0 0=q at aHo hq he atY;have hq:q < s.cM.length:=ea hq;obtain⟨vs,hy,aSR⟩:=abB (hF▸h.ev f);refine wpIn_rangeFunc λfn _=> ?_
 have dh:=run_enterLoop_outer (P:=P) (w:=w) fn a.tmps ps as b;have i1:=h.ayV;generalize aZj:w.alloc (.deferred (av []))=w1 at i1 dh;have uW:w1.heap.size=w.heap.size+1:=by rw[<-aZj];exact World.size_alloc ..
 generalize aWp:({state:= .ready,pending:=aD,fn,tmps:=a.tmps,params:=ps,assign:=as,body:=b,defers:=w.heap.size}:Loop)=r0 at dh;have ht:=Trans.alloc w1 (oS g w.heap.size (.own .eY 0)) (.loop r0) (.own (.id (.new q 0)) 0);obtain⟨i2,e2⟩:=i1.UQ aHo (c:= .sS ⟨y,ps,as,b⟩ (nw (fo ba 0 s.cM)) 0) (p:=av ⟨w1.heap.size,0⟩) ht (λb hb=>⟨sC w1 _ hb,fZ _ _ _ ak⟩) (λhe=>
  ⟨⟨w1.heap.size,0⟩,r0,kR _ _ _,vc w1 _,gm _ _ _,by subst aWp;exact⟨rfl,rfl,rfl⟩,by subst aWp;exact(i1.frame ba).mono he,by subst aWp;exact⟨rfl,rfl⟩⟩)
 generalize oS (oS g w.heap.size (.own .eY 0)) w1.heap.size (.own (.id (.new q 0)) 0)=g2 at i2 e2;generalize hβ2:LM β (.new q 0) (av ⟨w1.heap.size,0⟩)=β2 at i2 e2;generalize aEd:w1.alloc (.loop r0)=w2 at i2 e2 dh;have aX3:VS ((s.born q [.obj 0 aQ (.sS ⟨y,ps,as,b⟩ (nw (fo ba 0 s.cM)) 0)]).env w2 g2 β2) (.yl (.new q 0) 0) (.func (.yield w1.heap.size) #[] #[]):=by refine⟨[.func (.yield w1.heap.size) #[] #[]],?_,rfl⟩;simp only[V];exact⟨_,rfl,ru aHo _ _ _ _,λ_=>⟨⟨w1.heap.size,0⟩,by rw[<-hβ2];exact kR _ _ _,rfl⟩⟩
 have i3:=i2.put (av q) aX3;have hF2:(s.born q [.obj 0 aQ (.sS ⟨y,ps,as,b⟩ (nw (fo ba 0 s.cM)) 0)]).ev f= .fn h0 caps:=by rw[<-hF];cases f <;> rfl
 obtain⟨vs2,aST,aWC⟩:=abB (hF2▸i2.ev f);have Xy:vs2=vs:=by
  have e:Value.func (.func h0) #[] vs2.toArray= .func (.func h0) #[] vs.toArray:=by rw[<-aST,<-hy];cases f <;> rfl
  injection e with _ _ e
  simpa using bu Array.toList e
 subst Xy;have NJ:zI (((s.born q [.obj 0 aQ (.sS ⟨y,ps,as,b⟩ (nw (fo ba 0 s.cM)) 0)]).put (av q) (.yl (.new q 0) 0)).env w2 g2 β2) (.yl (.new q 0) 0::caps.list) (.func (.yield w1.heap.size) #[] #[]::vs2):=by rw[akw];exact⟨aX3,aju aWC⟩
 have aXI:∀args:Array Value,(callFunc h0 args).run P w2= .ok (.enter h0 args) w2:=λargs=>by
  unfold aqU at aAH;split at aAH
  ·rename_i fn' aQ5;simp only[au,cS,ik]at aAH;obtain⟨c,hc⟩:=bR.1 aAH.2;unfold callFunc;simp[aQ5,aAH.1,hc]
  ·cases aAH
 have post:∀ {s3:AS} {w3:cd} {v:Value},jf C s3 ((({a with defers:=w9 w.heap.size::a.defers}:Act).put (av q) (.func (.yield w1.heap.size) #[] #[])).put aD v) w3->∀ {c:wV} {fr:aC} {p:Nat},s3.cq (.new q 0)=av (.obj 0 aQ (.sS c fr p))->s3.slot q= .yl (.new q 0) 0->p≠1->
   ∃jump w4,(Instr.endLoop w1.heap.size).run P w3= .ok jump w4/\aqS p (if p=0 then .ready else .done) jump/\jf C ((s3.bq (.new q 0) .dead).put (av q) .undef) {a with defers:=w9 w.heap.size::a.defers} w4:=by
  intro s3 w3 v aRk c fr p abM aHj aLA;obtain⟨g3,β3,i5⟩:=aRk;obtain⟨pl,r3,hp,hb,hg,_,_,nA⟩:=i5.bT (.new q 0) 0 aQ _ abM;have hp:β3 (.new q 0)=av pl:=hp;have hb:w3.heap[pl.b]? =av (.loop r3):=hb
  have hg:g3 pl.b= .own (.id (.new q 0)) 0:=hg;have aPL:=i5.cM q;rw[aHj]at aPL;obtain⟨cs,hV,hO⟩:=aPL;simp only[V]at hV;obtain⟨l,rfl,_,gb⟩:=hV;obtain⟨pl',hp',rfl⟩:=gb ⟨aQ,_,abM⟩;have hp':β3 (.new q 0)=av pl':=hp';rw[hp]at hp';obtain rfl:pl=pl':=by simpa using hp'
  have hO: [Value.func (.yield pl.b) #[] #[]]=[((({a with defers:=w9 w.heap.size::a.defers}:Act).put (av q) (.func (.yield w1.heap.size) #[] #[])).put aD v).tmps.getD q undef]:=hO;have Vi:q < ({a with defers:=w9 w.heap.size::a.defers}:Act).tmps.size:=by show q < a.tmps.size;rw[h.size];exact hq
  have hO2:((({a with defers:=w9 w.heap.size::a.defers}:Act).put (av q) (.func (.yield w1.heap.size) #[] #[])).put aD v).tmps.getD q undef= .func (.yield w1.heap.size) #[] #[]:=by show((({a with defers:=w9 w.heap.size::a.defers}:Act).put (av q) (.func (.yield w1.heap.size) #[] #[]))).tmps.getD q undef=_;rw[arO,if_pos ⟨rfl,Vi⟩]
  rw[hO2]at hO;have hl:pl.b=w1.heap.size:=by simpa using hO
  have aTD:r3.state≠ .busy:=by
   match p,nA,aLA with
   | 0,nA,_=>rw[nA.1];simp
   | 1,_,h=>exact absurd rfl h
   | 2,nA,_=>rw[nA.1];simp
   |_+3,nA,_=>rw[nA.1];simp
  have iA:pl.b < w3.heap.size:=(bX.1 hb).1;refine⟨r3.pending,_,by rw[<-hl];exact run_endLoop hb aTD,?_,?_⟩
  ·match p,nA,aLA with
   | 0,nA,_=>exact⟨rfl,nA.2⟩
   | 1,_,h=>exact absurd rfl h
   | 2,nA,_=>exact⟨rfl,nA.2⟩
   |_+3,nA,_=>exact⟨rfl,nA.2⟩
  ·have i6:=i5.kill abM hg (w':=w3.putObj pl.b (.loop {r3 with state:= .exhausted})) rfl rfl ⟨rfl,ay _⟩ (by simp) (λb' hb'=>World.putObj_heap_other hb');have i7:=i6.put (av q) (v:= .undef) (x:=({a with defers:=w9 w.heap.size::a.defers}:Act).tmps.getD q undef) VS.undef;have e:=aOo {a with defers:=w9 w.heap.size::a.defers} q (.func (.yield w1.heap.size) #[] #[]);refine⟨oS g3 pl.b .free,β3,?_⟩;simp only[Act.put]at e i7;rw[e]at i7;exact i7
 generalize hK:(λs3:AS=>(match s3.cq (.new q 0),s3.slot q with
   |some (.obj 0 aQ (.sS _ _ p)),.yl (.new q' 0) 0=>match ju q' q,p with
    |true,0=>k .normal ((s3.bq (.new q 0) .dead).put (av q) .undef)
    |true,2=>k .ret ((s3.bq (.new q 0) .dead).put (av q) .undef)
    |true,i+3=>k (.exit i) ((s3.bq (.new q 0) .dead).put (av q) .undef)
    |_,_=>aD
   |_,_=>aD))=K at he
 have hc:Calls P h0 (.func (.yield w1.heap.size) #[] #[]::vs2).toArray w2 λe w'=>∃v,e= .returned v/\∃s3,jf C s3 ((({a with defers:=w9 w.heap.size::a.defers}:Act).put (av q) (.func (.yield w1.heap.size) #[] #[])).put aD v) w'/\K s3=av r:=by
  unfold AS.aPq at he;split at he
  ·exact(W4 (o:= {(default:Oper) with dst:=aD}) i3 hdR NJ he).2
  ·obtain⟨s3,aPz,he⟩:=jd.1 he;unfold AS.call at aPz;obtain⟨r2,h1,h2⟩:=ax.1 aPz;obtain⟨g',i4,e4,_,f1⟩:=gh r2.2 i3;obtain⟨x,hx,k1,k2,key⟩:=Vb (o:= {(default:Oper) with dst:=aD}) i4 (DB _ _) (Fu rfl i3.bT e4 _ _ _ r2 NJ h1 f1) h2;rcases hd _ _ _ _ _ _ _ k1 k2 hx with⟨_,hc⟩ | ⟨v,w',aVb,_⟩
   ·exact hc.mono λe w' ⟨v,ao9,ha⟩=>⟨v,ao9,s3,key v w' ha,he⟩
   ·rw[aXI]at aVb;cases aVb
 refine⟨w1.heap.size,[w9 w.heap.size],w2,⟨.fn (.func h0) vs2.toArray,#[.func (.yield w1.heap.size) #[] #[]]⟩,w2,h0,(.func (.yield w1.heap.size) #[] #[]::vs2).toArray,w2,?_,?_,λ_ _=>trivial,?_,λh=>(by cases h),?_⟩
 ·rw[uW];exact dh
 ·have e:resolve a.eval (rangeCall f w1.heap.size) 0=Deferred.ofValue (a.eval f) #[.func (.yield w1.heap.size) #[] #[]]:=by simp[resolve,rangeCall,Act.eval]
  rw[e,hy];simp[Deferred.ofValue]
 ·have e:(#[.func (.yield w1.heap.size) #[] #[]]++vs2.toArray:Array Value)=(.func (.yield w1.heap.size) #[] #[]::vs2).toArray:=by simp
  rw[<-aXI,<-e];rfl
 ·have h1:CallsIn (Fr aD) (n - 1) P h0 (.func (.yield w1.heap.size) #[] #[]::vs2).toArray w2 _:=callsIn_wide.2 hc;refine h1.mono λe w3 ⟨v,ao9,s3,aRk,he⟩=> ?_
  subst ao9;subst hK;show ∃jump w4,_/\_;simp only at he;split at he;rotate_left
  ·cases he
  rename_i c3 fr3 p3 q' abM aHj;split at he
  ·rename_i hq';obtain rfl:q'=q:=fE hq';obtain⟨jump,w4,aG9,nA,aT7⟩:=post aRk abM aHj fg;obtain⟨_,rfl⟩:=nA;exact⟨aD,w4,aG9,hk _ _ _ _ aT7 he⟩
  ·rename_i hq';obtain rfl:q'=q:=fE hq';obtain⟨jump,w4,aG9,nA,aT7⟩:=post aRk abM aHj fg;obtain⟨_,rfl⟩:=nA;exact⟨_,w4,aG9,wpIn_ret (hk _ _ _ _ aT7 he)⟩
  ·rename_i i hq';obtain rfl:q'=q:=fE hq';obtain⟨jump,w4,aG9,nA,aT7⟩:=post aRk abM aHj (by simp);obtain⟨_,rfl⟩:=nA;exact⟨_,w4,aG9,wpIn_exit (hk _ _ _ _ aT7 he)⟩
  ·cases he
theorem oZ{rd:Option Nat}{n:Nat}(hm:P.follows .mixedOrders=aZ)(hΓ:Sound P Γ)(hC:C.ok){N:Nat}(aAM:rd=aD\/an.mY.isSome=aZ):∀(c:Code),lF P Γ an N (kh c)->∀ {R:Type} {r:R} (s:AS) (a:Act) (w:cd) (k:Exit->AS->Option R) (Q:Exit->Act->cd->Prop),
  jf C s a w->ev P Γ an N c s k=av r->(∀e s' a' w',jf C s' a' w'->k e s'=av r->Q e a' w')->c.wpIn (Fr rd) n P Q a w
 | .skip,hL,_,_,s,a,w,k,Q,hs,h,hk=>wpIn_skip (hk _ _ _ _ hs h)
 | .region id ops draw,hL,_,_,s,a,w,k,Q,hs,h,hk=>by
  simp only[ev]at h;refine Sj hC (λk Q h hk=> ?_) h hk;cases draw with
  |true=>
   simp only at h;split at h
   ·rename_i hE;exact aqT hm hΓ hs hE h λs' a' w' hs' hk'=>hk _ _ _ _ hs' hk'
   ·cases h
  |false=>exact wpIn_region_list (Xr hΓ ops.toList hs h λs' a' w' hs' hk'=>hk _ _ _ _ hs' hk')
 | .seq x y,hL,_,_,s,a,w,k,Q,hs,h,hk=>by
  simp only[ev]at h;refine wpIn_seq (Sj hC (λk Q h hk=>oZ hm hΓ hC aAM x hL.append.1 s a w k Q hs h hk) h λe s' a' w' hs' hk'=> ?_);cases e with
  |normal=>exact oZ hm hΓ hC aAM y hL.append.2 s' a' w' k Q hs' hk' hk
  |_=>exact hk _ s' a' w' hs' hk'
 | .cond c x y,hL,_,_,s,a,w,k,Q,hs,h,hk=>by
  simp only[ev]at h;split at h
  ·rename_i b hb;have hc:a.eval c= .bool b:=by obtain⟨g,β,hi⟩:=hs;have:=hi.ev c;rw[hb]at this;exact Zx this
   refine wpIn_cond hc ?_
   cases b with
   |true=>exact oZ hm hΓ hC aAM x hL.append.1 s a w k Q hs h hk
   |false=>exact oZ hm hΓ hC aAM y hL.append.2 s a w k Q hs h hk
  ·cases h
 | .block id b,hL,_,_,s,a,w,k,Q,hs,h,hk=>by
  simp only[ev]at h;refine wpIn_block (oZ hm hΓ hC aAM b hL s a w _ _ hs h λe s' a' w' hs' hk'=> ?_);cases e with
  |exit i=>
   simp only at hk';simp only[Exit.inBlock];by_cases hi:i=id
   ·rw[if_pos hi];simp only[hi,cO]at hk';exact hk _ s' a' w' hs' hk'
   ·rw[if_neg hi];simp only[hi,decide_false]at hk';exact hk _ s' a' w' hs' hk'
  |_=>exact hk _ s' a' w' hs' hk'
 | .loop b,hL,R,r,s,a,w,k,Q,hs,h,hk=>by
  simp only[ev]at h;obtain⟨s1,h1,h⟩:=jd.1 h;have Uy:=qv hC hs h1;obtain⟨hL1,hL2⟩:=(hL:awT P Γ an N b/\lF P Γ an N (kh b));split at h
  ·rename_i le hle;unfold aKY at h;cases akX:le.set with
   |some S=>
    rw[akX]at h;simp only at h;obtain⟨h2,h3⟩:=ahM h;obtain⟨n,hn⟩:=(hL1 le hle).2 S akX s1 h2;refine wpIn_loop_rounds n (Hb (λs s1 a w hs hn=>qv hC hs hn) (λe s s1 a w hs hn=>qv hC hs hn) (λs a w k Q hs hb hk=>oZ hm hΓ hC aAM b hL2 s a w k Q hs hb hk) (λe s' a' w' hs' he=> ?_) n s1 a w Uy hn);obtain⟨x,aRr,aVc⟩:=ap8 he;obtain⟨y,hy,h4⟩:=jd.1 (h3 x aRr);rw[aVc,aA]at hy;subst hy;exact hk _ _ _ _ hs' h4
   |none=>
   rw[akX]at h;simp only at h;cases hr:le.run s1 with
   |none=>rw[hr]at h;cases h
   |some x=>
    rw[hr]at h;simp only[al]at h;obtain⟨y,hy,h⟩:=jd.1 h;obtain⟨n,hn⟩:=(hL1 le hle).1 akX s1 x hr;rw[hy]at hn;refine wpIn_loop_rounds n (Hb (λs s1 a w hs hn=>qv hC hs hn) (λe s s1 a w hs hn=>qv hC hs hn) (λs a w k Q hs hb hk=>oZ hm hΓ hC aAM b hL2 s a w k Q hs hb hk) (λe s' a' w' hs' he=> ?_) n s1 a w Uy hn);simp only[aA]at he;subst he;exact hk e s' a' w' hs' h
  ·exact wpIn_loop_rounds N (Hb (λs s1 a w hs hn=>qv hC hs hn) (λe s s1 a w hs hn=>qv hC hs hn) (λs a w k Q hs hb hk=>oZ hm hΓ hC aAM b hL2 s a w k Q hs hb hk) hk N s1 a w Uy h)
 | .exit id,hL,_,_,s,a,w,k,Q,hs,h,hk=>wpIn_exit (hk _ _ _ _ hs h)
 | .ret,hL,_,_,s,a,w,k,Q,hs,h,hk=>wpIn_ret (hk _ _ _ _ hs h)
 | .rangeFunc f ps as b,_,_,_,s,a,w,k,Q,hs,h,hk=>by
  simp only[ev]at h;obtain⟨s1,h1,h⟩:=jd.1 h;have hs:=mO hC _ hs h1;rcases aAM with rfl | aAM
  ·exact Zm hΓ hs h hk
  ·unfold Hy at h;split at h
   ·rename_i h0 _ _;rw[h0]at aAM;cases aAM
   ·cases h
 | .scope b,hL,_,_,s,a,w,k,Q,hs,h,hk=>by
  simp only[ev]at h;refine MX (oZ hm hΓ hC aAM b hL s a w _ _ hs h λe s' a' w' hs' hk'=> ?_);cases e with
  |goto l=>cases hk'
  |_=>exact hk _ s' a' w' hs' hk'
 | .label _,hL,_,_,s,a,w,k,Q,hs,h,hk=>wpIn_label (hk _ _ _ _ hs h)
 | .goto _,_,_,_,_,_,_,_,_,_,h,_=>by simp[ev]at h
 | .refuse _,_,_,_,_,_,_,_,_,_,h,_=>by simp[ev]at h
variable {g:Nat->np} {β:Id->Option Pl} {s:AS} {a:Act} {w:cd}
def adY(tmps:Array Value)(r:ResultVar):Sem Value:=
 match r with
 | .tmp t=>pure (tmps.getD t undef)
 | .cell a t=>do loadVar t (<-asAddr (tmps.getD a undef))
theorem Th(h:Inv C g β s a w){r:ResultVar}{v:aC}(he:(ad1 P s r).eval=av v):∃x,(adY a.tmps r).run P w= .ok x w/\VS (s.env w g β) v x:=by
 cases r with
 |tmp t=>
  simp only[ad1]at he;obtain rfl:=az.1 he;exact⟨_,by simp[adY],h.cM t⟩
 |cell t T=>
  simp only[ad1]at he;obtain⟨ad,z,hy,hr,hv⟩:=acf h (h.cM t) he;exact⟨z,by simp[adY,hy,asAddr,hr],hv⟩
theorem Tg(h:Inv C g β s a w){r:ResultVar}{o:Option Ty}{y:AS×aC}(he:(adZ P s r o).eval=av y):
  ∃x g',(adY a.tmps r).run P w= .ok x w/\Inv C g' β y.1 a w/\db (s.env w g β) (y.1.env w g' β)/\VS (y.1.env w g' β) y.2 x:=by
 cases o with
 |none=>
  simp only[adZ]at he;obtain⟨v,h1,h2⟩:=ax.1 he;obtain rfl:=az.1 h2;obtain⟨x,hx,hv⟩:=Th h h1;exact⟨x,g,hx,h,db.refl _,hv⟩
 |some t=>
  simp only[adZ]at he;obtain⟨v,h1,h2⟩:=ax.1 he;obtain⟨d,h3,h4⟩:=ax.1 h2;obtain rfl:=az.1 h4;obtain⟨x,hx,hv⟩:=Th h h1;obtain⟨g',i1,e1,_,cs,hR,hO⟩:=CH h hv h3;exact⟨x,g',hx,i1,e1,VS.of (a:= .d t d) (cs:=cs) (by simpa only[V]using hR) hO⟩
theorem Oi:∀(l:List ResultVar) (ts:List (Option Ty)) {s:AS} {g:Nat->np} (_:Inv C g β s a w) {y:AS×aC},(Ti P s l ts).eval=av y->
  ∃(xs:List Value) (g':Nat->np),(l.mapM (adY a.tmps)).run P w= .ok xs w/\Inv C g' β y.1 a w/\db (s.env w g β) (y.1.env w g' β)/\VC (y.1.env w g' β) y.2 xs/\xs.length=l.length
 |[],ts,s,g,h,y,he=>by simp only[Ti]at he;obtain rfl:=az.1 he;exact⟨[],g,by simp,h,db.refl _,by simp[VC],rfl⟩
 |r::l,ts,s,g,h,y,he=>by simp only[Ti]at he;obtain⟨u,h1,h2⟩:=ax.1 he;obtain⟨hc,h2⟩:=aH.1 h2;obtain⟨us,h3,h4⟩:=ax.1 h2;obtain rfl:=az.1 h4;obtain⟨x,g1,hx,i1,e1,hv⟩:=Tg h h1;obtain⟨xs,g2,asn,i2,e2,Xy,hl⟩:=Oi l ts.tail i1 h3;obtain⟨cs,hV,hO⟩:=(hv.mono e2).fA hc;refine⟨x::xs,g2,?_,i2,e1.trans e2,by simp only[VC];exact⟨x,xs,cs,rfl,hV,hO,Xy⟩,by simp[hl]⟩;simp only[List.mapM_cons,cC,hx,bP,asn,ez]
theorem aEr{E:Env}{v:aC}{xs:List Value}(h:VC E v xs):VS E v (.tuple xs.toArray):=by
 cases v <;> first
  | (simp only[VC]at h;done)
  |exact⟨xs,rfl,h⟩
  | (simp only[VC]at h;subst h;rfl)
theorem agw(h:Inv C g β s a w){fn:Func}{ts:List (Option Ty)}{y:AS×aC}(he:(al9 P fn ts s).eval=av y):
  ∃x g',(results fn a.tmps).run P w= .ok x w/\Inv C g' β y.1 a w/\VS (y.1.env w g' β) y.2 x:=by
 have key:∀xs:List Value,(fn.results.toList.mapM (adY a.tmps)).run P w= .ok xs w->(results fn a.tmps).run P w= .ok (if h:xs.length=1 then xs[0] else .tuple xs.toArray) w:=λxs asn=>by
  have e:results fn a.tmps=(do
   let vs <-fn.results.mapM (adY a.tmps)
   pure (if h:vs.size=1 then vs[0] else .tuple vs)):=rfl
  rw[e,Array.mapM_eq_mapM_toList];simp only[map_eq_pure_bind,cC,asn,bP,ez];congr 1
 unfold al9 at he;split at he
 ·rename_i r hr;obtain⟨x,g',hx,hi,_,hv⟩:=Tg h he;refine⟨x,g',?_,hi,hv⟩;rw[key [x] (by simp[hr,hx])];simp
 ·rename_i rs il;obtain⟨xs,g',hx,hi,_,hv,hl⟩:=Oi _ _ h he;refine⟨.tuple xs.toArray,g',?_,hi,aEr hv⟩;rw[key xs hx,Dp];rw[hl];intro h1;obtain⟨r,hr⟩:=List.length_eq_one_iff.1 h1;exact il r hr
end
end Go.Ab
namespace Go.Ab
def w7(ids:List Id):np->np
 | .own (.id (.new i j)) k=> .own (.id (match idxOf (.new i j) ids with | some m=> .new 0 m | none=> .new 1 0)) k
 |l=>l
def aIV(β:Id->Option Pl)(ids:List Id):Id->Option Pl
 | .bt k=>β (.bt k)
 | .new 0 m=>(ids[m]?).bind β
 | .new (_+1) _=>aD
theorem aA1{ids:List Id}{g:Nat->np}{b off:Nat}(h:wK g b off):wK (λb=>w7 ids (g b)) b off:=by
 unfold wK at*;simp only;cases hg:g b with
 |free=>simp[w7]
 |own o k=>
  rw[hg]at h;cases o with
  |eY=>exact h
  |id i=>cases i <;> exact h
theorem akH(s:AS)(v:aC):(s.Vd v).Nodup:=(uO s _ _ _ (by simp)).filter _
theorem atN{s:AS}{v:aC}{id:Id}(h:id∈s.Vd v):∃i j,id= .new i j:=by
 unfold AS.Vd at h;have:=(oW.1 h).2;cases id with
 |bt k=>simp[Id.aPQ]at this
 |new i j=>exact⟨i,j,rfl⟩
section
variable {P:aT} {Γ:pO} {C:Ctx} {g:Nat->np} {β:Id->Option Pl} {s:AS} {a:Act} {w:cd}
theorem ahT(h:Inv C g β s a w)(hC:C.ok){v:aC}{x:Value}(hv:VS (s.env w g β) v x):u5 C.E (s.fin v) x w:=by
 unfold AS.fin;have hn:=akH s v;have I8:∀id∈s.Vd v,∃i j,id= .new i j:=λid dr=>atN dr
 generalize s.Vd v=ids at hn I8;generalize hG:s.aPt ids v=G;have B9:G.val=v.jB (PE ids):=by rw[<-hG];rfl
 have hold:∀k,G.st.cq (.bt k)=(s.cq (.bt k)).map (dW.fin ids):=λk=>by
  rw[<-hG];show(s.cz.map (dW.fin ids))[k]? =_
  rw[eW];rfl
 have aXV:∀m,G.st.cq (.new 0 m)=(ids[m]?).map λid=>((s.cq id).getD .dead).fin ids:=λm=>by
  rw[<-hG];show(ids.map λid=>((s.cq id).getD .dead).fin ids)[m]? =_
  rw[eW]
 have aY4:∀i m,G.st.cq (.new (i+1) m)=aD:=λi m=>by simp[iB.st,AS.cq]
 let g':Nat->np:=λb=>w7 ids (g b)
 let β':=aIV β ids
 have aAJ:∀e ver fr c,dW.fin ids e= .obj ver fr c->∃c0,e= .obj ver fr c0/\c=c0.jB (PE ids):=λe ver fr c he=>by
  cases e with
  |dead=>cases he
  |obj v0 fr0 c0=>
   simp only[dW.fin,dW.obj.injEq]at he;obtain⟨rfl,rfl,rfl⟩:=he;exact⟨c0,rfl,rfl⟩
 have hle:BE (PE ids) (s.env w g β) (G.st.env w g' β'):=by
  refine⟨⟨λb off v ⟨h1,h2⟩=>⟨h1,aA1 h2⟩,λb ob h1 h2=>⟨by show w7 ids (g b)= .free;have h1:g b= .free:=h1;rw[h1];rfl,h2⟩⟩,λid ver r hr hb=> ?_⟩;obtain⟨Ux,ZF⟩:=hb;have Ux:s.cq id≠aD:=Ux;have ZF:∀v fr c,s.cq id=av (.obj v fr c)->ver<=v:=ZF;cases id with
  |bt k=>
   simp only[PE,aA]at hr;subst hr;refine⟨⟨?_,λv fr c hh=> ?_⟩,λ⟨fr,c,hh⟩=>⟨?_,rfl⟩⟩
   ·show G.st.cq (.bt k)≠aD;rw[hold];simpa using Ux
   ·have hh:G.st.cq (.bt k)=av (.obj v fr c):=hh;rw[hold,dx]at hh;obtain⟨e,he,hh⟩:=hh;obtain⟨c0,rfl,_⟩:=aAJ _ _ _ _ hh;exact ZF v fr c0 he
   ·have hh:G.st.cq (.bt k)=av (.obj ver fr c):=hh;rw[hold,dx]at hh;obtain⟨e,he,hh⟩:=hh;obtain⟨c0,rfl,_⟩:=aAJ _ _ _ _ hh;exact⟨fr,c0,he⟩
  |new i j=>
   simp only[PE]at hr;split at hr
   ·rename_i m hm;simp only[aA]at hr;subst hr;have dr:=ql hm;obtain⟨e,he⟩:=Option.ne_none_iff_exists'.1 Ux;have hg:G.st.cq (.new 0 m)=av (e.fin ids):=by rw[aXV,dr];simp[he]
    refine⟨⟨?_,λv fr c hh=> ?_⟩,λ⟨fr,c,hh⟩=>⟨?_,?_⟩⟩
    ·show G.st.cq (.new 0 m)≠aD;rw[hg];simp
    ·have hh:G.st.cq (.new 0 m)=av (.obj v fr c):=hh;rw[hg,aA]at hh;obtain⟨c0,rfl,_⟩:=aAJ _ _ _ _ hh;exact ZF v fr c0 he
    ·have hh:G.st.cq (.new 0 m)=av (.obj ver fr c):=hh;rw[hg,aA]at hh;obtain⟨c0,rfl,_⟩:=aAJ _ _ _ _ hh;exact⟨fr,c0,he⟩
    ·show(ids[m]?).bind β=β (.new i j);rw[dr];rfl
   ·cases hr
 have at9:Trans C.E.w w C.E.g g':=by
  have h0:=h.trans;refine⟨h0.os,h0.tape,h0.output,h0.size,λb hb=> ?_⟩;have h1:=h0.UP b hb;show match C.E.g b with | .free=>w7 ids (g b)= .free/\_ | .own .eY k=>w7 ids (g b)= .own .eY k/\_ | .own (.id _) k=>(w7 ids (g b)= .free\/∃i k',w7 ids (g b)= .own (.id i) k'/\k<=k')/\_
  cases YT:C.E.g b with
  |free=>simp only[YT]at h1 ⊢;rw[h1.1];exact⟨rfl,h1.2⟩
  |own o k=>cases o with
   |eY=>simp only[YT]at h1 ⊢;rw[h1.1];exact⟨rfl,h1.2⟩
   |id i=>
    simp only[YT]at h1 ⊢;refine⟨?_,h1.2⟩;rcases h1.1 with h2 | ⟨i',k',h2,h3⟩
    ·rw[h2];exact .inl rfl
    ·rw[h2];right;cases i' with
     |bt m=>exact⟨_,k',rfl,h3⟩
     |new i j=>exact⟨_,k',rfl,h3⟩
 have aNd:jE (G.st.env w g' β'):=by
  intro id ver fr c dr;have dr:G.st.cq id=av (.obj ver fr c):=dr;cases id with
  |bt k=>
   rw[hold,dx]at dr;obtain⟨e,he,dr⟩:=dr;obtain⟨c0,rfl,rfl⟩:=aAJ _ _ _ _ dr;refine yA hle (h.bT (.bt k) ver fr c0 he) rfl λpl _=>⟨rfl,λn hg=> ?_,λhg=> ?_⟩
   ·have hg:g pl.b= .own (.id (.bt k)) n:=hg;show w7 ids (g pl.b)=_;rw[hg];rfl
   ·have hg:g pl.b= .free:=hg;show w7 ids (g pl.b)=_;rw[hg];rfl
  |new i m=>
   cases i with
   |succ i=>rw[aY4]at dr;cases dr
   |zero=>
    rw[aXV,dx]at dr;obtain⟨id0,aRb,dr⟩:=dr;obtain⟨c0,he,rfl⟩:=aAJ _ _ _ _ dr;have dh:s.cq id0=av (.obj ver fr c0):=by
     cases hs:s.cq id0 with
     |none=>rw[hs]at he;cases he
     |some e=>rw[hs]at he;simp only[eo]at he;rw[he]
    obtain⟨i0,j0,rfl⟩:=I8 id0 (cZ aRb);refine yA hle (h.bT (.new i0 j0) ver fr c0 dh) (by show(ids[m]?).bind β=_;rw[aRb];rfl) λpl _=>⟨rfl,λn hg=> ?_,λhg=> ?_⟩
    ·have hg:g pl.b= .own (.id (.new i0 j0)) n:=hg;show w7 ids (g pl.b)=_;rw[hg];simp only[w7,yK hn aRb]
    ·have hg:g pl.b= .free:=hg;show w7 ids (g pl.b)=_;rw[hg];rfl
 have ho:∀id ver,C.E.Ij id ver->∃k,id= .bt k:=λid ver hb=>by
  cases id with
  |bt k=>exact⟨k,rfl⟩
  |new i j=>exact absurd (hC.1 i j) hb.1
 refine⟨g',β',by rw[B9];exact Ji hle hv,aNd,at9,Trans.mem (E:=C.E) (E':=G.st.env w g' β') at9,λid ver hb=> ?_,λid ver hb hc=> ?_⟩
 ·obtain⟨k,rfl⟩:=ho id ver hb;exact(hle.ref (.bt k) ver (.bt k,ver) rfl (h.le.Ij _ _ hb)).1
 ·obtain⟨k,rfl⟩:=ho id ver hb;obtain⟨h1,h2⟩:=(hle.ref (.bt k) ver (.bt k,ver) rfl (h.le.Ij _ _ hb)).2 hc;obtain⟨h3,h4⟩:=h.le.cur _ _ hb h1;exact⟨h3,h2.trans h4⟩
theorem zI.len{E:Env}:∀ {as:List aC} {vs:List Value},zI E as vs->as.length=vs.length
 |[],[],_=>rfl
 |_::_,_::_,⟨_,h⟩=>by simp[zI.len h]
 |[],_::_,h=>h.elim
 |_::_,[],h=>h.elim
theorem zI.get{E:Env}:∀ {as:List aC} {vs:List Value},zI E as vs->∀i,VS E (as.getD i .undef) (vs.getD i undef)
 |[],[],_,i=>by simpa using VS.undef
 |_::_,_::_,⟨h,_⟩,0=>by simpa using h
 |_::_,_::_,⟨_,h⟩,i+1=>by simpa using zI.get h i
 |[],_::_,h,_=>h.elim
 |_::_,[],h,_=>h.elim
theorem aDc{w:cd}{g:Nat->np}{β:Id->Option Pl}{fn:Func}{args:List aC}{cz:List dW}{jL:List Value}(hv:zI ((gw cz).env w g β) args jL)(ho:jE ((gw cz).env w g β)):
  Inv ⟨(gw cz).env w g β⟩ g β (start fn args cz) {tmps:=jL.toArray++Array.replicate (fn.ntmps - jL.toArray.size) undef,defers:=[]} w:=by
 have hl:=hv.len;have dh:(start fn args cz).cq=(gw cz).cq:=by
  funext id;cases id with
  |bt k=>rfl
  |new i j=>
   simp only[start,gw,AS.cq,aJ,List.getElem?_replicate];split <;> simp
 have atZ:(start fn args cz).env w g β=(gw cz).env w g β:=by simp only[AS.env,dh]
 refine⟨⟨gM,λ_ h=>by cases h⟩,by simp[start,hl],λi=> ?_,by rw[atZ];exact ho,Trans.refl _ _,by rw[atZ];exact db.refl _⟩;rw[atZ];have h1:(start fn args cz).slot i=args.getD i .undef:=by
  simp only[start,AS.slot,aJ,List.getElem?_append,List.getElem?_replicate];split
  ·rfl
  ·rw[dY (l:=args) ak];split <;> rfl
 have h2:(jL.toArray++Array.replicate (fn.ntmps - jL.toArray.size) undef).getD i undef=jL.getD i undef:=by
  simp only[cX,aJ,lB,Array.getElem?_replicate];simp only[iZ,List.getElem?_toArray];split
  ·rfl
  ·rw[dY (l:=jL) ak];split <;> rfl
 rw[h1,h2];exact hv.get i
theorem Inv.aSn{C:Ctx}{g:Nat->np}{β:Id->Option Pl}{s:AS}{a:Act}{w:cd}(h:Inv C g β s a w){D:Nat}{ds:List Deferred}(hd:a.defers=w9 D::ds):
  (Instr.takeDeferred D).run P w= .ok [] (w.putObj D (.deferred aD))/\Inv C g β s {a with defers:=ds} (w.putObj D (.deferred aD)):=by
 obtain⟨hn,Eu⟩:=h.defers;rw[hd]at hn Eu;obtain⟨D',e,hD,hh,hg⟩:=Eu _ (aK ..);have e:Deferred.mk (.collected D) #[]=Deferred.mk (.collected D') #[]:=e;injection e with e _
 injection e with e
 subst e;have iA:=(bX.1 hh).1;refine⟨run_takeDeferred hh,?_⟩;have other:∀b,b≠D->(w.putObj D (.deferred aD)).heap[b]? =w.heap[b]? :=λb hb=>World.putObj_heap_other hb
 have Fz:∀b off v,w.cell? ⟨b,off,aD⟩=av v->b≠D:=λb off v hv e=>by subst e;simp[fq,hh]at hv
 have G7:va (s.env w g β) (s.env (w.putObj D (.deferred aD)) g β):=by
  refine⟨λb off v ⟨h1,h2⟩=>⟨?_,h2⟩,λb ob h1 h2=>⟨h1,?_⟩⟩
  ·have h1:w.cell? ⟨b,off,aD⟩=av v:=h1;show(w.putObj D (.deferred aD)).cell? ⟨b,off,aD⟩=av v;rw[World.cell?_of_block (other b (Fz b off v h1))];exact h1
  ·have h1:g b= .free:=h1;have h2:w.heap[b]? =av ob:=h2
   show(w.putObj D (.deferred aD)).heap[b]? =av ob
   rw[other b λe=>by rw[e,hg]at h1;cases h1];exact h2
 have hle:db (s.env w g β) (s.env (w.putObj D (.deferred aD)) g β):=⟨G7,λ_ _ h=>h,λ_ _ _ h=>⟨h,rfl⟩⟩;have il:∀ {id:Id} {v:Nat} {fr:Bool} {c:aC} {pl:Pl},s.cq id=av (.obj v fr c)->β id=av pl->pl.b≠D:=λhs hp e=>by
  have:=((h.bT _ _ _ _ hs).label hp).2;have this:(∃k,g _= .own (.id _) k)\/(_/\g _= .free):=this;rw[e,hg]at this;rcases this with⟨k,hk⟩ | ⟨_,hk⟩
  ·cases hk
  ·cases hk
 refine⟨⟨(dm.1 hn).2,λd hd'=> ?_⟩,h.size,λi=>(h.cM i).mono hle,λid ver fr c hs=> ?_,?_,h.le.trans hle⟩
 ·obtain⟨D2,e1,e2,e3,e4⟩:=Eu d (aF _ hd');refine⟨D2,e1,e2,?_,e4⟩;rw[other D2 λe=>(dm.1 hn).1 (by rw[<-e,<-e1];exact hd')];exact e3
 ·exact yz.mono hle (h.bT id ver fr c hs) rfl (λpl hp=>⟨other _ (il hs hp),rfl⟩) λq vq k v l hq _=>⟨⟨k,v,l,hq⟩,λpl hp=>⟨other _ (il hq hp),rfl⟩⟩
 ·have ht:=h.trans;refine⟨ht.os,ht.tape,ht.output,?_,λb hb=> ?_⟩
  ·have:=ht.size;simpa[World.putObj]using this
  ·have h1:=ht.UP b hb;have hbD:b≠D:=ak;have hc:∀off v,w.cell? ⟨b,off,aD⟩=av v->(w.putObj D (.deferred aD)).cell? ⟨b,off,aD⟩=av v:=λoff v hv=>by rw[World.cell?_of_block (other b hbD)];exact hv
   rw[other b hbD];split at h1
   ·exact h1
   ·exact h1
   ·exact⟨h1.1,λoff v ho hv=>hc off v (h1.2 off v ho hv)⟩
theorem XN{C:Ctx}{g:Nat->np}{β:Id->Option Pl}{s:AS}{fn:Func}{R:Ending->cd->Prop}:∀(ds:List Deferred) {a:Act} {w:cd},Inv C g β s a w->a.defers=ds->
  (∀a2 w2,Inv C g β s a2 w2->a2.tmps=a.tmps->∃v,(results fn a.tmps).run P w2= .ok v w2/\R (.returned v) w2)->LeavesInM Fence.wide 0 P fn a.tmps R ds .returning w
 |[],a,w,h,hd,hk=>hk a w h rfl
 |d::ds,a,w,h,hd,hk=>by obtain⟨D,e,_⟩:=h.defers.2 d (by rw[hd];exact aK ..);subst e;obtain⟨h1,h2⟩:=h.aSn (P:=P) hd;exact⟨by simp,.inl ⟨D,_,rfl,h1,XN (fn:=fn) (R:=R) ds (a:= {a with defers:=ds}) h2 rfl hk⟩⟩
theorem aoV{cz:List dW}{w:cd}{g:Nat->np}{β:Id->Option Pl}(h:cz.all dW.first=aZ){k v:Nat}{fr:Bool}{c:aC}(hk:((gw cz).env w g β).s (.bt k)=av (.obj v fr c)):v=0:=by
 have hk:cz[k]? =av (.obj v fr c):=by simpa[AS.env,gw,AS.cq]using hk
 have:=dp.1 h _ (cZ hk);exact fE this
theorem Rh(hm:P.follows .mixedOrders=aZ)(hΓ:Sound P Γ){f:fV}{fn:Func}(hf:P.funcs[f]? =av fn)(hb:fn.body.isSome=aZ)(B8:(fn.name== "runtime.NumGoroutine")=aQ){an:yx}{N:Nat}(hL:∀c,fn.body=av c->lF P Γ an N (kh c))
  {args:List aC} {cz:List dW} {R:Type} {k:iB->Option R} {r:R} (hN:anq P Γ an N fn args cz k=av r) (akW:an.mY=aD)
  {jL:List Value} (hv:zI ((gw cz).env w g β) args jL) (ho:jE ((gw cz).env w g β)):(callFunc f jL.toArray).run P w= .ok (.enter f jL.toArray) w/\
   Calls P f jL.toArray w λe w'=>∃v G,e= .returned v/\k G=av r/\u5 ((gw cz).env w g β) G v w':=by
 obtain⟨c,hc⟩:=bR.1 hb;refine⟨?_,?_⟩
 ·unfold callFunc;have hname':¬fn.name= "runtime.NumGoroutine" :=by simpa using B8
  simp[hf,hname',hc]
 ·unfold anq at hN;rw[akW,hc]at hN;simp only at hN;split at hN
  ·cases hN
  rename_i hF;have hC:(Ctx.mk ((gw cz).env w g β)).ok:=⟨λi j=>by simp[AS.env,gw,AS.cq],λk v fr c hk=>aoV hF hk⟩;refine callsIn_wide.1 (callsIn_of_wp_marks (F:=Fence.wide) (n:=0) hf hc trivial (oZ (rd:=aD) (C:=⟨(gw cz).env w g β⟩) hm hΓ hC (.inl rfl) c (hL c hc) _ _ w _ _ ⟨g,β,aDc hv ho⟩ hN λe s' a' w' hs' hk'=> ?_));have fin:(finish P an fn s').run k=av r->LeavesInM Fence.wide 0 P fn a'.tmps (λe w'=>∃v G,e= .returned v/\k G=av r/\u5 ((gw cz).env w g β) G v w') a'.defers .returning w':=λhr=>by
   obtain⟨G,h1,h2⟩:=jd.1 hr;unfold finish at h1;obtain⟨sd,aVI,h1⟩:=ax.1 h1;obtain⟨s2,h3,h4⟩:=ax.1 h1;obtain⟨s3,aYw,h4⟩:=ax.1 h4;obtain⟨s4,aYx,h4⟩:=ax.1 h4;obtain⟨y,h5,h6⟩:=ax.1 h4;obtain⟨g1,β1,aPF⟩:=hs';refine XN a'.defers aPF rfl λa2 w2 aQ9 aWw=> ?_
   obtain⟨g0,β0,aM7⟩:=B0 _ ⟨g1,β1,aQ9⟩ aVI;obtain⟨g',β',hi⟩:=QJ _ (mO hC _ ⟨g0,β0,aM7.drop _⟩ h3) aYw;have hi:=Gv hC _ hi aYx;obtain⟨z,g2,h7,h8,h9⟩:=agw hi h5;refine⟨z,by rw[<-aWw];exact h7,z,G,rfl,h2,?_⟩;rw[<-az.1 h6];exact ahT h8 hC h9
  cases e with
  |normal=>exact fin hk'
  |ret=>exact fin hk'
  |_=>cases hk'
theorem si.xe(hm:P.follows .mixedOrders=aZ)(hΓ:Sound P Γ){f:fV}{fn:Func}(hf:P.funcs[f]? =av fn)(hb:fn.body.isSome=aZ)(B8:(fn.name== "runtime.NumGoroutine")=aQ){en:Entry}{an:yx}{N:Nat}(hL:∀c,fn.body=av c->lF P Γ an N (kh c))
  (h:∀args cz x,en.run args cz=av x->anq P Γ an N fn args cz av=av (en.out args cz x)) (akW:an.mY=aD):si P f en:=by
 intro w g β args cz jL x hv ho hx;obtain⟨h1,h2⟩:=Rh hm hΓ hf hb B8 hL (h args cz x hx) akW hv ho;exact .inl ⟨h1,h2.mono λe w' ⟨v,G,e1,e2,e3⟩=>⟨v,e1,by rw[<-bn e2];exact e3⟩⟩
theorem QR.xe(hm:P.follows .mixedOrders=aZ)(hΓ:Sound P Γ){f:fV}{fn:Func}(hf:P.funcs[f]? =av fn)(hb:fn.body.isSome=aZ)(B8:(fn.name== "runtime.NumGoroutine")=aQ){en:Entry}{an:yx}{N:Nat}(hL:∀c,fn.body=av c->lF P Γ an N (kh c))
  (h:∀args cz,(∃x,en.set args cz x)->anq P Γ an N fn args cz (λG=>aRR (∃x,en.set args cz x/\G=en.out args cz x))=av ()) (akW:an.mY=aD):QR P f en:=by
 intro w g β args cz jL hv ho hx;obtain⟨h1,h2⟩:=Rh hm hΓ hf hb B8 hL (h args cz hx) akW hv ho;refine⟨h1,h2.mono λe w' ⟨v,G,e1,e2,e3⟩=> ?_⟩;obtain⟨x,hs,rfl⟩:=ap8 e2;exact⟨v,x,e1,hs,e3⟩
theorem Oo:∀(l:List (Tmp×Value)) (t:Array Value),(l.foldl (λtmps (x:Tmp×Value)=>tmps.setIfInBounds x.1 x.2) t).size=t.size
 |[],_=>rfl
 |x::l,t=>by rw[bz,Oo l];simp
theorem K7:∀(l:List (Tmp×aC)) (fs:List aC),(A9 l fs).length=fs.length
 |[],_=>rfl
 |x::l,fs=>by rw[A9,K7 l];simp
theorem Oq{E:Env}:∀(ps:List Tmp) (vs:List aC) (us:List Value) (fs:List aC) (t:Array Value),zI E vs us->fs.length=t.size->(∀i,VS E (fs.getD i .undef) (t.getD i undef))->
  ∀i,VS E ((A9 (ps.zip vs) fs).getD i .undef) (((ps.zip us).foldl (λtmps (x:Tmp×Value)=>tmps.setIfInBounds x.1 x.2) t).getD i undef)
 |[],_,_,fs,t,_,_,h=>by simpa[A9]using h
 |_::_,[],[],fs,t,_,_,h=>by simpa[A9]using h
 |_::_,[],_::_,_,_,h,_,_=>h.elim
 |_::_,_::_,[],_,_,h,_,_=>h.elim
 |p::ps,v::vs,u::us,fs,t,⟨h1,h2⟩,hl,h=>by
  simp only[List.zip_cons_cons,A9,bz];refine Oq ps vs us _ _ h2 (by simpa using hl) λi=> ?_
  simp only[aJ,cX,List.getElem?_set,eF,hl];have hi:=h i;simp only[aJ,cX]at hi;split
  ·split
   ·simpa using h1
   ·simpa using VS.undef
  ·exact hi
theorem zI.split{E:Env}:∀(n:Nat) {as:List aC} {us ts:List Value},us.length=n->zI E as (us++ts)->zI E (as.take n) us/\zI E (as.drop n) ts
 | 0,as,[],ts,_,h=>by simpa using⟨trivial,h⟩
 | 0,as,_::_,ts,hn,h=>by simp at hn
 |n+1,as,[],ts,hn,h=>by simp at hn
 |n+1,[],u::us,ts,_,h=>h.elim
 |n+1,a::as,u::us,ts,hn,⟨h1,h2⟩=>by have:=zI.split n (by simpa using hn) h2;exact⟨⟨h1,this.1⟩,this.2⟩
theorem awc{w:cd}{g:Nat->np}{β:Id->Option Pl}{ps:Array Tmp}{args:List aC}{cz:List dW}{us ts:List Value}(hl:us.length=ps.size)(hv:zI ((gw cz).env w g β) args (us++ts))(ho:jE ((gw cz).env w g β)):
  Inv ⟨(gw cz).env w g β⟩ g β (aeA ps.toList args cz) {tmps:=(ps.zip us.toArray).foldl (λtmps (t,a)=>tmps.setIfInBounds t a) ts.toArray,defers:=[]} w:=by
 obtain⟨h1,h2⟩:=zI.split ps.toList.length (by simpa using hl) hv;have dh:(aeA ps.toList args cz).cq=(gw cz).cq:=by
  funext id;cases id with
  |bt k=>rfl
  |new i j=>
   simp only[aeA,gw,AS.cq,aJ,List.getElem?_replicate];split <;> simp
 have atZ:(aeA ps.toList args cz).env w g β=(gw cz).env w g β:=by simp only[AS.env,dh]
 have e:(ps.zip us.toArray).foldl (λtmps (x:Tmp×Value)=>tmps.setIfInBounds x.1 x.2) ts.toArray=(ps.toList.zip us).foldl (λtmps (x:Tmp×Value)=>tmps.setIfInBounds x.1 x.2) ts.toArray:=by rw[<-Array.foldl_toList,Array.toList_zip]
 have e':(ps.zip us.toArray).foldl (λtmps (t,a)=>tmps.setIfInBounds t a) ts.toArray=(ps.toList.zip us).foldl (λtmps (x:Tmp×Value)=>tmps.setIfInBounds x.1 x.2) ts.toArray:=e;rw[e'];refine⟨⟨gM,λ_ h=>by cases h⟩,?_,λi=> ?_,by rw[atZ];exact ho,Trans.refl _ _,by rw[atZ];exact db.refl _⟩
 ·show Array.size _=(A9 _ _).length;rw[Oo,K7];simpa using h2.len.symm
 ·rw[atZ];exact Oq ps.toList _ us _ _ h1 (by simpa using h2.len) (λi=>by simpa[cX,aJ]using h2.get i) i
theorem H9.xe(hm:P.follows .mixedOrders=aZ)(hΓ:Sound P Γ){y:Nat}{fn:Func}{en:Entry}{an:yx}{N:Nat}(hL:lF P Γ an N (kh (sw P y).as++kh (sw P y).b))
  (h:∀args cz x,en.run args cz=av x->anq P Γ an N fn args cz av=av (en.out args cz x)) (akW:an.mY=av y):H9 P y en:=by
 intro w g β args cz jL x hv ho hx l us ts f rd n aUc uW;have hN:=h args cz x hx;unfold anq at hN;rw[akW]at hN;simp only at hN;unfold aJM at hN;split at hN;rotate_left
 ·cases hN
 rename_i args;split at hN
 ·cases hN
 rename_i hF;subst aUc;obtain⟨aRn,Xx⟩:=hv;have hC:(Ctx.mk ((gw cz).env w g β)).ok:=⟨λi j=>by simp[AS.env,gw,AS.cq],λk v fr c hk=>aoV hF hk⟩;obtain⟨cs,hV,hO⟩:=aRn;simp only[V]at hV;obtain⟨l',rfl,ao7,gb⟩:=hV;have hl:l'=l:=by simpa[gI,aC.agg]using hO
 subst hl;have at_l:∀ {s:AS} {g1:Nat->np} {β1:Id->Option Pl} {a:Act} {w1:cd} {pl:Pl},Inv ⟨(gw cz).env w g β⟩ g1 β1 s a w1->(s.env w1 g1 β1).cur (.bt 0) 0->β1 (.bt 0)=av pl->pl.b=l':=by intro s g1 β1 a w1 pl hi hc hp;obtain⟨c1,c2⟩:=hi.le.cur _ _ ao7 hc;obtain⟨pl',hp',rfl⟩:=gb c1;have c2:β1 (.bt 0)=β (.bt 0):=c2;have hp':β (.bt 0)=av pl':=hp';rw[c2,hp']at hp;exact(bu Pl.b (bn hp)).symm
 refine roundIn_of_wpIn (F:=Fr rd) trivial ?_
 have afU:av l'=aD\/an.mY.isSome=aZ:= .inr (by rw[akW];rfl);refine oZ (rd:=av l') hm hΓ hC afU _ hL.append.1 _ _ w _ _ ⟨g,β,awc uW Xx ho⟩ hN λe s1 a1 w1 Uy akS=> ?_
 cases e with
 |normal=>
  simp only at akS;cases h1:s1.VY 0 1 with
  |none=>rw[h1]at akS;cases akS
  |some s2=>
   rw[h1]at akS;simp only[al]at akS;obtain⟨g1,β1,aPF⟩:=Uy;obtain⟨pl,r,hp,hc,hb,nA,aT0⟩:=Tb aPF h1;have:=at_l aPF hc hp;subst this;refine⟨_,run_beginRound hb nA.1,?_⟩;have aQ9:=aT0 {r with state:= .busy} rfl rfl rfl rfl rfl;refine oZ (rd:=av pl.b) hm hΓ hC afU _ hL.append.2 _ _ _ _ _ ⟨_,_,aQ9⟩ akS λe s3 a3 w3 aRk aM8=> ?_
   cases aPC:aPs e with
   |none=>rw[aPC]at aM8;cases aM8
   |some p=>
    rw[aPC]at aM8;simp only[al]at aM8;cases h4:s3.VY 1 p with
    |none=>rw[h4]at aM8;cases aM8
    |some s4=>
     rw[h4]at aM8;simp only at aM8;obtain⟨g3,β3,aXN⟩:=aRk;obtain⟨pl3,r3,aY6,aG7,aXF,aZe,hnext3⟩:=Tb aXN h4;have aYV:=at_l aXN aG7 aY6;rw[aYV]at aXF hnext3
     have fin:∀(jump:Option Code) (b:Bool),ju p 0=jump.isNone->aqS p (if jump.isNone then .ready else .done) jump->
       ∃v w',(Instr.endRound pl.b jump).run P w3= .ok v w'/\∃v',Ending.returned v= .returned v'/\u5 ((gw cz).env w g β) (en.out (.yl (.bt 0) 0::args) cz x) v' w':=λjump b hb hr=>by
      have aYP:=hnext3 {r3 with state:=if jump.isNone then .ready else .done,pending:=jump} rfl rfl rfl rfl hr;refine⟨_,_,run_endRound jump aXF,_,rfl,?_⟩;obtain⟨G,k1,k2⟩:=jd.1 aM8;simp only[aA]at k2;subst k2;unfold axy at k1;obtain⟨sd,m1,k1⟩:=ax.1 k1;obtain⟨s5,m2,k1⟩:=ax.1 k1;obtain⟨s6,m3,k1⟩:=ax.1 k1;obtain⟨s7,m4,k1⟩:=ax.1 k1;obtain⟨g0,β0,aM7⟩:=B0 _ ⟨_,_,aYP⟩ m1;obtain⟨g',β',hi⟩:=QJ _ (mO hC _ ⟨g0,β0,aM7.drop _⟩ m2) m3;have hi:=Gv hC _ hi m4;rw[<-az.1 k1,hb];exact ahT hi hC (xC _)
     cases e with
     |normal=>
      obtain rfl:=bn aPC;exact fin aD aZ rfl ⟨rfl,rfl⟩
     |ret=>
      obtain rfl:=bn aPC;exact fin (av .ret) aQ rfl ⟨rfl,rfl⟩
     |exit i=>
      obtain rfl:=bn aPC;exact fin (av (.exit i)) aQ rfl ⟨rfl,rfl⟩
     |goto _=>cases aPC
     |panic _=>cases aPC
     |outgrown=>cases aPC
 |_=>cases akS
end
end Go.Ab
namespace Go.Ab
def eQ(k:lC)(n:Int):Int:=k.wrap n
def bO(k:lC)(x y:Int):Int:=k.wrap (x+y)
def da(k:lC)(x y:Int):Int:=k.wrap (x - y)
def ia(k:lC)(x y:Int):Int:=k.wrap (x*y)
def uX(k:lC)(x y:Int):Int:=k.wrap (x.tdiv y)
def nP(x y:Int):Int:=x.tmod y
def nC(k:lC)(x y:Int):Int:=k.wrap (x*2^(min y.toNat k.bits))
def cP(k:lC)(x y:Int):Int:=x.fdiv (2^(min y.toNat k.bits))
def aNy(k:lC)(x:Int):Int:=cV .xor k (if k.signed then -1 else k.max) x
def oV(x y:Int):Bool:=x==y
def zg(x y:Int):Bool:=x !=y
def gz(x y:Int):Bool:=decide (x < y)
def akZ(x y:Int):Bool:=decide (x<=y)
def pJ(x y:Int):Bool:=decide (x > y)
def Dv(x y:Int):Bool:=decide (x>=y)
def seq(x y:ByteArray):Bool:=x.toList==y.toList
def arq(a:ByteArray)(i:Int):Int:=((a.data.toList.getD i.toNat 0).toNat:Int)
def eL(i n:Int):Bool:=decide (0<=i/\i < n)
def inc(i n:Int):Bool:=decide (0<=i/\i<=n)
def nE(y:Int):Bool:=decide (0<=y)
def tc(y:Int):Bool:= !(decide (y=0))
open Classical in
def dI.of{D X:Type}(st:D->AS)(gq:D->Prop)(F:D->X)(out:X->Out (Exit×AS)):dI:= {X,run:=λs=>if h:∃d,st d=s/\gq d then av (F h.choose) else aD,out}
open Classical in
theorem dI.xe{D X:Type}{st:D->AS}{gq:D->Prop}{F:D->X}{out:X->Out (Exit×AS)}(PL:∀d d',st d=st d'->d=d'){d:D}(h:gq d):(dI.of st gq F out).run (st d)=av (F d):=by have hex:∃d',st d'=st d/\gq d':=⟨d,rfl,h⟩;show(if h:∃d',st d'=st d/\gq d' then av (F h.choose) else aD)=_;rw[Ao hex,PL _ _ hex.choose_spec.1]
open Classical in
def pP.of{X:Type}(an:pE)(st:X->AS):pP:=
 {an,X,axO:=λe s=>if h:e= .normal/\∃x,st x=s then av h.2.choose else aD,out:=λx=> .ok (.normal,st x),
  ok:=λe s x h=>by
   by_cases h1:e= .normal/\∃x,st x=s
   ·rw[Ao h1]at h;have h2:=h1.2.choose_spec;rw[bn h]at h2;rw[h1.1,<-h2];rfl
   ·rw[Dp h1]at h;cases h}
open Classical in
theorem pP.Hn{X:Type}{an:pE}{st:X->AS}(PL:∀d d',st d=st d'->d=d')(x:X):(pP.of an st).axO .normal (st x)=av x:=by have hex:Exit.normal= .normal/\∃y,st y=st x:=⟨rfl,x,rfl⟩;show(if h:Exit.normal= .normal/\∃y,st y=st x then av h.2.choose else aD)=_;rw[Ao hex,PL _ _ hex.2.choose_spec]
open Classical in
theorem awT.of{P:aT}{Γ:pO}{an:yx}{N:Nat}{fn:Func}{i:Nat}{D X:Type}{st:D->AS}{gq:D->Prop}{F:D->X}{out:X->Out (Exit×AS)}
  (hle:an.gf (ee (qj fn i))=av (dI.of st gq F out)) (h:∀d,gq d->∃n,SD P Γ an N fn i n (st d) (λe s=>av (e,s))=(out (F d)).eval):awT P Γ an N (qj fn i):=by
 intro le hle';rw[hle]at hle';simp only[aA]at hle';subst hle';refine⟨λ_ s x hx=> ?_,λS hS=>by cases hS⟩;change (if h:∃d',st d'=s/\gq d' then av (F h.choose) else aD)=av x at hx;split at hx
 ·rename_i hex;obtain rfl:=bn hx;obtain⟨h1,h2⟩:=hex.choose_spec;obtain⟨n,hn⟩:=h _ h2;refine⟨n,?_⟩;show SD P Γ an N fn i n s _=_;rw[h1]at hn;exact hn
 ·cases hx
theorem Bz(P:aT)(Γ:pO)(an:yx)(N:Nat)(fn:Func)(i:Nat){R:Type}(n:Nat)(s:AS)(k:Exit->AS->Option R):SD P Γ an N fn i (n+1) s k=Ey P Γ an N fn i s (λs1=>SD P Γ an N fn i n s1 k) k:=rfl
theorem axY{P:aT}{Γ:pO}{an:yx}{N:Nat}{fn:Func}{i:Nat}{D X:Type}{st:D->AS}{gq:D->Prop}{F:D->X}{out:X->Out (Exit×AS)}(μ:D->Nat)
  (h:∀d,gq d->(∃d',gq d'/\μ d' < μ d/\F d'=F d/\∀ {R:Type} (kn:AS->Option R) (kx:Exit->AS->Option R),Ey P Γ an N fn i (st d) kn kx=kn (st d'))\/
   (∃r,(out (F d)).eval=av r/\∀ {R:Type} (kn:AS->Option R) (kx:Exit->AS->Option R),Ey P Γ an N fn i (st d) kn kx=kx r.1 r.2)):
  ∀d,gq d->∃n,SD P Γ an N fn i n (st d) (λe s=>av (e,s))=(out (F d)).eval:=by
 have key:∀m d,μ d=m->gq d->∃n,SD P Γ an N fn i n (st d) (λe s=>av (e,s))=(out (F d)).eval:=by
  intro m
  induction m using Nat.strongRecOn with
  |_ m ih=>
   intro d hm hp;rcases h d hp with⟨d',hp',iA,hF,hr⟩ | ⟨r,hr,hx⟩
   ·obtain⟨n,hn⟩:=ih (μ d') ak d' rfl hp';exact⟨n+1,by rw[Bz,hr,hn,hF]⟩
   ·exact⟨1,by rw[Bz,hx,hr]⟩
 exact λd hp=>key _ d rfl hp
open Classical in
def dI.YZ{D X Y:Type}(st:D->AS)(gq:D->Prop)(add:D->Y->X)(Post:D->Y->Prop)(out:X->Out (Exit×AS)):dI:= {X,run:=λ_=>aD,out,set:=av λs x=>∃d,st d=s/\gq d/\∃y,Post d y/\x=add d y}
def aUz{D X Y:Type}(st:D->AS)(gq:D->Prop)(add:D->Y->X)(Post:D->Y->Prop):D->X->Prop:=λd0 x=>∃d,st d=st d0/\gq d/\∃y,Post d y/\x=add d y
abbrev ayT{D X Y:Type}(set:D->X->Prop)(gq:D->Prop)(add:D->Y->X)(Post:D->Y->Prop):Prop:=∀ {d:D} {R:Type} {k:X->Option R} {r:Option R},gq d->(∃y,Post d y)->(∀y,Post d y->k (add d y)=r)->abp (set d) k=r
theorem aW7{D X Y:Type}{st:D->AS}{gq:D->Prop}{add:D->Y->X}{Post:D->Y->Prop}(PL:∀d d',st d=st d'->d=d'):ayT (aUz st gq add Post) gq add Post:=λh h1 h2=>by
 obtain⟨y,hy⟩:=h1;refine axv ⟨_,_,rfl,h,y,hy,rfl⟩ λx hx=> ?_
 obtain⟨d',h3,_,y',h4,rfl⟩:=hx;obtain rfl:=PL _ _ h3;exact h2 y' h4
abbrev awU(P:aT)(G:pO)(an:yx)(N:Nat)(fn:Func)(i:Nat){D X Y:Type}(st:D->AS)(gq:D->Prop)(add:D->Y->X)(Post:D->Y->Prop)(out:X->Out (Exit×AS)):Prop:=∀d,gq d->∃n,∀k:Exit->AS->Option Unit,(∀y e s,Post d y->(out (add d y)).eval=av (e,s)->k e s=av ())->SD P G an N fn i n (st d) k=av ()
theorem awT.YZ{P:aT}{Γ:pO}{an:yx}{N:Nat}{fn:Func}{i:Nat}{D X Y:Type}{st:D->AS}{gq:D->Prop}{add:D->Y->X}{Post:D->Y->Prop}{out:X->Out (Exit×AS)}
  (h:awU P Γ an N fn i st gq add Post out) (hle:an.gf (ee (qj fn i))=av (dI.YZ st gq add Post out)):awT P Γ an N (qj fn i):=by
 intro le hle';rw[hle]at hle';simp only[aA]at hle';subst hle';refine⟨λhS=>(by cases hS),λS hS s hs=> ?_⟩;obtain rfl:=bn hS;obtain⟨x,d,rfl,hp,y,hy,rfl⟩:=hs;obtain⟨n,hn⟩:=h d hp;exact⟨n,hn _ λy e s h1 h2=>aIA ⟨add d y,⟨d,rfl,hp,y,h1,rfl⟩,h2⟩⟩
theorem aho{n:Nat}{Q:Nat->Nat->Prop}(h:∀j,j < n->∃N,∀M,N<=M->Q j M):∃N,∀M,N<=M->∀j,j < n->Q j M:=by
 induction n with
 |zero=>exact⟨0,λ_ _ j hj=>ak⟩
 |succ n ih=>
  obtain⟨N1,h1⟩:=ih λj hj=>h j ak
  obtain⟨N2,h2⟩:=h n ak;refine⟨max N1 N2,λM hM j hj=> ?_⟩;by_cases aXQ:j=n
  ·subst aXQ;exact h2 M ak
  ·exact h1 M ak j ak
theorem aIe{P:aT}{Γ:pO}{an:yx}{N:Nat}{fn:Func}{i:Nat}{D X:Type}{st:D->AS}{gq:D->Prop}{F:D->X}{out:X->Out (Exit×AS)}(μ:D->Nat)
  (h:∀d,gq d->(∃(m:Nat) (d':Nat->D),0 < m/\(∀j,j < m->gq (d' j)/\μ (d' j) < μ d/\F (d' j)=F d)/\∀ {R:Type} (kn:AS->Option R) (kx:Exit->AS->Option R),Ey P Γ an N fn i (st d) kn kx=aGr m λj=>kn (st (d' j)))\/
   (∃r,(out (F d)).eval=av r/\∀ {R:Type} (kn:AS->Option R) (kx:Exit->AS->Option R),Ey P Γ an N fn i (st d) kn kx=kx r.1 r.2)):
  ∀d,gq d->∃n,SD P Γ an N fn i n (st d) (λe s=>av (e,s))=(out (F d)).eval:=by
 have key:∀m d,μ d=m->gq d->∃n,∀M,n<=M->SD P Γ an N fn i M (st d) (λe s=>av (e,s))=(out (F d)).eval:=by
  intro m
  induction m using Nat.strongRecOn with
  |_ m ih=>
   intro d hm hp;rcases h d hp with⟨c,d',hc,hd,hr⟩ | ⟨r,hr,hx⟩
   ·obtain⟨n,hn⟩:=aho (n:=c) (Q:=λj M=>SD P Γ an N fn i M (st (d' j)) (λe s=>av (e,s))=(out (F d)).eval) λj hj=>by obtain⟨h1,h2,h3⟩:=hd j hj;obtain⟨n,hn⟩:=ih (μ (d' j)) ak (d' j) rfl h1;exact⟨n,λM hM=>by rw[hn M hM,h3]⟩
    refine⟨n+1,λM hM=> ?_⟩;obtain⟨M,rfl⟩:∃M',M=M'+1:=⟨M - 1,ak⟩;rw[Bz,hr];exact aGs hc λj hj=>hn M ak j hj
   ·refine⟨1,λM hM=> ?_⟩;obtain⟨M,rfl⟩:∃M',M=M'+1:=⟨M - 1,ak⟩;rw[Bz,hx,hr]
 exact λd hp=>let⟨n,hn⟩:=key _ d rfl hp;⟨n,hn n (ay _)⟩
theorem aIf{P:aT}{Γ:pO}{an:yx}{N:Nat}{fn:Func}{i:Nat}{D X Y:Type}{st:D->AS}{gq:D->Prop}{add:D->Y->X}{Post:D->Y->Prop}{out:X->Out (Exit×AS)}(μ:D->Nat)
  (h:∀d,gq d->(∃(m:Nat) (d':Nat->D),0 < m/\(∀j,j < m->gq (d' j)/\μ (d' j) < μ d/\∀y,Post (d' j) y->∃y',Post d y'/\add (d' j) y=add d y')/\∀ {R:Type} (kn:AS->Option R) (kx:Exit->AS->Option R),Ey P Γ an N fn i (st d) kn kx=aGr m λj=>kn (st (d' j)))\/
   (∃y r,Post d y/\(out (add d y)).eval=av r/\∀ {R:Type} (kn:AS->Option R) (kx:Exit->AS->Option R),Ey P Γ an N fn i (st d) kn kx=kx r.1 r.2)):awU P Γ an N fn i st gq add Post out:=by
 have key:∀m d,μ d=m->gq d->∃n,∀M,n<=M->∀k:Exit->AS->Option Unit,(∀y e s,Post d y->(out (add d y)).eval=av (e,s)->k e s=av ())->SD P Γ an N fn i M (st d) k=av ():=by
  intro m
  induction m using Nat.strongRecOn with
  |_ m ih=>
   intro d hm hp;rcases h d hp with⟨c,d',hc,hd,hr⟩ | ⟨y,r,hy,hr,hx⟩
   ·obtain⟨n,hn⟩:=aho (n:=c) (Q:=λj M=>∀k:Exit->AS->Option Unit,(∀y e s,Post (d' j) y->(out (add (d' j) y)).eval=av (e,s)->k e s=av ())->SD P Γ an N fn i M (st (d' j)) k=av ()) λj hj=>by obtain⟨h1,h2,h3⟩:=hd j hj;exact ih (μ (d' j)) ak (d' j) rfl h1
    refine⟨n+1,λM hM k hk=> ?_⟩;obtain⟨M,rfl⟩:∃M',M=M'+1:=⟨M - 1,ak⟩;rw[Bz,hr];refine aGs hc λj hj=>hn M ak j hj k λy e s h1 h2=> ?_
    obtain⟨y',h3,h4⟩:=(hd j hj).2.2 y h1;rw[h4]at h2;exact hk y' e s h3 h2
   ·refine⟨1,λM hM k hk=> ?_⟩;obtain⟨M,rfl⟩:∃M',M=M'+1:=⟨M - 1,ak⟩;rw[Bz,hx];exact hk y r.1 r.2 hy hr
 exact λd hp=>let⟨n,hn⟩:=key _ d rfl hp;⟨n,hn n (ay _)⟩
theorem apO{P:aT}{Γ:pO}{an:yx}{N:Nat}{fn:Func}{i:Nat}{D X:Type}{st:D->AS}{gq:D->Prop}{F:D->X}{ex:X->Exit×AS}(μ:D->Nat)(h:∀d,gq d->(∃d',gq d'/\μ d' < μ d/\F d'=F d/\∀ {R:Type} (kn:AS->Option R) (kx:Exit->AS->Option R),Ey P Γ an N fn i (st d) kn kx=kn (st d'))\/(∀ {R:Type} (kn:AS->Option R) (kx:Exit->AS->Option R),Ey P Γ an N fn i (st d) kn kx=kx (ex (F d)).1 (ex (F d)).2)):∀d,gq d->∃n,SD P Γ an N fn i n (st d) (λe s=>av (e,s))=(Out.ok (ex (F d))).eval:=axY (out:=λx=> .ok (ex x)) μ λd hp=>(h d hp).imp id λh=>⟨_,rfl,h⟩
open Classical in
def Entry.of{D X:Type}(params:List (Option Ty))(st:D->List aC×List dW)(gq:D->Prop)(F:D->X)(out:X->iB):Entry:= {params,X,run:=λargs cz=>if h:∃d,st d=(args,cz)/\gq d then av (F h.choose) else aD,out:=λ_ _=>out}
open Classical in
theorem Entry.xe{D X:Type}{params:List (Option Ty)}{st:D->List aC×List dW}{gq:D->Prop}{F:D->X}{out:X->iB}(PL:∀d d',st d=st d'->d=d'){d:D}(h:gq d):
  (Entry.of params st gq F out).run (st d).1 (st d).2=av (F d):=by
 have hex:∃d',st d'=((st d).1,(st d).2)/\gq d':=⟨d,rfl,h⟩;show(if h:∃d',st d'=((st d).1,(st d).2)/\gq d' then av (F h.choose) else aD)=_;rw[Ao hex,PL _ _ hex.choose_spec.1]
open Classical in
theorem ax6{D X:Type}{params:List (Option Ty)}{st:D->List aC×List dW}{gq:D->Prop}{F:D->X}{out:X->iB}{args:List aC}{cz:List dW}{x:X}(hx:(Entry.of params st gq F out).run args cz=av x):∃d,st d=(args,cz)/\gq d/\x=F d:=by
 change (if h:∃d',st d'=(args,cz)/\gq d' then av (F h.choose) else aD)=av x at hx;split at hx
 ·rename_i hex;obtain rfl:=bn hx;exact⟨_,hex.choose_spec.1,hex.choose_spec.2,rfl⟩
 ·cases hx
theorem si.of{P:aT}{Γ:pO}(hm:P.follows .mixedOrders=aZ)(hΓ:Sound P Γ){f:fV}{fn:Func}(hf:P.funcs[f]? =av fn)(hb:fn.body.isSome=aZ)(B8:(fn.name== "runtime.NumGoroutine")=aQ){an:yx}{N:Nat}
  (hL:∀c,fn.body=av c->lF P Γ an N (kh c)) {D X:Type} {params:List (Option Ty)} {st:D->List aC×List dW} {gq:D->Prop} {F:D->X} {out:X->iB}
  (h:∀d,gq d->anq P Γ an N fn (st d).1 (st d).2 av=av (out (F d))) (akW:an.mY=aD:=by exact rfl):si P f (Entry.of params st gq F out):=by
 refine si.xe hm hΓ hf hb B8 hL (λargs cz x hx=> ?_) akW;obtain⟨d,e1,e2,rfl⟩:=ax6 hx;have:=h d e2;rw[e1]at this;exact this
def aEl(P:aT)(Γ:pO)(an:yx)(N:Nat)(fn:Func):Nat->Nat->Prop
 | 0,_=>True
 |n+1,i=>awT P Γ an N (qj fn i)/\aEl P Γ an N fn n (i+1)
theorem aEl.get{P:aT}{Γ:pO}{an:yx}{N:Nat}{fn:Func}:∀ {n i:Nat},aEl P Γ an N fn n i->∀j,j < n->awT P Γ an N (qj fn (i+j))
 | 0,_,_,j,hj=>ak
 |n+1,i,h,0,_=>h.1
 |n+1,i,h,j+1,hj=>by have:=aEl.get h.2 j ak;rwa[show i+1+j=i+(j+1) by omega]at this
theorem lF.aIz{P:aT}{Γ:pO}{an:yx}{N:Nat}:∀(l:List Code),(∀j,j < l.length->awT P Γ an N (l.getD j .skip))->lF P Γ an N l
 |[],_=>trivial
 |b::l,h=>⟨h 0 (by simp),lF.aIz l λj hj=>by have:=h (j+1) (by simpa using hj);simpa using this⟩
theorem lF.fn{P:aT}{Γ:pO}{an:yx}{N:Nat}{fn:Func}(n:Nat)(hn:(match fn.body with | some c=>(kh c).length | none=>0)=n)(h:aEl P Γ an N fn n 0):∀c,fn.body=av c->lF P Γ an N (kh c):=by
 intro c hc;refine lF.aIz _ λj hj=> ?_
 rw[hc]at hn;simp only at hn;have:=h.get j ak;unfold qj at this;rw[hc]at this;simpa using this
theorem awT.none{P:aT}{Γ:pO}{an:yx}{N:Nat}{fn:Func}{i:Nat}(h:an.gf (ee (qj fn i))=aD):awT P Γ an N (qj fn i):=λle hle=>by
 rw[h]at hle;cases hle
def aQX:pO:=λ_ _=>aD
theorem Sound.nil(P:aT):Sound P aQX:=λ_ _ _ h=>by cases h
def axD(f:fV)(p:List aC->Bool)(en:Entry)(Γ:pO):pO:=λg vs=>match ju g f with | true=>(match p vs with | true=>av en | false=>Γ g vs) | false=>Γ g vs
theorem Sound.cons{P:aT}{f:fV}{p:List aC->Bool}{en:Entry}{Γ:pO}(h:wN P f en)(hΓ:Sound P Γ):Sound P (axD f p en Γ):=λg vs e hg=>by
 unfold axD at hg;split at hg
 ·rename_i he;have:g=f:=fE he;split at hg
  ·simp only[aA]at hg;subst hg this;exact h
  ·exact hΓ g vs e hg
 ·exact hΓ g vs e hg
theorem aPr{t:Ty}{x y:t.den}(h:aC.d t x=aC.d t y):x=y:=by injection h with _ h
theorem aO8{e:TypeId}{t:Ty}{x y:List t.den}(h:aC.vec e t x=aC.vec e t y):x=y:=by injection h with _ _ h
def nh:List aC->Bool:=λ_=>aZ
def aBy:List aC->Bool | .dy::_=>aZ | _=>aQ
def ai5:List aC->Bool | .bE .. ::_=>aZ | _=>aQ
@[simp] theorem aj{α:Type}(x y:Option α):aL aZ x y=x:=rfl
@[simp] theorem ao{α:Type}(x y:Option α):aL aQ x y=y:=rfl
@[simp] theorem ah{α β:Type}(x:α)(f:α->Option β):al (av x) f=f x:=rfl
@[simp] theorem Wk{α:Type}(c:wV)(x:Option α):same c c x=x:=by simp[same]
@[simp] theorem AQ{α:Type}(x:Option α):nd x x=x:=by simp[nd]
structure SG(P:aT) where
 f:fV
 p:List aC->Bool
 e:Entry
 h:wN P f e
def jQ{P:aT}:List (SG P)->pO
 |[]=>aQX
 |a::l=>axD a.f a.p a.e (jQ l)
theorem Sound.jQ{P:aT}:∀l:List (SG P),Sound P (jQ l)
 |[]=>Sound.nil P
 |a::l=>Sound.cons a.h (Sound.jQ l)
abbrev SA:=List aC×List dW
def Jg(P:aT)(G:pO)(an:yx)(N:Nat)(fn:Func){D:Type}(st:D->SA){R:Type}(d:D)(k:iB->Option R):Option R:=anq P G an N fn (st d).1 (st d).2 k
def eG(P:aT)(G:pO)(an:yx)(N:Nat)(fn:Func)(i:Nat){D:Type}(st:D->AS){R:Type}(d:D)(kn:AS->Option R)(kx:Exit->AS->Option R):Option R:=Ey P G an N fn i (st d) kn kx
abbrev ajq{D X Y:Type}(A: {R:Type}->D->(iB->Option R)->Option R)(gq:D->Prop)(add:D->Y->X)(F:D->Y)(out:X->iB):Prop:=∀d,gq d->A d av=av (out (add d (F d)))
abbrev j7(P:aT)(G:pO)(an:yx)(N:Nat)(fn:Func)(i:Nat){D X Y:Type}(st:D->AS)(gq:D->Prop)(add:D->Y->X)(F:D->Y)(out:X->Out (Exit×AS)):Prop:=∀d,gq d->∃n,SD P G an N fn i n (st d) (λe s=>av (e,s))=(out (add d (F d))).eval
abbrev aEj{D X Y:Type}(R: {R:Type}->D->(AS->Option R)->(Exit->AS->Option R)->Option R)(st:D->AS)(gq:D->Prop)(add:D->Y->X)(F:D->Y)(ex:X->Exit×AS)(C:Prop):Prop:=∀μ:D->Nat,(∀d,gq d->(∃d',gq d'/\μ d' < μ d/\add d' (F d')=add d (F d)/\∀ {T:Type} (kn:AS->Option T) (kx:Exit->AS->Option T),R d kn kx=kn (st d'))\/(∀ {T:Type} (kn:AS->Option T) (kx:Exit->AS->Option T),R d kn kx=kx (ex (add d (F d))).1 (ex (add d (F d))).2))->C
abbrev mK{D X Y:Type}(R: {R:Type}->D->(AS->Option R)->(Exit->AS->Option R)->Option R)(st:D->AS)(gq:D->Prop)(add:D->Y->X)(F:D->Y)(out:X->Out (Exit×AS))(C:Prop):Prop:=∀μ:D->Nat,(∀d,gq d->(∃d',gq d'/\μ d' < μ d/\add d' (F d')=add d (F d)/\∀ {T:Type} (kn:AS->Option T) (kx:Exit->AS->Option T),R d kn kx=kn (st d'))\/(∃r,(out (add d (F d))).eval=av r/\∀ {T:Type} (kn:AS->Option T) (kx:Exit->AS->Option T),R d kn kx=kx r.1 r.2))->C
abbrev aS8{D X Y:Type}(R: {R:Type}->D->(AS->Option R)->(Exit->AS->Option R)->Option R)(st:D->AS)(gq:D->Prop)(add:D->Y->X)(F:D->Y)(ex:X->Exit×AS)(C:Prop):Prop:=∀μ:D->Nat,(∀d,gq d->(∃(m:Nat) (d':Nat->D),0 < m/\(∀j,j < m->gq (d' j)/\μ (d' j) < μ d/\add (d' j) (F (d' j))=add d (F d))/\∀ {T:Type} (kn:AS->Option T) (kx:Exit->AS->Option T),R d kn kx=aGr m λj=>kn (st (d' j)))\/(∀ {T:Type} (kn:AS->Option T) (kx:Exit->AS->Option T),R d kn kx=kx (ex (add d (F d))).1 (ex (add d (F d))).2))->C
theorem aVB{P:aT}{G:pO}{an:yx}{N:Nat}{fn:Func}{i:Nat}{D X Y:Type}{st:D->AS}{gq:D->Prop}{add:D->Y->X}{F:D->Y}{ex:X->Exit×AS}:aS8 (eG P G an N fn i st) st gq add F ex (j7 P G an N fn i st gq add F λx=> .ok (ex x)):=λ μ h=>aIe (F:=λd=>add d (F d)) (out:=λx=> .ok (ex x)) μ λd hp=>(h d hp).imp id λh=>⟨_,rfl,h⟩
abbrev aPn{D X Y:Type}(R: {R:Type}->D->(AS->Option R)->(Exit->AS->Option R)->Option R)(st:D->AS)(gq:D->Prop)(add:D->Y->X)(Post:D->Y->Prop)(ex:X->Exit×AS)(C:Prop):Prop:=∀μ:D->Nat,(∀d,gq d->(∃(m:Nat) (d':Nat->D),0 < m/\(∀j,j < m->gq (d' j)/\μ (d' j) < μ d/\∀y,Post (d' j) y->∃y',Post d y'/\add (d' j) y=add d y')/\∀ {T:Type} (kn:AS->Option T) (kx:Exit->AS->Option T),R d kn kx=aGr m λj=>kn (st (d' j)))\/(∃y,Post d y/\∀ {T:Type} (kn:AS->Option T) (kx:Exit->AS->Option T),R d kn kx=kx (ex (add d y)).1 (ex (add d y)).2))->C
theorem aTf{P:aT}{G:pO}{an:yx}{N:Nat}{fn:Func}{i:Nat}{D X Y:Type}{st:D->AS}{gq:D->Prop}{add:D->Y->X}{Post:D->Y->Prop}{ex:X->Exit×AS}:aPn (eG P G an N fn i st) st gq add Post ex (awU P G an N fn i st gq add Post λx=> .ok (ex x)):=λ μ h=>aIf (out:=λx=> .ok (ex x)) μ λd hp=>(h d hp).imp (λh=>h) λ⟨y,hy,h⟩=>⟨y,_,hy,rfl,h⟩
theorem aQx{P:aT}{G:pO}{an:yx}{N:Nat}{fn:Func}{i:Nat}{D X Y:Type}{st:D->AS}{gq:D->Prop}{add:D->Y->X}{F:D->Y}{ex:X->Exit×AS}:aEj (eG P G an N fn i st) st gq add F ex (j7 P G an N fn i st gq add F λx=> .ok (ex x)):=λ μ h=>apO (F:=λd=>add d (F d)) μ h
theorem nc{P:aT}{G:pO}{an:yx}{N:Nat}{fn:Func}{i:Nat}{D X Y:Type}{st:D->AS}{gq:D->Prop}{add:D->Y->X}{F:D->Y}{out:X->Out (Exit×AS)}:mK (eG P G an N fn i st) st gq add F out (j7 P G an N fn i st gq add F out):=λ μ h=>axY (F:=λd=>add d (F d)) (out:=out) μ h
def oJ:List (Nat×pE)->Nat->pE
 |[],_=> {}
 |a::l,r=>bif ju r a.1 then a.2 else oJ l r
def oI:List (Nat×pE×pE)->Nat->Bool->pE
 |[],_,_=> {}
 |a::l,r,b=>bif ju r a.1 then(bif b then a.2.2 else a.2.1) else oI l r b
def nQ.{v} {α:Type v}:List (Nat×α)->Nat->Option α
 |[],_=>aD
 |a::l,r=>bif ju r a.1 then av a.2 else nQ l r
inductive Lf where
 |d (t:Ty)
 |n
@[reducible] def Lf.den:Lf->Type
 | .d t=>t.den
 | .n=>Nat
@[reducible] def Lf.aDH:List Lf->Type
 |[]=>Unit
 |[a]=>a.den
 |a::b::l=>a.den×Lf.aDH (b::l)
abbrev aTb:=List (Sigma Lf.den)
def Lf.mk:(ts:List Lf)->Lf.aDH ts->aTb
 |[],_=> []
 |[a],x=> [⟨a,x⟩]
 |a::b::l,x=>⟨a,x.1⟩::Lf.mk (b::l) x.2
theorem Lf.mk_inj:∀(ts:List Lf) (x y:Lf.aDH ts),Lf.mk ts x=Lf.mk ts y->x=y
 |[],_,_,_=>rfl
 |[a],x,y,h=>by
  injection h with h _
  injection h
 |a::b::l,(x,u),(y,v),h=>by
  injection h with h h2
  injection h with _ h
  have h:x=y:=h;rw[h,Lf.mk_inj (b::l) u v h2]
def aC.leaves:aC->aTb
 | .d .unit _=> []
 | .d (.arr _ t) l=> [⟨.d (.slice t),l⟩]
 | .d t x=> [⟨.d t,x⟩]
 | .dV t x=> [⟨.d t,x⟩]
 | .vec _ t l=> [⟨.d (.slice t),l⟩]
 | .mp k v l=> [⟨.d (.slice (.pair k v)),l⟩]
 | .uE _ _ k v l _=> [⟨.d (.slice (.pair k v)),l⟩]
 | .sS _ f _=>f.leaves
 | .bE _ _ _ _ _ n=> [⟨.n,n⟩]
 | .pr a b=>a.leaves++b.leaves
 | .cons a b=>a.leaves++b.leaves
 | .fn _ c=>c.leaves
 | .bx _ _ c=>c.leaves
 |_=> []
def dW.leaves:dW->aTb
 | .obj _ _ c=>c.leaves
 | .dead=> []
def SA.leaves(s:SA):aTb:=s.1.flatMap aC.leaves++s.2.flatMap dW.leaves
def AS.leaves(s:AS):aTb:=s.cM.flatMap aC.leaves++(s.cz.flatMap dW.leaves++s.news.flatMap (·.flatMap dW.leaves))
theorem YW(ts:List Lf){st:Lf.aDH ts->SA}(h:∀d,SA.leaves (st d)=Lf.mk ts d)(d d':Lf.aDH ts)(e:st d=st d'):d=d':=Lf.mk_inj ts d d' (by rw[<-h,<-h,e])
theorem jx(ts:List Lf){st:Lf.aDH ts->AS}(h:∀d,AS.leaves (st d)=Lf.mk ts d)(d d':Lf.aDH ts)(e:st d=st d'):d=d':=Lf.mk_inj ts d d' (by rw[<-h,<-h,e])
def Entry.fI{D X Y:Type}(params:List (Option Ty))(st:D->SA)(gq:D->Prop)(add:D->Y->X)(F:D->Y)(out:X->iB):Entry:=Entry.of params st gq (λd=>add d (F d)) out
def aYd{X Y:Type}(x:X⊕Y):Out (X⊕Y):= .br x.isLeft (.get x.getLeft? λa=> .ok (.inl a)) (.get x.getRight? λb=> .ok (.inr b))
theorem aSc{X Y:Type}(x y:X⊕Y)(h:(aYd x).eval=av y):y=x:=by cases x <;> exact(bn h).symm
def Entry.af5{D X X' Y:Type}(params:List (Option Ty))(st:D->SA)(gq:D->Prop)(add:D->Y->X⊕X')(F:D->Y)(out:X⊕X'->iB):Entry:= {Entry.fI params st gq add F out with sp:=aYd,ayv:=aSc}
theorem H9.aP6{P:aT}{y:Nat}{D X X' Y:Type}{params:List (Option Ty)}{st:D->SA}{gq:D->Prop}{add:D->Y->X⊕X'}{F:D->Y}{out:X⊕X'->iB}(h:H9 P y (Entry.fI params st gq add F out)):H9 P y (Entry.af5 params st gq add F out):=h
theorem si.aP6{P:aT}{f:fV}{D X X' Y:Type}{params:List (Option Ty)}{st:D->SA}{gq:D->Prop}{add:D->Y->X⊕X'}{F:D->Y}{out:X⊕X'->iB}(h:si P f (Entry.fI params st gq add F out)):si P f (Entry.af5 params st gq add F out):=h
def Entry.YZ{D X Y:Type}(params:List (Option Ty))(st:D->SA)(gq:D->Prop)(add:D->Y->X)(Post:D->Y->Prop)(out:X->iB):Entry:= {params,X,run:=λ_ _=>aD,out:=λ_ _ x=>out x,rel:=aZ,set:=λargs cz x=>∃d,st d=(args,cz)/\gq d/\∃y,Post d y/\x=add d y}
def aOK{D:Type}(E:Entry)(st:D->SA):D->E.X->Prop:=λd=>E.set (st d).1 (st d).2
theorem aJY{D X Y:Type}{params:List (Option Ty)}{st:D->SA}{gq:D->Prop}{add:D->Y->X}{Post:D->Y->Prop}{out:X->iB}(PL:∀d d',st d=st d'->d=d'):ayT (aOK (Entry.YZ params st gq add Post out) st) gq add Post:=λh h1 h2=>by
 obtain⟨y,hy⟩:=h1;refine axv ⟨_,_,rfl,h,y,hy,rfl⟩ λx hx=> ?_
 obtain⟨d',h3,_,y',h4,rfl⟩:=hx;obtain rfl:=PL _ _ h3;exact h2 y' h4
abbrev awS{D X Y:Type}(A: {R:Type}->D->(iB->Option R)->Option R)(gq:D->Prop)(add:D->Y->X)(Post:D->Y->Prop)(out:X->iB):Prop:=∀d,gq d->∀k:iB->Option Unit,(∀y,Post d y->k (out (add d y))=av ())->A d k=av ()
def dI.fI{D X Y:Type}(st:D->AS)(gq:D->Prop)(add:D->Y->X)(F:D->Y)(out:X->Out (Exit×AS)):dI:=dI.of st gq (λd=>add d (F d)) out
def Nd{D:Type}(E:Entry)(st:D->SA):D->Option E.X:=λd=>E.run (st d).1 (st d).2
def gO{D:Type}(E:dI)(st:D->AS):D->Option E.X:=λd=>E.run (st d)
abbrev jh{D X Y:Type}(call:D->Option X)(gq:D->Prop)(add:D->Y->X)(F:D->Y):Prop:=∀ {d:D},gq d->call d=av (add d (F d))
theorem aUw{D X Y:Type}{params:List (Option Ty)}{st:D->SA}{gq:D->Prop}{add:D->Y->X}{F:D->Y}{out:X->iB}(PL:∀d d',st d=st d'->d=d'):jh (Nd (Entry.fI params st gq add F out) st) gq add F:=λh=>Entry.xe PL h
theorem aef{D X X' Y:Type}{params:List (Option Ty)}{st:D->SA}{gq:D->Prop}{add:D->Y->X⊕X'}{F:D->Y}{out:X⊕X'->iB}(PL:∀d d',st d=st d'->d=d'){d:D}(h:gq d):(Entry.af5 params st gq add F out).run (st d).1 (st d).2=av (add d (F d)):=aUw (params:=params) (out:=out) PL h
theorem lH{D X Y:Type}{st:D->AS}{gq:D->Prop}{add:D->Y->X}{F:D->Y}{out:X->Out (Exit×AS)}(PL:∀d d',st d=st d'->d=d'):jh (gO (dI.fI st gq add F out) st) gq add F:=λh=>dI.xe PL h
def aAk(P:aT)(fn:Func):Bool:=P.follows .mixedOrders && fn.body.isSome && !(fn.name== "runtime.NumGoroutine")
def aAq(fn:Func):Nat:=match fn.body with | some c=>(kh c).length | none=>0
theorem si.fn{P:aT}{l:List (SG P)}{f:fV}{fn:Func}{an:yx}{N:Nat}{D X Y:Type}{params:List (Option Ty)}{st:D->SA}{gq:D->Prop}{add:D->Y->X}{F:D->Y}{out:X->iB}(n:Nat)
  (hc:(P.funcs[f]?,aAk P fn,aAq fn)=(av fn,aZ,n))
  (h:ajq (@Jg P (jQ l) an N fn D st) gq add F out)
  (hL:aEl P (jQ l) an N fn n 0) (akW:an.mY=aD:=by exact rfl):si P f (Entry.fI params st gq add F out):=by
 injection hc with h1 h2
 injection h2 with h2 h3
 unfold aAk at h2;simp only[au,cS]at h2;exact si.of h2.1.1 (Sound.jQ l) h1 h2.1.2 h2.2 (lF.fn n h3 hL) h akW
theorem QR.fn{P:aT}{l:List (SG P)}{f:fV}{fn:Func}{an:yx}{N:Nat}{D X Y:Type}{params:List (Option Ty)}{st:D->SA}{gq:D->Prop}{add:D->Y->X}{Post:D->Y->Prop}{out:X->iB}(n:Nat)
  (hc:(P.funcs[f]?,aAk P fn,aAq fn)=(av fn,aZ,n))
  (h:awS (@Jg P (jQ l) an N fn D st) gq add Post out)
  (hL:aEl P (jQ l) an N fn n 0) (akW:an.mY=aD:=by exact rfl):QR P f (Entry.YZ params st gq add Post out):=by
 injection hc with h1 h2
 injection h2 with h2 h3
 unfold aAk at h2;simp only[au,cS]at h2;refine QR.xe h2.1.1 (Sound.jQ l) h1 h2.1.2 h2.2 (lF.fn n h3 hL) (λargs cz hx=> ?_) akW;obtain⟨x,d,e,hp,y,hy,rfl⟩:=hx;have:=h d hp (λG=>aRR (∃x,(Entry.YZ params st gq add Post out).set args cz x/\G=(Entry.YZ params st gq add Post out).out args cz x)) λy hy=>aIA ⟨_,⟨d,e,hp,y,hy,rfl⟩,rfl⟩
 unfold Jg at this;rw[e]at this;exact this
theorem H9.fn{P:aT}{l:List (SG P)}{y:Nat}{an:yx}{N:Nat}{D X Y:Type}{params:List (Option Ty)}{st:D->SA}{gq:D->Prop}{add:D->Y->X}{F:D->Y}{out:X->iB}(n:Nat)
  (hc:(P.follows .mixedOrders,aAq (aPm P y))=(aZ,n))
  (h:ajq (@Jg P (jQ l) an N (aPm P y) D st) gq add F out)
  (hL:aEl P (jQ l) an N (aPm P y) n 0) (akW:an.mY=av y):H9 P y (Entry.fI params st gq add F out):=by
 injection hc with h1 h2
 refine H9.xe h1 (Sound.jQ l) (fn:=aPm P y) (lF.fn (fn:=aPm P y) n h2 hL _ rfl) (λargs cz x hx=> ?_) akW;obtain⟨d,e1,e2,rfl⟩:=ax6 hx;have:=h d e2;unfold Jg at this;rw[e1]at this;exact this
theorem awT.fI{P:aT}{Γ:pO}{an:yx}{N:Nat}{fn:Func}{i:Nat}{D X Y:Type}{st:D->AS}{gq:D->Prop}{add:D->Y->X}{F:D->Y}{out:X->Out (Exit×AS)}
  (h:j7 P Γ an N fn i st gq add F out) (hle:an.gf (ee (qj fn i))=av (dI.fI st gq add F out):=by kernel_rfl):awT P Γ an N (qj fn i):=awT.of hle h
abbrev K1(R:Type):=iB->Option R
abbrev K2(R:Type):=AS->Option R
abbrev K3(R:Type):=Exit->AS->Option R
@[reducible] def bC{D Y:Type}(_:D)(y:Y):Y:=y
structure Ls{D Y X:Type}(gq:D->Prop)(add:D->Y->X)(F:D->Y) where
 st:D->AS
 ex:X->Exit×AS
noncomputable def sH{D Y X:Type}{gq:D->Prop}{add:D->Y->X}{F:D->Y}(st:D->AS)(ex:X->Exit×AS):Ls gq add F:=⟨st,ex⟩
section
variable {D Y X:Type} {gq:D->Prop} {add:D->Y->X} {F:D->Y} (L:Ls gq add F)
def Ls.out:X->Out (Exit×AS):=λx=> .ok (L.ex x)
def Ls.E:dI:=dI.fI L.st gq add F L.out
def Ls.call:D->Option X:=gO L.E L.st
abbrev Ls.go{R:Type}(kx:K3 R)(x:X):Option R:=kx (L.ex x).1 (L.ex x).2
abbrev Ls.RS:Prop:=jh L.call gq add F
end
theorem rL(ts:List Lf){Y X:Type}{gq:Lf.aDH ts->Prop}{add:Lf.aDH ts->Y->X}{F:Lf.aDH ts->Y}(L:Ls gq add F)(h:∀d,AS.leaves (L.st d)=Lf.mk ts d:=by exact λ_=>cr):jh L.call gq add F:=lH (jx ts h)
structure Fs(P:aT){D Y X:Type}(gq:D->Prop)(add:D->Y->X)(F:D->Y) where
 i:fV
 fn:Func
 st:D->SA
 out:X->iB
 ps:List (Option Ty)
 G:List (SG P)
 an:yx
 N:Nat
noncomputable def fw{P:aT}{D Y X:Type}{gq:D->Prop}{add:D->Y->X}{F:D->Y}(i:fV)(fn:Func)(st:D->SA)(out:X->iB)(ps:List (Option Ty))(G:List (SG P):=[])(an:yx:= {})(N:Nat:=0):Fs P gq add F:=⟨i,fn,st,out,ps,G,an,N⟩
section
variable {P:aT} {D Y X:Type} {gq:D->Prop} {add:D->Y->X} {F:D->Y} (f:Fs P gq add F) {D' Y' X':Type} {Pre':D'->Prop} {add':D'->Y'->X'} {F':D'->Y'}
def Fs.A{R:Type}(d:D)(k:K1 R):Option R:=Jg P (jQ f.G) f.an f.N f.fn f.st d k
def Fs.R(i:Nat)(L:Ls Pre' add' F'){R:Type}(d:D')(kn:K2 R)(kx:K3 R):Option R:=eG P (jQ f.G) f.an f.N f.fn i L.st d kn kx
abbrev Fs.Ok:Prop:=∀d,gq d->f.A d av=av (f.out (add d (F d)))
abbrev Fs.lF(i:Nat)(L:Ls Pre' add' F'):Prop:=j7 P (jQ f.G) f.an f.N f.fn i L.st Pre' add' F' L.out
def Fs.E:Entry:=Entry.fI f.ps f.st gq add F f.out
def Fs.call:D->Option X:=Nd f.E f.st
theorem Fs.mY(i:Nat)(L:Ls Pre' add' F'):aEj (@Fs.R P D Y X gq add F f D' Y' X' Pre' add' F' i L) L.st Pre' add' F' L.ex (f.lF i L):=λ μ h=>apO (F:=λd=>add' d (F' d)) μ h
theorem Fs.aW5(i:Nat)(L:Ls Pre' add' F'):aS8 (@Fs.R P D Y X gq add F f D' Y' X' Pre' add' F' i L) L.st Pre' add' F' L.ex (f.lF i L):=aVB
abbrev Fs.RS:Prop:=jh f.call gq add F
def Fs.aVk(p:List aC->Bool)(ok:f.Ok)(n:Nat:=0)(hL:aEl P (jQ f.G) f.an f.N f.fn n 0:=by exact trivial)(hc:(P.funcs[f.i]?,aAk P f.fn,aAq f.fn)=(av f.fn,aZ,n):=by kernel_rfl)(hy:Nat.blt f.i yB=aZ:=by exact rfl)(hn:f.an.mY=aD:=by exact rfl):SG P:=⟨f.i,p,f.E,.of (si.fn n hc ok hL hn) hy⟩
def Fs.aZx(ok:f.Ok)(n:Nat:=0)(hL:aEl P (jQ f.G) f.an f.N f.fn n 0:=by exact trivial)(hc:(P.follows .mixedOrders,aAq (aPm P f.i))=(aZ,n):=by kernel_rfl)(hf:f.fn=aPm P f.i:=by exact rfl)(hy:Nat.ble yB f.i=aZ:=by exact rfl)(hn:f.an.mY=av f.i:=by exact rfl):SG P:=
 ⟨f.i,nh,f.E,.aX6 (H9.fn n hc (by have:=ok;unfold Fs.Ok Fs.A at this;rw[hf]at this;exact this) (by rw[<-hf];exact hL) hn) hy⟩
def Fs.fC(ok:f.Ok)(n:Nat:=0)(hL:aEl P (jQ f.G) f.an f.N f.fn n 0:=by exact trivial)(hc:(P.funcs[f.i]?,aAk P f.fn,aAq f.fn)=(av f.fn,aZ,n):=by kernel_rfl)(hy:Nat.blt f.i yB=aZ:=by exact rfl)(hn:f.an.mY=aD:=by exact rfl):SG P:=f.aVk nh ok n hL hc hy hn
end
theorem rE(ts:List Lf){P:aT}{Y X:Type}{gq:Lf.aDH ts->Prop}{add:Lf.aDH ts->Y->X}{F:Lf.aDH ts->Y}(f:Fs P gq add F)(h:∀d,SA.leaves (f.st d)=Lf.mk ts d:=by exact λ_=>cr):jh f.call gq add F:=aUw (YW ts h)
abbrev tu:Ty:=(.int .u64)
abbrev ti:Ty:=(.int .i64)
abbrev tb:Ty:=(.int .u8)
abbrev tB:Ty:=(.slice tb)
abbrev Bs:=(List Int)
abbrev tH:Ty:=(.arr 32 tb)
abbrev tU:Ty:=(.slice tu)
abbrev bh:Ty:=(.pair tH (.pair ti .unit))
abbrev bJ:=(Bs×(Int×Unit))
abbrev BB:Ty:=(.pair tu (.pair tu .unit))
abbrev Sg:=(Int×(Int×Unit))
abbrev aDe:Ty:=(.pair ti (.pair (.slice BB) (.pair tu .unit)))
abbrev YO:=(Int×((List Sg)×(Int×Unit)))
abbrev gT:Ty:=(.pair bh (.pair aDe .unit))
abbrev iF:=(bJ×(YO×Unit))
abbrev kS:Ty:=(.pair tU (.pair ti (.pair ti (.pair tu .unit))))
abbrev pM:=(Bs×(Int×(Int×(Int×Unit))))
abbrev QQ:Ty:=(.pair (.slice kS) .unit)
abbrev Lk:=((List pM)×Unit)
abbrev gV:Ty:=(.pair ti (.pair QQ .unit))
abbrev iu:=(Int×(Lk×Unit))
abbrev fa:Ty:=(.pair (.slice gT) (.pair (.slice gV) (.pair ti .unit)))
abbrev dR:=((List iF)×((List iu)×(Int×Unit)))
abbrev uZ:Ty:=(.pair tB (.pair .bool .unit))
abbrev iG:=(Bs×(Bool×Unit))
abbrev aZC:Ty:=(.pair ti (.pair (.iT BB) (.pair tu .unit)))
abbrev aVt:=(Int×((Option (List Sg))×(Int×Unit)))
abbrev sU:Ty:=(.pair bh (.pair aZC .unit))
abbrev Eg:=(bJ×(aVt×Unit))
end Go.Ab
namespace Go.Ab
theorem vE{n:Int}(h1: -9223372036854775808<=n)(h2:n<=9223372036854775807):IntKind.i64.wrap n=n:=by simp[IntKind.wrap,IntKind.bits,IntKind.signed];split <;> omega
theorem gD{x y:Int}(h1: -9223372036854775808<=x+y)(h2:x+y<=9223372036854775807):bO .i64 x y=x+y:=vE h1 h2
theorem fh{x y:Int}(h1: -9223372036854775808<=x - y)(h2:x - y<=9223372036854775807):da .i64 x y=x - y:=vE h1 h2
theorem JT{x y:Int}(h1: -9223372036854775808<=x*y)(h2:x*y<=9223372036854775807):ia .i64 x y=x*y:=vE h1 h2
theorem aNo{x:Int}(h1: -9223372036854775808<=x)(h2:x<=9223372036854775807):eQ .i64 x=x:=vE h1 h2
def vw{n:Nat}(w:BitVec n):Int:=(w.toNat:Int)
theorem iS(n:Nat)(x:Int):vw (bo n x)=x%((2^n:Nat):Int):=by unfold vw;rw[tO];have:0<=x%((2^n:Nat):Int):=lM _ (by have:=Nat.two_pow_pos n;omega);omega
theorem WE{n:Nat}(w:BitVec n):0<=vw w:=iE _
theorem aKZ{n:Nat}(w:BitVec n):vw w < ((2^n:Nat):Int):=by have:=w.isLt;unfold vw;omega
theorem vS{n:Nat}(w:BitVec n):bo n (vw w)=w:=by apply BitVec.eq_of_toNat_eq;have:=iS n (vw w);unfold vw at this ⊢;have h:=w.isLt;rw[fJ (iE _) ak]at this;omega
theorem wrap_u32(x:Int):IntKind.u32.wrap x=vw (bo 32 x):=by rw[iS];simp[IntKind.wrap,IntKind.bits,IntKind.signed]
theorem wrap_u64(x:Int):IntKind.u64.wrap x=vw (bo 64 x):=by rw[iS];simp[IntKind.wrap,IntKind.bits,IntKind.signed]
theorem wrap_u8(x:Int):IntKind.u8.wrap x=vw (bo 8 x):=by rw[iS];simp[IntKind.wrap,IntKind.bits,IntKind.signed]
theorem ofInt_add(n:Nat)(x y:Int):bo n (x+y)=bo n x+bo n y:=BitVec.ofInt_add ..
theorem FC(x y:BitVec 32):bO .u32 (vw x) (vw y)=vw (x+y):=by rw[bO,wrap_u32,BitVec.ofInt_add,vS,vS]
theorem axI(x:Int):eQ .u32 x=vw (bo 32 x):=wrap_u32 x
theorem ZK(x:Int):eQ .u64 x=vw (bo 64 x):=wrap_u64 x
theorem Vp(x:Int):eQ .u8 x=vw (bo 8 x):=wrap_u8 x
theorem aIs{n:Nat}(x:BitVec n):bo n ((x.toNat:Nat):Int)=x:=vS x
theorem rn(op:BinOp)(x y:BitVec 32):cV op .u32 (vw x) (vw y)=vw (match op with | .and=>x &&& y | .or=>x ||| y | .xor=>x^^^y | _=>x &&& ~~~y):=by unfold cV;split <;> (simp only[IntKind.bits,vS,wrap_u32,aIs];rfl)
theorem aza(op:BinOp)(x y:BitVec 64):cV op .u64 (vw x) (vw y)=vw (match op with | .and=>x &&& y | .or=>x ||| y | .xor=>x^^^y | _=>x &&& ~~~y):=by unfold cV;split <;> (simp only[IntKind.bits,vS,wrap_u64,aIs];rfl)
theorem aGK(x y:Nat):Int.fdiv (x:Int) (y:Int)=((x / y:Nat):Int):=by rw[kW _ (iE _)];rfl
theorem T4(k:Nat):(2:Int)^k=((2^k:Nat):Int):=by simp
theorem aR6{n:Nat}(w:BitVec n)(k:Nat):Int.fdiv (vw w) (2^(min k n))=vw (w >>> k):=by
 rw[T4];unfold vw;rw[aGK,BitVec.toNat_ushiftRight,Nat.shiftRight_eq_div_pow];congr 1;rcases Nat.le_total k n with hk | hk
 ·rw[eH hk]
 ·rw[Nat.min_eq_right hk,Nat.div_eq_of_lt w.isLt,Nat.div_eq_of_lt];exact Nat.lt_of_lt_of_le w.isLt (Nat.pow_le_pow_right ak hk)
theorem JW(w:BitVec 32)(k:Int):cP .u32 (vw w) k=vw (w >>> k.toNat):=aR6 w k.toNat
theorem aR5{n:Nat}(w:BitVec n)(k:Nat):bo n (vw w*2^(min k n))=w <<< k:=by
 apply BitVec.eq_of_toNat_eq;rw[tO,BitVec.toNat_shiftLeft,Nat.shiftLeft_eq];unfold vw;rw[T4];have e:((w.toNat:Int)*((2^min k n:Nat):Int))=((w.toNat*2^min k n:Nat):Int):=by simp
 rw[e];have:(((w.toNat*2^min k n:Nat):Int)%((2^n:Nat):Int)).toNat=(w.toNat*2^min k n)%2^n:=ak;rw[this];rcases Nat.le_total k n with hk | hk
 ·rw[eH hk]
 ·rw[Nat.min_eq_right hk,Nat.mul_mod_left];obtain⟨m,rfl⟩:=Nat.exists_eq_add_of_le hk;rw[pR,<-Nat.mul_assoc,Nat.mul_right_comm,Nat.mul_mod_left]
theorem Si(w:BitVec 32)(k:Int):nC .u32 (vw w) k=vw (w <<< k.toNat):=by rw[nC,wrap_u32];congr 1;exact aR5 w k.toNat
theorem bj{i n:Int}(h1:0<=i)(h2:i < n):eL i n=aZ:=by simp[eL,h1,h2]
theorem vG{i n:Int}(h1:0<=i)(h2:i<=n):inc i n=aZ:=by simp[inc,h1,h2]
theorem aX{x y:Int}(h:x < y):gz x y=aZ:=by simp[gz,h]
theorem aU{x y:Int}(h:¬x < y):gz x y=aQ:=by simp[gz];omega
theorem pa{x y:Int}(h:x<=y):akZ x y=aZ:=by simp[akZ,h]
theorem kO{x y:Int}(h:¬x<=y):akZ x y=aQ:=by simp[akZ];omega
theorem dd{x y:Int}(h:x > y):pJ x y=aZ:=by simp[pJ];omega
theorem cH{x y:Int}(h:¬x > y):pJ x y=aQ:=by simp[pJ];omega
theorem hZ{x y:Int}(h:x>=y):Dv x y=aZ:=by simp[Dv];omega
theorem ff{x y:Int}(h:¬x>=y):Dv x y=aQ:=by simp[Dv];omega
theorem du{x y:Int}(h:x=y):oV x y=aZ:=by simp[oV,h]
theorem fm{x y:Int}(h:¬x=y):oV x y=aQ:=by simp[oV,h]
theorem fD{x y:Int}(h:¬x=y):zg x y=aZ:=by simp[zg,h]
theorem dP{x y:Int}(h:x=y):zg x y=aQ:=by simp[zg,h]
theorem uJ{x:Int}(h:0<=x):nE x=aZ:=by simp[nE,h]
theorem aM{p:Prop} [Decidable p] (h:p):decide p=aZ:=by simp[h]
theorem aV{p:Prop} [Decidable p] (h:¬p):decide p=aQ:=by simp[h]
theorem dC{n b:Nat}(h:n*b<=140737488355328)(h2:n<=9223372036854775807):dw n b=aZ:=by simp[dw,h,h2]
def from_{α:Type}(f:Nat->α->α)(t:Nat)(l:List α):List α:=l.mapIdx λi x=>if i < t then x else f i x
theorem Md{α:Type}(f:Nat->α->α)(l:List α)(t:Nat)(h:t < l.length):from_ f (t+1) (l.set t (f t l[t]))=from_ f t l:=by
 unfold from_;apply List.ext_getElem (by simp);intro i h1 h2;simp only[List.getElem_mapIdx,List.getElem_set];by_cases hi:t=i
 ·subst hi;simp
 ·simp only[if_neg hi];by_cases h3:i < t
  ·rw[if_pos ak,if_pos h3]
  ·rw[if_neg ak,if_neg h3]
theorem R0{α:Type}(f:Nat->α->α)(l:List α)(t:Nat)(h:l.length<=t):from_ f t l=l:=by unfold from_;apply List.ext_getElem (by simp);intro i h1 h2;simp only[List.getElem_mapIdx];rw[if_pos ak]
theorem abF{α:Type}(f:Nat->α->α)(n:Nat)(x:α):from_ f 0 (ab n x)=(List.range n).map λi=>f i x:=by unfold from_;apply List.ext_getElem (by simp);intro i h1 h2;simp
theorem cg{t:Ty}{l:List t.den}{i:Nat}(h:i < l.length):nth t l i=l[i]:=by simp[nth,h]
end Go.Ab
namespace Go.Ab.N
section
variable {α:Type} {x y:Option α} {a b n:Nat} {i j:Int}
theorem lt:aL (gz i j) x y=if i < j then x else y:=by unfold gz;split <;> rename_i h <;> simp[h]
theorem le:aL (akZ i j) x y=if i<=j then x else y:=by unfold akZ;split <;> rename_i h <;> simp[h]
theorem gt:aL (pJ i j) x y=if j < i then x else y:=by unfold pJ;split <;> rename_i h <;> simp[h]
theorem ge:aL (Dv i j) x y=if j<=i then x else y:=by unfold Dv;split <;> rename_i h <;> simp[h]
theorem eq:aL (oV i j) x y=if i=j then x else y:=by
 by_cases h:i=j
 ·rw[du h,if_pos h];rfl
 ·rw[fm h,if_neg h];rfl
theorem ne:aL (zg i j) x y=if i=j then y else x:=by
 by_cases h:i=j
 ·rw[dP h,if_pos h];rfl
 ·rw[fD h,if_neg h];rfl
theorem ib:aL (eL i j) x y=if 0<=i/\i < j then x else y:=by unfold eL;split <;> rename_i h <;> simp[h]
theorem ic:aL (inc i j) x y=if 0<=i/\i<=j then x else y:=by unfold inc;split <;> rename_i h <;> simp[h]
theorem nn:aL (nE i) x y=if 0<=i then x else y:=by unfold nE;split <;> rename_i h <;> simp[h]
theorem nz:aL (tc i) x y=if i=0 then y else x:=by unfold tc;split <;> rename_i h <;> simp[h]
theorem dc{p:Prop} [Decidable p]:aL (decide p) x y=if p then x else y:=by split <;> rename_i h <;> simp[h]
theorem rm:aL (dw n b) x y=if n*b<=140737488355328/\n<=9223372036854775807 then x else y:=by unfold dw;exact dc
theorem an{c d:Bool}:aL (c && d) x y=aL c (aL d x y) y:=by cases c <;> rfl
theorem or{c d:Bool}:aL (c || d) x y=aL c x (aL d x y):=by cases c <;> rfl
theorem no{c:Bool}:aL (!c) x y=aL c y x:=by cases c <;> rfl
theorem aUS(h:a+b<=9223372036854775807):bO .i64 (a:Int) (b:Int)=((a+b:Nat):Int):=by rw[gD ak ak];omega
theorem mZ(h:a+dM n<=9223372036854775807):bO .i64 (a:Int) (no_index (dM n))=((a+dM n:Nat):Int):=aUS h
theorem aXw(h:dM n+a<=9223372036854775807):bO .i64 (no_index (dM n)) (a:Int)=((dM n+a:Nat):Int):=aUS h
theorem aVj(h:b<=a)(h2:a<=9223372036854775807):da .i64 (a:Int) (b:Int)=((a - b:Nat):Int):=by rw[fh ak ak];omega
theorem aYc(h:dM n<=a)(h2:a<=9223372036854775807):da .i64 (a:Int) (no_index (dM n))=((a - dM n:Nat):Int):=aVj h h2
theorem aYb(h:a<=dM n)(h2:(dM n:Nat)<=9223372036854775807):da .i64 (no_index (dM n)) (a:Int)=((dM n - a:Nat):Int):=aVj h h2
theorem aVg(h:a*b<=9223372036854775807):ia .i64 (a:Int) (b:Int)=((a*b:Nat):Int):=by
 have e:(a:Int)*(b:Int)=((a*b:Nat):Int):=by simp
 rw[JT ak ak,e]
theorem aX4(h:a*dM n<=9223372036854775807):ia .i64 (a:Int) (no_index (dM n))=((a*dM n:Nat):Int):=aVg h
theorem aUl(h:dM n*a<=9223372036854775807):ia .i64 (no_index (dM n)) (a:Int)=((dM n*a:Nat):Int):=aVg h
theorem aWX(h:a<=9223372036854775807):uX .i64 (a:Int) (b:Int)=((a / b:Nat):Int):=by
 have:(a:Int).tdiv (b:Int)=((a / b:Nat):Int):=by rw[kX ak];simp
 have hl:a / b<=a:=Nat.div_le_self a b;unfold uX;rw[this];generalize a / b=c at hl;exact vE ak ak
theorem aWW(h:a<=9223372036854775807):uX .i64 (a:Int) (no_index (dM n))=((a / dM n:Nat):Int):=aWX h
theorem aWY:nP (a:Int) (b:Int)=((a%b:Nat):Int):=by unfold nP;rw[iW ak];simp
theorem aVi:nP (a:Int) (no_index (dM n))=((a%dM n:Nat):Int):=aWY
theorem cN(h:a<=9223372036854775807):eQ .i64 (a:Int)=(a:Int):=aNo ak ak
theorem cL(h:(dM n:Nat)<=9223372036854775807):eQ .i64 (no_index (dM n))=dM n:=cN h
theorem tL:ae (no_index (dM n))=dM n:=rfl
end
end Go.Ab.N
namespace Go.Ab
section
variable {P:aT}
theorem aGD{E E':Env}(h1:E'.w=E.w)(h2:E'.g=E.g)(h3:E'.β=E.β)(h4:E'.s=E.s):E'=E:=by obtain⟨a,b,c,d⟩:=E;obtain⟨a',b',c',d'⟩:=E';simp only at h1 h2 h3 h4;subst h1 h2 h3 h4;rfl
theorem u5.same{w:cd}{g:Nat->np}{β:Id->Option Pl}{cz:List dW}{a:aC}{v:Value}(hv:VS ((gw cz).env w g β) a v)(ho:jE ((gw cz).env w g β)):
  u5 ((gw cz).env w g β) ⟨a,cz,[]⟩ v w:=by
 have hE:(iB.st ⟨a,cz,[]⟩).env w g β=(gw cz).env w g β:=by
  refine aGD rfl rfl rfl ?_
  funext id;cases id with
  |bt k=>rfl
  |new i j=>
   show([([]:List dW)].getD i [])[j]? =(([]:List (List dW)).getD i [])[j]?
   cases i <;> rfl
 refine⟨g,β,?_⟩;rw[hE];exact⟨hv,ho,Trans.refl w g,db.refl _⟩
theorem si.extern{f:fV}{fn:Func}{e:Array Value->Sem Value}(hf:P.funcs[f]? =av fn)(B8:(fn.name== "runtime.NumGoroutine")=aQ)(hb:fn.body.isNone=aZ)(hn:Extern.findNext fn=aD)(he:Extern.find fn=av e){en:Entry}
  (h:∀w g β args cz jL x,zI ((gw cz).env w g β) args jL->jE ((gw cz).env w g β)->en.run args cz=av x->∃v,(e jL.toArray).run P w= .ok v w/\u5 ((gw cz).env w g β) (en.out args cz x) v w):si P f en:=by
 intro w g β args cz jL x h1 h2 h3;obtain⟨v,h4,h5⟩:=h w g β args cz jL x h1 h2 h3;refine .inr ⟨v,w,?_,h5⟩;rw[run_callFunc_extern hf B8 hb hn he,h4];rfl
def aPZ.E:Entry:= {params:=[aD],X:=Unit,run:=λargs _=>match args with | [_]=>av () | _=>aD,out:=λargs cz _=>⟨args.headD .undef,cz,[]⟩}
theorem aPZ.of{f:fV}{fn:Func}(hf:P.funcs[f]? =av fn)(B8:(fn.name== "runtime.NumGoroutine")=aQ)(hb:fn.body.isNone=aZ)(hn:Extern.findNext fn=aD)(he:Extern.find fn=av Extern.AbiNoEscape.same):si P f aPZ.E:=by
 refine si.extern hf B8 hb hn he λw g β args cz jL x h1 h2 h3=> ?_
 cases args with
 |nil=>cases h3
 |cons a as=>
  cases as with
  |cons _ _=>cases h3
  |nil=>
   cases jL with
   |nil=>exact h1.elim
   |cons v vs=>
    obtain⟨h4,h5⟩:=h1;cases vs with
    |cons _ _=>exact h5.elim
    |nil=>exact⟨v,rfl,u5.same h4 h2⟩
theorem aiW{w:cd}:∀(xs:List Int) (a:Addr) (acc:ByteArray),(∀j x,xs[j]? =av x->w.cell? (a.add j)=av (.int .u8 x))->
  (Extern.Bytes.loadBytes a xs.length acc).run P w= .ok ⟨acc.data++(xs.map λn=>fQ n.toNat).toArray⟩ w
 |[],a,acc,_=>by simp[Extern.Bytes.loadBytes]
 |x::l,a,acc,h=>by
  have h0:w.cell? a=av (.int .u8 x):=by have:=h 0 x rfl;simpa[Addr.add]using this
  have ih:=aiW l (a.add 1) (acc.push x.toNat.toUInt8) (λj y hy=>by
   have:=h (j+1) y (by simpa using hy);have e:(a.add 1).add j=a.add (j+1):=by
    unfold Addr.add;by_cases hj:j=0
    ·subst hj;simp
    ·simp[hj];omega
   rw[e];exact this)
  simp only[aB,Extern.Bytes.loadBytes,cC,run_load,h0,Result.andThen];rw[ih];congr 1;apply ByteArray.ext;simp[ByteArray.push]
theorem aeg{E:Env}{l:List Int}{y:Value}(h:VS E (.d (.slice (.int .u8)) l) y):(Extern.Bytes.bytesOf y).run P E.w= .ok (fY l) E.w:=by
 obtain⟨a,cap,vs,rfl,_,hs,uc,xL⟩:=vY h;have Xy:=yG (k:= .u8) (vs:=vs) (l:=l) xL;cases a with
 |none=>
  have hl:l=[]:=by
   cases l with
   |nil=>rfl
   |cons _ _=>simp at hs
  subst hl;rfl
 |some ad=>
  have aHb:=aiW (P:=P) (w:=E.w) l ad .empty λj x hx=>by
   obtain⟨b,off,e,hh⟩:=uc j (.int .u8 x) (by rw[Xy];simp[hx]);have e:ad=⟨b,off,aD⟩:=by simpa using e
   subst e;have h1:=hh.1;unfold Addr.add;by_cases hj:j=0
   ·subst hj;simpa using h1
   ·simpa[hj]using h1
  show(Extern.Bytes.loadBytes ad l.length .empty).run P E.w=_;rw[aHb];congr 1;apply ByteArray.ext;simp[fY]
def afO(a b:List Int):Int:=Extern.BytealgCompare.cmp (fY a) (fY b)
def aw0:Entry:=Entry.of (D:=List Int×List Int) (X:=Int) [av (.slice (.int .u8)),av (.slice (.int .u8))] (λd=>([.d (.slice (.int .u8)) d.1,.d (.slice (.int .u8)) d.2],[])) (λ_=>True) (λd=>afO d.1 d.2) (λx=>⟨.d (.int .i64) x,[],[]⟩)
theorem aLW:∀d d':List Int×List Int,(([aC.d (.slice (.int .u8)) d.1,aC.d (.slice (.int .u8)) d.2],([]:List dW)):List aC×List dW)=([.d (.slice (.int .u8)) d'.1,.d (.slice (.int .u8)) d'.2],[])->d=d':=by rintro⟨a,b⟩ ⟨a',b'⟩ h;have e1:a=a':=aPr (t:= .slice (.int .u8)) (bu (λs:List aC×List dW=>s.1.getD 0 .undef) h);have e2:b=b':=aPr (t:= .slice (.int .u8)) (bu (λs:List aC×List dW=>s.1.getD 1 .undef) h);rw[e1,e2]
def ans:List Int×List Int->Option Int:=λd=>aw0.run [.d (.slice (.int .u8)) d.1,.d (.slice (.int .u8)) d.2] []
theorem aw1(d:List Int×List Int):ans d=av (afO d.1 d.2):=Entry.xe (d:=d) aLW trivial
theorem aQj{f:fV}{fn:Func}(hf:P.funcs[f]? =av fn)(B8:(fn.name== "runtime.NumGoroutine")=aQ)(hb:fn.body.isNone=aZ)(hn:Extern.findNext fn=aD)(he:Extern.find fn=av Extern.BytealgCompare.compare):si P f aw0:=by
 refine si.extern hf B8 hb hn he λw g β args cz jL x h1 h2 h3=> ?_
 have hx:∃d:List Int×List Int,(([aC.d (.slice (.int .u8)) d.1,aC.d (.slice (.int .u8)) d.2],([]:List dW)):List aC×List dW)=(args,cz):=by
  by_cases hh:∃d:List Int×List Int,(([aC.d (.slice (.int .u8)) d.1,aC.d (.slice (.int .u8)) d.2],([]:List dW)):List aC×List dW)=(args,cz)
  ·exact hh
  ·exfalso;have hn:aw0.run args cz=aD:=Dp λ⟨d,h,_⟩=>hh ⟨d,h⟩
   rw[hn]at h3;cases h3
 obtain⟨d,hd⟩:=hx;simp only[cT]at hd;obtain⟨rfl,rfl⟩:=hd;have hr:=aw1 d;have hx:x=afO d.1 d.2:=bn (h3.symm.trans hr);subst hx
 match jL,h1 with
 |[u,v],⟨h4,h5,_⟩=>
  refine⟨.int .i64 (afO d.1 d.2),?_,u5.same (mM _ _) h2⟩;have e1:=aeg (P:=P) h4;have e2:=aeg (P:=P) h5;have e1:(Extern.Bytes.bytesOf u).run P w= .ok (fY d.1) w:=e1;have e2:(Extern.Bytes.bytesOf v).run P w= .ok (fY d.2) w:=e2;have aQ4:Extern.BytealgCompare.compare [u,v].toArray=(do let a <-Extern.Bytes.bytesOf u;let b <-Extern.Bytes.bytesOf v;pure (goInt (Extern.BytealgCompare.cmp a b))):=rfl;rw[aQ4];simp[e1,e2,goInt,afO]
def aVx{X Y:Type} [Inhabited Y] (x:Option X):Option (X×Y):=al x λy=>av (y,default)
def aVy{X Y:Type} [Inhabited X] (x:Option Y):Option (X×Y):=al x λy=>av (default,y)
@[simp] theorem aSy{X Y:Type} [Inhabited Y] (x:X):aVx (Y:=Y) (av x)=av (x,default):=rfl
@[simp] theorem aSz{X Y:Type} [Inhabited X] (x:Y):aVy (X:=X) (av x)=av (default,x):=rfl
def Entry.half(params:List (Option Ty)){X Z:Type}(run:List aC->List dW->Option X)(out:List aC->List dW->X->iB)(i:Z->X)(p:X->Option Z):Entry:= {params,X:=Z,run:=λa o=>(run a o).bind p,out:=λa o z=>out a o (i z)}
def ko{X Z:Type}(p:X->Option Z)(x:Option X):Option Z:=x.bind p
theorem pG{X Y:Type}(x:X):ko dj (av (Sum.inl x:X⊕Y))=av x:=rfl
theorem aM6{X Y:Type}(x:Y):ko Sum.getRight? (av (Sum.inr x:X⊕Y))=av x:=rfl
theorem si.half{f:fV}{params:List (Option Ty)}{X Z:Type}{run:List aC->List dW->Option X}{out:List aC->List dW->X->iB}{i:Z->X}{p:X->Option Z}(hp:∀x z,p x=av z->x=i z)
  (h:si P f {params,X,run,out}):si P f (Entry.half params run out i p):=by
 intro w g β args cz jL z h3 h4 h5;have h5:(run args cz).bind p=av z:=h5;cases hr:run args cz with
 |none=>rw[hr]at h5;cases h5
 |some x=>
  rw[hr]at h5;obtain rfl:=hp x z h5;exact h w g β args cz jL (i z) h3 h4 hr
theorem aTv{X Y:Type}(x:X⊕Y)(z:X)(h:x.getLeft?=av z):x= .inl z:=by cases x <;> cases h;rfl
theorem aTw{X Y:Type}(x:X⊕Y)(z:Y)(h:x.getRight?=av z):x= .inr z:=by cases x <;> cases h;rfl
end
theorem S1:(type_of% @N.lt)/\(type_of% @N.le)/\(type_of% @N.gt)/\(type_of% @N.ge)/\(type_of% @N.eq)/\(type_of% @N.ne)/\(type_of% @N.ib)/\(type_of% @N.ic)/\(type_of% @N.nn)/\(type_of% @N.nz)/\(type_of% @N.dc)/\(type_of% @N.rm)/\(type_of% @N.an)/\(type_of% @N.or)/\(type_of% @N.no)/\(type_of% @aj)/\(type_of% @ao)/\(type_of% @ah):=⟨@N.lt,@N.le,@N.gt,@N.ge,@N.eq,@N.ne,@N.ib,@N.ic,@N.nn,@N.nz,@N.dc,@N.rm,@N.an,@N.or,@N.no,@aj,@ao,@ah⟩
theorem S2:(type_of% @ah)/\(type_of% @N.aUS)/\(type_of% @N.mZ)/\(type_of% @N.aXw)/\(type_of% @N.aVj)/\(type_of% @N.aYc)/\(type_of% @N.aYb)/\(type_of% @N.aVg)/\(type_of% @N.aX4)/\(type_of% @N.aUl)/\(type_of% @N.aWX)/\(type_of% @N.aWW)/\(type_of% @N.aWY)/\(type_of% @N.aVi)/\(type_of% @N.cN)/\(type_of% @N.cL)/\(type_of% @N.tL)/\(type_of% @aa)/\(type_of% @jO)/\(type_of% @nL)/\(type_of% @jw):=⟨@ah,@N.aUS,@N.mZ,@N.aXw,@N.aVj,@N.aYc,@N.aYb,@N.aVg,@N.aX4,@N.aUl,@N.aWX,@N.aWW,@N.aWY,@N.aVi,@N.cN,@N.cL,@N.tL,@aa,@jO,@nL,@jw⟩
end Go.Ab
namespace Go.Ab
open Go.ChangeShapes Go.WideShapes Go.ChangeAt Go.RowKit Go.Deep
def ag9:(t:Ty)->t.den->Prop
 | .int k,x=>(Lit.int k x).wf=aZ
 | .bool,_=>True
 | .str,s=>(s:ByteArray).size<=maxLen
 | .slice t,l=>(l:List t.den).length<=maxLen/\∀x∈(l:List t.den),ag9 t x
 | .unit,_=>True
 | .pair a b,x=>ag9 a x.1/\ag9 b x.2
 | .arr n t,l=>(l:List t.den).length=n/\∀x∈(l:List t.den),ag9 t x
 | .iT _,_ | .vC _,_=>False
def B5(P:aT)(rd:TypeId->Ty->Bool):Nat->List Field->Ty->Bool
 |_,[],.unit=>aZ
 |off,f::fs,.pair a b=>ju f.offset off && (rd f.type a && (ju (P.cellsOf f.type) a.size && B5 P rd (off+a.size) fs b))
 |_,_,_=>aQ
def E0(P:aT):Nat->TypeId->Ty->Bool
 | 0,_,_=>aQ
 |n+1,T,ty=>
  match P.underlying T,ty with
  |some (.int k),.int k'=>decide (k=k')
  |some .bool,.bool=>aZ
  |some .string,.str=>aZ
  |some (.slice e),.slice t=>E0 P n e t && ju (P.cellsOf e) t.size
  |some (.array k e),.arr k' t=>ju k k' && (E0 P n e t && (ju (P.cellsOf e) t.size && ju (P.cellsOf T) (k*t.size)))
  |some (.struct fs),ty=>B5 P (E0 P n) 0 fs.toList ty && ju (P.cellsOf T) ty.size
  |_,_=>aQ
theorem aL3{a b:Nat}:(ju a b=aZ)=(a=b):=propext ⟨fE,λh=>by subst h;exact Nat.beq_refl a⟩
theorem apQ{α β:Type}{f:α->Option β}:∀ {l:List α} {r:List β},l.mapM f=av r->r.length=l.length/\∀(i:Nat) (x:α),l[i]? =av x->f x=r[i]?
 |[],r,h=>by simp only[List.mapM_nil,Option.pure_def,aA]at h;subst h;exact⟨rfl,λi x h=>by simp at h⟩
 |y::l,r,h=>by
  simp only[List.mapM_cons,Option.bind_eq_bind,Option.pure_def,Option.bind_eq_some_iff,aA]at h;obtain⟨b,hb,r',hr,rfl⟩:=h;obtain⟨h1,h2⟩:=apQ hr;refine⟨by simp[h1],λi x hi=> ?_⟩;cases i with
  |zero=>
   simp only[gF,aA]at hi;subst hi;simpa using hb
  |succ i=>
   simp only[nq]at hi ⊢;exact h2 i x hi
theorem azH{w:cd}{base:Nat}{a:Addr}{n:Nat}{cs:List Value}(h:w.cells? base a n=av cs):cs.length=n/\∀i,i < n->w.cell? (a.add i)=cs[i]? :=by
 unfold World.cells? at h;split at h
 ·obtain⟨h1,h2⟩:=apQ h;exact⟨by simpa using h1,λi hi=>h2 i i (by simp[hi])⟩
 ·cases h
theorem add_add(a:Addr)(x y:Nat):(a.add x).add y=a.add (x+y):=by unfold Addr.add;by_cases hx:x=0 <;> by_cases hy:y=0 <;> simp[hx,hy,fy]
theorem aC9{w:cd}{a:Addr}{v:Value}(h:w.cell? a=av v):a.spot=aD:=by
 unfold fq at h;split at h
 ·split at h
  ·cases h
  ·rename_i hs;cases hh:a.spot with
   |none=>rfl
   |some _=>simp[hh]at hs
 ·cases h
theorem aR0{E:Env}(hg:∀b,E.g b= .free){a:Addr}{vs:List Value}(h:∀i,i < vs.length->E.w.cell? (a.add i)=vs[i]?):Ib E (av a) vs:=by
 intro i v hv;have hi:i < vs.length:=(dX.1 hv).1;have h0:=h 0 ak;rw[cj ak]at h0;have hs:a.spot=aD:=aC9 (a:=a) (by simpa[Addr.add]using h0);obtain⟨b,off,sp⟩:=a;simp only at hs;subst hs;refine⟨b,off,rfl,?_,?_⟩
 ·have:=h i hi;rw[hv]at this;rw[<-this];unfold Addr.add;split
  ·rename_i h;subst h;rfl
  ·rfl
 ·unfold wK;rw[hg b];trivial
section
variable {H:Type} {enc:TypeId×Value->H} {P:aT} {base:Nat} {spare:Nat->Bool} {held:Bool} {E:Env}
theorem ayr{t:Ty}{R:List Value->t.den->Prop}{G:t.den->Prop}{w:cd}{a:Addr}{z:Nat}(hR:∀c x,R c x->c.length=z):∀(len:Nat),(∀i,i < len->∃c x,R c x/\G x/\∀j,j < z->w.cell? (a.add (i*z+j))=c[j]?)->
  ∃(vs:List Value) (l:List t.den),vs.length=len*z/\l.length=len/\(∀i,i < vs.length->w.cell? (a.add i)=vs[i]?)/\bI R vs l/\∀x∈l,G x
 | 0,_=>⟨[],[],by simp,rfl,λi h=>by simp at h,rfl,λ_ h=>by cases h⟩
 |len+1,h=>by
  obtain⟨vs,l,h1,h2,h3,h4,h5⟩:=ayr hR len λi hi=>h i ak
  obtain⟨c,x,g1,g2,g3⟩:=h len ak;have hc:=hR c x g1;refine⟨vs++c,l++ [x],by rw[ai,h1,hc,fe,jj],by rw[ai,h2];rfl,λi hi=> ?_,bI.append h4 ⟨c,[],by simp,g1,rfl⟩,λy hy=> ?_⟩
  ·rw[ai,h1,hc]at hi;by_cases hl:i < vs.length
   ·rw[h3 i hl,fS hl]
   ·rw[List.getElem?_append_right ak,h1,<-g3 (i - len*z) ak,show len*z+(i - len*z)=i by omega]
  ·rcases bD.1 hy with hy | hy
   ·exact h5 y hy
   ·rw[bp.1 hy];exact g2
theorem ahB{t:Ty}{R:List Value->t.den->Prop}{G:t.den->Prop}{z:Nat}:∀(n:Nat) (cs:List Value),cs.length=n*z->(∀i,i < n->∃x,R ((cs.drop (i*z)).take z) x/\G x)->
  ∃l:List t.den,l.length=n/\bI R cs l/\∀x∈l,G x
 | 0,cs,h,_=>⟨[],rfl,bK (by simpa using h),λ_ h=>by cases h⟩
 |n+1,cs,h,hi=>by
  obtain⟨x,g1,g2⟩:=hi 0 ak;obtain⟨l,h1,h2,h3⟩:=ahB (R:=R) (G:=G) (z:=z) n (cs.drop z) (by rw[dG,h,fe];omega) λi akR=>by obtain⟨y,k1,k2⟩:=hi (i+1) ak;refine⟨y,?_,k2⟩;rw[gJ,show z+i*z=(i+1)*z by rw[fe];omega];exact k1
  refine⟨x::l,by simp[h1],⟨cs.take z,cs.drop z,(dH z cs).symm,by simpa using g1,h2⟩,λy hy=> ?_⟩;rcases cv.1 hy with rfl | hy
  ·exact g2
  ·exact h3 y hy
theorem Yh{rd:TypeId->Ty->Bool}{cs:List Value}:∀(fs:List Field) (off:Nat) (ty:Ty),B5 P rd off fs ty=aZ->off+ty.size<=cs.length->
  (∀f∈fs,∀t,rd f.type t=aZ->P.cellsOf f.type=t.size->∃v,dA E t ((cs.drop f.offset).take (P.cellsOf f.type)) v/\ag9 t v)->∃v,dA E ty ((cs.drop off).take ty.size) v/\ag9 ty v
 |[],off,ty,h,hl,_=>by
  cases ty <;> simp only[B5]at h <;> first | cases h | skip
  exact⟨(),by simp[dA,Ty.size],trivial⟩
 |f::fs,off,ty,h,hl,hf=>by
  cases ty <;> simp only[B5]at h <;> first | cases h | skip
  rename_i a b;simp only[au,aL3]at h;obtain⟨h1,h2,h3,h4⟩:=h;have hl:off+(a.size+b.size)<=cs.length:=hl;obtain⟨v,k1,k2⟩:=hf f (aK ..) a h2 h3;obtain⟨u,k3,k4⟩:=Yh fs (off+a.size) b h4 ak λf' hf'=>hf f' (aF _ hf')
  refine⟨(v,u),⟨(cs.drop off).take a.size,(cs.drop (off+a.size)).take b.size,?_,?_,k3⟩,k2,k4⟩
  ·rw[show Ty.size (.pair a b)=a.size+b.size from rfl,List.take_add,gJ]
  ·rw[h1,h3]at k1;exact k1
theorem Ta(hg:∀b,E.g b= .free):∀(n:Nat) (T:TypeId) (ty:Ty),E0 P n T ty=aZ->∀ {fuel:Nat} {cs:List Value} {x:DataW H×List MemPlace},DataW.trod enc P E.w base spare held fuel T cs=av x->∃v,dA E ty cs v/\ag9 ty v
 | 0,_,_,h,_,_,_,_=>by simp[E0]at h
 |n+1,T,ty,h,fuel,cs,x,hx=>by
  unfold E0 at h;split at h
  ·rename_i k k' hu;obtain rfl:=of_decide_eq_true h;obtain⟨m,rfl,_,hw⟩:=DataW.trod_int hu hx;exact⟨m,rfl,hw⟩
  ·rename_i hu;obtain⟨b,rfl,_⟩:=DataW.trod_bool hu hx;exact⟨b,rfl,trivial⟩
  ·rename_i hu;obtain⟨s,rfl,_,hs⟩:=DataW.trod_string hu hx;exact⟨s,rfl,hs⟩
  ·rename_i e t hu;simp only[au,aL3]at h;obtain⟨h1,h2⟩:=h;rcases open_slice hu hx with⟨rfl,_⟩ | ⟨a,len,cap,m,f,D,Pl,rfl,_,hl,hm,aWc,_,he⟩
   ·exact⟨([]:List t.den),⟨aD,0,[],rfl,ay _,λh=>by simp at h,λi v hv=>by simp at hv,rfl⟩,aP _,λ_ h=>by cases h⟩
   ·have aTY:len<=m:=by rw[aWc];split <;> omega
    obtain⟨vs,l,k1,k2,k3,k4,k5⟩:=ayr (t:=t) (R:=dA E t) (G:=ag9 t) (w:=E.w) (a:=a) (z:=t.size) (λc x h=>dA.size h) len λi hi=>by obtain⟨cs',g1,g2⟩:=he i ak;obtain⟨v,g3,g4⟩:=Ta hg n e t h1 g2;obtain⟨g5,g6⟩:=azH g1;refine⟨cs',v,g3,g4,λj hj=> ?_⟩;rw[<-g6 j ak,add_add,h2]
    refine⟨l,⟨av a,cap,vs,by rw[k2],by rw[k2];exact hl,λ_=>rfl,aR0 hg k3,k4⟩,by rw[k2];omega,k5⟩
  ·rename_i k e k' t hu;simp only[au,aL3]at h;obtain⟨rfl,h1,h2,h3⟩:=h;obtain⟨xs,m,rfl,_,hl,aLC,he⟩:=DataW.trod_array hu hx;obtain⟨l,k1,k2,k3⟩:=ahB (t:=t) (R:=dA E t) (G:=ag9 t) (z:=t.size) k cs (by rw[hl,h3]) λi hi=>by have:=he i hi;rw[cj ak,h2]at this;exact Ta hg n e t h1 this
   exact⟨l,⟨k1,k2⟩,k1,k3⟩
  ·rename_i ty fs hu;simp only[au,aL3]at h;obtain⟨h1,h2⟩:=h;obtain⟨xs,m,rfl,_,hl,aLC,he⟩:=DataW.trod_struct hu hx;obtain⟨v,k1,k2⟩:=Yh (E:=E) (cs:=cs) fs.toList 0 _ h1 (by rw[hl,h2];omega) λf hf t ht hc=>by
    obtain⟨i,hi,aYJ⟩:=List.mem_iff_getElem.1 hf;have hi':i < fs.size:=by simpa using hi
    have:=he i f (by rw[<-aYJ];simp[hi']);rw[cj ak]at this;exact Ta hg n f.type t ht this
   refine⟨v,?_,k2⟩;rwa[aG,bk ak]at k1
  ·cases h
end
end Go.Ab
namespace Go.Ab
open Go.ChangeShapes Go.WideShapes Go.ChangeAt Go.RowKit Go.Deep
section
variable {H:Type} {enc:TypeId×Value->H} {P:aT} {base b0:Nat} {spare:Nat->Bool} {held:Bool} {E:Env} {W:cd}
theorem atM{rd:TypeId->Ty->Bool}{fs:List Field}{off:Nat}{ty:Ty}(h:B5 P rd off fs ty=aZ):ty.agg=aZ:=by cases fs <;> cases ty <;> first | rfl | (simp[B5]at h)
theorem aJo(hw:E.w=W)(hg:∀b,E.g b= .free){n:Nat}{t:TypeId}{ty:Ty}(h:E0 P n t ty=aZ){v:Value}{d:DataW H}{ps:List MemPlace}(B9:Value.okWide P W .any base t v)(hd:DataW.Trod enc P W b0 spare held t v d ps):
  ∃x:ty.den,VS E (.d ty x) v/\ag9 ty x:=by
 subst hw;obtain⟨fuel,hf⟩:=hd;obtain⟨x,h1,h2⟩:=Ta hg n t ty h hf;refine⟨x,⟨v.cells.toList,h1,?_⟩,h2⟩;cases n with
 |zero=>simp[E0]at h
 |succ n=>
  unfold E0 at h;split at h
  ·rename_i k k' hu;obtain⟨m,rfl⟩:=okWide_int hu B9;rfl
  ·rename_i hu;obtain⟨m,rfl⟩:=okWide_bool hu B9;rfl
  ·rename_i hu;obtain⟨m,rfl⟩:=okWide_string hu B9;rfl
  ·rename_i hu;obtain⟨a,len,cap,rfl⟩:=okWide_slice hu B9;rfl
  ·rename_i hu;simp only[Value.okWide,hu]at B9;obtain⟨cs,rfl,_⟩:=B9;show _=_;simp[Value.cells]
  ·rename_i fs hu;simp only[Value.okWide,hu]at B9;obtain⟨cs,rfl,_⟩:=B9;simp only[au]at h;have:=atM h.1;simp only[aC.agg,this,gI,Value.cells,Array.toArray_toList]
  ·cases h
def DV:List Ty->Type
 |[]=>Unit
 |t::ts=>t.den×DV ts
def DV.jL:(ts:List Ty)->DV ts->List aC
 |[],_=> []
 |t::ts,x=> .d t x.1::DV.jL ts x.2
def DV.aW6:(ts:List Ty)->DV ts->Prop
 |[],_=>True
 |t::ts,x=>ag9 t x.1/\DV.aW6 ts x.2
def yh(P:aT)(n:Nat):List TypeId->List Ty->Bool
 |[],[]=>aZ
 |T::Ts,t::ts=>E0 P n T t && yh P n Ts ts
 |_,_=>aQ
theorem aiJ(hw:E.w=W)(hg:∀b,E.g b= .free){n:Nat}:∀ {Ts:List TypeId} {ts:List Ty} {vs:List Value} {ds:List (DataW H)} {ps:List MemPlace},yh P n Ts ts=aZ->
  (∀(j:Nat) t v,Ts[j]? =av t->vs[j]? =av v->Value.okWide P W .any base t v)->DataW.TrodAll enc P W b0 spare held Ts vs ds ps->∃x:DV ts,zI E (DV.jL ts x) vs/\DV.aW6 ts x
 |[],[],vs,ds,ps,_,_,h=>by obtain⟨rfl,rfl,rfl⟩:=trodAll_nil h;exact⟨(),trivial,trivial⟩
 |T::Ts,[],_,_,_,h,_,_=>by simp[yh]at h
 |[],t::ts,_,_,_,h,_,_=>by simp[yh]at h
 |T::Ts,t::ts,vs,ds,ps,h,B9,hd=>by simp only[yh,au]at h;obtain⟨v,vs',d,ds',p,q,rfl,rfl,rfl,h1,h2⟩:=trodAll_cons hd;obtain⟨x,k1,k2⟩:=aJo hw hg h.1 (B9 0 T v rfl rfl) h1;obtain⟨y,k3,k4⟩:=aiJ hw hg h.2 (λj t v hj hv=>B9 (j+1) t v (by simpa using hj) (by simpa using hv)) h2;exact⟨(x,y),⟨k1,k3⟩,⟨k2,k4⟩⟩
def yU(P:aT)(Ts:List TypeId):Bool:=Ts.all λt=>P.readableRec t && decide (t < P.types.size)
theorem OB(hl:laidOutB P=aZ){W':cd}(hb:Below W.heap.size W W')(sp:Nat->Bool):∀ {Ts:List TypeId} {vs:List Value} {ds:List (DataW H)} {ps:List MemPlace},yU P Ts=aZ->(∀p∈ps,p.block < W.heap.size)->(∀p∈ps,sp p.block=aZ)->
  DataW.TrodAll enc P W 0 (λ_=>aZ) aZ Ts vs ds ps->DataW.TrodAll enc P W' 0 sp aZ Ts vs ds ps
 |[],vs,ds,ps,_,_,_,h=>by obtain⟨rfl,rfl,rfl⟩:=trodAll_nil h;exact trodAll_mk0
 |T::Ts,vs,ds,ps,hr,iA,hs,h=>by obtain⟨v,vs',d,ds',p,q,rfl,rfl,rfl,h1,h2⟩:=trodAll_cons h;simp only[yU,fK,au,bf]at hr;have h3:=WideElems.Trod_stays hl hr.1.1 hr.1.2 h1 (λx hx=>hb.same (iA x (bD.2 (.inl hx)))) (λx hx=>hs x (bD.2 (.inl hx)));exact⟨p,q,h3,OB hl hb sp (by simpa[yU]using hr.2) (λx hx=>iA x (bD.2 (.inr hx))) (λx hx=>hs x (bD.2 (.inr hx))) h2,rfl⟩
end
theorem LH{H:Type}{enc:TypeId×Value->H}{P:aT}{W:cd}{b0:Nat}{spare:Nat->Bool}{held:Bool}:∀ {Ts:List TypeId} {vs:List Value} {ds:List (DataW H)} {ps:List MemPlace},DataW.TrodAll enc P W b0 spare held Ts vs ds ps->ds.length=Ts.length
 |[],_,_,_,h=>by obtain⟨_,rfl,_⟩:=trodAll_nil h;rfl
 |_::_,_,_,_,h=>by obtain⟨v,vs',d,ds',p,q,rfl,rfl,rfl,h1,h2⟩:=trodAll_cons h;simp[LH h2]
theorem aqo{H:Type}{enc:TypeId×Value->H}{P:aT}{f:Func}{s:ChangeSpec}{W W':cd}{args:Array Value}{v:Value}{ds gs:List (DataW H)}{before:List MemPlace}{tb:TypeId}
  (hl:laidOutB P=aZ) (asl:yU P f.params.toList=aZ) (aph:s.vars=[]) (aWx:f.resultTypes= #[tb]) (aWA:P.underlying tb=av .bool)
  (hW:DataW.Whole enc P f.params.toList s.vars aQ W args.toList ds gs before) (aQ5:s.fn H (ds++gs)= {results:=[.lit (.bool aZ)],args:=ds}) (hb:Below W.heap.size W W') (hv:v= .bool aZ):
  s.post enc P f aQ aZ aQ aQ W args v W':=by
 subst hv;have hW':=hW;have hold:∀p∈before,(λb=>decide (b < W.heap.size)) p.block=aZ:=λp hp=>by simpa using hW.lt p hp
 obtain⟨p,q,hA,hV,rfl,hz,_⟩:=hW;rw[aph]at hV;obtain⟨rfl,rfl⟩:=trodVars_none hV;have iA:∀x∈p,x.block < W.heap.size:=λx hx=>hW'.lt x (bD.2 (.inl hx))
 have NJ:∀sp:Nat->Bool,(∀x∈p,sp x.block=aZ)->DataW.TrodAll enc P W' 0 sp aZ f.params.toList args.toList (s.fn H (ds++ [])).args p:=λsp hs=>by rw[aQ5];exact OB hl hb sp asl iA hs hA
 have aWr:∀(b:Nat) (sp:Nat->Bool) (hd:Bool),DataW.TrodAll enc P W' b sp hd f.resultTypes.toList ((Value.bool aZ).resultList f.resultTypes.size) (s.fn H (ds++ [])).results []:=λb sp hd=>by rw[aQ5,aWx];exact trodAll_mk1 (shut_bool aWA _)
 have Xy:∀sp:Nat->Bool,DataW.TrodVars enc P W' sp s.vars (s.fn H (ds++ [])).vars []:=λsp=>by rw[aQ5,aph];rfl
 refine⟨ds,[],p++ [],[],p,[],hW',aWr _ _ _,NJ _ (λx hx=>hold x (bD.2 (.inl hx))),Xy _,hb.frame _,λh=>by cases h⟩
theorem KR{P:aT}{n:Nat}:∀ {Ts:List TypeId} {ts:List Ty},yh P n Ts ts=aZ->Ts.length=ts.length
 |[],[],_=>rfl
 |[],_::_,h=>by simp[yh]at h
 |_::_,[],h=>by simp[yh]at h
 |_::_,_::_,h=>by simp only[yh,au]at h;simp[KR h.2]
theorem aA2{H:Type}{enc:TypeId×Value->H}{P:aT}{f:fV}{fn:Func}{en:Entry}{s:ChangeSpec}{tb:TypeId}(n:Nat)(tys:List Ty)(hD:si P f en)(hf:P.funcs[f]? =av fn)(aTC:fn.body.isSome=aZ)(B8:(fn.name== "runtime.NumGoroutine")=aQ)
  (hl:laidOutB P=aZ) (aPK:yh P n fn.params.toList tys=aZ) (asl:yU P fn.params.toList=aZ) (aph:s.vars=[]) (aWx:fn.resultTypes= #[tb]) (aWA:P.underlying tb=av .bool)
  (aQ5:∀ds:List (DataW H),ds.length=tys.length->s.fn H (ds++ [])= {results:=[.lit (.bool aZ)],args:=ds})
  (im:∀x:DV tys,DV.aW6 tys x->∃r,en.run (DV.jL tys x) []=av r/\en.out (DV.jL tys x) [] r=⟨.d .bool aZ,[],[]⟩)
  {W:cd} {base:Nat} {args:Array Value} {ds gs:List (DataW H)} {before:List MemPlace}
  (B9:∀(j:Nat) t v,fn.params[j]? =av t->args[j]? =av v->Value.okWide P W .any base t v)
  (hW:DataW.Whole enc P fn.params.toList s.vars aQ W args.toList ds gs before):
  Calls P f args W λe W'=>∃v,e= .returned v/\s.post enc P fn aQ aZ aQ aQ W args v W':=by
 have hW':=hW;obtain⟨p,q,hA,hV,_,_,_⟩:=hW;rw[aph]at hV;obtain⟨rfl,rfl⟩:=trodVars_none hV;obtain⟨x,aRr,aVc⟩:=aiJ (E:=(gw []).env W (λ_=> .free) (λ_=>aD)) rfl (λ_=>rfl) aPK (λj t v hj hv=>B9 j t v (by simpa using hj) (by simpa using hv)) hA;obtain⟨r,aHf,afU⟩:=im x aVc;have dh:(callFunc f args).run P W= .ok (.enter f args) W:=by
  unfold callFunc;obtain⟨c,hc⟩:=bR.1 aTC;have hname':¬fn.name= "runtime.NumGoroutine" :=by simpa using B8
  simp[hf,hname',hc]
 have hlen:ds.length=tys.length:=by rw[LH hA,KR aPK]
 have ho:jE ((gw []).env W (λ_=> .free) (λ_=>aD)):=λid ver fr c h=>by
  exfalso;cases id with
  |bt k=>simp[AS.env,AS.cq,gw]at h
  |new i j=>simp[AS.env,AS.cq,gw]at h
 rcases hD W (λ_=> .free) (λ_=>aD) (DV.jL tys x) [] args.toList r aRr ho aHf with⟨_,hc⟩ | ⟨v,w',hc,_⟩
 ·refine hc.mono λe w' he=> ?_
  obtain⟨v,rfl,g',β',h1,_,h2,_⟩:=he;rw[afU]at h1;refine⟨v,rfl,aqo hl asl aph aWx aWA hW' (aQ5 ds hlen) ⟨h2.os,h2.tape,h2.output.1,h2.size,λb hb=>(h2.UP b hb).2⟩ ?_⟩;obtain⟨cs,k1,k2⟩:=h1;have k1:cs=[.bool aZ]:=k1;subst k1;have k2: [Value.bool aZ]=[v]:=k2;simpa using k2.symm
 ·rw[show args.toList.toArray=args from Array.toArray_toList ..,dh]at hc;cases hc
end Go.Ab
namespace Go.Ab
abbrev W:=BitVec 32
def xr(w:W)(k:Nat):W:=w <<< (32 - k) ||| w >>> k
def aTe(a b c d:Int):W:=bo 32 a <<< 24 ||| bo 32 b <<< 16 ||| bo 32 c <<< 8 ||| bo 32 d
def be(l:List Int)(i:Nat):W:=aTe (l.getD (4*i) 0) (l.getD (4*i+1) 0) (l.getD (4*i+2) 0) (l.getD (4*i+3) 0)
structure St where
 a:W
 b:W
 c:W
 d:W
 e:W
 f:W
 g:W
 h:W
def St.l(s:St):List Int:=[vw s.a,vw s.b,vw s.c,vw s.d,vw s.e,vw s.f,vw s.g,vw s.h]
def aW9(x:W):W:=xr x 7^^^xr x 18^^^x >>> 3
def aXa(y:W):W:=xr y 17^^^xr y 19^^^y >>> 10
def aPY(l:List W)(i:Nat):W:=l.getD (i - 16) 0+aW9 (l.getD (i - 15) 0)+l.getD (i - 7) 0+aXa (l.getD (i - 2) 0)
def ext(l:List W):List W:=l++ [aPY l l.length]
def aLF(m:List W):Nat->List W
 | 0=>m
 |n+1=>ext (aLF m n)
def words(b:List Int):List W:=(List.range 16).map (be b)
def sched(b:List Int):List W:=aLF (words b) 48
def kl:List Nat:=[0x428a2f98,0x71374491,0xb5c0fbcf,0xe9b5dba5,0x3956c25b,0x59f111f1,0x923f82a4,0xab1c5ed5,0xd807aa98,0x12835b01,0x243185be,0x550c7dc3,0x72be5d74,0x80deb1fe,0x9bdc06a7,0xc19bf174,0xe49b69c1,0xefbe4786,0x0fc19dc6,0x240ca1cc,0x2de92c6f,0x4a7484aa,0x5cb0a9dc,0x76f988da,0x983e5152,0xa831c66d,0xb00327c8,0xbf597fc7,0xc6e00bf3,0xd5a79147,0x06ca6351,0x14292967,0x27b70a85,0x2e1b2138,0x4d2c6dfc,0x53380d13,0x650a7354,0x766a0abb,0x81c2c92e,0x92722c85,0xa2bfe8a1,0xa81a664b,0xc24b8b70,0xc76c51a3,0xd192e819,0xd6990624,0xf40e3585,0x106aa070,0x19a4c116,0x1e376c08,0x2748774c,0x34b0bcb5,0x391c0cb3,0x4ed8aa4a,0x5b9cca4f,0x682e6ff3,0x748f82ee,0x78a5636f,0x84c87814,0x8cc70208,0x90befffa,0xa4506ceb,0xbef9a3f7,0xc67178f2]
def kw(i:Nat):W:=BitVec.ofNat 32 (kl.getD i 0)
def Vz:List Int:=kl.map λ(n:Nat)=>(n:Int)
def mY(s:St)(k w:W):St:=
 let t:=s.h+(xr s.e 6^^^xr s.e 11^^^xr s.e 25)+(s.g^^^s.e &&& (s.f^^^s.g))+k+w
 let r:=xr s.a 2^^^xr s.a 13^^^xr s.a 22
 let most:=s.a &&& s.b ||| s.c &&& (s.a ||| s.b)
 ⟨t+r+most,s.a,s.b,s.c,s.d+t,s.e,s.f,s.g⟩
def rounds(ws:List W)(s:St):Nat->St
 | 0=>s
 |n+1=>mY (rounds ws s n) (kw n) (ws.getD n 0)
def VI(s:St)(b:List Int):St:=
 let v:=rounds (sched b) s 64
 ⟨v.a+s.a,v.b+s.b,v.c+s.c,v.d+s.d,v.e+s.e,v.f+s.f,v.g+s.g,v.h+s.h⟩
def tZ:St:=⟨0x6a09e667,0xbb67ae85,0x3c6ef372,0xa54ff53a,0x510e527f,0x9b05688c,0x1f83d9ab,0x5be0cd19⟩
def Di:Nat->St->List Int->St
 | 0,s,_=>s
 |n+1,s,l=>Di n (VI s (l.take 64)) (l.drop 64)
def blocks(s:St)(l:List Int):St:=Di (l.length / 64) s l
def aUU(w:W)(k:Nat):Int:=vw ((w >>> (24 - 8*k)).setWidth 8)
def aMc(w:W):List Int:=[aUU w 0,aUU w 1,aUU w 2,aUU w 3]
def aN7(s:St):List Int:=aMc s.a++aMc s.b++aMc s.c++aMc s.d++aMc s.e++aMc s.f++aMc s.g++aMc s.h
def jV(n:Int):List Int:=[n / 2^56%256,n / 2^48%256,n / 2^40%256,n / 2^32%256,n / 2^24%256,n / 2^16%256,n / 2^8%256,n%256]
def Co(n:Nat):Nat:=(119 - n%64)%64
def pad(b:List Int):List Int:=b++128::(ab (Co b.length) 0++jV (8*b.length))
def aR4(b:List Int):List Int:=aN7 (blocks tZ (pad b))
def pL(parts:List (List Int)):List Int:=parts.flatMap λp=>jV p.length++p
def Ww(name:List Int)(parts:List (List Int)):List Int:=jV name.length++name++pL parts
def tag(name:List Int)(parts:List (List Int)):List Int:=aR4 (Ww name parts)
theorem avW(b:List Int):(aR4 b).length=32:=rfl
theorem cJ(n:Int):(jV n).length=8:=rfl
theorem w5(l:List W):(ext l).length=l.length+1:=by simp[ext]
theorem C0(m:List W):∀n,(aLF m n).length=m.length+n
 | 0=>rfl
 |n+1=>by rw[aLF,w5,C0 m n];omega
theorem fF(b:List Int):(words b).length=16:=by simp[words]
theorem Js:∀(n:Nat) (s:St) (a b:List Int),a.length=64*n->∀m,Di (n+m) s (a++b)=Di m (Di n s a) b
 | 0,s,a,b,h,m=>by have:a=[]:=bK ak;subst this;simp[Di]
 |n+1,s,a,b,h,m=>by rw[show n+1+m=(n+m)+1 by omega,Di,Di];rw[fP ak,List.drop_append_of_le_length ak];exact Js n _ _ _ (by simp;omega) m
theorem M9(s:St)(a b:List Int)(h:a.length%64=0):blocks s (a++b)=blocks (blocks s a) b:=by
 unfold blocks;have e:(a++b).length / 64=a.length / 64+b.length / 64:=by simp;omega
 rw[e];exact Js _ _ _ _ ak _
theorem Jt(s:St)(l:List Int)(h:64<=l.length):blocks s l=blocks (VI s (l.take 64)) (l.drop 64):=by unfold blocks;rw[show l.length / 64=(l.drop 64).length / 64+1 by simp;omega];rfl
theorem Gt(s:St)(l:List Int)(h:l.length < 64):blocks s l=s:=by unfold blocks;rw[show l.length / 64=0 by omega];rfl
def ajp(x:Int):Prop:=0<=x/\x < 256
def Bytes(l:List Int):Prop:=∀x∈l,ajp x
theorem aMd(w:BitVec 8):ajp (vw w):=⟨WE w,aKZ w⟩
theorem ajp.vw{x:Int}(h:ajp x):x=vw (bo 8 x):=by rw[iS];obtain⟨h1,h2⟩:=h;omega
theorem as6(s:St):Bytes (aN7 s):=by intro x hx;simp only[aN7,aMc,bD,cv,List.not_mem_nil,or_false]at hx;rcases hx with((((((hx | hx) | hx) | hx) | hx) | hx) | hx) | hx <;> rcases hx with rfl | rfl | rfl | rfl <;> exact aMd _
theorem azC(b:List Int):Bytes (aR4 b):=as6 _
theorem Fm(n:Int):Bytes (jV n):=by intro x hx;simp only[jV,cv,List.not_mem_nil,or_false]at hx;rcases hx with rfl | rfl | rfl | rfl | rfl | rfl | rfl | rfl <;> exact⟨ak,ak⟩
end Go.Ab
end
