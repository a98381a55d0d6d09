/-
  Made short by a program of mine (wip/tools/mini.py).
-/
import Derived.Test.YtodfaneojnkngaaGreatS28x2
import Derived.Scope
import Derived.Laws.Externs
import Derived.KernelRfl
import Derived.ProofKit
import Derived.OpenShut
import Derived.Deep.Slices
import Derived.Carry
set_option linter.unusedVariables false
set_option linter.unusedSimpArgs false
set_option maxRecDepth 100000
set_option synthInstance.maxSize 5000
open Int renaming toNat->ae
open List renaming replicate->ab
open BitVec renaming ofInt->bh
open Nat renaming beq->iO
open UInt8 renaming ofNat->fm
open Sum renaming getLeft?->cU
noncomputable section
namespace Go.Ab
section
variable {P:Program} {Γ:oR} {an:xi} {C:Ctx}
open Classical in
def aPH(p:Prop):Option Unit:=if p then some () else none
theorem aof{p:Prop}(h:aPH p=some ()):p:=by
 unfold aPH at h;split at h
 ·assumption
 ·cases h
theorem aGB{p:Prop}(h:p):aPH p=some ():=by unfold aPH;rw[if_pos h]
theorem avB{X R:Type}{S:X->Prop}{k:X->Option R}{x:Option R}(hn:∃y,S y)(h:∀y,S y->k y=x):ZG S k=x:=by
 unfold ZG;cases x with
 |none=>exact Cg λ⟨r,⟨y,hy⟩,hr⟩=>by have:=h y hy;rw[hr y hy]at this;cases this
 |some r=>
  have hx:∃r,(∃x,S x)/\∀x,S x->k x=some r:=⟨r,hn,h⟩;rw[ze hx];obtain⟨⟨y,hy⟩,h1⟩:=hx.choose_spec;have:=h1 y hy;rw[h y hy]at this;exact this.symm
def au0(P:Program)(Γ:oR)(an:xi)(N:Nat)(b:Code):Prop:=∀le,an.fF (dL b)=some le->(le.set=none->∀s x,le.run s=some x->∃n,VQ (norm P (an.loops (dL b))) (λe=>norm P (an.outs (dL b) (anC e))) (ev P Γ an N b) n s (λe s'=>some (e,s'))=(le.out x).eval)/\∀S,le.set=some S->∀s,(∃x,S s x)->∃n,VQ (norm P (an.loops (dL b))) (λe=>norm P (an.outs (dL b) (anC e))) (ev P Γ an N b) n s (λe s'=>aPH (∃x,S s x/\(le.out x).eval=some (e,s')))=some ()
def kM(P:Program)(Γ:oR)(an:xi)(N:Nat):List Code->Prop
 |[]=>True
 |b::l=>au0 P Γ an N b/\kM P Γ an N l
theorem kM.append{N:Nat}:∀ {l l':List Code},kM P Γ an N (l++l')->kM P Γ an N l/\kM P Γ an N l'
 |[],_,h=>⟨trivial,h⟩
 |_::_,_,⟨h1,h2⟩=>⟨⟨h1,(kM.append h2).1⟩,(kM.append h2).2⟩
theorem tT{c:Code}{b:Frame}{a:Act}{k:List Item}{cs:List Frame}{w:World}:step P (lone (b.atR a (.code (.scope c)::k)) cs w)= .next (lone (b.atR a (.code c:: .inScope c::k)) cs w):=
 step_lone_go (by simp[stepG,stepG.exec,Frame.atR])
theorem aeN{c:Code}{b:Frame}{a:Act}{k:List Item}{cs:List Frame}{w:World}:step P (lone (b.atR a (.inScope c::k)) cs w)= .next (lone (b.atR a k) cs w):=
 step_lone_go (by simp[stepG,stepG.exec,Frame.atR])
theorem Lo{F:Fence}{n:Nat}{Q:Exit->Act->World->Prop}{a:Act}{w:World}{c:Code}(h:c.wpIn F n P (Exit.noGoto Q) a w):(Code.scope c).wpIn F n P Q a w:=by
 intro b k cs aWW hb hr;have h0:(lone (b.atR a (.code (.scope c)::k)) cs w).fenced P F:=fenced_calm hb hr rfl;obtain⟨e,a1,w1,hq,hx⟩:=h b (.inScope c::k) cs aWW hb hr;cases e with
 |normal=>exact⟨.normal,a1,w1,hq,.head h0 tT (StepsIn.trans hx (.one (fenced_calm hb hr rfl) aeN))⟩
 |exit i=>
  have e1:exitTo i (.inScope c::k)=exitTo i k:=by simp[exitTo]
  exact⟨.exit i,a1,w1,hq,λk' hk=> .head h0 tT (hx.1 k' (e1.trans hk)),λh1 hk=>let⟨k2,h2,h3⟩:=hx.2 h1 (e1.trans hk);⟨k2,h2,.head h0 tT h3⟩⟩
 |goto l=>exact hq.elim
 |ret=>exact⟨_,a1,w1,hq,.of_steps (.one h0 tT) hx⟩
 |panic ch=>exact⟨_,a1,w1,hq,.of_steps (.one h0 tT) hx⟩
 |outgrown=>exact⟨_,a1,w1,hq,.of_steps (.one h0 tT) hx⟩
theorem FU{rd:Option Nat}{m:Nat}{R:Type}{r:R}{b:Code}{nrm:AS->Out AS}{nrmX:Exit->AS->Out AS}{body:AS->(Exit->AS->Option R)->Option R}
  (hn:∀s s1 a w,iB C s a w->(nrm s).eval=some s1->iB C s1 a w) (hx:∀e s s1 a w,iB C s a w->(nrmX e s).eval=some s1->iB C s1 a w)
  (hb:∀(s:AS) (a:Act) (w:World) (k:Exit->AS->Option R) (Q:Exit->Act->World->Prop),iB C s a w->body s k=some r->(∀e s' a' w',iB C s' a' w'->k e s'=some r->Q e a' w')->b.wpIn (Fr rd) m P Q a w)
  {k:Exit->AS->Option R} {Q:Exit->Act->World->Prop} (hk:∀e s' a' w',iB C s' a' w'->k e s'=some r->Q e a' w'):
  ∀(n:Nat) (s:AS) (a:Act) (w:World),iB C s a w->VQ nrm nrmX body n s k=some r->Code.roundsIn (Fr rd) m P b Q n a w
 | 0,s,a,w,_,h=>by simp[VQ]at h
 |n+1,s,a,w,hs,h=>by
  simp only[VQ]at h;rw[roundsIn_succ];refine hb s a w _ _ hs h λe s' a' w' hs' aRF=> ?_
  have exits:∀e,(nrmX e s').run (k e)=some r->Q e a' w':=λe aRF=>by obtain⟨s1,h1,h2⟩:=iy.1 aRF;exact hk e s1 a' w' (hx e s' s1 a' w' hs' h1) h2
  cases e with
  |normal=>
   simp only at aRF;obtain⟨s1,h1,h2⟩:=iy.1 aRF;exact FU hn hx hb hk n s1 a' w' (hn s' s1 a' w' hs' h1) h2
  |_=>exact exits _ aRF
theorem QK{rd:Option Nat}{n:Nat}(hC:C.ok){j:Option rr}{run: {R:Type}->(Exit->AS->Option R)->Option R}{c:Code}{a:Act}{w:World}
  (gG:∀ {R:Type} {r:R} (k:Exit->AS->Option R) (Q:Exit->Act->World->Prop),run k=some r->(∀e s' a' w',iB C s' a' w'->k e s'=some r->Q e a' w')->c.wpIn (Fr rd) n P Q a w)
  {R:Type} {r:R} {k:Exit->AS->Option R} {Q:Exit->Act->World->Prop} (h:TF P j run k=some r) (hk:∀e s' a' w',iB C s' a' w'->k e s'=some r->Q e a' w'):c.wpIn (Fr rd) n P Q a w:=by
 cases j with
 |none=>exact gG k Q h hk
 |some j=>
  simp only[TF]at h;cases hx:run λe s=>(norm P j.an s).run (j.ay4 e) with
  |none=>rw[hx]at h;cases h
  |some x=>
   rw[hx]at h;simp only[al]at h;obtain⟨y,hy,h⟩:=iy.1 h;refine gG _ Q hx λe s' a' w' hs' hK=> ?_
   obtain⟨s1,h1,h2⟩:=iy.1 hK;have he:=j.ok _ _ _ h2;rw[hy,az]at he;subst he;exact hk e s1 a' w' (pH hC hs' h1) h
theorem Inv.aw4{g:Nat->mz}{β:Id->Option Pl}{s:AS}{a:Act}{w:World}(h:Inv C g β s a w):
  Inv C (nT g w.heap.size (.own .eo 0)) β s {a with defers:=vK w.heap.size::a.defers} (w.alloc (.deferred (some []))):=by
 have ht:=Trans.alloc w g (.deferred (some [])) (.own .eo 0);have he:cM (s.env w g β) (s.env (w.alloc (.deferred (some []))) (nT g w.heap.size (.own .eo 0)) β):=cM.same ht;have h1:=h.step rfl ht he (iZ.same h.bJ he λi ver fr c pl hi hp=>by
  have hl:=((h.bJ i ver fr c hi).label (pl:=pl) hp).1;have hl':pl.b < w.heap.size:=hl;exact⟨rA w _ hl',fA _ _ _ ak⟩)
 refine⟨⟨cV.2 ⟨λhm=> ?_,h1.defers.1⟩,λd hd=> ?_⟩,h1.size,h1.ct,h1.bJ,h1.trans,h1.le⟩
 ·obtain⟨D,e,_,hh,_⟩:=h.defers.2 _ hm;have e:Deferred.mk (.collected w.heap.size) #[]=Deferred.mk (.collected D) #[]:=e;injection e with e _
  injection e with e
  have:=(bP.1 hh).1;omega
 ·rcases bY.1 hd with rfl | hd
  ·exact⟨w.heap.size,rfl,h.trans.size,ui w _,fH _ _ _⟩
  ·exact h1.defers.2 d hd
theorem Ns:∀l:List aB,(mF l).list=l
 |[]=>rfl
 |a::l=>by simp[mF,aB.list,Ns l]
theorem Ej(aV:List Nat):∀(i:Nat) (l:List aB),(eI aV i l).length=l.length
 |_,[]=>rfl
 |i,_::l=>by simp[eI,Ej aV (i+1) l]
theorem Me(aV:List Nat):∀(l:List aB) (i j:Nat),(eI aV i l).getD j .undef=l.getD j .undef\/(eI aV i l).getD j .undef= .undef
 |[],_,_=> .inl rfl
 |v::l,i,0=>by
  simp only[eI,jz];split
  ·exact .inl rfl
  ·exact .inr rfl
 |v::l,i,j+1=>by simpa[eI]using Me aV l (i+1) j
theorem Inv.frame{g:Nat->mz}{β:Id->Option Pl}{s:AS}{a:Act}{w:World}(h:Inv C g β s a w)(aV:List Nat):EY (s.env w g β) (mF (eI aV 0 s.ct)) a.tmps:=by
 refine⟨by rw[Ns,Ej,h.size],λi=> ?_⟩;rw[Ns];rcases Me aV s.ct 0 i with e | e
 ·rw[e];exact h.ct i
 ·rw[e];exact VS.undef
theorem aMi(a:Act)(q:Nat)(x:Value):(a.put (some q) x).put (some q) (a.tmps.getD q undef)=a:=by
 obtain⟨t,d⟩:=a;simp only[Act.put];congr 1;apply sO;intro i;simp only[dT,Array.size_setIfInBounds];by_cases h:q=i
 ·subst h;by_cases hl:q < t.size
  ·simp[hl]
  ·simp[hl]
 ·simp[h]
theorem Ro{g:Nat->mz}{β:Id->Option Pl}{s s':AS}{a:Act}{w:World}{q p:Nat}(h:Inv C g β s a w)(he:s.T4 q p=some s'):∃pl r,β (.bm 0)=some pl/\(s.env w g β).cur (.bm 0) 0/\w.heap[pl.b]? =some (.loop r)/\aoZ q r.state r.pending/\
  ∀r':Loop,r'.params=r.params->r'.assign=r.assign->r'.body=r.body->r'.tmps=r.tmps->aoZ p r'.state r'.pending->Inv C g β s' a (w.putObj pl.b (.loop r')):=by
 unfold AS.T4 at he;split at he;rotate_left
 ·cases he
 rename_i c f q' cQ;split at he;rotate_left
 ·cases he
 rename_i hq;obtain rfl:q=q':=eW hq;obtain rfl:=bf he;obtain⟨pl,r,hp,hb,hg,⟨q1,q2,q3⟩,avP,mG⟩:=h.bJ (.bm 0) 0 false _ cQ;have hp:β (.bm 0)=some pl:=hp;have hb:w.heap[pl.b]? =some (.loop r):=hb
 have hg:g pl.b= .own (.id (.bm 0)) 0:=hg;refine⟨pl,r,hp,⟨false,_,cQ⟩,hb,mG,λr' e1 e2 e3 e4 hs'=> ?_⟩;have gQ:pl.b < w.heap.size:=(bP.1 hb).1;have hother:∀b',b'≠pl.b->(w.putObj pl.b (.loop r')).heap[b']? =w.heap[b']? :=λb' gF=>World.putObj_heap_other gF
 have ht:Trans w (w.putObj pl.b (.loop r')) g g:=by
  refine⟨rfl,rfl,⟨rfl,ax _⟩,by simp,λb' _=> ?_⟩;by_cases he:b'=pl.b
  ·subst he;rw[hg];exact⟨.inr ⟨_,0,rfl,ax _⟩,λ_ _ hh=>ak⟩
  ·rw[hother b' he];cases Xa:g b' with
   |free=>exact⟨rfl,rfl⟩
   |own o' k=>cases o' with
    |eo=>exact⟨rfl,rfl⟩
    |id i'=>exact⟨.inr ⟨i',k,rfl,ax _⟩,λoff v _ hv=>by simpa only[World.cell?,hother b' he]using hv⟩
 have hle:cM (s.env w g β) ((s.bl (.bm 0) (.obj 0 false (.rP c f p))).env (w.putObj pl.b (.loop r')) g β):=cM.bl cQ (ax _) ht (λ_ _=>rfl) (λ_=>rfl);refine h.step (dj _ _ _) ht hle (iZ.bl h.bJ (by rw[cQ];simp) hle (λ_ _=>rfl) (λi ver fr c pl2 hi Z4 XY=>⟨hother _ (h.apart hg hi Z4 XY),rfl⟩) ?_ (QT cQ));exact⟨pl,r',hp,World.putObj_heap_same gQ,hg,⟨e1.trans q1,e2.trans q2,e3.trans q3⟩,by rw[e4];exact avP.mono hle,hs'⟩
theorem XD{n:Nat}(hΓ:Sound P Γ){f:Operand}{ps:Array Tmp}{as b:Code}{R:Type}{r:R}{k:Exit->AS->Option R}{Q:Exit->Act->World->Prop}{s:AS}{a:Act}{w:World}(h:iB C s a w)
  (he:Gn P Γ an s f ps as b k=some r) (hk:∀e s' a' w',iB C s' a' w'->k e s'=some r->Q e a' w'):(Code.rangeFunc f ps as b).wpIn (Fr none) n P Q a w:=by
 obtain⟨g,β,h⟩:=h;unfold Gn at he;split at he;rotate_left
 ·cases he
 rename_i y aV h0 caps aWV aXF hF;split at he;rotate_left
 ·cases he
 rename_i en aRr ar3;simp only[au]at aRr;obtain⟨⟨⟨ayQ,aFp⟩,hq⟩,gQ⟩:=aRr;have hd:=(hΓ _ _ _ ar3).1 gQ;have hdR:=(hΓ _ _ _ ar3).2.2 gQ;generalize aUb:ps.getD 0 0=q at aFp hq he ar3;have hq:q < s.ct.length:=dI hq;obtain⟨vs,hy,aQG⟩:=ZR (hF▸h.ev f);refine wpIn_rangeFunc λfn _=> ?_
 have cQ:=run_enterLoop_outer (P:=P) (w:=w) fn a.tmps ps as b;have i1:=h.aw4;generalize aW3:w.alloc (.deferred (some []))=w1 at i1 cQ;have tW:w1.heap.size=w.heap.size+1:=by rw[<-aW3];exact World.size_alloc ..
 generalize aUc:({state:= .ready,pending:=none,fn,tmps:=a.tmps,params:=ps,assign:=as,body:=b,defers:=w.heap.size}:Loop)=r0 at cQ;have ht:=Trans.alloc w1 (nT g w.heap.size (.own .eo 0)) (.loop r0) (.own (.id (.new q 0)) 0);obtain⟨i2,e2⟩:=i1.SY aFp (c:= .rP ⟨y,ps,as,b⟩ (mF (eI aV 0 s.ct)) 0) (p:=some ⟨w1.heap.size,0⟩) ht (λb hb=>⟨rA w1 _ hb,fA _ _ _ ak⟩) (λhe=>
  ⟨⟨w1.heap.size,0⟩,r0,kh _ _ _,ui w1 _,fH _ _ _,by subst aUc;exact⟨rfl,rfl,rfl⟩,by subst aUc;exact(i1.frame aV).mono he,by subst aUc;exact⟨rfl,rfl⟩⟩)
 generalize nT (nT g w.heap.size (.own .eo 0)) w1.heap.size (.own (.id (.new q 0)) 0)=g2 at i2 e2;generalize hβ2:Kb β (.new q 0) (some ⟨w1.heap.size,0⟩)=β2 at i2 e2;generalize ase:w1.alloc (.loop r0)=w2 at i2 e2 cQ;have aVO:VS ((s.born q [.obj 0 false (.rP ⟨y,ps,as,b⟩ (mF (eI aV 0 s.ct)) 0)]).env w2 g2 β2) (.yl (.new q 0) 0) (.func (.yield w1.heap.size) #[] #[]):=by refine⟨[.func (.yield w1.heap.size) #[] #[]],?_,rfl⟩;simp only[V];exact⟨_,rfl,qs aFp _ _ _ _,λ_=>⟨⟨w1.heap.size,0⟩,by rw[<-hβ2];exact kh _ _ _,rfl⟩⟩
 have i3:=i2.put (some q) aVO;have hF2:(s.born q [.obj 0 false (.rP ⟨y,ps,as,b⟩ (mF (eI aV 0 s.ct)) 0)]).ev f= .fn h0 caps:=by rw[<-hF];cases f <;> rfl
 obtain⟨vs2,aQI,aUp⟩:=ZR (hF2▸i2.ev f);have VF:vs2=vs:=by
  have e:Value.func (.func h0) #[] vs2.toArray= .func (.func h0) #[] vs.toArray:=by rw[<-aQI,<-hy];cases f <;> rfl
  injection e with _ _ e
  simpa using bo Array.toList e
 subst VF;have L9:yA (((s.born q [.obj 0 false (.rP ⟨y,ps,as,b⟩ (mF (eI aV 0 s.ct)) 0)]).put (some q) (.yl (.new q 0) 0)).env w2 g2 β2) (.yl (.new q 0) 0::caps.list) (.func (.yield w1.heap.size) #[] #[]::vs2):=by rw[aiF];exact⟨aVO,ahC aUp⟩
 have aVs:∀args:Array Value,(callFunc h0 args).run P w2= .ok (.enter h0 args) w2:=λargs=>by
  unfold ao1 at ayQ;split at ayQ
  ·rename_i fn' aOX;simp only[au,cC,gE]at ayQ;obtain⟨c,hc⟩:=bO.1 ayQ.2;unfold callFunc;simp[aOX,ayQ.1,hc]
  ·cases ayQ
 have post:∀ {s3:AS} {w3:World} {v:Value},iB C s3 ((({a with defers:=vK w.heap.size::a.defers}:Act).put (some q) (.func (.yield w1.heap.size) #[] #[])).put none v) w3->∀ {c:vB} {fr:aB} {p:Nat},s3.bW (.new q 0)=some (.obj 0 false (.rP c fr p))->s3.slot q= .yl (.new q 0) 0->p≠1->
   ∃jump w4,(Instr.endLoop w1.heap.size).run P w3= .ok jump w4/\aoZ p (if p=0 then .ready else .done) jump/\iB C ((s3.bl (.new q 0) .dead).put (some q) .undef) {a with defers:=vK w.heap.size::a.defers} w4:=by
  intro s3 w3 v aPc c fr p Z2 aFk aJA;obtain⟨g3,β3,i5⟩:=aPc;obtain⟨pl,r3,hp,hb,hg,_,_,mG⟩:=i5.bJ (.new q 0) 0 false _ Z2;have hp:β3 (.new q 0)=some pl:=hp;have hb:w3.heap[pl.b]? =some (.loop r3):=hb
  have hg:g3 pl.b= .own (.id (.new q 0)) 0:=hg;have aNB:=i5.ct q;rw[aFk]at aNB;obtain⟨cs,hV,hO⟩:=aNB;simp only[V]at hV;obtain⟨l,rfl,_,fB⟩:=hV;obtain⟨pl',hp',rfl⟩:=fB ⟨false,_,Z2⟩;have hp':β3 (.new q 0)=some pl':=hp';rw[hp]at hp';obtain rfl:pl=pl':=by simpa using hp'
  have hO: [Value.func (.yield pl.b) #[] #[]]=[((({a with defers:=vK w.heap.size::a.defers}:Act).put (some q) (.func (.yield w1.heap.size) #[] #[])).put none v).tmps.getD q undef]:=hO;have Tq:q < ({a with defers:=vK w.heap.size::a.defers}:Act).tmps.size:=by show q < a.tmps.size;rw[h.size];exact hq
  have hO2:((({a with defers:=vK w.heap.size::a.defers}:Act).put (some q) (.func (.yield w1.heap.size) #[] #[])).put none v).tmps.getD q undef= .func (.yield w1.heap.size) #[] #[]:=by show((({a with defers:=vK w.heap.size::a.defers}:Act).put (some q) (.func (.yield w1.heap.size) #[] #[]))).tmps.getD q undef=_;rw[apV,if_pos ⟨rfl,Tq⟩]
  rw[hO2]at hO;have hl:pl.b=w1.heap.size:=by simpa using hO
  have aRq:r3.state≠ .busy:=by
   match p,mG,aJA with
   | 0,mG,_=>rw[mG.1];simp
   | 1,_,h=>exact absurd rfl h
   | 2,mG,_=>rw[mG.1];simp
   |_+3,mG,_=>rw[mG.1];simp
  have gQ:pl.b < w3.heap.size:=(bP.1 hb).1;refine⟨r3.pending,_,by rw[<-hl];exact run_endLoop hb aRq,?_,?_⟩
  ·match p,mG,aJA with
   | 0,mG,_=>exact⟨rfl,mG.2⟩
   | 1,_,h=>exact absurd rfl h
   | 2,mG,_=>exact⟨rfl,mG.2⟩
   |_+3,mG,_=>exact⟨rfl,mG.2⟩
  ·have i6:=i5.kill Z2 hg (w':=w3.putObj pl.b (.loop {r3 with state:= .exhausted})) rfl rfl ⟨rfl,ax _⟩ (by simp) (λb' hb'=>World.putObj_heap_other hb');have i7:=i6.put (some q) (v:= .undef) (x:=({a with defers:=vK w.heap.size::a.defers}:Act).tmps.getD q undef) VS.undef;have e:=aMi {a with defers:=vK w.heap.size::a.defers} q (.func (.yield w1.heap.size) #[] #[]);refine⟨nT g3 pl.b .free,β3,?_⟩;simp only[Act.put]at e i7;rw[e]at i7;exact i7
 generalize hK:(λs3:AS=>(match s3.bW (.new q 0),s3.slot q with
   |some (.obj 0 false (.rP _ _ p)),.yl (.new q' 0) 0=>match iO q' q,p with
    |true,0=>k .normal ((s3.bl (.new q 0) .dead).put (some q) .undef)
    |true,2=>k .ret ((s3.bl (.new q 0) .dead).put (some q) .undef)
    |true,i+3=>k (.exit i) ((s3.bl (.new q 0) .dead).put (some q) .undef)
    |_,_=>none
   |_,_=>none))=K at he
 have hc:Calls P h0 (.func (.yield w1.heap.size) #[] #[]::vs2).toArray w2 λe w'=>∃v,e= .returned v/\∃s3,iB C s3 ((({a with defers:=vK w.heap.size::a.defers}:Act).put (some q) (.func (.yield w1.heap.size) #[] #[])).put none v) w'/\K s3=some r:=by
  unfold AS.aNg at he;split at he
  ·exact(Va (o:= {(default:Oper) with dst:=none}) i3 hdR L9 he).2
  ·obtain⟨s3,aNp,he⟩:=iy.1 he;unfold AS.call at aNp;obtain⟨r2,h1,h2⟩:=aw.1 aNp;obtain⟨g',i4,e4,_,f1⟩:=fD r2.2 i3;obtain⟨x,hx,k1,k2,key⟩:=Tj (o:= {(default:Oper) with dst:=none}) i4 (Ct _ _) (D8 rfl i3.bJ e4 _ _ _ r2 L9 h1 f1) h2;rcases hd _ _ _ _ _ _ _ k1 k2 hx with⟨_,hc⟩ | ⟨v,w',aSX,_⟩
   ·exact hc.mono λe w' ⟨v,anj,ha⟩=>⟨v,anj,s3,key v w' ha,he⟩
   ·rw[aVs]at aSX;cases aSX
 refine⟨w1.heap.size,[vK w.heap.size],w2,⟨.fn (.func h0) vs2.toArray,#[.func (.yield w1.heap.size) #[] #[]]⟩,w2,h0,(.func (.yield w1.heap.size) #[] #[]::vs2).toArray,w2,?_,?_,λ_ _=>trivial,?_,λh=>(by cases h),?_⟩
 ·rw[tW];exact cQ
 ·have e:resolve a.eval (rangeCall f w1.heap.size) 0=Deferred.ofValue (a.eval f) #[.func (.yield w1.heap.size) #[] #[]]:=by simp[resolve,rangeCall,Act.eval]
  rw[e,hy];simp[Deferred.ofValue]
 ·have e:(#[.func (.yield w1.heap.size) #[] #[]]++vs2.toArray:Array Value)=(.func (.yield w1.heap.size) #[] #[]::vs2).toArray:=by simp
  rw[<-aVs,<-e];rfl
 ·have h1:CallsIn (Fr none) (n - 1) P h0 (.func (.yield w1.heap.size) #[] #[]::vs2).toArray w2 _:=callsIn_wide.2 hc;refine h1.mono λe w3 ⟨v,anj,s3,aPc,he⟩=> ?_
  subst anj;subst hK;show ∃jump w4,_/\_;simp only at he;split at he;rotate_left
  ·cases he
  rename_i c3 fr3 p3 q' Z2 aFk;split at he
  ·rename_i hq';obtain rfl:q'=q:=eW hq';obtain⟨jump,w4,aFb,mG,aRU⟩:=post aPc Z2 aFk (by decide);obtain⟨_,rfl⟩:=mG;exact⟨none,w4,aFb,hk _ _ _ _ aRU he⟩
  ·rename_i hq';obtain rfl:q'=q:=eW hq';obtain⟨jump,w4,aFb,mG,aRU⟩:=post aPc Z2 aFk (by decide);obtain⟨_,rfl⟩:=mG;exact⟨_,w4,aFb,wpIn_ret (hk _ _ _ _ aRU he)⟩
  ·rename_i i hq';obtain rfl:q'=q:=eW hq';obtain⟨jump,w4,aFb,mG,aRU⟩:=post aPc Z2 aFk (by simp);obtain⟨_,rfl⟩:=mG;exact⟨_,w4,aFb,wpIn_exit (hk _ _ _ _ aRU he)⟩
  ·cases he
theorem oe{rd:Option Nat}{n:Nat}(hm:P.follows .mixedOrders=true)(hΓ:Sound P Γ)(hC:C.ok){N:Nat}(ayV:rd=none\/an.mf.isSome=true):∀(c:Code),kM P Γ an N (jJ c)->∀ {R:Type} {r:R} (s:AS) (a:Act) (w:World) (k:Exit->AS->Option R) (Q:Exit->Act->World->Prop),
  iB C s a w->ev P Γ an N c s k=some r->(∀e s' a' w',iB C s' a' w'->k e s'=some r->Q e a' w')->c.wpIn (Fr rd) n P Q a w
 | .skip,hL,_,_,s,a,w,k,Q,hs,h,hk=>wpIn_skip (hk _ _ _ _ hs h)
 | .region id ops draw,hL,_,_,s,a,w,k,Q,hs,h,hk=>by
  simp only[ev]at h;refine QK hC (λk Q h hk=> ?_) h hk;cases draw with
  |true=>
   simp only at h;split at h
   ·rename_i hE;exact ao0 hm hΓ hs hE h λs' a' w' hs' hk'=>hk _ _ _ _ hs' hk'
   ·cases h
  |false=>exact wpIn_region_list (Vx hΓ ops.toList hs h λs' a' w' hs' hk'=>hk _ _ _ _ hs' hk')
 | .seq x y,hL,_,_,s,a,w,k,Q,hs,h,hk=>by
  simp only[ev]at h;refine wpIn_seq (QK hC (λk Q h hk=>oe hm hΓ hC ayV x hL.append.1 s a w k Q hs h hk) h λe s' a' w' hs' hk'=> ?_);cases e with
  |normal=>exact oe hm hΓ hC ayV y hL.append.2 s' a' w' k Q hs' hk' hk
  |_=>exact hk _ s' a' w' hs' hk'
 | .cond c x y,hL,_,_,s,a,w,k,Q,hs,h,hk=>by
  simp only[ev]at h;split at h
  ·rename_i b hb;have hc:a.eval c= .bool b:=by obtain⟨g,β,hi⟩:=hs;have:=hi.ev c;rw[hb]at this;exact XN this
   refine wpIn_cond hc ?_
   cases b with
   |true=>exact oe hm hΓ hC ayV x hL.append.1 s a w k Q hs h hk
   |false=>exact oe hm hΓ hC ayV y hL.append.2 s a w k Q hs h hk
  ·cases h
 | .block id b,hL,_,_,s,a,w,k,Q,hs,h,hk=>by
  simp only[ev]at h;refine wpIn_block (oe hm hΓ hC ayV b hL s a w _ _ hs h λe s' a' w' hs' hk'=> ?_);cases e with
  |exit i=>
   simp only at hk';simp only[Exit.inBlock];by_cases hi:i=id
   ·rw[if_pos hi];simp only[hi,cv]at hk';exact hk _ s' a' w' hs' hk'
   ·rw[if_neg hi];simp only[hi,decide_false]at hk';exact hk _ s' a' w' hs' hk'
  |_=>exact hk _ s' a' w' hs' hk'
 | .loop b,hL,R,r,s,a,w,k,Q,hs,h,hk=>by
  simp only[ev]at h;obtain⟨s1,h1,h⟩:=iy.1 h;have SE:=pH hC hs h1;obtain⟨hL1,hL2⟩:=(hL:au0 P Γ an N b/\kM P Γ an N (jJ b));split at h
  ·rename_i le hle;unfold aIU at h;cases ai5:le.set with
   |some S=>
    rw[ai5]at h;simp only at h;obtain⟨h2,h3⟩:=afU h;obtain⟨n,hn⟩:=(hL1 le hle).2 S ai5 s1 h2;refine wpIn_loop_rounds n (FU (λs s1 a w hs hn=>pH hC hs hn) (λe s s1 a w hs hn=>pH hC hs hn) (λs a w k Q hs hb hk=>oe hm hΓ hC ayV b hL2 s a w k Q hs hb hk) (λe s' a' w' hs' he=> ?_) n s1 a w SE hn);obtain⟨x,aPi,aSY⟩:=aof he;obtain⟨y,hy,h4⟩:=iy.1 (h3 x aPi);rw[aSY,az]at hy;subst hy;exact hk _ _ _ _ hs' h4
   |none=>
   rw[ai5]at h;simp only at h;cases hr:le.run s1 with
   |none=>rw[hr]at h;cases h
   |some x=>
    rw[hr]at h;simp only[al]at h;obtain⟨y,hy,h⟩:=iy.1 h;obtain⟨n,hn⟩:=(hL1 le hle).1 ai5 s1 x hr;rw[hy]at hn;refine wpIn_loop_rounds n (FU (λs s1 a w hs hn=>pH hC hs hn) (λe s s1 a w hs hn=>pH hC hs hn) (λs a w k Q hs hb hk=>oe hm hΓ hC ayV b hL2 s a w k Q hs hb hk) (λe s' a' w' hs' he=> ?_) n s1 a w SE hn);simp only[az]at he;subst he;exact hk e s' a' w' hs' h
  ·exact wpIn_loop_rounds N (FU (λs s1 a w hs hn=>pH hC hs hn) (λe s s1 a w hs hn=>pH hC hs hn) (λs a w k Q hs hb hk=>oe hm hΓ hC ayV b hL2 s a w k Q hs hb hk) hk N s1 a w SE h)
 | .exit id,hL,_,_,s,a,w,k,Q,hs,h,hk=>wpIn_exit (hk _ _ _ _ hs h)
 | .ret,hL,_,_,s,a,w,k,Q,hs,h,hk=>wpIn_ret (hk _ _ _ _ hs h)
 | .rangeFunc f ps as b,_,_,_,s,a,w,k,Q,hs,h,hk=>by
  simp only[ev]at h;obtain⟨s1,h1,h⟩:=iy.1 h;have hs:=ma hC _ hs h1;rcases ayV with rfl | ayV
  ·exact XD hΓ hs h hk
  ·unfold Gn at h;split at h
   ·rename_i h0 _ _;rw[h0]at ayV;cases ayV
   ·cases h
 | .scope b,hL,_,_,s,a,w,k,Q,hs,h,hk=>by
  simp only[ev]at h;refine Lo (oe hm hΓ hC ayV b hL s a w _ _ hs h λe s' a' w' hs' hk'=> ?_);cases e with
  |goto l=>cases hk'
  |_=>exact hk _ s' a' w' hs' hk'
 | .label _,hL,_,_,s,a,w,k,Q,hs,h,hk=>wpIn_label (hk _ _ _ _ hs h)
 | .goto _,_,_,_,_,_,_,_,_,_,h,_=>by simp[ev]at h
 | .refuse _,_,_,_,_,_,_,_,_,_,h,_=>by simp[ev]at h
variable {g:Nat->mz} {β:Id->Option Pl} {s:AS} {a:Act} {w:World}
def ab9(tmps:Array Value)(r:ResultVar):Sem Value:=
 match r with
 | .tmp t=>pure (tmps.getD t undef)
 | .cell a t=>do loadVar t (<-asAddr (tmps.getD a undef))
theorem Ru(h:Inv C g β s a w){r:ResultVar}{v:aB}(he:(acb P s r).eval=some v):∃x,(ab9 a.tmps r).run P w= .ok x w/\VS (s.env w g β) v x:=by
 cases r with
 |tmp t=>
  simp only[acb]at he;obtain rfl:=ay.1 he;exact⟨_,by simp[ab9],h.ct t⟩
 |cell t T=>
  simp only[acb]at he;obtain⟨ad,z,hy,hr,hv⟩:=aat h (h.ct t) he;exact⟨z,by simp[ab9,hy,asAddr,hr],hv⟩
theorem Rt(h:Inv C g β s a w){r:ResultVar}{o:Option Ty}{y:AS×aB}(he:(aca P s r o).eval=some y):
  ∃x g',(ab9 a.tmps r).run P w= .ok x w/\Inv C g' β y.1 a w/\cM (s.env w g β) (y.1.env w g' β)/\VS (y.1.env w g' β) y.2 x:=by
 cases o with
 |none=>
  simp only[aca]at he;obtain⟨v,h1,h2⟩:=aw.1 he;obtain rfl:=ay.1 h2;obtain⟨x,hx,hv⟩:=Ru h h1;exact⟨x,g,hx,h,cM.refl _,hv⟩
 |some t=>
  simp only[aca]at he;obtain⟨v,h1,h2⟩:=aw.1 he;obtain⟨d,h3,h4⟩:=aw.1 h2;obtain rfl:=ay.1 h4;obtain⟨x,hx,hv⟩:=Ru h h1;obtain⟨g',i1,e1,_,cs,hR,hO⟩:=BH h hv h3;exact⟨x,g',hx,i1,e1,VS.of (a:= .d t d) (cs:=cs) (by simpa only[V]using hR) hO⟩
theorem MG:∀(l:List ResultVar) (ts:List (Option Ty)) {s:AS} {g:Nat->mz} (_:Inv C g β s a w) {y:AS×aB},(Rv P s l ts).eval=some y->
  ∃(xs:List Value) (g':Nat->mz),(l.mapM (ab9 a.tmps)).run P w= .ok xs w/\Inv C g' β y.1 a w/\cM (s.env w g β) (y.1.env w g' β)/\VC (y.1.env w g' β) y.2 xs/\xs.length=l.length
 |[],ts,s,g,h,y,he=>by simp only[Rv]at he;obtain rfl:=ay.1 he;exact⟨[],g,by simp,h,cM.refl _,by simp[VC],rfl⟩
 |r::l,ts,s,g,h,y,he=>by simp only[Rv]at he;obtain⟨u,h1,h2⟩:=aw.1 he;obtain⟨hc,h2⟩:=aC.1 h2;obtain⟨us,h3,h4⟩:=aw.1 h2;obtain rfl:=ay.1 h4;obtain⟨x,g1,hx,i1,e1,hv⟩:=Rt h h1;obtain⟨xs,g2,aqt,i2,e2,VF,hl⟩:=MG l ts.tail i1 h3;obtain⟨cs,hV,hO⟩:=(hv.mono e2).eQ hc;refine⟨x::xs,g2,?_,i2,e1.trans e2,by simp only[VC];exact⟨x,xs,cs,rfl,hV,hO,VF⟩,by simp[hl]⟩;simp only[List.mapM_cons,Sem.run_bind,hx,Result.andThen_ok,aqt,Sem.run_pure]
theorem aCu{E:Env}{v:aB}{xs:List Value}(h:VC E v xs):VS E v (.tuple xs.toArray):=by
 cases v <;> first
  | (simp only[VC]at h;done)
  |exact⟨xs,rfl,h⟩
  | (simp only[VC]at h;subst h;rfl)
theorem aeD(h:Inv C g β s a w){fn:Func}{ts:List (Option Ty)}{y:AS×aB}(he:(akc P fn ts s).eval=some y):
  ∃x g',(results fn a.tmps).run P w= .ok x w/\Inv C g' β y.1 a w/\VS (y.1.env w g' β) y.2 x:=by
 have key:∀xs:List Value,(fn.results.toList.mapM (ab9 a.tmps)).run P w= .ok xs w->(results fn a.tmps).run P w= .ok (if h:xs.length=1 then xs[0] else .tuple xs.toArray) w:=λxs aqt=>by
  have e:results fn a.tmps=(do
   let vs <-fn.results.mapM (ab9 a.tmps)
   pure (if h:vs.size=1 then vs[0] else .tuple vs)):=rfl
  rw[e,Array.mapM_eq_mapM_toList];simp only[map_eq_pure_bind,Sem.run_bind,aqt,Result.andThen_ok,Sem.run_pure];congr 1
 unfold akc at he;split at he
 ·rename_i r hr;obtain⟨x,g',hx,hi,_,hv⟩:=Rt h he;refine⟨x,g',?_,hi,hv⟩;rw[key [x] (by simp[hr,hx])];simp
 ·rename_i rs gF;obtain⟨xs,g',hx,hi,_,hv,hl⟩:=MG _ _ h he;refine⟨.tuple xs.toArray,g',?_,hi,aCu hv⟩;rw[key xs hx,Cg];rw[hl];intro h1;obtain⟨r,hr⟩:=List.length_eq_one_iff.1 h1;exact gF r hr
end
end Go.Ab
namespace Go.Ab
def vI(ids:List Id):mz->mz
 | .own (.id (.new i j)) k=> .own (.id (match idxOf (.new i j) ids with | some m=> .new 0 m | none=> .new 1 0)) k
 |l=>l
def aGW(β:Id->Option Pl)(ids:List Id):Id->Option Pl
 | .bm k=>β (.bm k)
 | .new 0 m=>(ids[m]?).bind β
 | .new (_+1) _=>none
theorem aza{ids:List Id}{g:Nat->mz}{b off:Nat}(h:vk g b off):vk (λb=>vI ids (g b)) b off:=by
 unfold vk at*;simp only;cases hg:g b with
 |free=>simp[vI]
 |own o k=>
  rw[hg]at h;cases o with
  |eo=>exact h
  |id i=>cases i <;> exact h
theorem aiQ(s:AS)(v:aB):(s.Tl v).Nodup:=(tN s _ _ _ (by simp)).filter _
theorem arT{s:AS}{v:aB}{id:Id}(h:id∈s.Tl v):∃i j,id= .new i j:=by
 unfold AS.Tl at h;have:=(nZ.1 h).2;cases id with
 |bm k=>simp[Id.aNG]at this
 |new i j=>exact⟨i,j,rfl⟩
section
variable {P:Program} {Γ:oR} {C:Ctx} {g:Nat->mz} {β:Id->Option Pl} {s:AS} {a:Act} {w:World}
theorem af1(h:Inv C g β s a w)(hC:C.ok){v:aB}{x:Value}(hv:VS (s.env w g β) v x):ua C.E (s.fin v) x w:=by
 unfold AS.fin;have hn:=aiQ s v;have HF:∀id∈s.Tl v,∃i j,id= .new i j:=λid cY=>arT cY
 generalize s.Tl v=ids at hn HF;generalize hG:s.aNj ids v=G;have A5:G.val=v.iV (NR ids):=by rw[<-hG];rfl
 have hold:∀k,G.st.bW (.bm k)=(s.bW (.bm k)).map (dE.fin ids):=λk=>by
  rw[<-hG];show(s.bZ.map (dE.fin ids))[k]? =_
  rw[eh];rfl
 have aVG:∀m,G.st.bW (.new 0 m)=(ids[m]?).map λid=>((s.bW id).getD .dead).fin ids:=λm=>by
  rw[<-hG];show(ids.map λid=>((s.bW id).getD .dead).fin ids)[m]? =_
  rw[eh]
 have aWP:∀i m,G.st.bW (.new (i+1) m)=none:=λi m=>by simp[fK.st,AS.bW]
 let g':Nat->mz:=λb=>vI ids (g b)
 let β':=aGW β ids
 have ayS:∀e ver fr c,dE.fin ids e= .obj ver fr c->∃c0,e= .obj ver fr c0/\c=c0.iV (NR ids):=λe ver fr c he=>by
  cases e with
  |dead=>cases he
  |obj v0 fr0 c0=>
   simp only[dE.fin,dE.obj.injEq]at he;obtain⟨rfl,rfl,rfl⟩:=he;exact⟨c0,rfl,rfl⟩
 have hle:AA (NR ids) (s.env w g β) (G.st.env w g' β'):=by
  refine⟨⟨λb off v ⟨h1,h2⟩=>⟨h1,aza h2⟩,λb ob h1 h2=>⟨by show vI ids (g b)= .free;have h1:g b= .free:=h1;rw[h1];rfl,h2⟩⟩,λid ver r hr hb=> ?_⟩;obtain⟨SD,XV⟩:=hb;have SD:s.bW id≠none:=SD;have XV:∀v fr c,s.bW id=some (.obj v fr c)->ver<=v:=XV;cases id with
  |bm k=>
   simp only[NR,az]at hr;subst hr;refine⟨⟨?_,λv fr c hh=> ?_⟩,λ⟨fr,c,hh⟩=>⟨?_,rfl⟩⟩
   ·show G.st.bW (.bm k)≠none;rw[hold];simpa using SD
   ·have hh:G.st.bW (.bm k)=some (.obj v fr c):=hh;rw[hold,dd]at hh;obtain⟨e,he,hh⟩:=hh;obtain⟨c0,rfl,_⟩:=ayS _ _ _ _ hh;exact XV v fr c0 he
   ·have hh:G.st.bW (.bm k)=some (.obj ver fr c):=hh;rw[hold,dd]at hh;obtain⟨e,he,hh⟩:=hh;obtain⟨c0,rfl,_⟩:=ayS _ _ _ _ hh;exact⟨fr,c0,he⟩
  |new i j=>
   simp only[NR]at hr;split at hr
   ·rename_i m hm;simp only[az]at hr;subst hr;have cY:=py hm;obtain⟨e,he⟩:=Option.ne_none_iff_exists'.1 SD;have hg:G.st.bW (.new 0 m)=some (e.fin ids):=by rw[aVG,cY];simp[he]
    refine⟨⟨?_,λv fr c hh=> ?_⟩,λ⟨fr,c,hh⟩=>⟨?_,?_⟩⟩
    ·show G.st.bW (.new 0 m)≠none;rw[hg];simp
    ·have hh:G.st.bW (.new 0 m)=some (.obj v fr c):=hh;rw[hg,az]at hh;obtain⟨c0,rfl,_⟩:=ayS _ _ _ _ hh;exact XV v fr c0 he
    ·have hh:G.st.bW (.new 0 m)=some (.obj ver fr c):=hh;rw[hg,az]at hh;obtain⟨c0,rfl,_⟩:=ayS _ _ _ _ hh;exact⟨fr,c0,he⟩
    ·show(ids[m]?).bind β=β (.new i j);rw[cY];rfl
   ·cases hr
 have asd:Trans C.E.w w C.E.g g':=by
  have h0:=h.trans;refine⟨h0.os,h0.tape,h0.output,h0.size,λb hb=> ?_⟩;have h1:=h0.SX b hb;show match C.E.g b with | .free=>vI ids (g b)= .free/\_ | .own .eo k=>vI ids (g b)= .own .eo k/\_ | .own (.id _) k=>(vI ids (g b)= .free\/∃i k',vI ids (g b)= .own (.id i) k'/\k<=k')/\_
  cases Xa:C.E.g b with
  |free=>simp only[Xa]at h1 ⊢;rw[h1.1];exact⟨rfl,h1.2⟩
  |own o k=>cases o with
   |eo=>simp only[Xa]at h1 ⊢;rw[h1.1];exact⟨rfl,h1.2⟩
   |id i=>
    simp only[Xa]at h1 ⊢;refine⟨?_,h1.2⟩;rcases h1.1 with h2 | ⟨i',k',h2,h3⟩
    ·rw[h2];exact .inl rfl
    ·rw[h2];right;cases i' with
     |bm m=>exact⟨_,k',rfl,h3⟩
     |new i j=>exact⟨_,k',rfl,h3⟩
 have aLd:iZ (G.st.env w g' β'):=by
  intro id ver fr c cY;have cY:G.st.bW id=some (.obj ver fr c):=cY;cases id with
  |bm k=>
   rw[hold,dd]at cY;obtain⟨e,he,cY⟩:=cY;obtain⟨c0,rfl,rfl⟩:=ayS _ _ _ _ cY;refine xl hle (h.bJ (.bm k) ver fr c0 he) rfl λpl _=>⟨rfl,λn hg=> ?_,λhg=> ?_⟩
   ·have hg:g pl.b= .own (.id (.bm k)) n:=hg;show vI ids (g pl.b)=_;rw[hg];rfl
   ·have hg:g pl.b= .free:=hg;show vI ids (g pl.b)=_;rw[hg];rfl
  |new i m=>
   cases i with
   |succ i=>rw[aWP]at cY;cases cY
   |zero=>
    rw[aVG,dd]at cY;obtain⟨id0,aO3,cY⟩:=cY;obtain⟨c0,he,rfl⟩:=ayS _ _ _ _ cY;have cQ:s.bW id0=some (.obj ver fr c0):=by
     cases hs:s.bW id0 with
     |none=>rw[hs]at he;cases he
     |some e=>rw[hs]at he;simp only[dN]at he;rw[he]
    obtain⟨i0,j0,rfl⟩:=HF id0 (cJ aO3);refine xl hle (h.bJ (.new i0 j0) ver fr c0 cQ) (by show(ids[m]?).bind β=_;rw[aO3];rfl) λpl _=>⟨rfl,λn hg=> ?_,λhg=> ?_⟩
    ·have hg:g pl.b= .own (.id (.new i0 j0)) n:=hg;show vI ids (g pl.b)=_;rw[hg];simp only[vI,xv hn aO3]
    ·have hg:g pl.b= .free:=hg;show vI ids (g pl.b)=_;rw[hg];rfl
 have ho:∀id ver,C.E.G1 id ver->∃k,id= .bm k:=λid ver hb=>by
  cases id with
  |bm k=>exact⟨k,rfl⟩
  |new i j=>exact absurd (hC.1 i j) hb.1
 refine⟨g',β',by rw[A5];exact HO hle hv,aLd,asd,Trans.mem (E:=C.E) (E':=G.st.env w g' β') asd,λid ver hb=> ?_,λid ver hb hc=> ?_⟩
 ·obtain⟨k,rfl⟩:=ho id ver hb;exact(hle.ref (.bm k) ver (.bm k,ver) rfl (h.le.G1 _ _ hb)).1
 ·obtain⟨k,rfl⟩:=ho id ver hb;obtain⟨h1,h2⟩:=(hle.ref (.bm k) ver (.bm k,ver) rfl (h.le.G1 _ _ hb)).2 hc;obtain⟨h3,h4⟩:=h.le.cur _ _ hb h1;exact⟨h3,h2.trans h4⟩
theorem yA.len{E:Env}:∀ {as:List aB} {vs:List Value},yA E as vs->as.length=vs.length
 |[],[],_=>rfl
 |_::_,_::_,⟨_,h⟩=>by simp[yA.len h]
 |[],_::_,h=>h.elim
 |_::_,[],h=>h.elim
theorem yA.get{E:Env}:∀ {as:List aB} {vs:List Value},yA E as vs->∀i,VS E (as.getD i .undef) (vs.getD i undef)
 |[],[],_,i=>by simpa using VS.undef
 |_::_,_::_,⟨h,_⟩,0=>by simpa using h
 |_::_,_::_,⟨_,h⟩,i+1=>by simpa using yA.get h i
 |[],_::_,h,_=>h.elim
 |_::_,[],h,_=>h.elim
theorem aBj{w:World}{g:Nat->mz}{β:Id->Option Pl}{fn:Func}{args:List aB}{bZ:List dE}{ji:List Value}(hv:yA ((fN bZ).env w g β) args ji)(ho:iZ ((fN bZ).env w g β)):
  Inv ⟨(fN bZ).env w g β⟩ g β (start fn args bZ) {tmps:=ji.toArray++Array.replicate (fn.ntmps - ji.toArray.size) undef,defers:=[]} w:=by
 have hl:=hv.len;have cQ:(start fn args bZ).bW=(fN bZ).bW:=by
  funext id;cases id with
  |bm k=>rfl
  |new i j=>
   simp only[start,fN,AS.bW,aH,List.getElem?_replicate];split <;> simp
 have ar4:(start fn args bZ).env w g β=(fN bZ).env w g β:=by simp only[AS.env,cQ]
 refine⟨⟨fW,λ_ h=>by cases h⟩,by simp[start,hl],λi=> ?_,by rw[ar4];exact ho,Trans.refl _ _,by rw[ar4];exact cM.refl _⟩;rw[ar4];have h1:(start fn args bZ).slot i=args.getD i .undef:=by
  simp only[start,AS.slot,aH,List.getElem?_append,List.getElem?_replicate];split
  ·rfl
  ·rw[dG (l:=args) ak];split <;> rfl
 have h2:(ji.toArray++Array.replicate (fn.ntmps - ji.toArray.size) undef).getD i undef=ji.getD i undef:=by
  simp only[cI,aH,kK,Array.getElem?_replicate];simp only[iu,List.getElem?_toArray];split
  ·rfl
  ·rw[dG (l:=ji) ak];split <;> rfl
 rw[h1,h2];exact hv.get i
theorem Inv.aQd{C:Ctx}{g:Nat->mz}{β:Id->Option Pl}{s:AS}{a:Act}{w:World}(h:Inv C g β s a w){D:Nat}{ds:List Deferred}(hd:a.defers=vK D::ds):
  (Instr.takeDeferred D).run P w= .ok [] (w.putObj D (.deferred none))/\Inv C g β s {a with defers:=ds} (w.putObj D (.deferred none)):=by
 obtain⟨hn,C8⟩:=h.defers;rw[hd]at hn C8;obtain⟨D',e,hD,hh,hg⟩:=C8 _ (aI ..);have e:Deferred.mk (.collected D) #[]=Deferred.mk (.collected D') #[]:=e;injection e with e _
 injection e with e
 subst e;have gQ:=(bP.1 hh).1;refine⟨run_takeDeferred hh,?_⟩;have other:∀b,b≠D->(w.putObj D (.deferred none)).heap[b]? =w.heap[b]? :=λb hb=>World.putObj_heap_other hb
 have Ed:∀b off v,w.cell? ⟨b,off,none⟩=some v->b≠D:=λb off v hv e=>by subst e;simp[World.cell?,hh]at hv
 have FO:uf (s.env w g β) (s.env (w.putObj D (.deferred none)) g β):=by
  refine⟨λb off v ⟨h1,h2⟩=>⟨?_,h2⟩,λb ob h1 h2=>⟨h1,?_⟩⟩
  ·have h1:w.cell? ⟨b,off,none⟩=some v:=h1;show(w.putObj D (.deferred none)).cell? ⟨b,off,none⟩=some v;rw[World.cell?_of_block (other b (Ed b off v h1))];exact h1
  ·have h1:g b= .free:=h1;have h2:w.heap[b]? =some ob:=h2
   show(w.putObj D (.deferred none)).heap[b]? =some ob
   rw[other b λe=>by rw[e,hg]at h1;cases h1];exact h2
 have hle:cM (s.env w g β) (s.env (w.putObj D (.deferred none)) g β):=⟨FO,λ_ _ h=>h,λ_ _ _ h=>⟨h,rfl⟩⟩;have gF:∀ {id:Id} {v:Nat} {fr:Bool} {c:aB} {pl:Pl},s.bW id=some (.obj v fr c)->β id=some pl->pl.b≠D:=λhs hp e=>by
  have:=((h.bJ _ _ _ _ hs).label hp).2;have this:(∃k,g _= .own (.id _) k)\/(_/\g _= .free):=this;rw[e,hg]at this;rcases this with⟨k,hk⟩ | ⟨_,hk⟩
  ·cases hk
  ·cases hk
 refine⟨⟨(cV.1 hn).2,λd hd'=> ?_⟩,h.size,λi=>(h.ct i).mono hle,λid ver fr c hs=> ?_,?_,h.le.trans hle⟩
 ·obtain⟨D2,e1,e2,e3,e4⟩:=C8 d (aG _ hd');refine⟨D2,e1,e2,?_,e4⟩;rw[other D2 λe=>(cV.1 hn).1 (by rw[<-e,<-e1];exact hd')];exact e3
 ·exact xk.mono hle (h.bJ id ver fr c hs) rfl (λpl hp=>⟨other _ (gF hs hp),rfl⟩) λq vq k v l hq _=>⟨⟨k,v,l,hq⟩,λpl hp=>⟨other _ (gF hq hp),rfl⟩⟩
 ·have ht:=h.trans;refine⟨ht.os,ht.tape,ht.output,?_,λb hb=> ?_⟩
  ·have:=ht.size;simpa[World.putObj]using this
  ·have h1:=ht.SX b hb;have hbD:b≠D:=ak;have hc:∀off v,w.cell? ⟨b,off,none⟩=some v->(w.putObj D (.deferred none)).cell? ⟨b,off,none⟩=some v:=λoff v hv=>by rw[World.cell?_of_block (other b hbD)];exact hv
   rw[other b hbD];split at h1
   ·exact h1
   ·exact h1
   ·exact⟨h1.1,λoff v ho hv=>hc off v (h1.2 off v ho hv)⟩
theorem VW{C:Ctx}{g:Nat->mz}{β:Id->Option Pl}{s:AS}{fn:Func}{R:Ending->World->Prop}:∀(ds:List Deferred) {a:Act} {w:World},Inv C g β s a w->a.defers=ds->
  (∀a2 w2,Inv C g β s a2 w2->a2.tmps=a.tmps->∃v,(results fn a.tmps).run P w2= .ok v w2/\R (.returned v) w2)->LeavesInM Fence.wide 0 P fn a.tmps R ds .returning w
 |[],a,w,h,hd,hk=>hk a w h rfl
 |d::ds,a,w,h,hd,hk=>by obtain⟨D,e,_⟩:=h.defers.2 d (by rw[hd];exact aI ..);subst e;obtain⟨h1,h2⟩:=h.aQd (P:=P) hd;exact⟨by simp,.inl ⟨D,_,rfl,h1,VW (fn:=fn) (R:=R) ds (a:= {a with defers:=ds}) h2 rfl hk⟩⟩
theorem am3{bZ:List dE}{w:World}{g:Nat->mz}{β:Id->Option Pl}(h:bZ.all dE.first=true){k v:Nat}{fr:Bool}{c:aB}(hk:((fN bZ).env w g β).s (.bm k)=some (.obj v fr c)):v=0:=by
 have hk:bZ[k]? =some (.obj v fr c):=by simpa[AS.env,fN,AS.bW]using hk
 have:=cW.1 h _ (cJ hk);exact eW this
theorem PH(hm:P.follows .mixedOrders=true)(hΓ:Sound P Γ){f:FuncId}{fn:Func}(hf:P.funcs[f]? =some fn)(hb:fn.body.isSome=true)(A4:(fn.name== "runtime.NumGoroutine")=false){an:xi}{N:Nat}(hL:∀c,fn.body=some c->kM P Γ an N (jJ c))
  {args:List aB} {bZ:List dE} {R:Type} {k:fK->Option R} {r:R} (hN:alB P Γ an N fn args bZ k=some r) (ai4:an.mf=none)
  {ji:List Value} (hv:yA ((fN bZ).env w g β) args ji) (ho:iZ ((fN bZ).env w g β)):(callFunc f ji.toArray).run P w= .ok (.enter f ji.toArray) w/\
   Calls P f ji.toArray w λe w'=>∃v G,e= .returned v/\k G=some r/\ua ((fN bZ).env w g β) G v w':=by
 obtain⟨c,hc⟩:=bO.1 hb;refine⟨?_,?_⟩
 ·unfold callFunc;have hname':¬fn.name= "runtime.NumGoroutine" :=by simpa using A4
  simp[hf,hname',hc]
 ·unfold alB at hN;rw[ai4,hc]at hN;simp only at hN;split at hN
  ·cases hN
  rename_i hF;have hC:(Ctx.mk ((fN bZ).env w g β)).ok:=⟨λi j=>by simp[AS.env,fN,AS.bW],λk v fr c hk=>am3 hF hk⟩;refine callsIn_wide.1 (callsIn_of_wp_marks (F:=Fence.wide) (n:=0) hf hc trivial (oe (rd:=none) (C:=⟨(fN bZ).env w g β⟩) hm hΓ hC (.inl rfl) c (hL c hc) _ _ w _ _ ⟨g,β,aBj hv ho⟩ hN λe s' a' w' hs' hk'=> ?_));have fin:(finish P an fn s').run k=some r->LeavesInM Fence.wide 0 P fn a'.tmps (λe w'=>∃v G,e= .returned v/\k G=some r/\ua ((fN bZ).env w g β) G v w') a'.defers .returning w':=λhr=>by
   obtain⟨G,h1,h2⟩:=iy.1 hr;unfold finish at h1;obtain⟨sd,aTv,h1⟩:=aw.1 h1;obtain⟨s2,h3,h4⟩:=aw.1 h1;obtain⟨s3,aWi,h4⟩:=aw.1 h4;obtain⟨s4,aWj,h4⟩:=aw.1 h4;obtain⟨y,h5,h6⟩:=aw.1 h4;obtain⟨g1,β1,aNv⟩:=hs';refine VW a'.defers aNv rfl λa2 w2 aO1 aUj=> ?_
   obtain⟨g0,β0,aK7⟩:=AX _ ⟨g1,β1,aO1⟩ aTv;obtain⟨g',β',hi⟩:=O5 _ (ma hC _ ⟨g0,β0,aK7.drop _⟩ h3) aWi;have hi:=E8 hC _ hi aWj;obtain⟨z,g2,h7,h8,h9⟩:=aeD hi h5;refine⟨z,by rw[<-aUj];exact h7,z,G,rfl,h2,?_⟩;rw[<-ay.1 h6];exact af1 h8 hC h9
  cases e with
  |normal=>exact fin hk'
  |ret=>exact fin hk'
  |_=>cases hk'
theorem ra.vO(hm:P.follows .mixedOrders=true)(hΓ:Sound P Γ){f:FuncId}{fn:Func}(hf:P.funcs[f]? =some fn)(hb:fn.body.isSome=true)(A4:(fn.name== "runtime.NumGoroutine")=false){en:Entry}{an:xi}{N:Nat}(hL:∀c,fn.body=some c->kM P Γ an N (jJ c))
  (h:∀args bZ x,en.run args bZ=some x->alB P Γ an N fn args bZ some=some (en.out args bZ x)) (ai4:an.mf=none):ra P f en:=by
 intro w g β args bZ ji x hv ho hx;obtain⟨h1,h2⟩:=PH hm hΓ hf hb A4 hL (h args bZ x hx) ai4 hv ho;exact .inl ⟨h1,h2.mono λe w' ⟨v,G,e1,e2,e3⟩=>⟨v,e1,by rw[<-bf e2];exact e3⟩⟩
theorem Pg.vO(hm:P.follows .mixedOrders=true)(hΓ:Sound P Γ){f:FuncId}{fn:Func}(hf:P.funcs[f]? =some fn)(hb:fn.body.isSome=true)(A4:(fn.name== "runtime.NumGoroutine")=false){en:Entry}{an:xi}{N:Nat}(hL:∀c,fn.body=some c->kM P Γ an N (jJ c))
  (h:∀args bZ,(∃x,en.set args bZ x)->alB P Γ an N fn args bZ (λG=>aPH (∃x,en.set args bZ x/\G=en.out args bZ x))=some ()) (ai4:an.mf=none):Pg P f en:=by
 intro w g β args bZ ji hv ho hx;obtain⟨h1,h2⟩:=PH hm hΓ hf hb A4 hL (h args bZ hx) ai4 hv ho;refine⟨h1,h2.mono λe w' ⟨v,G,e1,e2,e3⟩=> ?_⟩;obtain⟨x,hs,rfl⟩:=aof e2;exact⟨v,x,e1,hs,e3⟩
theorem ML:∀(l:List (Tmp×Value)) (t:Array Value),(l.foldl (λtmps (x:Tmp×Value)=>tmps.setIfInBounds x.1 x.2) t).size=t.size
 |[],_=>rfl
 |x::l,t=>by rw[bq,ML l];simp
theorem JA:∀(l:List (Tmp×aB)) (fs:List aB),(zW l fs).length=fs.length
 |[],_=>rfl
 |x::l,fs=>by rw[zW,JA l];simp
theorem MM{E:Env}:∀(ps:List Tmp) (vs:List aB) (us:List Value) (fs:List aB) (t:Array Value),yA E vs us->fs.length=t.size->(∀i,VS E (fs.getD i .undef) (t.getD i undef))->
  ∀i,VS E ((zW (ps.zip vs) fs).getD i .undef) (((ps.zip us).foldl (λtmps (x:Tmp×Value)=>tmps.setIfInBounds x.1 x.2) t).getD i undef)
 |[],_,_,fs,t,_,_,h=>by simpa[zW]using h
 |_::_,[],[],fs,t,_,_,h=>by simpa[zW]using h
 |_::_,[],_::_,_,_,h,_,_=>h.elim
 |_::_,_::_,[],_,_,h,_,_=>h.elim
 |p::ps,v::vs,u::us,fs,t,⟨h1,h2⟩,hl,h=>by
  simp only[List.zip_cons_cons,zW,bq];refine MM ps vs us _ _ h2 (by simpa using hl) λi=> ?_
  simp only[aH,cI,List.getElem?_set,dT,hl];have hi:=h i;simp only[aH,cI]at hi;split
  ·split
   ·simpa using h1
   ·simpa using VS.undef
  ·exact hi
theorem yA.split{E:Env}:∀(n:Nat) {as:List aB} {us ts:List Value},us.length=n->yA E as (us++ts)->yA E (as.take n) us/\yA E (as.drop n) ts
 | 0,as,[],ts,_,h=>by simpa using⟨trivial,h⟩
 | 0,as,_::_,ts,hn,h=>by simp at hn
 |n+1,as,[],ts,hn,h=>by simp at hn
 |n+1,[],u::us,ts,_,h=>h.elim
 |n+1,a::as,u::us,ts,hn,⟨h1,h2⟩=>by have:=yA.split n (by simpa using hn) h2;exact⟨⟨h1,this.1⟩,this.2⟩
theorem aui{w:World}{g:Nat->mz}{β:Id->Option Pl}{ps:Array Tmp}{args:List aB}{bZ:List dE}{us ts:List Value}(hl:us.length=ps.size)(hv:yA ((fN bZ).env w g β) args (us++ts))(ho:iZ ((fN bZ).env w g β)):
  Inv ⟨(fN bZ).env w g β⟩ g β (acM ps.toList args bZ) {tmps:=(ps.zip us.toArray).foldl (λtmps (t,a)=>tmps.setIfInBounds t a) ts.toArray,defers:=[]} w:=by
 obtain⟨h1,h2⟩:=yA.split ps.toList.length (by simpa using hl) hv;have cQ:(acM ps.toList args bZ).bW=(fN bZ).bW:=by
  funext id;cases id with
  |bm k=>rfl
  |new i j=>
   simp only[acM,fN,AS.bW,aH,List.getElem?_replicate];split <;> simp
 have ar4:(acM ps.toList args bZ).env w g β=(fN bZ).env w g β:=by simp only[AS.env,cQ]
 have e:(ps.zip us.toArray).foldl (λtmps (x:Tmp×Value)=>tmps.setIfInBounds x.1 x.2) ts.toArray=(ps.toList.zip us).foldl (λtmps (x:Tmp×Value)=>tmps.setIfInBounds x.1 x.2) ts.toArray:=by rw[<-Array.foldl_toList,Array.toList_zip]
 have e':(ps.zip us.toArray).foldl (λtmps (t,a)=>tmps.setIfInBounds t a) ts.toArray=(ps.toList.zip us).foldl (λtmps (x:Tmp×Value)=>tmps.setIfInBounds x.1 x.2) ts.toArray:=e;rw[e'];refine⟨⟨fW,λ_ h=>by cases h⟩,?_,λi=> ?_,by rw[ar4];exact ho,Trans.refl _ _,by rw[ar4];exact cM.refl _⟩
 ·show Array.size _=(zW _ _).length;rw[ML,JA];simpa using h2.len.symm
 ·rw[ar4];exact MM ps.toList _ us _ _ h1 (by simpa using h2.len) (λi=>by simpa[cI,aH]using h2.get i) i
theorem GU.vO(hm:P.follows .mixedOrders=true)(hΓ:Sound P Γ){y:Nat}{fn:Func}{en:Entry}{an:xi}{N:Nat}(hL:kM P Γ an N (jJ (rk P y).as++jJ (rk P y).b))
  (h:∀args bZ x,en.run args bZ=some x->alB P Γ an N fn args bZ some=some (en.out args bZ x)) (ai4:an.mf=some y):GU P y en:=by
 intro w g β args bZ ji x hv ho hx l us ts f rd n aR0 tW;have hN:=h args bZ x hx;unfold alB at hN;rw[ai4]at hN;simp only at hN;unfold aHK at hN;split at hN;rotate_left
 ·cases hN
 rename_i args;split at hN
 ·cases hN
 rename_i hF;subst aR0;obtain⟨aPe,VE⟩:=hv;have hC:(Ctx.mk ((fN bZ).env w g β)).ok:=⟨λi j=>by simp[AS.env,fN,AS.bW],λk v fr c hk=>am3 hF hk⟩;obtain⟨cs,hV,hO⟩:=aPe;simp only[V]at hV;obtain⟨l',rfl,anh,fB⟩:=hV;have hl:l'=l:=by simpa[fT,aB.agg]using hO
 subst hl;have at_l:∀ {s:AS} {g1:Nat->mz} {β1:Id->Option Pl} {a:Act} {w1:World} {pl:Pl},Inv ⟨(fN bZ).env w g β⟩ g1 β1 s a w1->(s.env w1 g1 β1).cur (.bm 0) 0->β1 (.bm 0)=some pl->pl.b=l':=by intro s g1 β1 a w1 pl hi hc hp;obtain⟨c1,c2⟩:=hi.le.cur _ _ anh hc;obtain⟨pl',hp',rfl⟩:=fB c1;have c2:β1 (.bm 0)=β (.bm 0):=c2;have hp':β (.bm 0)=some pl':=hp';rw[c2,hp']at hp;exact(bo Pl.b (bf hp)).symm
 refine roundIn_of_wpIn (F:=Fr rd) trivial ?_
 have ad3:some l'=none\/an.mf.isSome=true:= .inr (by rw[ai4];rfl);refine oe (rd:=some l') hm hΓ hC ad3 _ hL.append.1 _ _ w _ _ ⟨g,β,aui tW VE ho⟩ hN λe s1 a1 w1 SE ai0=> ?_
 cases e with
 |normal=>
  simp only at ai0;cases h1:s1.T4 0 1 with
  |none=>rw[h1]at ai0;cases ai0
  |some s2=>
   rw[h1]at ai0;simp only[al]at ai0;obtain⟨g1,β1,aNv⟩:=SE;obtain⟨pl,r,hp,hc,hb,mG,aRN⟩:=Ro aNv h1;have:=at_l aNv hc hp;subst this;refine⟨_,run_beginRound hb mG.1,?_⟩;have aO1:=aRN {r with state:= .busy} rfl rfl rfl rfl rfl;refine oe (rd:=some pl.b) hm hΓ hC ad3 _ hL.append.2 _ _ _ _ _ ⟨_,_,aO1⟩ ai0 λe s3 a3 w3 aPc aK8=> ?_
   cases aNs:aNi e with
   |none=>rw[aNs]at aK8;cases aK8
   |some p=>
    rw[aNs]at aK8;simp only[al]at aK8;cases h4:s3.T4 1 p with
    |none=>rw[h4]at aK8;cases aK8
    |some s4=>
     rw[h4]at aK8;simp only at aK8;obtain⟨g3,β3,aVy⟩:=aPc;obtain⟨pl3,r3,aWR,aE9,aVp,aWZ,hnext3⟩:=Ro aVy h4;have aWH:=at_l aVy aE9 aWR;rw[aWH]at aVp hnext3
     have fin:∀(jump:Option Code) (b:Bool),iO p 0=jump.isNone->aoZ p (if jump.isNone then .ready else .done) jump->
       ∃v w',(Instr.endRound pl.b jump).run P w3= .ok v w'/\∃v',Ending.returned v= .returned v'/\ua ((fN bZ).env w g β) (en.out (.yl (.bm 0) 0::args) bZ x) v' w':=λjump b hb hr=>by
      have aWB:=hnext3 {r3 with state:=if jump.isNone then .ready else .done,pending:=jump} rfl rfl rfl rfl hr;refine⟨_,_,run_endRound jump aVp,_,rfl,?_⟩;obtain⟨G,k1,k2⟩:=iy.1 aK8;simp only[az]at k2;subst k2;unfold avF at k1;obtain⟨sd,m1,k1⟩:=aw.1 k1;obtain⟨s5,m2,k1⟩:=aw.1 k1;obtain⟨s6,m3,k1⟩:=aw.1 k1;obtain⟨s7,m4,k1⟩:=aw.1 k1;obtain⟨g0,β0,aK7⟩:=AX _ ⟨_,_,aWB⟩ m1;obtain⟨g',β',hi⟩:=O5 _ (ma hC _ ⟨g0,β0,aK7.drop _⟩ m2) m3;have hi:=E8 hC _ hi m4;rw[<-ay.1 k1,hb];exact af1 hi hC (wk _)
     cases e with
     |normal=>
      obtain rfl:=bf aNs;exact fin none true rfl ⟨rfl,rfl⟩
     |ret=>
      obtain rfl:=bf aNs;exact fin (some .ret) false rfl ⟨rfl,rfl⟩
     |exit i=>
      obtain rfl:=bf aNs;exact fin (some (.exit i)) false rfl ⟨rfl,rfl⟩
     |goto _=>cases aNs
     |panic _=>cases aNs
     |outgrown=>cases aNs
 |_=>cases ai0
end
end Go.Ab
namespace Go.Ab
def dX(k:IntKind)(n:Int):Int:=k.wrap n
def bI(k:IntKind)(x y:Int):Int:=k.wrap (x+y)
def cR(k:IntKind)(x y:Int):Int:=k.wrap (x - y)
def gB(k:IntKind)(x y:Int):Int:=k.wrap (x*y)
def tX(k:IntKind)(x y:Int):Int:=k.wrap (x.tdiv y)
def mS(x y:Int):Int:=x.tmod y
def mI(k:IntKind)(x y:Int):Int:=k.wrap (x*2^(min y.toNat k.bits))
def cz(k:IntKind)(x y:Int):Int:=x.fdiv (2^(min y.toNat k.bits))
def aLy(k:IntKind)(x:Int):Int:=cG .xor k (if k.signed then -1 else k.max) x
def qY(x y:Int):Bool:=x==y
def A7(x y:Int):Bool:=x !=y
def gr(x y:Int):Bool:=decide (x < y)
def ai7(x y:Int):Bool:=decide (x<=y)
def qZ(x y:Int):Bool:=decide (x > y)
def Cn(x y:Int):Bool:=decide (x>=y)
def seq(x y:ByteArray):Bool:=x.toList==y.toList
def apx(a:ByteArray)(i:Int):Int:=((a.data.toList.getD i.toNat 0).toNat:Int)
def ed(i n:Int):Bool:=decide (0<=i/\i < n)
def inc(i n:Int):Bool:=decide (0<=i/\i<=n)
def mK(y:Int):Bool:=decide (0<=y)
def sa(y:Int):Bool:= !(decide (y=0))
open Classical in
def dz.of{D X:Type}(st:D->AS)(fJ:D->Prop)(F:D->X)(out:X->Out (Exit×AS)):dz:= {X,run:=λs=>if h:∃d,st d=s/\fJ d then some (F h.choose) else none,out}
open Classical in
theorem dz.vO{D X:Type}{st:D->AS}{fJ:D->Prop}{F:D->X}{out:X->Out (Exit×AS)}(NX:∀d d',st d=st d'->d=d'){d:D}(h:fJ d):(dz.of st fJ F out).run (st d)=some (F d):=by have hex:∃d',st d'=st d/\fJ d':=⟨d,rfl,h⟩;show(if h:∃d',st d'=st d/\fJ d' then some (F h.choose) else none)=_;rw[ze hex,NX _ _ hex.choose_spec.1]
open Classical in
def rr.of{X:Type}(an:oJ)(st:X->AS):rr:=
 {an,X,ay4:=λe s=>if h:e= .normal/\∃x,st x=s then some h.2.choose else none,out:=λx=> .ok (.normal,st x),
  ok:=λe s x h=>by
   by_cases h1:e= .normal/\∃x,st x=s
   ·rw[ze h1]at h;have h2:=h1.2.choose_spec;rw[bf h]at h2;rw[h1.1,<-h2];rfl
   ·rw[Cg h1]at h;cases h}
open Classical in
theorem rr.IP{X:Type}{an:oJ}{st:X->AS}(NX:∀d d',st d=st d'->d=d')(x:X):(rr.of an st).ay4 .normal (st x)=some x:=by have hex:Exit.normal= .normal/\∃y,st y=st x:=⟨rfl,x,rfl⟩;show(if h:Exit.normal= .normal/\∃y,st y=st x then some h.2.choose else none)=_;rw[ze hex,NX _ _ hex.2.choose_spec]
open Classical in
theorem au0.of{P:Program}{Γ:oR}{an:xi}{N:Nat}{fn:Func}{i:Nat}{D X:Type}{st:D->AS}{fJ:D->Prop}{F:D->X}{out:X->Out (Exit×AS)}
  (hle:an.fF (dL (pv fn i))=some (dz.of st fJ F out)) (h:∀d,fJ d->∃n,QY P Γ an N fn i n (st d) (λe s=>some (e,s))=(out (F d)).eval):au0 P Γ an N (pv fn i):=by
 intro le hle';rw[hle]at hle';simp only[az]at hle';subst hle';refine⟨λ_ s x hx=> ?_,λS hS=>by cases hS⟩;change (if h:∃d',st d'=s/\fJ d' then some (F h.choose) else none)=some x at hx;split at hx
 ·rename_i hex;obtain rfl:=bf hx;obtain⟨h1,h2⟩:=hex.choose_spec;obtain⟨n,hn⟩:=h _ h2;refine⟨n,?_⟩;show QY P Γ an N fn i n s _=_;rw[h1]at hn;exact hn
 ·cases hx
theorem As(P:Program)(Γ:oR)(an:xi)(N:Nat)(fn:Func)(i:Nat){R:Type}(n:Nat)(s:AS)(k:Exit->AS->Option R):QY P Γ an N fn i (n+1) s k=Dc P Γ an N fn i s (λs1=>QY P Γ an N fn i n s1 k) k:=rfl
theorem av6{P:Program}{Γ:oR}{an:xi}{N:Nat}{fn:Func}{i:Nat}{D X:Type}{st:D->AS}{fJ:D->Prop}{F:D->X}{out:X->Out (Exit×AS)}(μ:D->Nat)
  (h:∀d,fJ d->(∃d',fJ d'/\μ d' < μ d/\F d'=F d/\∀ {R:Type} (kn:AS->Option R) (kx:Exit->AS->Option R),Dc P Γ an N fn i (st d) kn kx=kn (st d'))\/
   (∃r,(out (F d)).eval=some r/\∀ {R:Type} (kn:AS->Option R) (kx:Exit->AS->Option R),Dc P Γ an N fn i (st d) kn kx=kx r.1 r.2)):
  ∀d,fJ d->∃n,QY P Γ an N fn i n (st d) (λe s=>some (e,s))=(out (F d)).eval:=by
 have key:∀m d,μ d=m->fJ d->∃n,QY P Γ an N fn i n (st d) (λe s=>some (e,s))=(out (F d)).eval:=by
  intro m
  induction m using Nat.strongRecOn with
  |_ m ih=>
   intro d hm hp;rcases h d hp with⟨d',hp',gQ,hF,hr⟩ | ⟨r,hr,hx⟩
   ·obtain⟨n,hn⟩:=ih (μ d') ak d' rfl hp';exact⟨n+1,by rw[As,hr,hn,hF]⟩
   ·exact⟨1,by rw[As,hx,hr]⟩
 exact λd hp=>key _ d rfl hp
open Classical in
def dz.Xg{D X Y:Type}(st:D->AS)(fJ:D->Prop)(add:D->Y->X)(Post:D->Y->Prop)(out:X->Out (Exit×AS)):dz:= {X,run:=λ_=>none,out,set:=some λs x=>∃d,st d=s/\fJ d/\∃y,Post d y/\x=add d y}
def aSn{D X Y:Type}(st:D->AS)(fJ:D->Prop)(add:D->Y->X)(Post:D->Y->Prop):D->X->Prop:=λd0 x=>∃d,st d=st d0/\fJ d/\∃y,Post d y/\x=add d y
abbrev aw2{D X Y:Type}(set:D->X->Prop)(fJ:D->Prop)(add:D->Y->X)(Post:D->Y->Prop):Prop:=∀ {d:D} {R:Type} {k:X->Option R} {r:Option R},fJ d->(∃y,Post d y)->(∀y,Post d y->k (add d y)=r)->ZG (set d) k=r
theorem aUT{D X Y:Type}{st:D->AS}{fJ:D->Prop}{add:D->Y->X}{Post:D->Y->Prop}(NX:∀d d',st d=st d'->d=d'):aw2 (aSn st fJ add Post) fJ add Post:=λh h1 h2=>by
 obtain⟨y,hy⟩:=h1;refine avB ⟨_,_,rfl,h,y,hy,rfl⟩ λx hx=> ?_
 obtain⟨d',h3,_,y',h4,rfl⟩:=hx;obtain rfl:=NX _ _ h3;exact h2 y' h4
abbrev au1(P:Program)(G:oR)(an:xi)(N:Nat)(fn:Func)(i:Nat){D X Y:Type}(st:D->AS)(fJ:D->Prop)(add:D->Y->X)(Post:D->Y->Prop)(out:X->Out (Exit×AS)):Prop:=∀d,fJ d->∃n,∀k:Exit->AS->Option Unit,(∀y e s,Post d y->(out (add d y)).eval=some (e,s)->k e s=some ())->QY P G an N fn i n (st d) k=some ()
theorem au0.Xg{P:Program}{Γ:oR}{an:xi}{N:Nat}{fn:Func}{i:Nat}{D X Y:Type}{st:D->AS}{fJ:D->Prop}{add:D->Y->X}{Post:D->Y->Prop}{out:X->Out (Exit×AS)}
  (h:au1 P Γ an N fn i st fJ add Post out) (hle:an.fF (dL (pv fn i))=some (dz.Xg st fJ add Post out)):au0 P Γ an N (pv fn i):=by
 intro le hle';rw[hle]at hle';simp only[az]at hle';subst hle';refine⟨λhS=>(by cases hS),λS hS s hs=> ?_⟩;obtain rfl:=bf hS;obtain⟨x,d,rfl,hp,y,hy,rfl⟩:=hs;obtain⟨n,hn⟩:=h d hp;exact⟨n,hn _ λy e s h1 h2=>aGB ⟨add d y,⟨d,rfl,hp,y,h1,rfl⟩,h2⟩⟩
theorem afw{n:Nat}{Q:Nat->Nat->Prop}(h:∀j,j < n->∃N,∀M,N<=M->Q j M):∃N,∀M,N<=M->∀j,j < n->Q j M:=by
 induction n with
 |zero=>exact⟨0,λ_ _ j hj=>ak⟩
 |succ n ih=>
  obtain⟨N1,h1⟩:=ih λj hj=>h j ak
  obtain⟨N2,h2⟩:=h n ak;refine⟨max N1 N2,λM hM j hj=> ?_⟩;by_cases aVB:j=n
  ·subst aVB;exact h2 M ak
  ·exact h1 M ak j ak
theorem aGf{P:Program}{Γ:oR}{an:xi}{N:Nat}{fn:Func}{i:Nat}{D X:Type}{st:D->AS}{fJ:D->Prop}{F:D->X}{out:X->Out (Exit×AS)}(μ:D->Nat)
  (h:∀d,fJ d->(∃(m:Nat) (d':Nat->D),0 < m/\(∀j,j < m->fJ (d' j)/\μ (d' j) < μ d/\F (d' j)=F d)/\∀ {R:Type} (kn:AS->Option R) (kx:Exit->AS->Option R),Dc P Γ an N fn i (st d) kn kx=aEt m λj=>kn (st (d' j)))\/
   (∃r,(out (F d)).eval=some r/\∀ {R:Type} (kn:AS->Option R) (kx:Exit->AS->Option R),Dc P Γ an N fn i (st d) kn kx=kx r.1 r.2)):
  ∀d,fJ d->∃n,QY P Γ an N fn i n (st d) (λe s=>some (e,s))=(out (F d)).eval:=by
 have key:∀m d,μ d=m->fJ d->∃n,∀M,n<=M->QY P Γ an N fn i M (st d) (λe s=>some (e,s))=(out (F d)).eval:=by
  intro m
  induction m using Nat.strongRecOn with
  |_ m ih=>
   intro d hm hp;rcases h d hp with⟨c,d',hc,hd,hr⟩ | ⟨r,hr,hx⟩
   ·obtain⟨n,hn⟩:=afw (n:=c) (Q:=λj M=>QY P Γ an N fn i M (st (d' j)) (λe s=>some (e,s))=(out (F d)).eval) λj hj=>by obtain⟨h1,h2,h3⟩:=hd j hj;obtain⟨n,hn⟩:=ih (μ (d' j)) ak (d' j) rfl h1;exact⟨n,λM hM=>by rw[hn M hM,h3]⟩
    refine⟨n+1,λM hM=> ?_⟩;obtain⟨M,rfl⟩:∃M',M=M'+1:=⟨M - 1,ak⟩;rw[As,hr];exact aEu hc λj hj=>hn M ak j hj
   ·refine⟨1,λM hM=> ?_⟩;obtain⟨M,rfl⟩:∃M',M=M'+1:=⟨M - 1,ak⟩;rw[As,hx,hr]
 exact λd hp=>let⟨n,hn⟩:=key _ d rfl hp;⟨n,hn n (ax _)⟩
theorem aGg{P:Program}{Γ:oR}{an:xi}{N:Nat}{fn:Func}{i:Nat}{D X Y:Type}{st:D->AS}{fJ:D->Prop}{add:D->Y->X}{Post:D->Y->Prop}{out:X->Out (Exit×AS)}(μ:D->Nat)
  (h:∀d,fJ d->(∃(m:Nat) (d':Nat->D),0 < m/\(∀j,j < m->fJ (d' j)/\μ (d' j) < μ d/\∀y,Post (d' j) y->∃y',Post d y'/\add (d' j) y=add d y')/\∀ {R:Type} (kn:AS->Option R) (kx:Exit->AS->Option R),Dc P Γ an N fn i (st d) kn kx=aEt m λj=>kn (st (d' j)))\/
   (∃y r,Post d y/\(out (add d y)).eval=some r/\∀ {R:Type} (kn:AS->Option R) (kx:Exit->AS->Option R),Dc P Γ an N fn i (st d) kn kx=kx r.1 r.2)):au1 P Γ an N fn i st fJ add Post out:=by
 have key:∀m d,μ d=m->fJ d->∃n,∀M,n<=M->∀k:Exit->AS->Option Unit,(∀y e s,Post d y->(out (add d y)).eval=some (e,s)->k e s=some ())->QY P Γ an N fn i M (st d) k=some ():=by
  intro m
  induction m using Nat.strongRecOn with
  |_ m ih=>
   intro d hm hp;rcases h d hp with⟨c,d',hc,hd,hr⟩ | ⟨y,r,hy,hr,hx⟩
   ·obtain⟨n,hn⟩:=afw (n:=c) (Q:=λj M=>∀k:Exit->AS->Option Unit,(∀y e s,Post (d' j) y->(out (add (d' j) y)).eval=some (e,s)->k e s=some ())->QY P Γ an N fn i M (st (d' j)) k=some ()) λj hj=>by obtain⟨h1,h2,h3⟩:=hd j hj;exact ih (μ (d' j)) ak (d' j) rfl h1
    refine⟨n+1,λM hM k hk=> ?_⟩;obtain⟨M,rfl⟩:∃M',M=M'+1:=⟨M - 1,ak⟩;rw[As,hr];refine aEu hc λj hj=>hn M ak j hj k λy e s h1 h2=> ?_
    obtain⟨y',h3,h4⟩:=(hd j hj).2.2 y h1;rw[h4]at h2;exact hk y' e s h3 h2
   ·refine⟨1,λM hM k hk=> ?_⟩;obtain⟨M,rfl⟩:∃M',M=M'+1:=⟨M - 1,ak⟩;rw[As,hx];exact hk y r.1 r.2 hy hr
 exact λd hp=>let⟨n,hn⟩:=key _ d rfl hp;⟨n,hn n (ax _)⟩
theorem anV{P:Program}{Γ:oR}{an:xi}{N:Nat}{fn:Func}{i:Nat}{D X:Type}{st:D->AS}{fJ:D->Prop}{F:D->X}{ex:X->Exit×AS}(μ:D->Nat)(h:∀d,fJ d->(∃d',fJ d'/\μ d' < μ d/\F d'=F d/\∀ {R:Type} (kn:AS->Option R) (kx:Exit->AS->Option R),Dc P Γ an N fn i (st d) kn kx=kn (st d'))\/(∀ {R:Type} (kn:AS->Option R) (kx:Exit->AS->Option R),Dc P Γ an N fn i (st d) kn kx=kx (ex (F d)).1 (ex (F d)).2)):∀d,fJ d->∃n,QY P Γ an N fn i n (st d) (λe s=>some (e,s))=(Out.ok (ex (F d))).eval:=av6 (out:=λx=> .ok (ex x)) μ λd hp=>(h d hp).imp id λh=>⟨_,rfl,h⟩
open Classical in
def Entry.of{D X:Type}(params:List (Option Ty))(st:D->List aB×List dE)(fJ:D->Prop)(F:D->X)(out:X->fK):Entry:= {params,X,run:=λargs bZ=>if h:∃d,st d=(args,bZ)/\fJ d then some (F h.choose) else none,out:=λ_ _=>out}
open Classical in
theorem Entry.vO{D X:Type}{params:List (Option Ty)}{st:D->List aB×List dE}{fJ:D->Prop}{F:D->X}{out:X->fK}(NX:∀d d',st d=st d'->d=d'){d:D}(h:fJ d):
  (Entry.of params st fJ F out).run (st d).1 (st d).2=some (F d):=by
 have hex:∃d',st d'=((st d).1,(st d).2)/\fJ d':=⟨d,rfl,h⟩;show(if h:∃d',st d'=((st d).1,(st d).2)/\fJ d' then some (F h.choose) else none)=_;rw[ze hex,NX _ _ hex.choose_spec.1]
open Classical in
theorem awf{D X:Type}{params:List (Option Ty)}{st:D->List aB×List dE}{fJ:D->Prop}{F:D->X}{out:X->fK}{args:List aB}{bZ:List dE}{x:X}(hx:(Entry.of params st fJ F out).run args bZ=some x):∃d,st d=(args,bZ)/\fJ d/\x=F d:=by
 change (if h:∃d',st d'=(args,bZ)/\fJ d' then some (F h.choose) else none)=some x at hx;split at hx
 ·rename_i hex;obtain rfl:=bf hx;exact⟨_,hex.choose_spec.1,hex.choose_spec.2,rfl⟩
 ·cases hx
theorem ra.of{P:Program}{Γ:oR}(hm:P.follows .mixedOrders=true)(hΓ:Sound P Γ){f:FuncId}{fn:Func}(hf:P.funcs[f]? =some fn)(hb:fn.body.isSome=true)(A4:(fn.name== "runtime.NumGoroutine")=false){an:xi}{N:Nat}
  (hL:∀c,fn.body=some c->kM P Γ an N (jJ c)) {D X:Type} {params:List (Option Ty)} {st:D->List aB×List dE} {fJ:D->Prop} {F:D->X} {out:X->fK}
  (h:∀d,fJ d->alB P Γ an N fn (st d).1 (st d).2 some=some (out (F d))) (ai4:an.mf=none:=by exact rfl):ra P f (Entry.of params st fJ F out):=by
 refine ra.vO hm hΓ hf hb A4 hL (λargs bZ x hx=> ?_) ai4;obtain⟨d,e1,e2,rfl⟩:=awf hx;have:=h d e2;rw[e1]at this;exact this
def aCo(P:Program)(Γ:oR)(an:xi)(N:Nat)(fn:Func):Nat->Nat->Prop
 | 0,_=>True
 |n+1,i=>au0 P Γ an N (pv fn i)/\aCo P Γ an N fn n (i+1)
theorem aCo.get{P:Program}{Γ:oR}{an:xi}{N:Nat}{fn:Func}:∀ {n i:Nat},aCo P Γ an N fn n i->∀j,j < n->au0 P Γ an N (pv fn (i+j))
 | 0,_,_,j,hj=>ak
 |n+1,i,h,0,_=>h.1
 |n+1,i,h,j+1,hj=>by have:=aCo.get h.2 j ak;rwa[show i+1+j=i+(j+1) by omega]at this
theorem kM.aGA{P:Program}{Γ:oR}{an:xi}{N:Nat}:∀(l:List Code),(∀j,j < l.length->au0 P Γ an N (l.getD j .skip))->kM P Γ an N l
 |[],_=>trivial
 |b::l,h=>⟨h 0 (by simp),kM.aGA l λj hj=>by have:=h (j+1) (by simpa using hj);simpa using this⟩
theorem kM.fn{P:Program}{Γ:oR}{an:xi}{N:Nat}{fn:Func}(n:Nat)(hn:(match fn.body with | some c=>(jJ c).length | none=>0)=n)(h:aCo P Γ an N fn n 0):∀c,fn.body=some c->kM P Γ an N (jJ c):=by
 intro c hc;refine kM.aGA _ λj hj=> ?_
 rw[hc]at hn;simp only at hn;have:=h.get j ak;unfold pv at this;rw[hc]at this;simpa using this
theorem au0.none{P:Program}{Γ:oR}{an:xi}{N:Nat}{fn:Func}{i:Nat}(h:an.fF (dL (pv fn i))=none):au0 P Γ an N (pv fn i):=λle hle=>by
 rw[h]at hle;cases hle
def aOP:oR:=λ_ _=>none
theorem Sound.nil(P:Program):Sound P aOP:=λ_ _ _ h=>by cases h
def avK(f:FuncId)(p:List aB->Bool)(en:Entry)(Γ:oR):oR:=λg vs=>match iO g f with | true=>(match p vs with | true=>some en | false=>Γ g vs) | false=>Γ g vs
theorem Sound.cons{P:Program}{f:FuncId}{p:List aB->Bool}{en:Entry}{Γ:oR}(h:vm P f en)(hΓ:Sound P Γ):Sound P (avK f p en Γ):=λg vs e hg=>by
 unfold avK at hg;split at hg
 ·rename_i he;have:g=f:=eW he;split at hg
  ·simp only[az]at hg;subst hg this;exact h
  ·exact hΓ g vs e hg
 ·exact hΓ g vs e hg
theorem aNh{t:Ty}{x y:t.den}(h:aB.d t x=aB.d t y):x=y:=by injection h with _ h
theorem aMZ{e:TypeId}{t:Ty}{x y:List t.den}(h:aB.vec e t x=aB.vec e t y):x=y:=by injection h with _ _ h
def mr:List aB->Bool:=λ_=>true
def azH:List aB->Bool | .de::_=>true | _=>false
def ahf:List aB->Bool | .bA .. ::_=>true | _=>false
@[simp] theorem aj{α:Type}(x y:Option α):aJ true x y=x:=rfl
@[simp] theorem ao{α:Type}(x y:Option α):aJ false x y=y:=rfl
@[simp] theorem ah{α β:Type}(x:α)(f:α->Option β):al (some x) f=f x:=rfl
@[simp] theorem Up{α:Type}(c:vB)(x:Option α):same c c x=x:=by simp[same]
@[simp] theorem zH{α:Type}(x:Option α):nd x x=x:=by simp[nd]
structure SG(P:Program) where
 f:FuncId
 p:List aB->Bool
 e:Entry
 h:vm P f e
def jI{P:Program}:List (SG P)->oR
 |[]=>aOP
 |a::l=>avK a.f a.p a.e (jI l)
theorem Sound.jI{P:Program}:∀l:List (SG P),Sound P (jI l)
 |[]=>Sound.nil P
 |a::l=>Sound.cons a.h (Sound.jI l)
abbrev SA:=List aB×List dE
def HM(P:Program)(G:oR)(an:xi)(N:Nat)(fn:Func){D:Type}(st:D->SA){R:Type}(d:D)(k:fK->Option R):Option R:=alB P G an N fn (st d).1 (st d).2 k
def eC(P:Program)(G:oR)(an:xi)(N:Nat)(fn:Func)(i:Nat){D:Type}(st:D->AS){R:Type}(d:D)(kn:AS->Option R)(kx:Exit->AS->Option R):Option R:=Dc P G an N fn i (st d) kn kx
abbrev ahy{D X Y:Type}(A: {R:Type}->D->(fK->Option R)->Option R)(fJ:D->Prop)(add:D->Y->X)(F:D->Y)(out:X->fK):Prop:=∀d,fJ d->A d some=some (out (add d (F d)))
abbrev kP(P:Program)(G:oR)(an:xi)(N:Nat)(fn:Func)(i:Nat){D X Y:Type}(st:D->AS)(fJ:D->Prop)(add:D->Y->X)(F:D->Y)(out:X->Out (Exit×AS)):Prop:=∀d,fJ d->∃n,QY P G an N fn i n (st d) (λe s=>some (e,s))=(out (add d (F d))).eval
abbrev aCm{D X Y:Type}(R: {R:Type}->D->(AS->Option R)->(Exit->AS->Option R)->Option R)(st:D->AS)(fJ:D->Prop)(add:D->Y->X)(F:D->Y)(ex:X->Exit×AS)(C:Prop):Prop:=∀μ:D->Nat,(∀d,fJ d->(∃d',fJ d'/\μ d' < μ d/\add d' (F d')=add d (F d)/\∀ {T:Type} (kn:AS->Option T) (kx:Exit->AS->Option T),R d kn kx=kn (st d'))\/(∀ {T:Type} (kn:AS->Option T) (kx:Exit->AS->Option T),R d kn kx=kx (ex (add d (F d))).1 (ex (add d (F d))).2))->C
abbrev nq{D X Y:Type}(R: {R:Type}->D->(AS->Option R)->(Exit->AS->Option R)->Option R)(st:D->AS)(fJ:D->Prop)(add:D->Y->X)(F:D->Y)(out:X->Out (Exit×AS))(C:Prop):Prop:=∀μ:D->Nat,(∀d,fJ d->(∃d',fJ d'/\μ d' < μ d/\add d' (F d')=add d (F d)/\∀ {T:Type} (kn:AS->Option T) (kx:Exit->AS->Option T),R d kn kx=kn (st d'))\/(∃r,(out (add d (F d))).eval=some r/\∀ {T:Type} (kn:AS->Option T) (kx:Exit->AS->Option T),R d kn kx=kx r.1 r.2))->C
abbrev aQV{D X Y:Type}(R: {R:Type}->D->(AS->Option R)->(Exit->AS->Option R)->Option R)(st:D->AS)(fJ:D->Prop)(add:D->Y->X)(F:D->Y)(ex:X->Exit×AS)(C:Prop):Prop:=∀μ:D->Nat,(∀d,fJ d->(∃(m:Nat) (d':Nat->D),0 < m/\(∀j,j < m->fJ (d' j)/\μ (d' j) < μ d/\add (d' j) (F (d' j))=add d (F d))/\∀ {T:Type} (kn:AS->Option T) (kx:Exit->AS->Option T),R d kn kx=aEt m λj=>kn (st (d' j)))\/(∀ {T:Type} (kn:AS->Option T) (kx:Exit->AS->Option T),R d kn kx=kx (ex (add d (F d))).1 (ex (add d (F d))).2))->C
theorem aTo{P:Program}{G:oR}{an:xi}{N:Nat}{fn:Func}{i:Nat}{D X Y:Type}{st:D->AS}{fJ:D->Prop}{add:D->Y->X}{F:D->Y}{ex:X->Exit×AS}:aQV (eC P G an N fn i st) st fJ add F ex (kP P G an N fn i st fJ add F λx=> .ok (ex x)):=λ μ h=>aGf (F:=λd=>add d (F d)) (out:=λx=> .ok (ex x)) μ λd hp=>(h d hp).imp id λh=>⟨_,rfl,h⟩
abbrev aNd{D X Y:Type}(R: {R:Type}->D->(AS->Option R)->(Exit->AS->Option R)->Option R)(st:D->AS)(fJ:D->Prop)(add:D->Y->X)(Post:D->Y->Prop)(ex:X->Exit×AS)(C:Prop):Prop:=∀μ:D->Nat,(∀d,fJ d->(∃(m:Nat) (d':Nat->D),0 < m/\(∀j,j < m->fJ (d' j)/\μ (d' j) < μ d/\∀y,Post (d' j) y->∃y',Post d y'/\add (d' j) y=add d y')/\∀ {T:Type} (kn:AS->Option T) (kx:Exit->AS->Option T),R d kn kx=aEt m λj=>kn (st (d' j)))\/(∃y,Post d y/\∀ {T:Type} (kn:AS->Option T) (kx:Exit->AS->Option T),R d kn kx=kx (ex (add d y)).1 (ex (add d y)).2))->C
theorem aQ2{P:Program}{G:oR}{an:xi}{N:Nat}{fn:Func}{i:Nat}{D X Y:Type}{st:D->AS}{fJ:D->Prop}{add:D->Y->X}{Post:D->Y->Prop}{ex:X->Exit×AS}:aNd (eC P G an N fn i st) st fJ add Post ex (au1 P G an N fn i st fJ add Post λx=> .ok (ex x)):=λ μ h=>aGg (out:=λx=> .ok (ex x)) μ λd hp=>(h d hp).imp (λh=>h) λ⟨y,hy,h⟩=>⟨y,_,hy,rfl,h⟩
theorem aOp{P:Program}{G:oR}{an:xi}{N:Nat}{fn:Func}{i:Nat}{D X Y:Type}{st:D->AS}{fJ:D->Prop}{add:D->Y->X}{F:D->Y}{ex:X->Exit×AS}:aCm (eC P G an N fn i st) st fJ add F ex (kP P G an N fn i st fJ add F λx=> .ok (ex x)):=λ μ h=>anV (F:=λd=>add d (F d)) μ h
theorem oa{P:Program}{G:oR}{an:xi}{N:Nat}{fn:Func}{i:Nat}{D X Y:Type}{st:D->AS}{fJ:D->Prop}{add:D->Y->X}{F:D->Y}{out:X->Out (Exit×AS)}:nq (eC P G an N fn i st) st fJ add F out (kP P G an N fn i st fJ add F out):=λ μ h=>av6 (F:=λd=>add d (F d)) (out:=out) μ h
def nY:List (Nat×oJ)->Nat->oJ
 |[],_=> {}
 |a::l,r=>bif iO r a.1 then a.2 else nY l r
def nX:List (Nat×oJ×oJ)->Nat->Bool->oJ
 |[],_,_=> {}
 |a::l,r,b=>bif iO r a.1 then(bif b then a.2.2 else a.2.1) else nX l r b
def nK.{v} {α:Type v}:List (Nat×α)->Nat->Option α
 |[],_=>none
 |a::l,r=>bif iO r a.1 then some a.2 else nK l r
inductive Lf where
 |d (t:Ty)
 |n
@[reducible] def Lf.den:Lf->Type
 | .d t=>t.den
 | .n=>Nat
@[reducible] def Lf.aBN:List Lf->Type
 |[]=>Unit
 |[a]=>a.den
 |a::b::l=>a.den×Lf.aBN (b::l)
abbrev aQY:=List (Sigma Lf.den)
def Lf.mk:(ts:List Lf)->Lf.aBN ts->aQY
 |[],_=> []
 |[a],x=> [⟨a,x⟩]
 |a::b::l,x=>⟨a,x.1⟩::Lf.mk (b::l) x.2
theorem Lf.mk_inj:∀(ts:List Lf) (x y:Lf.aBN ts),Lf.mk ts x=Lf.mk ts y->x=y
 |[],_,_,_=>rfl
 |[a],x,y,h=>by
  injection h with h _
  injection h
 |a::b::l,(x,u),(y,v),h=>by
  injection h with h h2
  injection h with _ h
  have h:x=y:=h;rw[h,Lf.mk_inj (b::l) u v h2]
def aB.leaves:aB->aQY
 | .d .unit _=> []
 | .d (.arr _ t) l=> [⟨.d (.slice t),l⟩]
 | .d t x=> [⟨.d t,x⟩]
 | .dO t x=> [⟨.d t,x⟩]
 | .vec _ t l=> [⟨.d (.slice t),l⟩]
 | .mp k v l=> [⟨.d (.slice (.pair k v)),l⟩]
 | .tC _ _ k v l _=> [⟨.d (.slice (.pair k v)),l⟩]
 | .rP _ f _=>f.leaves
 | .bA _ _ _ _ _ n=> [⟨.n,n⟩]
 | .pr a b=>a.leaves++b.leaves
 | .cons a b=>a.leaves++b.leaves
 | .fn _ c=>c.leaves
 | .bx _ _ c=>c.leaves
 |_=> []
def dE.leaves:dE->aQY
 | .obj _ _ c=>c.leaves
 | .dead=> []
def SA.leaves(s:SA):aQY:=s.1.flatMap aB.leaves++s.2.flatMap dE.leaves
def AS.leaves(s:AS):aQY:=s.ct.flatMap aB.leaves++(s.bZ.flatMap dE.leaves++s.news.flatMap (·.flatMap dE.leaves))
theorem Xd(ts:List Lf){st:Lf.aBN ts->SA}(h:∀d,SA.leaves (st d)=Lf.mk ts d)(d d':Lf.aBN ts)(e:st d=st d'):d=d':=Lf.mk_inj ts d d' (by rw[<-h,<-h,e])
theorem jx(ts:List Lf){st:Lf.aBN ts->AS}(h:∀d,AS.leaves (st d)=Lf.mk ts d)(d d':Lf.aBN ts)(e:st d=st d'):d=d':=Lf.mk_inj ts d d' (by rw[<-h,<-h,e])
def Entry.fv{D X Y:Type}(params:List (Option Ty))(st:D->SA)(fJ:D->Prop)(add:D->Y->X)(F:D->Y)(out:X->fK):Entry:=Entry.of params st fJ (λd=>add d (F d)) out
def aVY{X Y:Type}(x:X⊕Y):Out (X⊕Y):= .br x.isLeft (.get x.getLeft? λa=> .ok (.inl a)) (.get x.getRight? λb=> .ok (.inr b))
theorem aP2{X Y:Type}(x y:X⊕Y)(h:(aVY x).eval=some y):y=x:=by cases x <;> exact(bf h).symm
def Entry.aee{D X X' Y:Type}(params:List (Option Ty))(st:D->SA)(fJ:D->Prop)(add:D->Y->X⊕X')(F:D->Y)(out:X⊕X'->fK):Entry:= {Entry.fv params st fJ add F out with sp:=aVY,awF:=aP2}
theorem GU.aNX{P:Program}{y:Nat}{D X X' Y:Type}{params:List (Option Ty)}{st:D->SA}{fJ:D->Prop}{add:D->Y->X⊕X'}{F:D->Y}{out:X⊕X'->fK}(h:GU P y (Entry.fv params st fJ add F out)):GU P y (Entry.aee params st fJ add F out):=h
theorem ra.aNX{P:Program}{f:FuncId}{D X X' Y:Type}{params:List (Option Ty)}{st:D->SA}{fJ:D->Prop}{add:D->Y->X⊕X'}{F:D->Y}{out:X⊕X'->fK}(h:ra P f (Entry.fv params st fJ add F out)):ra P f (Entry.aee params st fJ add F out):=h
def Entry.Xg{D X Y:Type}(params:List (Option Ty))(st:D->SA)(fJ:D->Prop)(add:D->Y->X)(Post:D->Y->Prop)(out:X->fK):Entry:= {params,X,run:=λ_ _=>none,out:=λ_ _ x=>out x,rel:=true,set:=λargs bZ x=>∃d,st d=(args,bZ)/\fJ d/\∃y,Post d y/\x=add d y}
def aMB{D:Type}(E:Entry)(st:D->SA):D->E.X->Prop:=λd=>E.set (st d).1 (st d).2
theorem aHW{D X Y:Type}{params:List (Option Ty)}{st:D->SA}{fJ:D->Prop}{add:D->Y->X}{Post:D->Y->Prop}{out:X->fK}(NX:∀d d',st d=st d'->d=d'):aw2 (aMB (Entry.Xg params st fJ add Post out) st) fJ add Post:=λh h1 h2=>by
 obtain⟨y,hy⟩:=h1;refine avB ⟨_,_,rfl,h,y,hy,rfl⟩ λx hx=> ?_
 obtain⟨d',h3,_,y',h4,rfl⟩:=hx;obtain rfl:=NX _ _ h3;exact h2 y' h4
abbrev auZ{D X Y:Type}(A: {R:Type}->D->(fK->Option R)->Option R)(fJ:D->Prop)(add:D->Y->X)(Post:D->Y->Prop)(out:X->fK):Prop:=∀d,fJ d->∀k:fK->Option Unit,(∀y,Post d y->k (out (add d y))=some ())->A d k=some ()
def dz.fv{D X Y:Type}(st:D->AS)(fJ:D->Prop)(add:D->Y->X)(F:D->Y)(out:X->Out (Exit×AS)):dz:=dz.of st fJ (λd=>add d (F d)) out
def Lz{D:Type}(E:Entry)(st:D->SA):D->Option E.X:=λd=>E.run (st d).1 (st d).2
def gM{D:Type}(E:dz)(st:D->AS):D->Option E.X:=λd=>E.run (st d)
abbrev jf{D X Y:Type}(call:D->Option X)(fJ:D->Prop)(add:D->Y->X)(F:D->Y):Prop:=∀ {d:D},fJ d->call d=some (add d (F d))
theorem aSk{D X Y:Type}{params:List (Option Ty)}{st:D->SA}{fJ:D->Prop}{add:D->Y->X}{F:D->Y}{out:X->fK}(NX:∀d d',st d=st d'->d=d'):jf (Lz (Entry.fv params st fJ add F out) st) fJ add F:=λh=>Entry.vO NX h
theorem acr{D X X' Y:Type}{params:List (Option Ty)}{st:D->SA}{fJ:D->Prop}{add:D->Y->X⊕X'}{F:D->Y}{out:X⊕X'->fK}(NX:∀d d',st d=st d'->d=d'){d:D}(h:fJ d):(Entry.aee params st fJ add F out).run (st d).1 (st d).2=some (add d (F d)):=aSk (params:=params) (out:=out) NX h
theorem mn{D X Y:Type}{st:D->AS}{fJ:D->Prop}{add:D->Y->X}{F:D->Y}{out:X->Out (Exit×AS)}(NX:∀d d',st d=st d'->d=d'):jf (gM (dz.fv st fJ add F out) st) fJ add F:=λh=>dz.vO NX h
def ayt(P:Program)(fn:Func):Bool:=P.follows .mixedOrders && fn.body.isSome && !(fn.name== "runtime.NumGoroutine")
def ayz(fn:Func):Nat:=match fn.body with | some c=>(jJ c).length | none=>0
theorem ra.fn{P:Program}{l:List (SG P)}{f:FuncId}{fn:Func}{an:xi}{N:Nat}{D X Y:Type}{params:List (Option Ty)}{st:D->SA}{fJ:D->Prop}{add:D->Y->X}{F:D->Y}{out:X->fK}(n:Nat)
  (hc:(P.funcs[f]?,ayt P fn,ayz fn)=(some fn,true,n))
  (h:ahy (@HM P (jI l) an N fn D st) fJ add F out)
  (hL:aCo P (jI l) an N fn n 0) (ai4:an.mf=none:=by exact rfl):ra P f (Entry.fv params st fJ add F out):=by
 injection hc with h1 h2
 injection h2 with h2 h3
 unfold ayt at h2;simp only[au,cC]at h2;exact ra.of h2.1.1 (Sound.jI l) h1 h2.1.2 h2.2 (kM.fn n h3 hL) h ai4
theorem Pg.fn{P:Program}{l:List (SG P)}{f:FuncId}{fn:Func}{an:xi}{N:Nat}{D X Y:Type}{params:List (Option Ty)}{st:D->SA}{fJ:D->Prop}{add:D->Y->X}{Post:D->Y->Prop}{out:X->fK}(n:Nat)
  (hc:(P.funcs[f]?,ayt P fn,ayz fn)=(some fn,true,n))
  (h:auZ (@HM P (jI l) an N fn D st) fJ add Post out)
  (hL:aCo P (jI l) an N fn n 0) (ai4:an.mf=none:=by exact rfl):Pg P f (Entry.Xg params st fJ add Post out):=by
 injection hc with h1 h2
 injection h2 with h2 h3
 unfold ayt at h2;simp only[au,cC]at h2;refine Pg.vO h2.1.1 (Sound.jI l) h1 h2.1.2 h2.2 (kM.fn n h3 hL) (λargs bZ hx=> ?_) ai4;obtain⟨x,d,e,hp,y,hy,rfl⟩:=hx;have:=h d hp (λG=>aPH (∃x,(Entry.Xg params st fJ add Post out).set args bZ x/\G=(Entry.Xg params st fJ add Post out).out args bZ x)) λy hy=>aGB ⟨_,⟨d,e,hp,y,hy,rfl⟩,rfl⟩
 unfold HM at this;rw[e]at this;exact this
theorem GU.fn{P:Program}{l:List (SG P)}{y:Nat}{an:xi}{N:Nat}{D X Y:Type}{params:List (Option Ty)}{st:D->SA}{fJ:D->Prop}{add:D->Y->X}{F:D->Y}{out:X->fK}(n:Nat)
  (hc:(P.follows .mixedOrders,ayz (aNc P y))=(true,n))
  (h:ahy (@HM P (jI l) an N (aNc P y) D st) fJ add F out)
  (hL:aCo P (jI l) an N (aNc P y) n 0) (ai4:an.mf=some y):GU P y (Entry.fv params st fJ add F out):=by
 injection hc with h1 h2
 refine GU.vO h1 (Sound.jI l) (fn:=aNc P y) (kM.fn (fn:=aNc P y) n h2 hL _ rfl) (λargs bZ x hx=> ?_) ai4;obtain⟨d,e1,e2,rfl⟩:=awf hx;have:=h d e2;unfold HM at this;rw[e1]at this;exact this
theorem au0.fv{P:Program}{Γ:oR}{an:xi}{N:Nat}{fn:Func}{i:Nat}{D X Y:Type}{st:D->AS}{fJ:D->Prop}{add:D->Y->X}{F:D->Y}{out:X->Out (Exit×AS)}
  (h:kP P Γ an N fn i st fJ add F out) (hle:an.fF (dL (pv fn i))=some (dz.fv st fJ add F out):=by kernel_rfl):au0 P Γ an N (pv fn i):=au0.of hle h
abbrev K1(R:Type):=fK->Option R
abbrev K2(R:Type):=AS->Option R
abbrev K3(R:Type):=Exit->AS->Option R
@[reducible] def bu{D Y:Type}(_:D)(y:Y):Y:=y
structure Ls{D Y X:Type}(fJ:D->Prop)(add:D->Y->X)(F:D->Y) where
 st:D->AS
 ex:X->Exit×AS
noncomputable def rp{D Y X:Type}{fJ:D->Prop}{add:D->Y->X}{F:D->Y}(st:D->AS)(ex:X->Exit×AS):Ls fJ add F:=⟨st,ex⟩
section
variable {D Y X:Type} {fJ:D->Prop} {add:D->Y->X} {F:D->Y} (L:Ls fJ add F)
def Ls.out:X->Out (Exit×AS):=λx=> .ok (L.ex x)
def Ls.E:dz:=dz.fv L.st fJ add F L.out
def Ls.call:D->Option X:=gM L.E L.st
abbrev Ls.go{R:Type}(kx:K3 R)(x:X):Option R:=kx (L.ex x).1 (L.ex x).2
abbrev Ls.RS:Prop:=jf L.call fJ add F
end
theorem rL(ts:List Lf){Y X:Type}{fJ:Lf.aBN ts->Prop}{add:Lf.aBN ts->Y->X}{F:Lf.aBN ts->Y}(L:Ls fJ add F)(h:∀d,AS.leaves (L.st d)=Lf.mk ts d:=by exact λ_=>b8):jf L.call fJ add F:=mn (jx ts h)
structure Fs(P:Program){D Y X:Type}(fJ:D->Prop)(add:D->Y->X)(F:D->Y) where
 i:FuncId
 fn:Func
 st:D->SA
 out:X->fK
 ps:List (Option Ty)
 G:List (SG P)
 an:xi
 N:Nat
noncomputable def eN{P:Program}{D Y X:Type}{fJ:D->Prop}{add:D->Y->X}{F:D->Y}(i:FuncId)(fn:Func)(st:D->SA)(out:X->fK)(ps:List (Option Ty))(G:List (SG P):=[])(an:xi:= {})(N:Nat:=0):Fs P fJ add F:=⟨i,fn,st,out,ps,G,an,N⟩
section
variable {P:Program} {D Y X:Type} {fJ:D->Prop} {add:D->Y->X} {F:D->Y} (f:Fs P fJ add F) {D' Y' X':Type} {Pre':D'->Prop} {add':D'->Y'->X'} {F':D'->Y'}
def Fs.A{R:Type}(d:D)(k:K1 R):Option R:=HM P (jI f.G) f.an f.N f.fn f.st d k
def Fs.R(i:Nat)(L:Ls Pre' add' F'){R:Type}(d:D')(kn:K2 R)(kx:K3 R):Option R:=eC P (jI f.G) f.an f.N f.fn i L.st d kn kx
abbrev Fs.Ok:Prop:=∀d,fJ d->f.A d some=some (f.out (add d (F d)))
abbrev Fs.kM(i:Nat)(L:Ls Pre' add' F'):Prop:=kP P (jI f.G) f.an f.N f.fn i L.st Pre' add' F' L.out
def Fs.E:Entry:=Entry.fv f.ps f.st fJ add F f.out
def Fs.call:D->Option X:=Lz f.E f.st
theorem Fs.mf(i:Nat)(L:Ls Pre' add' F'):aCm (@Fs.R P D Y X fJ add F f D' Y' X' Pre' add' F' i L) L.st Pre' add' F' L.ex (f.kM i L):=λ μ h=>anV (F:=λd=>add' d (F' d)) μ h
theorem Fs.aUR(i:Nat)(L:Ls Pre' add' F'):aQV (@Fs.R P D Y X fJ add F f D' Y' X' Pre' add' F' i L) L.st Pre' add' F' L.ex (f.kM i L):=aTo
abbrev Fs.RS:Prop:=jf f.call fJ add F
def Fs.aS7(p:List aB->Bool)(ok:f.Ok)(n:Nat:=0)(hL:aCo P (jI f.G) f.an f.N f.fn n 0:=by exact trivial)(hc:(P.funcs[f.i]?,ayt P f.fn,ayz f.fn)=(some f.fn,true,n):=by kernel_rfl)(hy:Nat.blt f.i yB=true:=by exact rfl)(hn:f.an.mf=none:=by exact rfl):SG P:=⟨f.i,p,f.E,.of (ra.fn n hc ok hL hn) hy⟩
def Fs.aXh(ok:f.Ok)(n:Nat:=0)(hL:aCo P (jI f.G) f.an f.N f.fn n 0:=by exact trivial)(hc:(P.follows .mixedOrders,ayz (aNc P f.i))=(true,n):=by kernel_rfl)(hf:f.fn=aNc P f.i:=by exact rfl)(hy:Nat.ble yB f.i=true:=by exact rfl)(hn:f.an.mf=some f.i:=by exact rfl):SG P:=
 ⟨f.i,mr,f.E,.aVR (GU.fn n hc (by have:=ok;unfold Fs.Ok Fs.A at this;rw[hf]at this;exact this) (by rw[<-hf];exact hL) hn) hy⟩
def Fs.eU(ok:f.Ok)(n:Nat:=0)(hL:aCo P (jI f.G) f.an f.N f.fn n 0:=by exact trivial)(hc:(P.funcs[f.i]?,ayt P f.fn,ayz f.fn)=(some f.fn,true,n):=by kernel_rfl)(hy:Nat.blt f.i yB=true:=by exact rfl)(hn:f.an.mf=none:=by exact rfl):SG P:=f.aS7 mr ok n hL hc hy hn
end
theorem rE(ts:List Lf){P:Program}{Y X:Type}{fJ:Lf.aBN ts->Prop}{add:Lf.aBN ts->Y->X}{F:Lf.aBN ts->Y}(f:Fs P fJ add F)(h:∀d,SA.leaves (f.st d)=Lf.mk ts d:=by exact λ_=>b8):jf f.call fJ add F:=aSk (Xd ts h)
abbrev tu:Ty:=(.int .u64)
abbrev ti:Ty:=(.int .i64)
abbrev tb:Ty:=(.int .u8)
abbrev tB:Ty:=(.slice tb)
abbrev Bs:=(List Int)
abbrev tH:Ty:=(.arr 32 tb)
abbrev tU:Ty:=(.slice tu)
abbrev bg:Ty:=(.pair tH (.pair ti .unit))
abbrev bC:=(Bs×(Int×Unit))
abbrev Av:Ty:=(.pair tu (.pair tu .unit))
abbrev Sg:=(Int×(Int×Unit))
abbrev aBl:Ty:=(.pair ti (.pair (.slice Av) (.pair tu .unit)))
abbrev UR:=(Int×((List Sg)×(Int×Unit)))
abbrev gh:Ty:=(.pair bg (.pair aBl .unit))
abbrev gK:=(bC×(UR×Unit))
abbrev ki:Ty:=(.pair tU (.pair ti (.pair ti (.pair tu .unit))))
abbrev ot:=(Bs×(Int×(Int×(Int×Unit))))
abbrev Pe:Ty:=(.pair (.slice ki) .unit)
abbrev Lk:=((List ot)×Unit)
abbrev gl:Ty:=(.pair ti (.pair Pe .unit))
abbrev gm:=(Int×(Lk×Unit))
abbrev ez:Ty:=(.pair (.slice gh) (.pair (.slice gl) (.pair ti .unit)))
abbrev dw:=((List gK)×((List gm)×(Int×Unit)))
abbrev tZ:Ty:=(.pair tB (.pair .bool .unit))
abbrev gO:=(Bs×(Bool×Unit))
abbrev aXm:Ty:=(.pair ti (.pair (.ig Av) (.pair tu .unit)))
abbrev aTg:=(Int×((Option (List Sg))×(Int×Unit)))
abbrev rR:Ty:=(.pair bg (.pair aXm .unit))
abbrev Az:=(bC×(aTg×Unit))
end Go.Ab
namespace Go.Ab
theorem uJ{n:Int}(h1: -9223372036854775808<=n)(h2:n<=9223372036854775807):IntKind.i64.wrap n=n:=by simp[IntKind.wrap,IntKind.bits,IntKind.signed];split <;> omega
theorem fZ{x y:Int}(h1: -9223372036854775808<=x+y)(h2:x+y<=9223372036854775807):bI .i64 x y=x+y:=uJ h1 h2
theorem eL{x y:Int}(h1: -9223372036854775808<=x - y)(h2:x - y<=9223372036854775807):cR .i64 x y=x - y:=uJ h1 h2
theorem It{x y:Int}(h1: -9223372036854775808<=x*y)(h2:x*y<=9223372036854775807):gB .i64 x y=x*y:=uJ h1 h2
theorem aLo{x:Int}(h1: -9223372036854775808<=x)(h2:x<=9223372036854775807):dX .i64 x=x:=uJ h1 h2
def vw{n:Nat}(w:BitVec n):Int:=(w.toNat:Int)
theorem hZ(n:Nat)(x:Int):vw (bh n x)=x%((2^n:Nat):Int):=by unfold vw;rw[sP];have:0<=x%((2^n:Nat):Int):=kT _ (by have:=Nat.two_pow_pos n;omega);omega
theorem UI{n:Nat}(w:BitVec n):0<=vw w:=gR _
theorem aIV{n:Nat}(w:BitVec n):vw w < ((2^n:Nat):Int):=by have:=w.isLt;unfold vw;omega
theorem uV{n:Nat}(w:BitVec n):bh n (vw w)=w:=by apply BitVec.eq_of_toNat_eq;have:=hZ n (vw w);unfold vw at this ⊢;have h:=w.isLt;rw[fe (gR _) ak]at this;omega
theorem wrap_u32(x:Int):IntKind.u32.wrap x=vw (bh 32 x):=by rw[hZ];simp[IntKind.wrap,IntKind.bits,IntKind.signed]
theorem wrap_u64(x:Int):IntKind.u64.wrap x=vw (bh 64 x):=by rw[hZ];simp[IntKind.wrap,IntKind.bits,IntKind.signed]
theorem wrap_u8(x:Int):IntKind.u8.wrap x=vw (bh 8 x):=by rw[hZ];simp[IntKind.wrap,IntKind.bits,IntKind.signed]
theorem ofInt_add(n:Nat)(x y:Int):bh n (x+y)=bh n x+bh n y:=BitVec.ofInt_add ..
theorem Eg(x y:BitVec 32):bI .u32 (vw x) (vw y)=vw (x+y):=by rw[bI,wrap_u32,BitVec.ofInt_add,uV,uV]
theorem avQ(x:Int):dX .u32 x=vw (bh 32 x):=wrap_u32 x
theorem X0(x:Int):dX .u64 x=vw (bh 64 x):=wrap_u64 x
theorem Tz(x:Int):dX .u8 x=vw (bh 8 x):=wrap_u8 x
theorem aGt{n:Nat}(x:BitVec n):bh n ((x.toNat:Nat):Int)=x:=uV x
theorem qo(op:BinOp)(x y:BitVec 32):cG op .u32 (vw x) (vw y)=vw (match op with | .and=>x &&& y | .or=>x ||| y | .xor=>x^^^y | _=>x &&& ~~~y):=by unfold cG;split <;> (simp only[IntKind.bits,uV,wrap_u32,aGt];rfl)
theorem axj(op:BinOp)(x y:BitVec 64):cG op .u64 (vw x) (vw y)=vw (match op with | .and=>x &&& y | .or=>x ||| y | .xor=>x^^^y | _=>x &&& ~~~y):=by unfold cG;split <;> (simp only[IntKind.bits,uV,wrap_u64,aGt];rfl)
theorem aEM(x y:Nat):Int.fdiv (x:Int) (y:Int)=((x / y:Nat):Int):=by rw[km _ (gR _)];rfl
theorem Se(k:Nat):(2:Int)^k=((2^k:Nat):Int):=by simp
theorem aPW{n:Nat}(w:BitVec n)(k:Nat):Int.fdiv (vw w) (2^(min k n))=vw (w >>> k):=by
 rw[Se];unfold vw;rw[aEM,BitVec.toNat_ushiftRight,Nat.shiftRight_eq_div_pow];congr 1;rcases Nat.le_total k n with hk | hk
 ·rw[dU hk]
 ·rw[Nat.min_eq_right hk,Nat.div_eq_of_lt w.isLt,Nat.div_eq_of_lt];exact Nat.lt_of_lt_of_le w.isLt (Nat.pow_le_pow_right ak hk)
theorem Iw(w:BitVec 32)(k:Int):cz .u32 (vw w) k=vw (w >>> k.toNat):=aPW w k.toNat
theorem aPV{n:Nat}(w:BitVec n)(k:Nat):bh n (vw w*2^(min k n))=w <<< k:=by
 apply BitVec.eq_of_toNat_eq;rw[sP,BitVec.toNat_shiftLeft,Nat.shiftLeft_eq];unfold vw;rw[Se];have e:((w.toNat:Int)*((2^min k n:Nat):Int))=((w.toNat*2^min k n:Nat):Int):=by simp
 rw[e];have:(((w.toNat*2^min k n:Nat):Int)%((2^n:Nat):Int)).toNat=(w.toNat*2^min k n)%2^n:=ak;rw[this];rcases Nat.le_total k n with hk | hk
 ·rw[dU hk]
 ·rw[Nat.min_eq_right hk,Nat.mul_mod_left];obtain⟨m,rfl⟩:=Nat.exists_eq_add_of_le hk;rw[oT,<-Nat.mul_assoc,Nat.mul_right_comm,Nat.mul_mod_left]
theorem QJ(w:BitVec 32)(k:Int):mI .u32 (vw w) k=vw (w <<< k.toNat):=by rw[mI,wrap_u32];congr 1;exact aPV w k.toNat
theorem bj{i n:Int}(h1:0<=i)(h2:i < n):ed i n=true:=by simp[ed,h1,h2]
theorem uL{i n:Int}(h1:0<=i)(h2:i<=n):inc i n=true:=by simp[inc,h1,h2]
theorem aU{x y:Int}(h:x < y):gr x y=true:=by simp[gr,h]
theorem aQ{x y:Int}(h:¬x < y):gr x y=false:=by simp[gr];omega
theorem og{x y:Int}(h:x<=y):ai7 x y=true:=by simp[ai7,h]
theorem ke{x y:Int}(h:¬x<=y):ai7 x y=false:=by simp[ai7];omega
theorem cP{x y:Int}(h:x > y):qZ x y=true:=by simp[qZ];omega
theorem cr{x y:Int}(h:¬x > y):qZ x y=false:=by simp[qZ];omega
theorem gA{x y:Int}(h:x>=y):Cn x y=true:=by simp[Cn];omega
theorem eF{x y:Int}(h:¬x>=y):Cn x y=false:=by simp[Cn];omega
theorem du{x y:Int}(h:x=y):qY x y=true:=by simp[qY,h]
theorem eS{x y:Int}(h:¬x=y):qY x y=false:=by simp[qY,h]
theorem fo{x y:Int}(h:¬x=y):A7 x y=true:=by simp[A7,h]
theorem dB{x y:Int}(h:x=y):A7 x y=false:=by simp[A7,h]
theorem tI{x:Int}(h:0<=x):mK x=true:=by simp[mK,h]
theorem aM{p:Prop} [Decidable p] (h:p):decide p=true:=by simp[h]
theorem aS{p:Prop} [Decidable p] (h:¬p):decide p=false:=by simp[h]
theorem dr{n b:Nat}(h:n*b<=140737488355328)(h2:n<=9223372036854775807):db n b=true:=by simp[db,h,h2]
def from_{α:Type}(f:Nat->α->α)(t:Nat)(l:List α):List α:=l.mapIdx λi x=>if i < t then x else f i x
theorem KA{α:Type}(f:Nat->α->α)(l:List α)(t:Nat)(h:t < l.length):from_ f (t+1) (l.set t (f t l[t]))=from_ f t l:=by
 unfold from_;apply List.ext_getElem (by simp);intro i h1 h2;simp only[List.getElem_mapIdx,List.getElem_set];by_cases hi:t=i
 ·subst hi;simp
 ·simp only[if_neg hi];by_cases h3:i < t
  ·rw[if_pos ak,if_pos h3]
  ·rw[if_neg ak,if_neg h3]
theorem Qs{α:Type}(f:Nat->α->α)(l:List α)(t:Nat)(h:l.length<=t):from_ f t l=l:=by unfold from_;apply List.ext_getElem (by simp);intro i h1 h2;simp only[List.getElem_mapIdx];rw[if_pos ak]
theorem ZV{α:Type}(f:Nat->α->α)(n:Nat)(x:α):from_ f 0 (ab n x)=(List.range n).map λi=>f i x:=by unfold from_;apply List.ext_getElem (by simp);intro i h1 h2;simp
theorem cd{t:Ty}{l:List t.den}{i:Nat}(h:i < l.length):nth t l i=l[i]:=by simp[nth,h]
end Go.Ab
namespace Go.Ab.N
section
variable {α:Type} {x y:Option α} {a b n:Nat} {i j:Int}
theorem lt:aJ (gr i j) x y=if i < j then x else y:=by unfold gr;split <;> rename_i h <;> simp[h]
theorem le:aJ (ai7 i j) x y=if i<=j then x else y:=by unfold ai7;split <;> rename_i h <;> simp[h]
theorem gt:aJ (qZ i j) x y=if j < i then x else y:=by unfold qZ;split <;> rename_i h <;> simp[h]
theorem ge:aJ (Cn i j) x y=if j<=i then x else y:=by unfold Cn;split <;> rename_i h <;> simp[h]
theorem eq:aJ (qY i j) x y=if i=j then x else y:=by
 by_cases h:i=j
 ·rw[du h,if_pos h];rfl
 ·rw[eS h,if_neg h];rfl
theorem ne:aJ (A7 i j) x y=if i=j then y else x:=by
 by_cases h:i=j
 ·rw[dB h,if_pos h];rfl
 ·rw[fo h,if_neg h];rfl
theorem ib:aJ (ed i j) x y=if 0<=i/\i < j then x else y:=by unfold ed;split <;> rename_i h <;> simp[h]
theorem ic:aJ (inc i j) x y=if 0<=i/\i<=j then x else y:=by unfold inc;split <;> rename_i h <;> simp[h]
theorem nn:aJ (mK i) x y=if 0<=i then x else y:=by unfold mK;split <;> rename_i h <;> simp[h]
theorem nz:aJ (sa i) x y=if i=0 then y else x:=by unfold sa;split <;> rename_i h <;> simp[h]
theorem dc{p:Prop} [Decidable p]:aJ (decide p) x y=if p then x else y:=by split <;> rename_i h <;> simp[h]
theorem rm:aJ (db n b) x y=if n*b<=140737488355328/\n<=9223372036854775807 then x else y:=by unfold db;exact dc
theorem an{c d:Bool}:aJ (c && d) x y=aJ c (aJ d x y) y:=by cases c <;> rfl
theorem or{c d:Bool}:aJ (c || d) x y=aJ c x (aJ d x y):=by cases c <;> rfl
theorem no{c:Bool}:aJ (!c) x y=aJ c y x:=by cases c <;> rfl
theorem aSG(h:a+b<=9223372036854775807):bI .i64 (a:Int) (b:Int)=((a+b:Nat):Int):=by rw[fZ ak ak];omega
theorem mD(h:a+OfNat.ofNat n<=9223372036854775807):bI .i64 (a:Int) (no_index (OfNat.ofNat n))=((a+OfNat.ofNat n:Nat):Int):=aSG h
theorem aVg(h:OfNat.ofNat n+a<=9223372036854775807):bI .i64 (no_index (OfNat.ofNat n)) (a:Int)=((OfNat.ofNat n+a:Nat):Int):=aSG h
theorem aS6(h:b<=a)(h2:a<=9223372036854775807):cR .i64 (a:Int) (b:Int)=((a - b:Nat):Int):=by rw[eL ak ak];omega
theorem aVX(h:OfNat.ofNat n<=a)(h2:a<=9223372036854775807):cR .i64 (a:Int) (no_index (OfNat.ofNat n))=((a - OfNat.ofNat n:Nat):Int):=aS6 h h2
theorem aVW(h:a<=OfNat.ofNat n)(h2:(OfNat.ofNat n:Nat)<=9223372036854775807):cR .i64 (no_index (OfNat.ofNat n)) (a:Int)=((OfNat.ofNat n - a:Nat):Int):=aS6 h h2
theorem aS2(h:a*b<=9223372036854775807):gB .i64 (a:Int) (b:Int)=((a*b:Nat):Int):=by
 have e:(a:Int)*(b:Int)=((a*b:Nat):Int):=by simp
 rw[It ak ak,e]
theorem aVP(h:a*OfNat.ofNat n<=9223372036854775807):gB .i64 (a:Int) (no_index (OfNat.ofNat n))=((a*OfNat.ofNat n:Nat):Int):=aS2 h
theorem aSb(h:OfNat.ofNat n*a<=9223372036854775807):gB .i64 (no_index (OfNat.ofNat n)) (a:Int)=((OfNat.ofNat n*a:Nat):Int):=aS2 h
theorem aUJ(h:a<=9223372036854775807):tX .i64 (a:Int) (b:Int)=((a / b:Nat):Int):=by
 have:(a:Int).tdiv (b:Int)=((a / b:Nat):Int):=by rw[ko ak];simp
 have hl:a / b<=a:=Nat.div_le_self a b;unfold tX;rw[this];generalize a / b=c at hl;exact uJ ak ak
theorem aUI(h:a<=9223372036854775807):tX .i64 (a:Int) (no_index (OfNat.ofNat n))=((a / OfNat.ofNat n:Nat):Int):=aUJ h
theorem aUK:mS (a:Int) (b:Int)=((a%b:Nat):Int):=by unfold mS;rw[il ak];simp
theorem aS5:mS (a:Int) (no_index (OfNat.ofNat n))=((a%OfNat.ofNat n:Nat):Int):=aUK
theorem cN(h:a<=9223372036854775807):dX .i64 (a:Int)=(a:Int):=aLo ak ak
theorem cL(h:(OfNat.ofNat n:Nat)<=9223372036854775807):dX .i64 (no_index (OfNat.ofNat n))=OfNat.ofNat n:=cN h
theorem tL:ae (no_index (OfNat.ofNat n))=OfNat.ofNat n:=rfl
end
end Go.Ab.N
namespace Go.Ab
section
variable {P:Program}
theorem aEF{E E':Env}(h1:E'.w=E.w)(h2:E'.g=E.g)(h3:E'.β=E.β)(h4:E'.s=E.s):E'=E:=by obtain⟨a,b,c,d⟩:=E;obtain⟨a',b',c',d'⟩:=E';simp only at h1 h2 h3 h4;subst h1 h2 h3 h4;rfl
theorem ua.same{w:World}{g:Nat->mz}{β:Id->Option Pl}{bZ:List dE}{a:aB}{v:Value}(hv:VS ((fN bZ).env w g β) a v)(ho:iZ ((fN bZ).env w g β)):
  ua ((fN bZ).env w g β) ⟨a,bZ,[]⟩ v w:=by
 have hE:(fK.st ⟨a,bZ,[]⟩).env w g β=(fN bZ).env w g β:=by
  refine aEF rfl rfl rfl ?_
  funext id;cases id with
  |bm k=>rfl
  |new i j=>
   show([([]:List dE)].getD i [])[j]? =(([]:List (List dE)).getD i [])[j]?
   cases i <;> rfl
 refine⟨g,β,?_⟩;rw[hE];exact⟨hv,ho,Trans.refl w g,cM.refl _⟩
theorem ra.extern{f:FuncId}{fn:Func}{e:Array Value->Sem Value}(hf:P.funcs[f]? =some fn)(A4:(fn.name== "runtime.NumGoroutine")=false)(hb:fn.body.isNone=true)(hn:Extern.findNext fn=none)(he:Extern.find fn=some e){en:Entry}
  (h:∀w g β args bZ ji x,yA ((fN bZ).env w g β) args ji->iZ ((fN bZ).env w g β)->en.run args bZ=some x->∃v,(e ji.toArray).run P w= .ok v w/\ua ((fN bZ).env w g β) (en.out args bZ x) v w):ra P f en:=by
 intro w g β args bZ ji x h1 h2 h3;obtain⟨v,h4,h5⟩:=h w g β args bZ ji x h1 h2 h3;refine .inr ⟨v,w,?_,h5⟩;rw[run_callFunc_extern hf A4 hb hn he,h4];rfl
def aNQ.E:Entry:= {params:=[none],X:=Unit,run:=λargs _=>match args with | [_]=>some () | _=>none,out:=λargs bZ _=>⟨args.headD .undef,bZ,[]⟩}
theorem aNQ.of{f:FuncId}{fn:Func}(hf:P.funcs[f]? =some fn)(A4:(fn.name== "runtime.NumGoroutine")=false)(hb:fn.body.isNone=true)(hn:Extern.findNext fn=none)(he:Extern.find fn=some Extern.AbiNoEscape.same):ra P f aNQ.E:=by
 refine ra.extern hf A4 hb hn he λw g β args bZ ji x h1 h2 h3=> ?_
 cases args with
 |nil=>cases h3
 |cons a as=>
  cases as with
  |cons _ _=>cases h3
  |nil=>
   cases ji with
   |nil=>exact h1.elim
   |cons v vs=>
    obtain⟨h4,h5⟩:=h1;cases vs with
    |cons _ _=>exact h5.elim
    |nil=>exact⟨v,rfl,ua.same h4 h2⟩
theorem ag5{w:World}:∀(xs:List Int) (a:Addr) (acc:ByteArray),(∀j x,xs[j]? =some x->w.cell? (a.add j)=some (.int .u8 x))->
  (Extern.Bytes.loadBytes a xs.length acc).run P w= .ok ⟨acc.data++(xs.map λn=>fm n.toNat).toArray⟩ w
 |[],a,acc,_=>by simp[Extern.Bytes.loadBytes]
 |x::l,a,acc,h=>by
  have h0:w.cell? a=some (.int .u8 x):=by have:=h 0 x rfl;simpa[Addr.add]using this
  have ih:=ag5 l (a.add 1) (acc.push x.toNat.toUInt8) (λj y hy=>by
   have:=h (j+1) y (by simpa using hy);have e:(a.add 1).add j=a.add (j+1):=by
    unfold Addr.add;by_cases hj:j=0
    ·subst hj;simp
    ·simp[hj];omega
   rw[e];exact this)
  simp only[aA,Extern.Bytes.loadBytes,Sem.run_bind,run_load,h0,Result.andThen];rw[ih];congr 1;apply ByteArray.ext;simp[ByteArray.push]
theorem acs{E:Env}{l:List Int}{y:Value}(h:VS E (.d (.slice (.int .u8)) l) y):(Extern.Bytes.bytesOf y).run P E.w= .ok (fy l) E.w:=by
 obtain⟨a,cap,vs,rfl,_,hs,s9,wB⟩:=u6 h;have VF:=xq (k:= .u8) (vs:=vs) (l:=l) wB;cases a with
 |none=>
  have hl:l=[]:=by
   cases l with
   |nil=>rfl
   |cons _ _=>simp at hs
  subst hl;rfl
 |some ad=>
  have aFd:=ag5 (P:=P) (w:=E.w) l ad .empty λj x hx=>by
   obtain⟨b,off,e,hh⟩:=s9 j (.int .u8 x) (by rw[VF];simp[hx]);have e:ad=⟨b,off,none⟩:=by simpa using e
   subst e;have h1:=hh.1;unfold Addr.add;by_cases hj:j=0
   ·subst hj;simpa using h1
   ·simpa[hj]using h1
  show(Extern.Bytes.loadBytes ad l.length .empty).run P E.w=_;rw[aFd];congr 1;apply ByteArray.ext;simp[fy]
def adW(a b:List Int):Int:=Extern.BytealgCompare.cmp (fy a) (fy b)
def au7:Entry:=Entry.of (D:=List Int×List Int) (X:=Int) [some (.slice (.int .u8)),some (.slice (.int .u8))] (λd=>([.d (.slice (.int .u8)) d.1,.d (.slice (.int .u8)) d.2],[])) (λ_=>True) (λd=>adW d.1 d.2) (λx=>⟨.d (.int .i64) x,[],[]⟩)
theorem aJW:∀d d':List Int×List Int,(([aB.d (.slice (.int .u8)) d.1,aB.d (.slice (.int .u8)) d.2],([]:List dE)):List aB×List dE)=([.d (.slice (.int .u8)) d'.1,.d (.slice (.int .u8)) d'.2],[])->d=d':=by rintro⟨a,b⟩ ⟨a',b'⟩ h;have e1:a=a':=aNh (t:= .slice (.int .u8)) (bo (λs:List aB×List dE=>s.1.getD 0 .undef) h);have e2:b=b':=aNh (t:= .slice (.int .u8)) (bo (λs:List aB×List dE=>s.1.getD 1 .undef) h);rw[e1,e2]
def alD:List Int×List Int->Option Int:=λd=>au7.run [.d (.slice (.int .u8)) d.1,.d (.slice (.int .u8)) d.2] []
theorem au8(d:List Int×List Int):alD d=some (adW d.1 d.2):=Entry.vO (d:=d) aJW trivial
theorem aOb{f:FuncId}{fn:Func}(hf:P.funcs[f]? =some fn)(A4:(fn.name== "runtime.NumGoroutine")=false)(hb:fn.body.isNone=true)(hn:Extern.findNext fn=none)(he:Extern.find fn=some Extern.BytealgCompare.compare):ra P f au7:=by
 refine ra.extern hf A4 hb hn he λw g β args bZ ji x h1 h2 h3=> ?_
 have hx:∃d:List Int×List Int,(([aB.d (.slice (.int .u8)) d.1,aB.d (.slice (.int .u8)) d.2],([]:List dE)):List aB×List dE)=(args,bZ):=by
  by_cases hh:∃d:List Int×List Int,(([aB.d (.slice (.int .u8)) d.1,aB.d (.slice (.int .u8)) d.2],([]:List dE)):List aB×List dE)=(args,bZ)
  ·exact hh
  ·exfalso;have hn:au7.run args bZ=none:=Cg λ⟨d,h,_⟩=>hh ⟨d,h⟩
   rw[hn]at h3;cases h3
 obtain⟨d,hd⟩:=hx;simp only[cE]at hd;obtain⟨rfl,rfl⟩:=hd;have hr:=au8 d;have hx:x=adW d.1 d.2:=bf (h3.symm.trans hr);subst hx
 match ji,h1 with
 |[u,v],⟨h4,h5,_⟩=>
  refine⟨.int .i64 (adW d.1 d.2),?_,ua.same (l5 _ _) h2⟩;have e1:=acs (P:=P) h4;have e2:=acs (P:=P) h5;have e1:(Extern.Bytes.bytesOf u).run P w= .ok (fy d.1) w:=e1;have e2:(Extern.Bytes.bytesOf v).run P w= .ok (fy d.2) w:=e2;have aOW:Extern.BytealgCompare.compare [u,v].toArray=(do let a <-Extern.Bytes.bytesOf u;let b <-Extern.Bytes.bytesOf v;pure (goInt (Extern.BytealgCompare.cmp a b))):=rfl;rw[aOW];simp[e1,e2,goInt,adW]
def aTk{X Y:Type} [Inhabited Y] (x:Option X):Option (X×Y):=al x λy=>some (y,default)
def aTl{X Y:Type} [Inhabited X] (x:Option Y):Option (X×Y):=al x λy=>some (default,y)
@[simp] theorem aQm{X Y:Type} [Inhabited Y] (x:X):aTk (Y:=Y) (some x)=some (x,default):=rfl
@[simp] theorem aQn{X Y:Type} [Inhabited X] (x:Y):aTl (X:=X) (some x)=some (default,x):=rfl
def Entry.half(params:List (Option Ty)){X Z:Type}(run:List aB->List dE->Option X)(out:List aB->List dE->X->fK)(i:Z->X)(p:X->Option Z):Entry:= {params,X:=Z,run:=λa o=>(run a o).bind p,out:=λa o z=>out a o (i z)}
def jP{X Z:Type}(p:X->Option Z)(x:Option X):Option Z:=x.bind p
theorem oM{X Y:Type}(x:X):jP cU (some (Sum.inl x:X⊕Y))=some x:=rfl
theorem aK6{X Y:Type}(x:Y):jP Sum.getRight? (some (Sum.inr x:X⊕Y))=some x:=rfl
theorem ra.half{f:FuncId}{params:List (Option Ty)}{X Z:Type}{run:List aB->List dE->Option X}{out:List aB->List dE->X->fK}{i:Z->X}{p:X->Option Z}(hp:∀x z,p x=some z->x=i z)
  (h:ra P f {params,X,run,out}):ra P f (Entry.half params run out i p):=by
 intro w g β args bZ ji z h3 h4 h5;have h5:(run args bZ).bind p=some z:=h5;cases hr:run args bZ with
 |none=>rw[hr]at h5;cases h5
 |some x=>
  rw[hr]at h5;obtain rfl:=hp x z h5;exact h w g β args bZ ji (i z) h3 h4 hr
theorem aRi{X Y:Type}(x:X⊕Y)(z:X)(h:x.getLeft?=some z):x= .inl z:=by cases x <;> cases h;rfl
theorem aRj{X Y:Type}(x:X⊕Y)(z:Y)(h:x.getRight?=some z):x= .inr z:=by cases x <;> cases h;rfl
end
theorem S1:(type_of% @N.lt)/\(type_of% @N.le)/\(type_of% @N.gt)/\(type_of% @N.ge)/\(type_of% @N.eq)/\(type_of% @N.ne)/\(type_of% @N.ib)/\(type_of% @N.ic)/\(type_of% @N.nn)/\(type_of% @N.nz)/\(type_of% @N.dc)/\(type_of% @N.rm)/\(type_of% @N.an)/\(type_of% @N.or)/\(type_of% @N.no)/\(type_of% @aj)/\(type_of% @ao)/\(type_of% @ah):=⟨@N.lt,@N.le,@N.gt,@N.ge,@N.eq,@N.ne,@N.ib,@N.ic,@N.nn,@N.nz,@N.dc,@N.rm,@N.an,@N.or,@N.no,@aj,@ao,@ah⟩
theorem S2:(type_of% @ah)/\(type_of% @N.aSG)/\(type_of% @N.mD)/\(type_of% @N.aVg)/\(type_of% @N.aS6)/\(type_of% @N.aVX)/\(type_of% @N.aVW)/\(type_of% @N.aS2)/\(type_of% @N.aVP)/\(type_of% @N.aSb)/\(type_of% @N.aUJ)/\(type_of% @N.aUI)/\(type_of% @N.aUK)/\(type_of% @N.aS5)/\(type_of% @N.cN)/\(type_of% @N.cL)/\(type_of% @N.tL)/\(type_of% @aa)/\(type_of% @jl)/\(type_of% @mQ)/\(type_of% @iQ):=⟨@ah,@N.aSG,@N.mD,@N.aVg,@N.aS6,@N.aVX,@N.aVW,@N.aS2,@N.aVP,@N.aSb,@N.aUJ,@N.aUI,@N.aUK,@N.aS5,@N.cN,@N.cL,@N.tL,@aa,@jl,@mQ,@iQ⟩
end Go.Ab
namespace Go.Ab
open Go.ChangeShapes Go.WideShapes Go.ChangeAt Go.RowKit Go.Deep
def afh:(t:Ty)->t.den->Prop
 | .int k,x=>(Lit.int k x).wf=true
 | .bool,_=>True
 | .str,s=>(s:ByteArray).size<=maxLen
 | .slice t,l=>(l:List t.den).length<=maxLen/\∀x∈(l:List t.den),afh t x
 | .unit,_=>True
 | .pair a b,x=>afh a x.1/\afh b x.2
 | .arr n t,l=>(l:List t.den).length=n/\∀x∈(l:List t.den),afh t x
 | .ig _,_ | .uH _,_=>False
def A3(P:Program)(rd:TypeId->Ty->Bool):Nat->List Field->Ty->Bool
 |_,[],.unit=>true
 |off,f::fs,.pair a b=>iO f.offset off && (rd f.type a && (iO (P.cellsOf f.type) a.size && A3 P rd (off+a.size) fs b))
 |_,_,_=>false
def DD(P:Program):Nat->TypeId->Ty->Bool
 | 0,_,_=>false
 |n+1,T,ty=>
  match P.underlying T,ty with
  |some (.int k),.int k'=>decide (k=k')
  |some .bool,.bool=>true
  |some .string,.str=>true
  |some (.slice e),.slice t=>DD P n e t && iO (P.cellsOf e) t.size
  |some (.array k e),.arr k' t=>iO k k' && (DD P n e t && (iO (P.cellsOf e) t.size && iO (P.cellsOf T) (k*t.size)))
  |some (.struct fs),ty=>A3 P (DD P n) 0 fs.toList ty && iO (P.cellsOf T) ty.size
  |_,_=>false
theorem aJ3{a b:Nat}:(iO a b=true)=(a=b):=propext ⟨eW,λh=>by subst h;exact Nat.beq_refl a⟩
theorem anX{α β:Type}{f:α->Option β}:∀ {l:List α} {r:List β},l.mapM f=some r->r.length=l.length/\∀(i:Nat) (x:α),l[i]? =some x->f x=r[i]?
 |[],r,h=>by simp only[List.mapM_nil,Option.pure_def,az]at h;subst h;exact⟨rfl,λi x h=>by simp at h⟩
 |y::l,r,h=>by
  simp only[List.mapM_cons,Option.bind_eq_bind,Option.pure_def,Option.bind_eq_some_iff,az]at h;obtain⟨b,hb,r',hr,rfl⟩:=h;obtain⟨h1,h2⟩:=anX hr;refine⟨by simp[h1],λi x hi=> ?_⟩;cases i with
  |zero=>
   simp only[fQ,az]at hi;subst hi;simpa using hb
  |succ i=>
   simp only[mA]at hi ⊢;exact h2 i x hi
theorem axQ{w:World}{base:Nat}{a:Addr}{n:Nat}{cs:List Value}(h:w.cells? base a n=some cs):cs.length=n/\∀i,i < n->w.cell? (a.add i)=cs[i]? :=by
 unfold World.cells? at h;split at h
 ·obtain⟨h1,h2⟩:=anX h;exact⟨by simpa using h1,λi hi=>h2 i i (by simp[hi])⟩
 ·cases h
theorem add_add(a:Addr)(x y:Nat):(a.add x).add y=a.add (x+y):=by unfold Addr.add;by_cases hx:x=0 <;> by_cases hy:y=0 <;> simp[hx,hy,eP]
theorem aBg{w:World}{a:Addr}{v:Value}(h:w.cell? a=some v):a.spot=none:=by
 unfold World.cell? at h;split at h
 ·split at h
  ·cases h
  ·rename_i hs;cases hh:a.spot with
   |none=>rfl
   |some _=>simp[hh]at hs
 ·cases h
theorem aPQ{E:Env}(hg:∀b,E.g b= .free){a:Addr}{vs:List Value}(h:∀i,i < vs.length->E.w.cell? (a.add i)=vs[i]?):GW E (some a) vs:=by
 intro i v hv;have hi:i < vs.length:=(dF.1 hv).1;have h0:=h 0 ak;rw[bU ak]at h0;have hs:a.spot=none:=aBg (a:=a) (by simpa[Addr.add]using h0);obtain⟨b,off,sp⟩:=a;simp only at hs;subst hs;refine⟨b,off,rfl,?_,?_⟩
 ·have:=h i hi;rw[hv]at this;rw[<-this];unfold Addr.add;split
  ·rename_i h;subst h;rfl
  ·rfl
 ·unfold vk;rw[hg b];trivial
section
variable {H:Type} {enc:TypeId×Value->H} {P:Program} {base:Nat} {spare:Nat->Bool} {held:Bool} {E:Env}
theorem awA{t:Ty}{R:List Value->t.den->Prop}{G:t.den->Prop}{w:World}{a:Addr}{z:Nat}(hR:∀c x,R c x->c.length=z):∀(len:Nat),(∀i,i < len->∃c x,R c x/\G x/\∀j,j < z->w.cell? (a.add (i*z+j))=c[j]?)->
  ∃(vs:List Value) (l:List t.den),vs.length=len*z/\l.length=len/\(∀i,i < vs.length->w.cell? (a.add i)=vs[i]?)/\bD R vs l/\∀x∈l,G x
 | 0,_=>⟨[],[],by simp,rfl,λi h=>by simp at h,rfl,λ_ h=>by cases h⟩
 |len+1,h=>by
  obtain⟨vs,l,h1,h2,h3,h4,h5⟩:=awA hR len λi hi=>h i ak
  obtain⟨c,x,g1,g2,g3⟩:=h len ak;have hc:=hR c x g1;refine⟨vs++c,l++ [x],by rw[ai,h1,hc,eE,iE],by rw[ai,h2];rfl,λi hi=> ?_,bD.append h4 ⟨c,[],by simp,g1,rfl⟩,λy hy=> ?_⟩
  ·rw[ai,h1,hc]at hi;by_cases hl:i < vs.length
   ·rw[h3 i hl,fq hl]
   ·rw[List.getElem?_append_right ak,h1,<-g3 (i - len*z) ak,show len*z+(i - len*z)=i by omega]
  ·rcases bz.1 hy with hy | hy
   ·exact h5 y hy
   ·rw[bk.1 hy];exact g2
theorem afJ{t:Ty}{R:List Value->t.den->Prop}{G:t.den->Prop}{z:Nat}:∀(n:Nat) (cs:List Value),cs.length=n*z->(∀i,i < n->∃x,R ((cs.drop (i*z)).take z) x/\G x)->
  ∃l:List t.den,l.length=n/\bD R cs l/\∀x∈l,G x
 | 0,cs,h,_=>⟨[],rfl,bE (by simpa using h),λ_ h=>by cases h⟩
 |n+1,cs,h,hi=>by
  obtain⟨x,g1,g2⟩:=hi 0 ak;obtain⟨l,h1,h2,h3⟩:=afJ (R:=R) (G:=G) (z:=z) n (cs.drop z) (by rw[dp,h,eE];omega) λi agb=>by obtain⟨y,k1,k2⟩:=hi (i+1) ak;refine⟨y,?_,k2⟩;rw[fU,show z+i*z=(i+1)*z by rw[eE];omega];exact k1
  refine⟨x::l,by simp[h1],⟨cs.take z,cs.drop z,(dq z cs).symm,by simpa using g1,h2⟩,λy hy=> ?_⟩;rcases bY.1 hy with rfl | hy
  ·exact g2
  ·exact h3 y hy
theorem Ws{rd:TypeId->Ty->Bool}{cs:List Value}:∀(fs:List Field) (off:Nat) (ty:Ty),A3 P rd off fs ty=true->off+ty.size<=cs.length->
  (∀f∈fs,∀t,rd f.type t=true->P.cellsOf f.type=t.size->∃v,df E t ((cs.drop f.offset).take (P.cellsOf f.type)) v/\afh t v)->∃v,df E ty ((cs.drop off).take ty.size) v/\afh ty v
 |[],off,ty,h,hl,_=>by
  cases ty <;> simp only[A3]at h <;> first | cases h | skip
  exact⟨(),by simp[df,Ty.size],trivial⟩
 |f::fs,off,ty,h,hl,hf=>by
  cases ty <;> simp only[A3]at h <;> first | cases h | skip
  rename_i a b;simp only[au,aJ3]at h;obtain⟨h1,h2,h3,h4⟩:=h;have hl:off+(a.size+b.size)<=cs.length:=hl;obtain⟨v,k1,k2⟩:=hf f (aI ..) a h2 h3;obtain⟨u,k3,k4⟩:=Ws fs (off+a.size) b h4 ak λf' hf'=>hf f' (aG _ hf')
  refine⟨(v,u),⟨(cs.drop off).take a.size,(cs.drop (off+a.size)).take b.size,?_,?_,k3⟩,k2,k4⟩
  ·rw[show Ty.size (.pair a b)=a.size+b.size from rfl,List.take_add,fU]
  ·rw[h1,h3]at k1;exact k1
theorem Rn(hg:∀b,E.g b= .free):∀(n:Nat) (T:TypeId) (ty:Ty),DD P n T ty=true->∀ {fuel:Nat} {cs:List Value} {x:DataW H×List MemPlace},DataW.trod enc P E.w base spare held fuel T cs=some x->∃v,df E ty cs v/\afh ty v
 | 0,_,_,h,_,_,_,_=>by simp[DD]at h
 |n+1,T,ty,h,fuel,cs,x,hx=>by
  unfold DD at h;split at h
  ·rename_i k k' hu;obtain rfl:=of_decide_eq_true h;obtain⟨m,rfl,_,hw⟩:=DataW.trod_int hu hx;exact⟨m,rfl,hw⟩
  ·rename_i hu;obtain⟨b,rfl,_⟩:=DataW.trod_bool hu hx;exact⟨b,rfl,trivial⟩
  ·rename_i hu;obtain⟨s,rfl,_,hs⟩:=DataW.trod_string hu hx;exact⟨s,rfl,hs⟩
  ·rename_i e t hu;simp only[au,aJ3]at h;obtain⟨h1,h2⟩:=h;rcases open_slice hu hx with⟨rfl,_⟩ | ⟨a,len,cap,m,f,D,Pl,rfl,_,hl,hm,aTZ,_,he⟩
   ·exact⟨([]:List t.den),⟨none,0,[],rfl,ax _,λh=>by simp at h,λi v hv=>by simp at hv,rfl⟩,aK _,λ_ h=>by cases h⟩
   ·have aRL:len<=m:=by rw[aTZ];split <;> omega
    obtain⟨vs,l,k1,k2,k3,k4,k5⟩:=awA (t:=t) (R:=df E t) (G:=afh t) (w:=E.w) (a:=a) (z:=t.size) (λc x h=>df.size h) len λi hi=>by obtain⟨cs',g1,g2⟩:=he i ak;obtain⟨v,g3,g4⟩:=Rn hg n e t h1 g2;obtain⟨g5,g6⟩:=axQ g1;refine⟨cs',v,g3,g4,λj hj=> ?_⟩;rw[<-g6 j ak,add_add,h2]
    refine⟨l,⟨some a,cap,vs,by rw[k2],by rw[k2];exact hl,λ_=>rfl,aPQ hg k3,k4⟩,by rw[k2];omega,k5⟩
  ·rename_i k e k' t hu;simp only[au,aJ3]at h;obtain⟨rfl,h1,h2,h3⟩:=h;obtain⟨xs,m,rfl,_,hl,aJC,he⟩:=DataW.trod_array hu hx;obtain⟨l,k1,k2,k3⟩:=afJ (t:=t) (R:=df E t) (G:=afh t) (z:=t.size) k cs (by rw[hl,h3]) λi hi=>by have:=he i hi;rw[bU ak,h2]at this;exact Rn hg n e t h1 this
   exact⟨l,⟨k1,k2⟩,k1,k3⟩
  ·rename_i ty fs hu;simp only[au,aJ3]at h;obtain⟨h1,h2⟩:=h;obtain⟨xs,m,rfl,_,hl,aJC,he⟩:=DataW.trod_struct hu hx;obtain⟨v,k1,k2⟩:=Ws (E:=E) (cs:=cs) fs.toList 0 _ h1 (by rw[hl,h2];omega) λf hf t ht hc=>by
    obtain⟨i,hi,aWv⟩:=List.mem_iff_getElem.1 hf;have hi':i < fs.size:=by simpa using hi
    have:=he i f (by rw[<-aWv];simp[hi']);rw[bU ak]at this;exact Rn hg n f.type t ht this
   refine⟨v,?_,k2⟩;rwa[aD,aY ak]at k1
  ·cases h
end
end Go.Ab
namespace Go.Ab
open Go.ChangeShapes Go.WideShapes Go.ChangeAt Go.RowKit Go.Deep
section
variable {H:Type} {enc:TypeId×Value->H} {P:Program} {base b0:Nat} {spare:Nat->Bool} {held:Bool} {E:Env} {W:World}
theorem arS{rd:TypeId->Ty->Bool}{fs:List Field}{off:Nat}{ty:Ty}(h:A3 P rd off fs ty=true):ty.agg=true:=by cases fs <;> cases ty <;> first | rfl | (simp[A3]at h)
theorem aHm(hw:E.w=W)(hg:∀b,E.g b= .free){n:Nat}{t:TypeId}{ty:Ty}(h:DD P n t ty=true){v:Value}{d:DataW H}{ps:List MemPlace}(A5:Value.okWide P W .any base t v)(hd:DataW.Trod enc P W b0 spare held t v d ps):
  ∃x:ty.den,VS E (.d ty x) v/\afh ty x:=by
 subst hw;obtain⟨fuel,hf⟩:=hd;obtain⟨x,h1,h2⟩:=Rn hg n t ty h hf;refine⟨x,⟨v.cells.toList,h1,?_⟩,h2⟩;cases n with
 |zero=>simp[DD]at h
 |succ n=>
  unfold DD at h;split at h
  ·rename_i k k' hu;obtain⟨m,rfl⟩:=okWide_int hu A5;rfl
  ·rename_i hu;obtain⟨m,rfl⟩:=okWide_bool hu A5;rfl
  ·rename_i hu;obtain⟨m,rfl⟩:=okWide_string hu A5;rfl
  ·rename_i hu;obtain⟨a,len,cap,rfl⟩:=okWide_slice hu A5;rfl
  ·rename_i hu;simp only[Value.okWide,hu]at A5;obtain⟨cs,rfl,_⟩:=A5;show _=_;simp[Value.cells]
  ·rename_i fs hu;simp only[Value.okWide,hu]at A5;obtain⟨cs,rfl,_⟩:=A5;simp only[au]at h;have:=arS h.1;simp only[aB.agg,this,fT,Value.cells,Array.toArray_toList]
  ·cases h
def DV:List Ty->Type
 |[]=>Unit
 |t::ts=>t.den×DV ts
def DV.ji:(ts:List Ty)->DV ts->List aB
 |[],_=> []
 |t::ts,x=> .d t x.1::DV.ji ts x.2
def DV.aUS:(ts:List Ty)->DV ts->Prop
 |[],_=>True
 |t::ts,x=>afh t x.1/\DV.aUS ts x.2
def wW(P:Program)(n:Nat):List TypeId->List Ty->Bool
 |[],[]=>true
 |T::Ts,t::ts=>DD P n T t && wW P n Ts ts
 |_,_=>false
theorem agR(hw:E.w=W)(hg:∀b,E.g b= .free){n:Nat}:∀ {Ts:List TypeId} {ts:List Ty} {vs:List Value} {ds:List (DataW H)} {ps:List MemPlace},wW P n Ts ts=true->
  (∀(j:Nat) t v,Ts[j]? =some t->vs[j]? =some v->Value.okWide P W .any base t v)->DataW.TrodAll enc P W b0 spare held Ts vs ds ps->∃x:DV ts,yA E (DV.ji ts x) vs/\DV.aUS ts x
 |[],[],vs,ds,ps,_,_,h=>by obtain⟨rfl,rfl,rfl⟩:=trodAll_nil h;exact⟨(),trivial,trivial⟩
 |T::Ts,[],_,_,_,h,_,_=>by simp[wW]at h
 |[],t::ts,_,_,_,h,_,_=>by simp[wW]at h
 |T::Ts,t::ts,vs,ds,ps,h,A5,hd=>by simp only[wW,au]at h;obtain⟨v,vs',d,ds',p,q,rfl,rfl,rfl,h1,h2⟩:=trodAll_cons hd;obtain⟨x,k1,k2⟩:=aHm hw hg h.1 (A5 0 T v rfl rfl) h1;obtain⟨y,k3,k4⟩:=agR hw hg h.2 (λj t v hj hv=>A5 (j+1) t v (by simpa using hj) (by simpa using hv)) h2;exact⟨(x,y),⟨k1,k3⟩,⟨k2,k4⟩⟩
def xF(P:Program)(Ts:List TypeId):Bool:=Ts.all λt=>P.readableRec t && decide (t < P.types.size)
theorem MV(hl:laidOutB P=true){W':World}(hb:Below W.heap.size W W')(sp:Nat->Bool):∀ {Ts:List TypeId} {vs:List Value} {ds:List (DataW H)} {ps:List MemPlace},xF P Ts=true->(∀p∈ps,p.block < W.heap.size)->(∀p∈ps,sp p.block=true)->
  DataW.TrodAll enc P W 0 (λ_=>true) true Ts vs ds ps->DataW.TrodAll enc P W' 0 sp true Ts vs ds ps
 |[],vs,ds,ps,_,_,_,h=>by obtain⟨rfl,rfl,rfl⟩:=trodAll_nil h;exact trodAll_mk0
 |T::Ts,vs,ds,ps,hr,gQ,hs,h=>by obtain⟨v,vs',d,ds',p,q,rfl,rfl,rfl,h1,h2⟩:=trodAll_cons h;simp only[xF,ff,au,aW]at hr;have h3:=WideElems.Trod_stays hl hr.1.1 hr.1.2 h1 (λx hx=>hb.same (gQ x (bz.2 (.inl hx)))) (λx hx=>hs x (bz.2 (.inl hx)));exact⟨p,q,h3,MV hl hb sp (by simpa[xF]using hr.2) (λx hx=>gQ x (bz.2 (.inr hx))) (λx hx=>hs x (bz.2 (.inr hx))) h2,rfl⟩
end
theorem J5{H:Type}{enc:TypeId×Value->H}{P:Program}{W:World}{b0:Nat}{spare:Nat->Bool}{held:Bool}:∀ {Ts:List TypeId} {vs:List Value} {ds:List (DataW H)} {ps:List MemPlace},DataW.TrodAll enc P W b0 spare held Ts vs ds ps->ds.length=Ts.length
 |[],_,_,_,h=>by obtain⟨_,rfl,_⟩:=trodAll_nil h;rfl
 |_::_,_,_,_,h=>by obtain⟨v,vs',d,ds',p,q,rfl,rfl,rfl,h1,h2⟩:=trodAll_cons h;simp[J5 h2]
theorem aow{H:Type}{enc:TypeId×Value->H}{P:Program}{f:Func}{s:ChangeSpec}{W W':World}{args:Array Value}{v:Value}{ds gs:List (DataW H)}{before:List MemPlace}{tb:TypeId}
  (hl:laidOutB P=true) (aqr:xF P f.params.toList=true) (anr:s.vars=[]) (aUk:f.resultTypes= #[tb]) (aUn:P.underlying tb=some .bool)
  (hW:DataW.Whole enc P f.params.toList s.vars false W args.toList ds gs before) (aOX:s.fn H (ds++gs)= {results:=[.lit (.bool true)],args:=ds}) (hb:Below W.heap.size W W') (hv:v= .bool true):
  s.post enc P f false true false false W args v W':=by
 subst hv;have hW':=hW;have hold:∀p∈before,(λb=>decide (b < W.heap.size)) p.block=true:=λp hp=>by simpa using hW.lt p hp
 obtain⟨p,q,hA,hV,rfl,hz,_⟩:=hW;rw[anr]at hV;obtain⟨rfl,rfl⟩:=trodVars_none hV;have gQ:∀x∈p,x.block < W.heap.size:=λx hx=>hW'.lt x (bz.2 (.inl hx))
 have L9:∀sp:Nat->Bool,(∀x∈p,sp x.block=true)->DataW.TrodAll enc P W' 0 sp true f.params.toList args.toList (s.fn H (ds++ [])).args p:=λsp hs=>by rw[aOX];exact MV hl hb sp aqr gQ hs hA
 have aUe:∀(b:Nat) (sp:Nat->Bool) (hd:Bool),DataW.TrodAll enc P W' b sp hd f.resultTypes.toList ((Value.bool true).resultList f.resultTypes.size) (s.fn H (ds++ [])).results []:=λb sp hd=>by rw[aOX,aUk];exact trodAll_mk1 (shut_bool aUn _)
 have VF:∀sp:Nat->Bool,DataW.TrodVars enc P W' sp s.vars (s.fn H (ds++ [])).vars []:=λsp=>by rw[aOX,anr];rfl
 refine⟨ds,[],p++ [],[],p,[],hW',aUe _ _ _,L9 _ (λx hx=>hold x (bz.2 (.inl hx))),VF _,hb.frame _,λh=>by cases h⟩
theorem Jp{P:Program}{n:Nat}:∀ {Ts:List TypeId} {ts:List Ty},wW P n Ts ts=true->Ts.length=ts.length
 |[],[],_=>rfl
 |[],_::_,h=>by simp[wW]at h
 |_::_,[],h=>by simp[wW]at h
 |_::_,_::_,h=>by simp only[wW,au]at h;simp[Jp h.2]
theorem azb{H:Type}{enc:TypeId×Value->H}{P:Program}{f:FuncId}{fn:Func}{en:Entry}{s:ChangeSpec}{tb:TypeId}(n:Nat)(tys:List Ty)(hD:ra P f en)(hf:P.funcs[f]? =some fn)(aRp:fn.body.isSome=true)(A4:(fn.name== "runtime.NumGoroutine")=false)
  (hl:laidOutB P=true) (aNA:wW P n fn.params.toList tys=true) (aqr:xF P fn.params.toList=true) (anr:s.vars=[]) (aUk:fn.resultTypes= #[tb]) (aUn:P.underlying tb=some .bool)
  (aOX:∀ds:List (DataW H),ds.length=tys.length->s.fn H (ds++ [])= {results:=[.lit (.bool true)],args:=ds})
  (gG:∀x:DV tys,DV.aUS tys x->∃r,en.run (DV.ji tys x) []=some r/\en.out (DV.ji tys x) [] r=⟨.d .bool true,[],[]⟩)
  {W:World} {base:Nat} {args:Array Value} {ds gs:List (DataW H)} {before:List MemPlace}
  (A5:∀(j:Nat) t v,fn.params[j]? =some t->args[j]? =some v->Value.okWide P W .any base t v)
  (hW:DataW.Whole enc P fn.params.toList s.vars false W args.toList ds gs before):
  Calls P f args W λe W'=>∃v,e= .returned v/\s.post enc P fn false true false false W args v W':=by
 have hW':=hW;obtain⟨p,q,hA,hV,_,_,_⟩:=hW;rw[anr]at hV;obtain⟨rfl,rfl⟩:=trodVars_none hV;obtain⟨x,aPi,aSY⟩:=agR (E:=(fN []).env W (λ_=> .free) (λ_=>none)) rfl (λ_=>rfl) aNA (λj t v hj hv=>A5 j t v (by simpa using hj) (by simpa using hv)) hA;obtain⟨r,aFh,ad3⟩:=gG x aSY;have cQ:(callFunc f args).run P W= .ok (.enter f args) W:=by
  unfold callFunc;obtain⟨c,hc⟩:=bO.1 aRp;have hname':¬fn.name= "runtime.NumGoroutine" :=by simpa using A4
  simp[hf,hname',hc]
 have hlen:ds.length=tys.length:=by rw[J5 hA,Jp aNA]
 have ho:iZ ((fN []).env W (λ_=> .free) (λ_=>none)):=λid ver fr c h=>by
  exfalso;cases id with
  |bm k=>simp[AS.env,AS.bW,fN]at h
  |new i j=>simp[AS.env,AS.bW,fN]at h
 rcases hD W (λ_=> .free) (λ_=>none) (DV.ji tys x) [] args.toList r aPi ho aFh with⟨_,hc⟩ | ⟨v,w',hc,_⟩
 ·refine hc.mono λe w' he=> ?_
  obtain⟨v,rfl,g',β',h1,_,h2,_⟩:=he;rw[ad3]at h1;refine⟨v,rfl,aow hl aqr anr aUk aUn hW' (aOX ds hlen) ⟨h2.os,h2.tape,h2.output.1,h2.size,λb hb=>(h2.SX b hb).2⟩ ?_⟩;obtain⟨cs,k1,k2⟩:=h1;have k1:cs=[.bool true]:=k1;subst k1;have k2: [Value.bool true]=[v]:=k2;simpa using k2.symm
 ·rw[show args.toList.toArray=args from Array.toArray_toList ..,cQ]at hc;cases hc
end Go.Ab
namespace Go.Ab
abbrev W:=BitVec 32
def v7(w:W)(k:Nat):W:=w <<< (32 - k) ||| w >>> k
def aQ1(a b c d:Int):W:=bh 32 a <<< 24 ||| bh 32 b <<< 16 ||| bh 32 c <<< 8 ||| bh 32 d
def be(l:List Int)(i:Nat):W:=aQ1 (l.getD (4*i) 0) (l.getD (4*i+1) 0) (l.getD (4*i+2) 0) (l.getD (4*i+3) 0)
structure St where
 a:W
 b:W
 c:W
 d:W
 e:W
 f:W
 g:W
 h:W
def St.l(s:St):List Int:=[vw s.a,vw s.b,vw s.c,vw s.d,vw s.e,vw s.f,vw s.g,vw s.h]
def aUV(x:W):W:=v7 x 7^^^v7 x 18^^^x >>> 3
def aUW(y:W):W:=v7 y 17^^^v7 y 19^^^y >>> 10
def aNP(l:List W)(i:Nat):W:=l.getD (i - 16) 0+aUV (l.getD (i - 15) 0)+l.getD (i - 7) 0+aUW (l.getD (i - 2) 0)
def ext(l:List W):List W:=l++ [aNP l l.length]
def aJF(m:List W):Nat->List W
 | 0=>m
 |n+1=>ext (aJF m n)
def words(b:List Int):List W:=(List.range 16).map (be b)
def sched(b:List Int):List W:=aJF (words b) 48
def kl:List Nat:=[0x428a2f98,0x71374491,0xb5c0fbcf,0xe9b5dba5,0x3956c25b,0x59f111f1,0x923f82a4,0xab1c5ed5,0xd807aa98,0x12835b01,0x243185be,0x550c7dc3,0x72be5d74,0x80deb1fe,0x9bdc06a7,0xc19bf174,0xe49b69c1,0xefbe4786,0x0fc19dc6,0x240ca1cc,0x2de92c6f,0x4a7484aa,0x5cb0a9dc,0x76f988da,0x983e5152,0xa831c66d,0xb00327c8,0xbf597fc7,0xc6e00bf3,0xd5a79147,0x06ca6351,0x14292967,0x27b70a85,0x2e1b2138,0x4d2c6dfc,0x53380d13,0x650a7354,0x766a0abb,0x81c2c92e,0x92722c85,0xa2bfe8a1,0xa81a664b,0xc24b8b70,0xc76c51a3,0xd192e819,0xd6990624,0xf40e3585,0x106aa070,0x19a4c116,0x1e376c08,0x2748774c,0x34b0bcb5,0x391c0cb3,0x4ed8aa4a,0x5b9cca4f,0x682e6ff3,0x748f82ee,0x78a5636f,0x84c87814,0x8cc70208,0x90befffa,0xa4506ceb,0xbef9a3f7,0xc67178f2]
def kw(i:Nat):W:=BitVec.ofNat 32 (kl.getD i 0)
def TJ:List Int:=kl.map λ(n:Nat)=>(n:Int)
def mf(s:St)(k w:W):St:=
 let t:=s.h+(v7 s.e 6^^^v7 s.e 11^^^v7 s.e 25)+(s.g^^^s.e &&& (s.f^^^s.g))+k+w
 let r:=v7 s.a 2^^^v7 s.a 13^^^v7 s.a 22
 let most:=s.a &&& s.b ||| s.c &&& (s.a ||| s.b)
 ⟨t+r+most,s.a,s.b,s.c,s.d+t,s.e,s.f,s.g⟩
def rounds(ws:List W)(s:St):Nat->St
 | 0=>s
 |n+1=>mf (rounds ws s n) (kw n) (ws.getD n 0)
def TQ(s:St)(b:List Int):St:=
 let v:=rounds (sched b) s 64
 ⟨v.a+s.a,v.b+s.b,v.c+s.c,v.d+s.d,v.e+s.e,v.f+s.f,v.g+s.g,v.h+s.h⟩
def sZ:St:=⟨0x6a09e667,0xbb67ae85,0x3c6ef372,0xa54ff53a,0x510e527f,0x9b05688c,0x1f83d9ab,0x5be0cd19⟩
def Cb:Nat->St->List Int->St
 | 0,s,_=>s
 |n+1,s,l=>Cb n (TQ s (l.take 64)) (l.drop 64)
def blocks(s:St)(l:List Int):St:=Cb (l.length / 64) s l
def aSI(w:W)(k:Nat):Int:=vw ((w >>> (24 - 8*k)).setWidth 8)
def aKb(w:W):List Int:=[aSI w 0,aSI w 1,aSI w 2,aSI w 3]
def aL6(s:St):List Int:=aKb s.a++aKb s.b++aKb s.c++aKb s.d++aKb s.e++aKb s.f++aKb s.g++aKb s.h
def jr(n:Int):List Int:=[n / 2^56%256,n / 2^48%256,n / 2^40%256,n / 2^32%256,n / 2^24%256,n / 2^16%256,n / 2^8%256,n%256]
def Bn(n:Nat):Nat:=(119 - n%64)%64
def pad(b:List Int):List Int:=b++128::(ab (Bn b.length) 0++jr (8*b.length))
def aPU(b:List Int):List Int:=aL6 (blocks sZ (pad b))
def oP(parts:List (List Int)):List Int:=parts.flatMap λp=>jr p.length++p
def UA(name:List Int)(parts:List (List Int)):List Int:=jr name.length++name++oP parts
def tag(name:List Int)(parts:List (List Int)):List Int:=aPU (UA name parts)
theorem at3(b:List Int):(aPU b).length=32:=rfl
theorem cn(n:Int):(jr n).length=8:=rfl
theorem vG(l:List W):(ext l).length=l.length+1:=by simp[ext]
theorem BU(m:List W):∀n,(aJF m n).length=m.length+n
 | 0=>rfl
 |n+1=>by rw[aJF,vG,BU m n];omega
theorem eZ(b:List Int):(words b).length=16:=by simp[words]
theorem HX:∀(n:Nat) (s:St) (a b:List Int),a.length=64*n->∀m,Cb (n+m) s (a++b)=Cb m (Cb n s a) b
 | 0,s,a,b,h,m=>by have:a=[]:=bE ak;subst this;simp[Cb]
 |n+1,s,a,b,h,m=>by rw[show n+1+m=(n+m)+1 by omega,Cb,Cb];rw[fk ak,List.drop_append_of_le_length ak];exact HX n _ _ _ (by simp;omega) m
theorem Lv(s:St)(a b:List Int)(h:a.length%64=0):blocks s (a++b)=blocks (blocks s a) b:=by
 unfold blocks;have e:(a++b).length / 64=a.length / 64+b.length / 64:=by simp;omega
 rw[e];exact HX _ _ _ _ ak _
theorem HY(s:St)(l:List Int)(h:64<=l.length):blocks s l=blocks (TQ s (l.take 64)) (l.drop 64):=by unfold blocks;rw[show l.length / 64=(l.drop 64).length / 64+1 by simp;omega];rfl
theorem E6(s:St)(l:List Int)(h:l.length < 64):blocks s l=s:=by unfold blocks;rw[show l.length / 64=0 by omega];rfl
def ahx(x:Int):Prop:=0<=x/\x < 256
def Bytes(l:List Int):Prop:=∀x∈l,ahx x
theorem aKc(w:BitVec 8):ahx (vw w):=⟨UI w,aIV w⟩
theorem ahx.vw{x:Int}(h:ahx x):x=vw (bh 8 x):=by rw[hZ];obtain⟨h1,h2⟩:=h;omega
theorem arc(s:St):Bytes (aL6 s):=by intro x hx;simp only[aL6,aKb,bz,bY,List.not_mem_nil,or_false]at hx;rcases hx with((((((hx | hx) | hx) | hx) | hx) | hx) | hx) | hx <;> rcases hx with rfl | rfl | rfl | rfl <;> exact aKc _
theorem axL(b:List Int):Bytes (aPU b):=arc _
theorem D3(n:Int):Bytes (jr n):=by intro x hx;simp only[jr,bY,List.not_mem_nil,or_false]at hx;rcases hx with rfl | rfl | rfl | rfl | rfl | rfl | rfl | rfl <;> exact⟨ak,ak⟩
end Go.Ab
end
