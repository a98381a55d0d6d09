/-
  Made short by a program of mine (wip/tools/mini.py).
-/
import Derived.Test.YtlehggcknedaeaaGreatDoorS30x2
import Derived.Scope
import Derived.Laws.Externs
import Derived.KernelRfl
import Derived.ProofKit
import Derived.OpenShut
import Derived.Deep.Slices
import Derived.Carry
set_option linter.unusedVariables false
set_option linter.unusedSimpArgs false
set_option maxRecDepth 100000
set_option synthInstance.maxSize 5000
open Go renaming IntKind->iv,FuncId->gg,Operand->bF,Program->aK
open List renaming replicate->ai
open BitVec renaming ofInt->bf
open Nat renaming beq->gG
open Go.World renaming cell?->eO
open Go.Sem renaming run_bind->bY,run_pure->dA
open Go.Result renaming andThen_ok->bB
open OfNat renaming ofNat->dg
open Int renaming toNat->ab
open Option renaming some->av,none->aF
open Bool renaming true->aS,false->bq
noncomputable section
namespace Go.Ab
section
variable {P:aK} {Γ:sa} {an:A4} {C:Ctx}
open Classical in
def aGc(p:Prop):Option Unit:=if p then av () else aF
theorem afc{p:Prop}(h:aGc p=av ()):p:=by
 unfold aGc at h;split at h
 ·assumption
 ·cases h
theorem axF{p:Prop}(h:p):aGc p=av ():=by unfold aGc;rw[if_pos h]
def amf(P:aK)(Γ:sa)(an:A4)(N:Nat)(b:Code):Prop:=∀le,an.fo (dz b)=av le->(le.set=aF->∀s x,le.run s=av x->∃n,OO (norm P (an.loops (dz b))) (λe=>norm P (an.outs (dz b) (aeb e))) (ev P Γ an N b) n s (λe s'=>av (e,s'))=(le.out x).eval)/\∀S,le.set=av S->∀s,(∃x,S s x)->∃n,OO (norm P (an.loops (dz b))) (λe=>norm P (an.outs (dz b) (aeb e))) (ev P Γ an N b) n s (λe s'=>aGc (∃x,S s x/\(le.out x).eval=av (e,s')))=av ()
def jx(P:aK)(Γ:sa)(an:A4)(N:Nat):List Code->Prop
 |[]=>True
 |b::l=>amf P Γ an N b/\jx P Γ an N l
theorem jx.append{N:Nat}:∀ {l l':List Code},jx P Γ an N (l++l')->jx P Γ an N l/\jx P Γ an N l'
 |[],_,h=>⟨trivial,h⟩
 |_::_,_,⟨h1,h2⟩=>⟨⟨h1,(jx.append h2).1⟩,(jx.append h2).2⟩
theorem qn{c:Code}{b:Frame}{a:Act}{k:List Item}{cs:List Frame}{w:World}:step P (lone (b.atR a (.code (.scope c)::k)) cs w)= .next (lone (b.atR a (.code c:: .inScope c::k)) cs w):=
 step_lone_go (by simp[stepG,stepG.exec,Frame.atR])
theorem Wu{c:Code}{b:Frame}{a:Act}{k:List Item}{cs:List Frame}{w:World}:step P (lone (b.atR a (.inScope c::k)) cs w)= .next (lone (b.atR a k) cs w):=
 step_lone_go (by simp[stepG,stepG.exec,Frame.atR])
theorem GC{F:Fence}{n:Nat}{Q:Exit->Act->World->Prop}{a:Act}{w:World}{c:Code}(h:c.wpIn F n P (Exit.noGoto Q) a w):(Code.scope c).wpIn F n P Q a w:=by
 intro b k cs aMY hb hr;have h0:(lone (b.atR a (.code (.scope c)::k)) cs w).fenced P F:=fenced_calm hb hr rfl;obtain⟨e,a1,w1,hq,hx⟩:=h b (.inScope c::k) cs aMY hb hr;cases e with
 |normal=>exact⟨.normal,a1,w1,hq,.head h0 qn (StepsIn.trans hx (.one (fenced_calm hb hr rfl) Wu))⟩
 |exit i=>
  have e1:exitTo i (.inScope c::k)=exitTo i k:=by simp[exitTo]
  exact⟨.exit i,a1,w1,hq,λk' hk=> .head h0 qn (hx.1 k' (e1.trans hk)),λh1 hk=>let⟨k2,h2,h3⟩:=hx.2 h1 (e1.trans hk);⟨k2,h2,.head h0 qn h3⟩⟩
 |goto l=>exact hq.elim
 |ret=>exact⟨_,a1,w1,hq,.of_steps (.one h0 qn) hx⟩
 |panic ch=>exact⟨_,a1,w1,hq,.of_steps (.one h0 qn) hx⟩
 |outgrown=>exact⟨_,a1,w1,hq,.of_steps (.one h0 qn) hx⟩
theorem B0{rd:Option Nat}{m:Nat}{R:Type}{r:R}{b:Code}{nrm:AS->Out AS}{nrmX:Exit->AS->Out AS}{body:AS->(Exit->AS->Option R)->Option R}
  (hn:∀s s1 a w,gw C s a w->(nrm s).eval=av s1->gw C s1 a w) (hx:∀e s s1 a w,gw C s a w->(nrmX e s).eval=av s1->gw C s1 a w)
  (hb:∀(s:AS) (a:Act) (w:World) (k:Exit->AS->Option R) (Q:Exit->Act->World->Prop),gw C s a w->body s k=av r->(∀e s' a' w',gw C s' a' w'->k e s'=av r->Q e a' w')->b.wpIn (Fr rd) m P Q a w)
  {k:Exit->AS->Option R} {Q:Exit->Act->World->Prop} (hk:∀e s' a' w',gw C s' a' w'->k e s'=av r->Q e a' w'):
  ∀(n:Nat) (s:AS) (a:Act) (w:World),gw C s a w->OO nrm nrmX body n s k=av r->Code.roundsIn (Fr rd) m P b Q n a w
 | 0,s,a,w,_,h=>by simp[OO]at h
 |n+1,s,a,w,hs,h=>by
  simp only[OO]at h;rw[roundsIn_succ];refine hb s a w _ _ hs h λe s' a' w' hs' aIn=> ?_
  have exits:∀e,(nrmX e s').run (k e)=av r->Q e a' w':=λe aIn=>by obtain⟨s1,h1,h2⟩:=gr.1 aIn;exact hk e s1 a' w' (hx e s' s1 a' w' hs' h1) h2
  cases e with
  |normal=>
   simp only at aIn;obtain⟨s1,h1,h2⟩:=gr.1 aIn;exact B0 hn hx hb hk n s1 a' w' (hn s' s1 a' w' hs' h1) h2
  |_=>exact exits _ aIn
theorem Kp{rd:Option Nat}{n:Nat}(hC:C.ok){j:Option aor}{run: {R:Type}->(Exit->AS->Option R)->Option R}{c:Code}{a:Act}{w:World}
  (oX:∀ {R:Type} {r:R} (k:Exit->AS->Option R) (Q:Exit->Act->World->Prop),run k=av r->(∀e s' a' w',gw C s' a' w'->k e s'=av r->Q e a' w')->c.wpIn (Fr rd) n P Q a w)
  {R:Type} {r:R} {k:Exit->AS->Option R} {Q:Exit->Act->World->Prop} (h:MS P j run k=av r) (hk:∀e s' a' w',gw C s' a' w'->k e s'=av r->Q e a' w'):c.wpIn (Fr rd) n P Q a w:=by
 cases j with
 |none=>exact oX k Q h hk
 |some j=>
  simp only[MS]at h;cases hx:run λe s=>(norm P j.an s).run (j.aJG e) with
  |none=>rw[hx]at h;cases h
  |some x=>
   rw[hx]at h;simp only[ak]at h;obtain⟨y,hy,h⟩:=gr.1 h;refine oX _ Q hx λe s' a' w' hs' hK=> ?_
   obtain⟨s1,h1,h2⟩:=gr.1 hK;have he:=j.ok _ _ _ h2;rw[hy,aB]at he;subst he;exact hk e s1 a' w' (nu hC hs' h1) h
theorem Inv.aox{g:Nat->kI}{β:Id->Option Pl}{s:AS}{a:Act}{w:World}(h:Inv C g β s a w):
  Inv C (l8 g w.heap.size (.own .dY 0)) β s {a with defers:=sO w.heap.size::a.defers} (w.alloc (.deferred (av []))):=by
 have ht:=Trans.alloc w g (.deferred (av [])) (.own .dY 0);have he:cE (s.env w g β) (s.env (w.alloc (.deferred (av []))) (l8 g w.heap.size (.own .dY 0)) β):=cE.same ht;have h1:=h.step rfl ht he (gN.same h.bH he λi ver fr c pl hi hp=>by
  have hl:=((h.bH i ver fr c hi).label (pl:=pl) hp).1;have hl':pl.b < w.heap.size:=hl;exact⟨oV w _ hl',eR _ _ _ ao⟩)
 refine⟨⟨dn.2 ⟨λhm=> ?_,h1.defers.1⟩,λd hd=> ?_⟩,h1.size,h1.cj,h1.bH,h1.trans,h1.le⟩
 ·obtain⟨D,e,_,hh,_⟩:=h.defers.2 _ hm;have e:Deferred.mk (.collected w.heap.size) #[]=Deferred.mk (.collected D) #[]:=e;injection e with e _
  injection e with e
  have:=(cg.1 hh).1;omega
 ·rcases bI.1 hd with rfl | hd
  ·exact⟨w.heap.size,rfl,h.trans.size,qC w _,eV _ _ _⟩
  ·exact h1.defers.2 d hd
theorem HL:∀l:List aE,(JD l).list=l
 |[]=>rfl
 |a::l=>by simp[JD,aE.list,HL l]
theorem AK(aX:List Nat):∀(i:Nat) (l:List aE),(eg aX i l).length=l.length
 |_,[]=>rfl
 |i,_::l=>by simp[eg,AK aX (i+1) l]
theorem Hb(aX:List Nat):∀(l:List aE) (i j:Nat),(eg aX i l).getD j .undef=l.getD j .undef\/(eg aX i l).getD j .undef= .undef
 |[],_,_=> .inl rfl
 |v::l,i,0=>by
  simp only[eg,iD];split
  ·exact .inl rfl
  ·exact .inr rfl
 |v::l,i,j+1=>by simpa[eg]using Hb aX l (i+1) j
theorem Inv.frame{g:Nat->kI}{β:Id->Option Pl}{s:AS}{a:Act}{w:World}(h:Inv C g β s a w)(aX:List Nat):Bb (s.env w g β) (JD (eg aX 0 s.cj)) a.tmps:=by
 refine⟨by rw[HL,AK,h.size],λi=> ?_⟩;rw[HL];rcases Hb aX s.cj 0 i with e | e
 ·rw[e];exact h.cj i
 ·rw[e];exact VS.undef
theorem aCL(a:Act)(q:Nat)(x:Value):(a.put (av q) x).put (av q) (a.tmps.getD q undef)=a:=by
 obtain⟨t,d⟩:=a;simp only[Act.put];congr 1;apply Array.ext_getElem?;intro i;simp only[dI,Array.size_setIfInBounds];by_cases h:q=i
 ·subst h;by_cases hl:q < t.size
  ·simp[hl]
  ·simp[hl]
 ·simp[h]
theorem K5{g:Nat->kI}{β:Id->Option Pl}{s s':AS}{a:Act}{w:World}{q p:Nat}(h:Inv C g β s a w)(he:s.Nq q p=av s'):∃pl r,β (.cl 0)=av pl/\(s.env w g β).cur (.cl 0) 0/\w.heap[pl.b]? =av (.loop r)/\afF q r.state r.pending/\
  ∀r':Loop,r'.params=r.params->r'.assign=r.assign->r'.body=r.body->r'.tmps=r.tmps->afF p r'.state r'.pending->Inv C g β s' a (w.putObj pl.b (.loop r')):=by
 unfold AS.Nq at he;split at he;rotate_left
 ·cases he
 rename_i c f q' cI;split at he;rotate_left
 ·cases he
 rename_i hq;obtain rfl:q=q':=eC hq;obtain rfl:=Option.some.inj he;obtain⟨pl,r,hp,hb,hg,⟨q1,q2,q3⟩,Z5,pO⟩:=h.bH (.cl 0) 0 bq _ cI;have hp:β (.cl 0)=av pl:=hp;have hb:w.heap[pl.b]? =av (.loop r):=hb
 have hg:g pl.b= .own (.id (.cl 0)) 0:=hg;refine⟨pl,r,hp,⟨bq,_,cI⟩,hb,pO,λr' e1 e2 e3 e4 hs'=> ?_⟩;have iI:pl.b < w.heap.size:=(cg.1 hb).1;have hother:∀b',b'≠pl.b->(w.putObj pl.b (.loop r')).heap[b']? =w.heap[b']? :=λb' gW=>World.putObj_heap_other gW
 have ht:Trans w (w.putObj pl.b (.loop r')) g g:=by
  refine⟨rfl,rfl,⟨rfl,aC _⟩,by simp,λb' _=> ?_⟩;by_cases he:b'=pl.b
  ·subst he;rw[hg];exact⟨.inr ⟨_,0,rfl,aC _⟩,λ_ _ hh=>ao⟩
  ·rw[hother b' he];cases Qj:g b' with
   |free=>exact⟨rfl,rfl⟩
   |own o' k=>cases o' with
    |dY=>exact⟨rfl,rfl⟩
    |id i'=>exact⟨.inr ⟨i',k,rfl,aC _⟩,λoff v _ hv=>by simpa only[eO,hother b' he]using hv⟩
 have hle:cE (s.env w g β) ((s.aY (.cl 0) (.obj 0 bq (.xU c f p))).env (w.putObj pl.b (.loop r')) g β):=cE.aY cI (aC _) ht (λ_ _=>rfl) (λ_=>rfl);refine h.step (cY _ _ _) ht hle (gN.aY h.bH (by rw[cI];simp) hle (λ_ _=>rfl) (λi ver fr c pl2 hi Sa XH=>⟨hother _ (h.apart hg hi Sa XH),rfl⟩) ?_ (Kw cI));exact⟨pl,r',hp,World.putObj_heap_same iI,hg,⟨e1.trans q1,e2.trans q2,e3.trans q3⟩,by rw[e4];exact Z5.mono hle,hs'⟩
theorem P1{n:Nat}(hΓ:Sound P Γ){f:bF}{ps:Array Tmp}{as b:Code}{R:Type}{r:R}{k:Exit->AS->Option R}{Q:Exit->Act->World->Prop}{s:AS}{a:Act}{w:World}(h:gw C s a w)
  (he:Cj P Γ an s f ps as b k=av r) (hk:∀e s' a' w',gw C s' a' w'->k e s'=av r->Q e a' w'):(Code.rangeFunc f ps as b).wpIn (Fr aF) n P Q a w:=by
 obtain⟨g,β,h⟩:=h;unfold Cj at he;split at he;rotate_left
 ·cases he
 rename_i y aX h0 caps aMX aOc hF;split at he;rotate_left
 ·cases he
 rename_i en aBc aiz;simp only[au]at aBc;obtain⟨⟨⟨ap0,avW⟩,hq⟩,iI⟩:=aBc;have hd:=(hΓ _ _ _ aiz).1 iI;have hdR:=(hΓ _ _ _ aiz).2.2 iI;generalize aKM:ps.getD 0 0=q at avW hq he aiz;have hq:q < s.cj.length:=bN hq;obtain⟨vs,hy,aHh⟩:=Xy (hF▸h.ev f);refine wpIn_rangeFunc λfn _=> ?_
 have cI:=run_enterLoop_outer (P:=P) (w:=w) fn a.tmps ps as b;have i1:=h.aox;generalize aNc:w.alloc (.deferred (av []))=w1 at i1 cI;have sh:w1.heap.size=w.heap.size+1:=by rw[<-aNc];exact World.size_alloc ..
 generalize aKN:({state:= .ready,pending:=aF,fn,tmps:=a.tmps,params:=ps,assign:=as,body:=b,defers:=w.heap.size}:Loop)=r0 at cI;have ht:=Trans.alloc w1 (l8 g w.heap.size (.own .dY 0)) (.loop r0) (.own (.id (.new q 0)) 0);obtain⟨i2,e2⟩:=i1.Mi avW (c:= .xU ⟨y,ps,as,b⟩ (JD (eg aX 0 s.cj)) 0) (p:=av ⟨w1.heap.size,0⟩) ht (λb hb=>⟨oV w1 _ hb,eR _ _ _ ao⟩) (λhe=>
  ⟨⟨w1.heap.size,0⟩,r0,jk _ _ _,qC w1 _,eV _ _ _,by subst aKN;exact⟨rfl,rfl,rfl⟩,by subst aKN;exact(i1.frame aX).mono he,by subst aKN;exact⟨rfl,rfl⟩⟩)
 generalize l8 (l8 g w.heap.size (.own .dY 0)) w1.heap.size (.own (.id (.new q 0)) 0)=g2 at i2 e2;generalize hβ2:FD β (.new q 0) (av ⟨w1.heap.size,0⟩)=β2 at i2 e2;generalize ati:w1.alloc (.loop r0)=w2 at i2 e2 cI;have aLX:VS ((s.born q [.obj 0 bq (.xU ⟨y,ps,as,b⟩ (JD (eg aX 0 s.cj)) 0)]).env w2 g2 β2) (.yl (.new q 0) 0) (.func (.yield w1.heap.size) #[] #[]):=by refine⟨[.func (.yield w1.heap.size) #[] #[]],?_,rfl⟩;simp only[V];exact⟨_,rfl,nT avW _ _ _ _,λ_=>⟨⟨w1.heap.size,0⟩,by rw[<-hβ2];exact jk _ _ _,rfl⟩⟩
 have i3:=i2.put (av q) aLX;have hF2:(s.born q [.obj 0 bq (.xU ⟨y,ps,as,b⟩ (JD (eg aX 0 s.cj)) 0)]).ev f= .fn h0 caps:=by rw[<-hF];cases f <;> rfl
 obtain⟨vs2,aHj,aKY⟩:=Xy (hF2▸i2.ev f);have PW:vs2=vs:=by
  have e:Value.func (.func h0) #[] vs2.toArray= .func (.func h0) #[] vs.toArray:=by rw[<-aHj,<-hy];cases f <;> rfl
  injection e with _ _ e
  simpa using cf Array.toList e
 subst PW;have G1:vn (((s.born q [.obj 0 bq (.xU ⟨y,ps,as,b⟩ (JD (eg aX 0 s.cj)) 0)]).put (av q) (.yl (.new q 0) 0)).env w2 g2 β2) (.yl (.new q 0) 0::caps.list) (.func (.yield w1.heap.size) #[] #[]::vs2):=by rw[ZF];exact⟨aLX,YY aKY⟩
 have aH6:∀args:Array Value,(callFunc h0 args).run P w2= .ok (.enter h0 args) w2:=λargs=>by
  unfold afH at ap0;split at ap0
  ·rename_i fn' aFo;simp only[au,cr,fC]at ap0;obtain⟨c,hc⟩:=cd.1 ap0.2;unfold callFunc;simp[aFo,ap0.1,hc]
  ·cases ap0
 have post:∀ {s3:AS} {w3:World} {v:Value},gw C s3 ((({a with defers:=sO w.heap.size::a.defers}:Act).put (av q) (.func (.yield w1.heap.size) #[] #[])).put aF v) w3->∀ {c:sA} {fr:aE} {p:Nat},s3.bU (.new q 0)=av (.obj 0 bq (.xU c fr p))->s3.slot q= .yl (.new q 0) 0->p≠1->
   ∃jump w4,(Instr.endLoop w1.heap.size).run P w3= .ok jump w4/\afF p (if p=0 then .ready else .done) jump/\gw C ((s3.aY (.new q 0) .dead).put (av q) .undef) {a with defers:=sO w.heap.size::a.defers} w4:=by
  intro s3 w3 v aFF c fr p R8 avO aHe;obtain⟨g3,β3,i5⟩:=aFF;obtain⟨pl,r3,hp,hb,hg,_,_,pO⟩:=i5.bH (.new q 0) 0 bq _ R8;have hp:β3 (.new q 0)=av pl:=hp;have hb:w3.heap[pl.b]? =av (.loop r3):=hb
  have hg:g3 pl.b= .own (.id (.new q 0)) 0:=hg;have aD7:=i5.cj q;rw[avO]at aD7;obtain⟨cs,hV,hO⟩:=aD7;simp only[V]at hV;obtain⟨l,rfl,_,ff⟩:=hV;obtain⟨pl',hp',rfl⟩:=ff ⟨bq,_,R8⟩;have hp':β3 (.new q 0)=av pl':=hp';rw[hp]at hp';obtain rfl:pl=pl':=by simpa using hp'
  have hO: [Value.func (.yield pl.b) #[] #[]]=[((({a with defers:=sO w.heap.size::a.defers}:Act).put (av q) (.func (.yield w1.heap.size) #[] #[])).put aF v).tmps.getD q undef]:=hO;have MB:q < ({a with defers:=sO w.heap.size::a.defers}:Act).tmps.size:=by show q < a.tmps.size;rw[h.size];exact hq
  have hO2:((({a with defers:=sO w.heap.size::a.defers}:Act).put (av q) (.func (.yield w1.heap.size) #[] #[])).put aF v).tmps.getD q undef= .func (.yield w1.heap.size) #[] #[]:=by show((({a with defers:=sO w.heap.size::a.defers}:Act).put (av q) (.func (.yield w1.heap.size) #[] #[]))).tmps.getD q undef=_;rw[ag0,if_pos ⟨rfl,MB⟩]
  rw[hO2]at hO;have hl:pl.b=w1.heap.size:=by simpa using hO
  have aH5:r3.state≠ .busy:=by
   match p,pO,aHe with
   | 0,pO,_=>rw[pO.1];simp
   | 1,_,h=>exact absurd rfl h
   | 2,pO,_=>rw[pO.1];simp
   |_+3,pO,_=>rw[pO.1];simp
  have iI:pl.b < w3.heap.size:=(cg.1 hb).1;refine⟨r3.pending,_,by rw[<-hl];exact run_endLoop hb aH5,?_,?_⟩
  ·match p,pO,aHe with
   | 0,pO,_=>exact⟨rfl,pO.2⟩
   | 1,_,h=>exact absurd rfl h
   | 2,pO,_=>exact⟨rfl,pO.2⟩
   |_+3,pO,_=>exact⟨rfl,pO.2⟩
  ·have i6:=i5.kill R8 hg (w':=w3.putObj pl.b (.loop {r3 with state:= .exhausted})) rfl rfl ⟨rfl,aC _⟩ (by simp) (λb' hb'=>World.putObj_heap_other hb');have i7:=i6.put (av q) (v:= .undef) (x:=({a with defers:=sO w.heap.size::a.defers}:Act).tmps.getD q undef) VS.undef;have e:=aCL {a with defers:=sO w.heap.size::a.defers} q (.func (.yield w1.heap.size) #[] #[]);refine⟨l8 g3 pl.b .free,β3,?_⟩;simp only[Act.put]at e i7;rw[e]at i7;exact i7
 generalize hK:(λs3:AS=>(match s3.bU (.new q 0),s3.slot q with
   |some (.obj 0 bq (.xU _ _ p)),.yl (.new q' 0) 0=>match gG q' q,p with
    |true,0=>k .normal ((s3.aY (.new q 0) .dead).put (av q) .undef)
    |true,2=>k .ret ((s3.aY (.new q 0) .dead).put (av q) .undef)
    |true,i+3=>k (.exit i) ((s3.aY (.new q 0) .dead).put (av q) .undef)
    |_,_=>aF
   |_,_=>aF))=K at he
 have hc:Calls P h0 (.func (.yield w1.heap.size) #[] #[]::vs2).toArray w2 λe w'=>∃v,e= .returned v/\∃s3,gw C s3 ((({a with defers:=sO w.heap.size::a.defers}:Act).put (av q) (.func (.yield w1.heap.size) #[] #[])).put aF v) w'/\K s3=av r:=by
  unfold AS.aDM at he;split at he
  ·exact(N2 (o:= {(default:Oper) with dst:=aF}) i3 hdR G1 he).2
  ·obtain⟨s3,aDU,he⟩:=gr.1 he;unfold AS.call at aDU;obtain⟨r2,h1,h2⟩:=az.1 aDU;obtain⟨g',i4,e4,_,f1⟩:=eS r2.2 i3;obtain⟨x,hx,k1,k2,key⟩:=Mt (o:= {(default:Oper) with dst:=aF}) i4 (y6 _ _) (Ax rfl i3.bH e4 _ _ _ r2 G1 h1 f1) h2;rcases hd _ _ _ _ _ _ _ k1 k2 hx with⟨_,hc⟩ | ⟨v,w',aJF,_⟩
   ·exact hc.mono λe w' ⟨v,adK,ha⟩=>⟨v,adK,s3,key v w' ha,he⟩
   ·rw[aH6]at aJF;cases aJF
 refine⟨w1.heap.size,[sO w.heap.size],w2,⟨.fn (.func h0) vs2.toArray,#[.func (.yield w1.heap.size) #[] #[]]⟩,w2,h0,(.func (.yield w1.heap.size) #[] #[]::vs2).toArray,w2,?_,?_,λ_ _=>trivial,?_,λh=>(by cases h),?_⟩
 ·rw[sh];exact cI
 ·have e:resolve a.eval (rangeCall f w1.heap.size) 0=Deferred.ofValue (a.eval f) #[.func (.yield w1.heap.size) #[] #[]]:=by simp[resolve,rangeCall,Act.eval]
  rw[e,hy];simp[Deferred.ofValue]
 ·have e:(#[.func (.yield w1.heap.size) #[] #[]]++vs2.toArray:Array Value)=(.func (.yield w1.heap.size) #[] #[]::vs2).toArray:=by simp
  rw[<-aH6,<-e];rfl
 ·have h1:CallsIn (Fr aF) (n - 1) P h0 (.func (.yield w1.heap.size) #[] #[]::vs2).toArray w2 _:=callsIn_wide.2 hc;refine h1.mono λe w3 ⟨v,adK,s3,aFF,he⟩=> ?_
  subst adK;subst hK;show ∃jump w4,_/\_;simp only at he;split at he;rotate_left
  ·cases he
  rename_i c3 fr3 p3 q' R8 avO;split at he
  ·rename_i hq';obtain rfl:q'=q:=eC hq';obtain⟨jump,w4,avF,pO,aIB⟩:=post aFF R8 avO fg;obtain⟨_,rfl⟩:=pO;exact⟨aF,w4,avF,hk _ _ _ _ aIB he⟩
  ·rename_i hq';obtain rfl:q'=q:=eC hq';obtain⟨jump,w4,avF,pO,aIB⟩:=post aFF R8 avO fg;obtain⟨_,rfl⟩:=pO;exact⟨_,w4,avF,wpIn_ret (hk _ _ _ _ aIB he)⟩
  ·rename_i i hq';obtain rfl:q'=q:=eC hq';obtain⟨jump,w4,avF,pO,aIB⟩:=post aFF R8 avO (by simp);obtain⟨_,rfl⟩:=pO;exact⟨_,w4,avF,wpIn_exit (hk _ _ _ _ aIB he)⟩
  ·cases he
theorem mh{rd:Option Nat}{n:Nat}(hm:P.follows .mixedOrders=aS)(hΓ:Sound P Γ)(hC:C.ok){N:Nat}(ap5:rd=aF\/an.ky.isSome=aS):∀(c:Code),jx P Γ an N (iQ c)->∀ {R:Type} {r:R} (s:AS) (a:Act) (w:World) (k:Exit->AS->Option R) (Q:Exit->Act->World->Prop),
  gw C s a w->ev P Γ an N c s k=av r->(∀e s' a' w',gw C s' a' w'->k e s'=av r->Q e a' w')->c.wpIn (Fr rd) n P Q a w
 | .skip,hL,_,_,s,a,w,k,Q,hs,h,hk=>wpIn_skip (hk _ _ _ _ hs h)
 | .region id ops draw,hL,_,_,s,a,w,k,Q,hs,h,hk=>by
  simp only[ev]at h;refine Kp hC (λk Q h hk=> ?_) h hk;cases draw with
  |true=>
   simp only at h;split at h
   ·rename_i hE;exact afG hm hΓ hs hE h λs' a' w' hs' hk'=>hk _ _ _ _ hs' hk'
   ·cases h
  |false=>exact wpIn_region_list (Ov hΓ ops.toList hs h λs' a' w' hs' hk'=>hk _ _ _ _ hs' hk')
 | .seq x y,hL,_,_,s,a,w,k,Q,hs,h,hk=>by
  simp only[ev]at h;refine wpIn_seq (Kp hC (λk Q h hk=>mh hm hΓ hC ap5 x hL.append.1 s a w k Q hs h hk) h λe s' a' w' hs' hk'=> ?_);cases e with
  |normal=>exact mh hm hΓ hC ap5 y hL.append.2 s' a' w' k Q hs' hk' hk
  |_=>exact hk _ s' a' w' hs' hk'
 | .cond c x y,hL,_,_,s,a,w,k,Q,hs,h,hk=>by
  simp only[ev]at h;split at h
  ·rename_i b hb;have hc:a.eval c= .bool b:=by obtain⟨g,β,hi⟩:=hs;have:=hi.ev c;rw[hb]at this;exact P7 this
   refine wpIn_cond hc ?_
   cases b with
   |true=>exact mh hm hΓ hC ap5 x hL.append.1 s a w k Q hs h hk
   |false=>exact mh hm hΓ hC ap5 y hL.append.2 s a w k Q hs h hk
  ·cases h
 | .block id b,hL,_,_,s,a,w,k,Q,hs,h,hk=>by
  simp only[ev]at h;refine wpIn_block (mh hm hΓ hC ap5 b hL s a w _ _ hs h λe s' a' w' hs' hk'=> ?_);cases e with
  |exit i=>
   simp only at hk';simp only[Exit.inBlock];by_cases hi:i=id
   ·rw[if_pos hi];simp only[hi,cP]at hk';exact hk _ s' a' w' hs' hk'
   ·rw[if_neg hi];simp only[hi,decide_false]at hk';exact hk _ s' a' w' hs' hk'
  |_=>exact hk _ s' a' w' hs' hk'
 | .loop b,hL,R,r,s,a,w,k,Q,hs,h,hk=>by
  simp only[ev]at h;obtain⟨s1,h1,h⟩:=gr.1 h;have A7:=nu hC hs h1;obtain⟨hL1,hL2⟩:=(hL:amf P Γ an N b/\jx P Γ an N (iQ b));split at h
  ·rename_i le hle;unfold azW at h;cases Z4:le.set with
   |some S=>
    rw[Z4]at h;simp only at h;obtain⟨h2,h3⟩:=Xo h;obtain⟨n,hn⟩:=(hL1 le hle).2 S Z4 s1 h2;refine wpIn_loop_rounds n (B0 (λs s1 a w hs hn=>nu hC hs hn) (λe s s1 a w hs hn=>nu hC hs hn) (λs a w k Q hs hb hk=>mh hm hΓ hC ap5 b hL2 s a w k Q hs hb hk) (λe s' a' w' hs' he=> ?_) n s1 a w A7 hn);obtain⟨x,aK0,aK1⟩:=afc he;obtain⟨y,hy,h4⟩:=gr.1 (h3 x aK0);rw[aK1,aB]at hy;subst hy;exact hk _ _ _ _ hs' h4
   |none=>
   rw[Z4]at h;simp only at h;cases hr:le.run s1 with
   |none=>rw[hr]at h;cases h
   |some x=>
    rw[hr]at h;simp only[ak]at h;obtain⟨y,hy,h⟩:=gr.1 h;obtain⟨n,hn⟩:=(hL1 le hle).1 Z4 s1 x hr;rw[hy]at hn;refine wpIn_loop_rounds n (B0 (λs s1 a w hs hn=>nu hC hs hn) (λe s s1 a w hs hn=>nu hC hs hn) (λs a w k Q hs hb hk=>mh hm hΓ hC ap5 b hL2 s a w k Q hs hb hk) (λe s' a' w' hs' he=> ?_) n s1 a w A7 hn);simp only[aB]at he;subst he;exact hk e s' a' w' hs' h
  ·exact wpIn_loop_rounds N (B0 (λs s1 a w hs hn=>nu hC hs hn) (λe s s1 a w hs hn=>nu hC hs hn) (λs a w k Q hs hb hk=>mh hm hΓ hC ap5 b hL2 s a w k Q hs hb hk) hk N s1 a w A7 h)
 | .exit id,hL,_,_,s,a,w,k,Q,hs,h,hk=>wpIn_exit (hk _ _ _ _ hs h)
 | .ret,hL,_,_,s,a,w,k,Q,hs,h,hk=>wpIn_ret (hk _ _ _ _ hs h)
 | .rangeFunc f ps as b,_,_,_,s,a,w,k,Q,hs,h,hk=>by
  simp only[ev]at h;obtain⟨s1,h1,h⟩:=gr.1 h;have hs:=ko hC _ hs h1;rcases ap5 with rfl | ap5
  ·exact P1 hΓ hs h hk
  ·unfold Cj at h;split at h
   ·rename_i h0 _ _;rw[h0]at ap5;cases ap5
   ·cases h
 | .scope b,hL,_,_,s,a,w,k,Q,hs,h,hk=>by
  simp only[ev]at h;refine GC (mh hm hΓ hC ap5 b hL s a w _ _ hs h λe s' a' w' hs' hk'=> ?_);cases e with
  |goto l=>cases hk'
  |_=>exact hk _ s' a' w' hs' hk'
 | .label _,hL,_,_,s,a,w,k,Q,hs,h,hk=>wpIn_label (hk _ _ _ _ hs h)
 | .goto _,_,_,_,_,_,_,_,_,_,h,_=>by simp[ev]at h
 | .refuse _,_,_,_,_,_,_,_,_,_,h,_=>by simp[ev]at h
variable {g:Nat->kI} {β:Id->Option Pl} {s:AS} {a:Act} {w:World}
def TF(tmps:Array Value)(r:ResultVar):Sem Value:=
 match r with
 | .tmp t=>pure (tmps.getD t undef)
 | .cell a t=>do loadVar t (<-asAddr (tmps.getD a undef))
theorem Lb(h:Inv C g β s a w){r:ResultVar}{v:aE}(he:(TH P s r).eval=av v):∃x,(TF a.tmps r).run P w= .ok x w/\VS (s.env w g β) v x:=by
 cases r with
 |tmp t=>
  simp only[TH]at he;obtain rfl:=aA.1 he;exact⟨_,by simp[TF],h.cj t⟩
 |cell t T=>
  simp only[TH]at he;obtain⟨ad,z,hy,hr,hv⟩:=SN h (h.cj t) he;exact⟨z,by simp[TF,hy,asAddr,hr],hv⟩
theorem La(h:Inv C g β s a w){r:ResultVar}{o:Option Ty}{y:AS×aE}(he:(TG P s r o).eval=av y):
  ∃x g',(TF a.tmps r).run P w= .ok x w/\Inv C g' β y.1 a w/\cE (s.env w g β) (y.1.env w g' β)/\VS (y.1.env w g' β) y.2 x:=by
 cases o with
 |none=>
  simp only[TG]at he;obtain⟨v,h1,h2⟩:=az.1 he;obtain rfl:=aA.1 h2;obtain⟨x,hx,hv⟩:=Lb h h1;exact⟨x,g,hx,h,cE.refl _,hv⟩
 |some t=>
  simp only[TG]at he;obtain⟨v,h1,h2⟩:=az.1 he;obtain⟨d,h3,h4⟩:=az.1 h2;obtain rfl:=aA.1 h4;obtain⟨x,hx,hv⟩:=Lb h h1;obtain⟨g',i1,e1,_,cs,hR,hO⟩:=yq h hv h3;exact⟨x,g',hx,i1,e1,VS.of (a:= .d t d) (cs:=cs) (by simpa only[V]using hR) hO⟩
theorem Hk:∀(l:List ResultVar) (ts:List (Option Ty)) {s:AS} {g:Nat->kI} (_:Inv C g β s a w) {y:AS×aE},(Lc P s l ts).eval=av y->
  ∃(xs:List Value) (g':Nat->kI),(l.mapM (TF a.tmps)).run P w= .ok xs w/\Inv C g' β y.1 a w/\cE (s.env w g β) (y.1.env w g' β)/\VC (y.1.env w g' β) y.2 xs/\xs.length=l.length
 |[],ts,s,g,h,y,he=>by simp only[Lc]at he;obtain rfl:=aA.1 he;exact⟨[],g,by simp,h,cE.refl _,by simp[VC],rfl⟩
 |r::l,ts,s,g,h,y,he=>by simp only[Lc]at he;obtain⟨u,h1,h2⟩:=az.1 he;obtain⟨hc,h2⟩:=aH.1 h2;obtain⟨us,h3,h4⟩:=az.1 h2;obtain rfl:=aA.1 h4;obtain⟨x,g1,hx,i1,e1,hv⟩:=La h h1;obtain⟨xs,g2,ahr,i2,e2,PW,hl⟩:=Hk l ts.tail i1 h3;obtain⟨cs,hV,hO⟩:=(hv.mono e2).ew hc;refine⟨x::xs,g2,?_,i2,e1.trans e2,by simp only[VC];exact⟨x,xs,cs,rfl,hV,hO,PW⟩,by simp[hl]⟩;simp only[List.mapM_cons,bY,hx,bB,ahr,dA]
theorem atA{E:Env}{v:aE}{xs:List Value}(h:VC E v xs):VS E v (.tuple xs.toArray):=by
 cases v <;> first
  | (simp only[VC]at h;done)
  |exact⟨xs,rfl,h⟩
  | (simp only[VC]at h;subst h;rfl)
theorem Wf(h:Inv C g β s a w){fn:Func}{ts:List (Option Ty)}{y:AS×aE}(he:(abb P fn ts s).eval=av y):
  ∃x g',(results fn a.tmps).run P w= .ok x w/\Inv C g' β y.1 a w/\VS (y.1.env w g' β) y.2 x:=by
 have key:∀xs:List Value,(fn.results.toList.mapM (TF a.tmps)).run P w= .ok xs w->(results fn a.tmps).run P w= .ok (if h:xs.length=1 then xs[0] else .tuple xs.toArray) w:=λxs ahr=>by
  have e:results fn a.tmps=(do
   let vs <-fn.results.mapM (TF a.tmps)
   pure (if h:vs.size=1 then vs[0] else .tuple vs)):=rfl
  rw[e,Array.mapM_eq_mapM_toList];simp only[map_eq_pure_bind,bY,ahr,bB,dA];congr 1
 unfold abb at he;split at he
 ·rename_i r hr;obtain⟨x,g',hx,hi,_,hv⟩:=La h he;refine⟨x,g',?_,hi,hv⟩;rw[key [x] (by simp[hr,hx])];simp
 ·rename_i rs gW;obtain⟨xs,g',hx,hi,_,hv,hl⟩:=Hk _ _ h he;refine⟨.tuple xs.toArray,g',?_,hi,atA hv⟩;rw[key xs hx,dif_neg];rw[hl];intro h1;obtain⟨r,hr⟩:=List.length_eq_one_iff.1 h1;exact gW r hr
end
end Go.Ab
namespace Go.Ab
def sM(ids:List Id):kI->kI
 | .own (.id (.new i j)) k=> .own (.id (match idxOf (.new i j) ids with | some m=> .new 0 m | none=> .new 1 0)) k
 |l=>l
def axV(β:Id->Option Pl)(ids:List Id):Id->Option Pl
 | .cl k=>β (.cl k)
 | .new 0 m=>(ids[m]?).bind β
 | .new (_+1) _=>aF
theorem aqA{ids:List Id}{g:Nat->kI}{b off:Nat}(h:ur g b off):ur (λb=>sM ids (g b)) b off:=by
 unfold ur at*;simp only;cases hg:g b with
 |free=>simp[sM]
 |own o k=>
  rw[hg]at h;cases o with
  |dY=>exact h
  |id i=>cases i <;> exact h
theorem ZN(s:AS)(v:aE):(s.Mu v).Nodup:=(ql s _ _ _ (by simp)).filter _
theorem air{s:AS}{v:aE}{id:Id}(h:id∈s.Mu v):∃i j,id= .new i j:=by
 unfold AS.Mu at h;have:=(fp.1 h).2;cases id with
 |cl k=>simp[Id.aEc]at this
 |new i j=>exact⟨i,j,rfl⟩
section
variable {P:aK} {Γ:sa} {C:Ctx} {g:Nat->kI} {β:Id->Option Pl} {s:AS} {a:Act} {w:World}
theorem Xv(h:Inv C g β s a w)(hC:C.ok){v:aE}{x:Value}(hv:VS (s.env w g β) v x):vc C.E (s.fin v) x w:=by
 unfold AS.fin;have hn:=ZN s v;have zQ:∀id∈s.Mu v,∃i j,id= .new i j:=λid cR=>air cR
 generalize s.Mu v=ids at hn zQ;generalize hG:s.aDP ids v=G;have xA:G.val=v.gJ (H4 ids):=by rw[<-hG];rfl
 have hold:∀k,G.st.bU (.cl k)=(s.bU (.cl k)).map (dB.fin ids):=λk=>by
  rw[<-hG];show(s.bS.map (dB.fin ids))[k]? =_
  rw[List.getElem?_map];rfl
 have aLQ:∀m,G.st.bU (.new 0 m)=(ids[m]?).map λid=>((s.bU id).getD .dead).fin ids:=λm=>by
  rw[<-hG];show(ids.map λid=>((s.bU id).getD .dead).fin ids)[m]? =_
  rw[List.getElem?_map]
 have aMP:∀i m,G.st.bU (.new (i+1) m)=aF:=λi m=>by simp[iJ.st,AS.bU]
 let g':Nat->kI:=λb=>sM ids (g b)
 let β':=axV β ids
 have ap3:∀e ver fr c,dB.fin ids e= .obj ver fr c->∃c0,e= .obj ver fr c0/\c=c0.gJ (H4 ids):=λe ver fr c he=>by
  cases e with
  |dead=>cases he
  |obj v0 fr0 c0=>
   simp only[dB.fin,dB.obj.injEq]at he;obtain⟨rfl,rfl,rfl⟩:=he;exact⟨c0,rfl,rfl⟩
 have hle:w9 (H4 ids) (s.env w g β) (G.st.env w g' β'):=by
  refine⟨⟨λb off v ⟨h1,h2⟩=>⟨h1,aqA h2⟩,λb ob h1 h2=>⟨by show sM ids (g b)= .free;have h1:g b= .free:=h1;rw[h1];rfl,h2⟩⟩,λid ver r hr hb=> ?_⟩;obtain⟨Ja,Qh⟩:=hb;have Ja:s.bU id≠aF:=Ja;have Qh:∀v fr c,s.bU id=av (.obj v fr c)->ver<=v:=Qh;cases id with
  |cl k=>
   simp only[H4,aB]at hr;subst hr;refine⟨⟨?_,λv fr c hh=> ?_⟩,λ⟨fr,c,hh⟩=>⟨?_,rfl⟩⟩
   ·show G.st.bU (.cl k)≠aF;rw[hold];simpa using Ja
   ·have hh:G.st.bU (.cl k)=av (.obj v fr c):=hh;rw[hold,Option.map_eq_some_iff]at hh;obtain⟨e,he,hh⟩:=hh;obtain⟨c0,rfl,_⟩:=ap3 _ _ _ _ hh;exact Qh v fr c0 he
   ·have hh:G.st.bU (.cl k)=av (.obj ver fr c):=hh;rw[hold,Option.map_eq_some_iff]at hh;obtain⟨e,he,hh⟩:=hh;obtain⟨c0,rfl,_⟩:=ap3 _ _ _ _ hh;exact⟨fr,c0,he⟩
  |new i j=>
   simp only[H4]at hr;split at hr
   ·rename_i m hm;simp only[aB]at hr;subst hr;have cR:=ni hm;obtain⟨e,he⟩:=Option.ne_none_iff_exists'.1 Ja;have hg:G.st.bU (.new 0 m)=av (e.fin ids):=by rw[aLQ,cR];simp[he]
    refine⟨⟨?_,λv fr c hh=> ?_⟩,λ⟨fr,c,hh⟩=>⟨?_,?_⟩⟩
    ·show G.st.bU (.new 0 m)≠aF;rw[hg];simp
    ·have hh:G.st.bU (.new 0 m)=av (.obj v fr c):=hh;rw[hg,aB]at hh;obtain⟨c0,rfl,_⟩:=ap3 _ _ _ _ hh;exact Qh v fr c0 he
    ·have hh:G.st.bU (.new 0 m)=av (.obj ver fr c):=hh;rw[hg,aB]at hh;obtain⟨c0,rfl,_⟩:=ap3 _ _ _ _ hh;exact⟨fr,c0,he⟩
    ·show(ids[m]?).bind β=β (.new i j);rw[cR];rfl
   ·cases hr
 have aiL:Trans C.E.w w C.E.g g':=by
  have h0:=h.trans;refine⟨h0.os,h0.tape,h0.output,h0.size,λb hb=> ?_⟩;have h1:=h0.ahO b hb;show match C.E.g b with | .free=>sM ids (g b)= .free/\_ | .own .dY k=>sM ids (g b)= .own .dY k/\_ | .own (.id _) k=>(sM ids (g b)= .free\/∃i k',sM ids (g b)= .own (.id i) k'/\k<=k')/\_
  cases Qj:C.E.g b with
  |free=>simp only[Qj]at h1 ⊢;rw[h1.1];exact⟨rfl,h1.2⟩
  |own o k=>cases o with
   |dY=>simp only[Qj]at h1 ⊢;rw[h1.1];exact⟨rfl,h1.2⟩
   |id i=>
    simp only[Qj]at h1 ⊢;refine⟨?_,h1.2⟩;rcases h1.1 with h2 | ⟨i',k',h2,h3⟩
    ·rw[h2];exact .inl rfl
    ·rw[h2];right;cases i' with
     |cl m=>exact⟨_,k',rfl,h3⟩
     |new i j=>exact⟨_,k',rfl,h3⟩
 have aBn:gN (G.st.env w g' β'):=by
  refine⟨?_,h.bH.gl.mono hle.mem⟩;intro id ver fr c cR;have cR:G.st.bU id=av (.obj ver fr c):=cR;cases id with
  |cl k=>
   rw[hold,Option.map_eq_some_iff]at cR;obtain⟨e,he,cR⟩:=cR;obtain⟨c0,rfl,rfl⟩:=ap3 _ _ _ _ cR;refine tX hle (h.bH (.cl k) ver fr c0 he) rfl λpl _=>⟨rfl,λn hg=> ?_,λhg=> ?_⟩
   ·have hg:g pl.b= .own (.id (.cl k)) n:=hg;show sM ids (g pl.b)=_;rw[hg];rfl
   ·have hg:g pl.b= .free:=hg;show sM ids (g pl.b)=_;rw[hg];rfl
  |new i m=>
   cases i with
   |succ i=>rw[aMP]at cR;cases cR
   |zero=>
    rw[aLQ,Option.map_eq_some_iff]at cR;obtain⟨id0,aFr,cR⟩:=cR;obtain⟨c0,he,rfl⟩:=ap3 _ _ _ _ cR;have cI:s.bU id0=av (.obj ver fr c0):=by
     cases hs:s.bU id0 with
     |none=>rw[hs]at he;cases he
     |some e=>rw[hs]at he;simp only[dE]at he;rw[he]
    obtain⟨i0,j0,rfl⟩:=zQ id0 (cH aFr);refine tX hle (h.bH (.new i0 j0) ver fr c0 cI) (by show(ids[m]?).bind β=_;rw[aFr];rfl) λpl _=>⟨rfl,λn hg=> ?_,λhg=> ?_⟩
    ·have hg:g pl.b= .own (.id (.new i0 j0)) n:=hg;show sM ids (g pl.b)=_;rw[hg];simp only[sM,uf hn aFr]
    ·have hg:g pl.b= .free:=hg;show sM ids (g pl.b)=_;rw[hg];rfl
 have ho:∀id ver,C.E.CU id ver->∃k,id= .cl k:=λid ver hb=>by
  cases id with
  |cl k=>exact⟨k,rfl⟩
  |new i j=>exact absurd (hC.1 i j) hb.1
 refine⟨g',β',by rw[xA];exact DC hle hv,aBn,aiL,Trans.mem (E:=C.E) (E':=G.st.env w g' β') aiL,λid ver hb=> ?_,λid ver hb hc=> ?_⟩
 ·obtain⟨k,rfl⟩:=ho id ver hb;exact(hle.ref (.cl k) ver (.cl k,ver) rfl (h.le.CU _ _ hb)).1
 ·obtain⟨k,rfl⟩:=ho id ver hb;obtain⟨h1,h2⟩:=(hle.ref (.cl k) ver (.cl k,ver) rfl (h.le.CU _ _ hb)).2 hc;obtain⟨h3,h4⟩:=h.le.cur _ _ hb h1;exact⟨h3,h2.trans h4⟩
theorem vn.len{E:Env}:∀ {as:List aE} {vs:List Value},vn E as vs->as.length=vs.length
 |[],[],_=>rfl
 |_::_,_::_,⟨_,h⟩=>by simp[vn.len h]
 |[],_::_,h=>h.elim
 |_::_,[],h=>h.elim
theorem vn.get{E:Env}:∀ {as:List aE} {vs:List Value},vn E as vs->∀i,VS E (as.getD i .undef) (vs.getD i undef)
 |[],[],_,i=>by simpa using VS.undef
 |_::_,_::_,⟨h,_⟩,0=>by simpa using h
 |_::_,_::_,⟨_,h⟩,i+1=>by simpa using vn.get h i
 |[],_::_,h,_=>h.elim
 |_::_,[],h,_=>h.elim
theorem asH{w:World}{g:Nat->kI}{β:Id->Option Pl}{fn:Func}{args:List aE}{bS:List dB}{ir:List Value}(hv:vn ((gq bS).env w g β) args ir)(ho:gN ((gq bS).env w g β)):
  Inv ⟨(gq bS).env w g β⟩ g β (start fn args bS) {tmps:=ir.toArray++Array.replicate (fn.ntmps - ir.toArray.size) undef,defers:=[]} w:=by
 have hl:=hv.len;have cI:(start fn args bS).bU=(gq bS).bU:=by
  funext id;cases id with
  |cl k=>rfl
  |new i j=>
   simp only[start,gq,AS.bU,List.getD_eq_getElem?_getD,List.getElem?_replicate];split <;> simp
 have aiA:(start fn args bS).env w g β=(gq bS).env w g β:=by simp only[AS.env,cI]
 refine⟨⟨gh,λ_ h=>by cases h⟩,by simp[start,hl],λi=> ?_,by rw[aiA];exact ho,Trans.refl _ _,by rw[aiA];exact cE.refl _⟩;rw[aiA];have h1:(start fn args bS).slot i=args.getD i .undef:=by
  simp only[start,AS.slot,List.getD_eq_getElem?_getD,List.getElem?_append,List.getElem?_replicate];split
  ·rfl
  ·rw[dW (l:=args) ao];split <;> rfl
 have h2:(ir.toArray++Array.replicate (fn.ntmps - ir.toArray.size) undef).getD i undef=ir.getD i undef:=by
  simp only[cC,List.getD_eq_getElem?_getD,Array.getElem?_append,Array.getElem?_replicate];simp only[gj,List.getElem?_toArray];split
  ·rfl
  ·rw[dW (l:=ir) ao];split <;> rfl
 rw[h1,h2];exact hv.get i
theorem Inv.aGV{C:Ctx}{g:Nat->kI}{β:Id->Option Pl}{s:AS}{a:Act}{w:World}(h:Inv C g β s a w){D:Nat}{ds:List Deferred}(hd:a.defers=sO D::ds):
  (Instr.takeDeferred D).run P w= .ok [] (w.putObj D (.deferred aF))/\Inv C g β s {a with defers:=ds} (w.putObj D (.deferred aF)):=by
 obtain⟨hn,zP⟩:=h.defers;rw[hd]at hn zP;obtain⟨D',e,hD,hh,hg⟩:=zP _ (aM ..);have e:Deferred.mk (.collected D) #[]=Deferred.mk (.collected D') #[]:=e;injection e with e _
 injection e with e
 subst e;have iI:=(cg.1 hh).1;refine⟨run_takeDeferred hh,?_⟩;have other:∀b,b≠D->(w.putObj D (.deferred aF)).heap[b]? =w.heap[b]? :=λb hb=>World.putObj_heap_other hb
 have D7:∀b off v,w.cell? ⟨b,off,aF⟩=av v->b≠D:=λb off v hv e=>by subst e;simp[eO,hh]at hv
 have BN:qy (s.env w g β) (s.env (w.putObj D (.deferred aF)) g β):=by
  refine⟨λb off v ⟨h1,h2⟩=>⟨?_,h2⟩,λb ob h1 h2=>⟨h1,?_⟩⟩
  ·have h1:w.cell? ⟨b,off,aF⟩=av v:=h1;show(w.putObj D (.deferred aF)).cell? ⟨b,off,aF⟩=av v;rw[World.cell?_of_block (other b (D7 b off v h1))];exact h1
  ·have h1:g b= .free:=h1;have h2:w.heap[b]? =av ob:=h2
   show(w.putObj D (.deferred aF)).heap[b]? =av ob
   rw[other b λe=>by rw[e,hg]at h1;cases h1];exact h2
 have hle:cE (s.env w g β) (s.env (w.putObj D (.deferred aF)) g β):=⟨BN,λ_ _ h=>h,λ_ _ _ h=>⟨h,rfl⟩⟩;have gW:∀ {id:Id} {v:Nat} {fr:Bool} {c:aE} {pl:Pl},s.bU id=av (.obj v fr c)->β id=av pl->pl.b≠D:=λhs hp e=>by
  have:=((h.bH _ _ _ _ hs).label hp).2;have this:(∃k,g _= .own (.id _) k)\/(_/\g _= .free):=this;rw[e,hg]at this;rcases this with⟨k,hk⟩ | ⟨_,hk⟩
  ·cases hk
  ·cases hk
 refine⟨⟨(dn.1 hn).2,λd hd'=> ?_⟩,h.size,λi=>(h.cj i).mono hle,⟨λid ver fr c hs=> ?_,h.bH.gl.mono hle.mem⟩,?_,h.le.trans hle⟩
 ·obtain⟨D2,e1,e2,e3,e4⟩:=zP d (aN _ hd');refine⟨D2,e1,e2,?_,e4⟩;rw[other D2 λe=>(dn.1 hn).1 (by rw[<-e,<-e1];exact hd')];exact e3
 ·exact sk.mono hle (h.bH id ver fr c hs) rfl (λpl hp=>⟨other _ (gW hs hp),rfl⟩) λq vq k v l hq _=>⟨⟨k,v,l,hq⟩,λpl hp=>⟨other _ (gW hq hp),rfl⟩⟩
 ·have ht:=h.trans;refine⟨ht.os,ht.tape,ht.output,?_,λb hb=> ?_⟩
  ·have:=ht.size;simpa[World.putObj]using this
  ·have h1:=ht.ahO b hb;have hbD:b≠D:=ao;have hc:∀off v,w.cell? ⟨b,off,aF⟩=av v->(w.putObj D (.deferred aF)).cell? ⟨b,off,aF⟩=av v:=λoff v hv=>by rw[World.cell?_of_block (other b hbD)];exact hv
   rw[other b hbD];split at h1
   ·exact h1
   ·exact h1
   ·exact⟨h1.1,λoff v ho hv=>hc off v (h1.2 off v ho hv)⟩
theorem OT{C:Ctx}{g:Nat->kI}{β:Id->Option Pl}{s:AS}{fn:Func}{R:Ending->World->Prop}:∀(ds:List Deferred) {a:Act} {w:World},Inv C g β s a w->a.defers=ds->
  (∀a2 w2,Inv C g β s a2 w2->a2.tmps=a.tmps->∃v,(results fn a.tmps).run P w2= .ok v w2/\R (.returned v) w2)->LeavesInM Fence.wide 0 P fn a.tmps R ds .returning w
 |[],a,w,h,hd,hk=>hk a w h rfl
 |d::ds,a,w,h,hd,hk=>by obtain⟨D,e,_⟩:=h.defers.2 d (by rw[hd];exact aM ..);subst e;obtain⟨h1,h2⟩:=h.aGV (P:=P) hd;exact⟨by simp,.inl ⟨D,_,rfl,h1,OT (fn:=fn) (R:=R) ds (a:= {a with defers:=ds}) h2 rfl hk⟩⟩
theorem adx{bS:List dB}{w:World}{g:Nat->kI}{β:Id->Option Pl}(h:bS.all dB.first=aS){k v:Nat}{fr:Bool}{c:aE}(hk:((gq bS).env w g β).s (.cl k)=av (.obj v fr c)):v=0:=by
 have hk:bS[k]? =av (.obj v fr c):=by simpa[AS.env,gq,AS.bU]using hk
 have:=cS.1 h _ (cH hk);exact eC this
theorem Ju(hm:P.follows .mixedOrders=aS)(hΓ:Sound P Γ){f:gg}{fn:Func}(hf:P.funcs[f]? =av fn)(hb:fn.body.isSome=aS)(xy:(fn.name== "runtime.NumGoroutine")=bq){an:A4}{N:Nat}(hL:∀c,fn.body=av c->jx P Γ an N (iQ c))
  {args:List aE} {bS:List dB} {R:Type} {k:iJ->Option R} {r:R} (hN:acx P Γ an N fn args bS k=av r) (Z3:an.ky=aF)
  {ir:List Value} (hv:vn ((gq bS).env w g β) args ir) (ho:gN ((gq bS).env w g β)):(callFunc f ir.toArray).run P w= .ok (.enter f ir.toArray) w/\
   Calls P f ir.toArray w λe w'=>∃v G,e= .returned v/\k G=av r/\vc ((gq bS).env w g β) G v w':=by
 obtain⟨c,hc⟩:=cd.1 hb;refine⟨?_,?_⟩
 ·unfold callFunc;have hname':¬fn.name= "runtime.NumGoroutine" :=by simpa using xy
  simp[hf,hname',hc]
 ·unfold acx at hN;rw[Z3,hc]at hN;simp only at hN;split at hN
  ·cases hN
  rename_i hF;have hC:(Ctx.mk ((gq bS).env w g β)).ok:=⟨λi j=>by simp[AS.env,gq,AS.bU],λk v fr c hk=>adx hF hk⟩;refine callsIn_wide.1 (callsIn_of_wp_marks (F:=Fence.wide) (n:=0) hf hc trivial (mh (rd:=aF) (C:=⟨(gq bS).env w g β⟩) hm hΓ hC (.inl rfl) c (hL c hc) _ _ w _ _ ⟨g,β,asH hv ho⟩ hN λe s' a' w' hs' hk'=> ?_));have fin:(finish P an fn s').run k=av r->LeavesInM Fence.wide 0 P fn a'.tmps (λe w'=>∃v G,e= .returned v/\k G=av r/\vc ((gq bS).env w g β) G v w') a'.defers .returning w':=λhr=>by
   obtain⟨G,h1,h2⟩:=gr.1 hr;unfold finish at h1;obtain⟨sd,aJ2,h1⟩:=az.1 h1;obtain⟨s2,h3,h4⟩:=az.1 h1;obtain⟨s3,aMo,h4⟩:=az.1 h4;obtain⟨s4,aMp,h4⟩:=az.1 h4;obtain⟨y,h5,h6⟩:=az.1 h4;obtain⟨g1,β1,aDZ⟩:=hs';refine OT a'.defers aDZ rfl λa2 w2 aKk aM7=> ?_
   obtain⟨g0,β0,aBf⟩:=xp _ ⟨g1,β1,aKk⟩ aJ2;obtain⟨g',β',hi⟩:=I4 _ (ko hC _ ⟨g0,β0,aBf.drop _⟩ h3) aMo;have hi:=Bl hC _ hi aMp;obtain⟨z,g2,h7,h8,h9⟩:=Wf hi h5;refine⟨z,by rw[<-aM7];exact h7,z,G,rfl,h2,?_⟩;rw[<-aA.1 h6];exact Xv h8 hC h9
  cases e with
  |normal=>exact fin hk'
  |ret=>exact fin hk'
  |_=>cases hk'
theorem si.zY(hm:P.follows .mixedOrders=aS)(hΓ:Sound P Γ){f:gg}{fn:Func}(hf:P.funcs[f]? =av fn)(hb:fn.body.isSome=aS)(xy:(fn.name== "runtime.NumGoroutine")=bq){en:Entry}{an:A4}{N:Nat}(hL:∀c,fn.body=av c->jx P Γ an N (iQ c))
  (h:∀args bS x,en.run args bS=av x->acx P Γ an N fn args bS av=av (en.out args bS x)) (Z3:an.ky=aF):si P f en:=by
 intro w g β args bS ir x hv ho hx;obtain⟨h1,h2⟩:=Ju hm hΓ hf hb xy hL (h args bS x hx) Z3 hv ho;exact .inl ⟨h1,h2.mono λe w' ⟨v,G,e1,e2,e3⟩=>⟨v,e1,by rw[<-Option.some.inj e2];exact e3⟩⟩
theorem NX.zY(hm:P.follows .mixedOrders=aS)(hΓ:Sound P Γ){f:gg}{fn:Func}(hf:P.funcs[f]? =av fn)(hb:fn.body.isSome=aS)(xy:(fn.name== "runtime.NumGoroutine")=bq){en:Entry}{an:A4}{N:Nat}(hL:∀c,fn.body=av c->jx P Γ an N (iQ c))
  (h:∀args bS,(∃x,en.set args bS x)->acx P Γ an N fn args bS (λG=>aGc (∃x,en.set args bS x/\G=en.out args bS x))=av ()) (Z3:an.ky=aF):NX P f en:=by
 intro w g β args bS ir hv ho hx;obtain⟨h1,h2⟩:=Ju hm hΓ hf hb xy hL (h args bS hx) Z3 hv ho;refine⟨h1,h2.mono λe w' ⟨v,G,e1,e2,e3⟩=> ?_⟩;obtain⟨x,hs,rfl⟩:=afc e2;exact⟨v,x,e1,hs,e3⟩
theorem Hq:∀(l:List (Tmp×Value)) (t:Array Value),(l.foldl (λtmps (x:Tmp×Value)=>tmps.setIfInBounds x.1 x.2) t).size=t.size
 |[],_=>rfl
 |x::l,t=>by rw[dS,Hq l];simp
theorem E4:∀(l:List (Tmp×aE)) (fs:List aE),(wI l fs).length=fs.length
 |[],_=>rfl
 |x::l,fs=>by rw[wI,E4 l];simp
theorem Hr{E:Env}:∀(ps:List Tmp) (vs:List aE) (us:List Value) (fs:List aE) (t:Array Value),vn E vs us->fs.length=t.size->(∀i,VS E (fs.getD i .undef) (t.getD i undef))->
  ∀i,VS E ((wI (ps.zip vs) fs).getD i .undef) (((ps.zip us).foldl (λtmps (x:Tmp×Value)=>tmps.setIfInBounds x.1 x.2) t).getD i undef)
 |[],_,_,fs,t,_,_,h=>by simpa[wI]using h
 |_::_,[],[],fs,t,_,_,h=>by simpa[wI]using h
 |_::_,[],_::_,_,_,h,_,_=>h.elim
 |_::_,_::_,[],_,_,h,_,_=>h.elim
 |p::ps,v::vs,u::us,fs,t,⟨h1,h2⟩,hl,h=>by
  simp only[List.zip_cons_cons,wI,dS];refine Hr ps vs us _ _ h2 (by simpa using hl) λi=> ?_
  simp only[List.getD_eq_getElem?_getD,cC,List.getElem?_set,dI,hl];have hi:=h i;simp only[List.getD_eq_getElem?_getD,cC]at hi;split
  ·split
   ·simpa using h1
   ·simpa using VS.undef
  ·exact hi
theorem vn.split{E:Env}:∀(n:Nat) {as:List aE} {us ts:List Value},us.length=n->vn E as (us++ts)->vn E (as.take n) us/\vn E (as.drop n) ts
 | 0,as,[],ts,_,h=>by simpa using⟨trivial,h⟩
 | 0,as,_::_,ts,hn,h=>by simp at hn
 |n+1,as,[],ts,hn,h=>by simp at hn
 |n+1,[],u::us,ts,_,h=>h.elim
 |n+1,a::as,u::us,ts,hn,⟨h1,h2⟩=>by have:=vn.split n (by simpa using hn) h2;exact⟨⟨h1,this.1⟩,this.2⟩
theorem alz{w:World}{g:Nat->kI}{β:Id->Option Pl}{ps:Array Tmp}{args:List aE}{bS:List dB}{us ts:List Value}(hl:us.length=ps.size)(hv:vn ((gq bS).env w g β) args (us++ts))(ho:gN ((gq bS).env w g β)):
  Inv ⟨(gq bS).env w g β⟩ g β (Us ps.toList args bS) {tmps:=(ps.zip us.toArray).foldl (λtmps (t,a)=>tmps.setIfInBounds t a) ts.toArray,defers:=[]} w:=by
 obtain⟨h1,h2⟩:=vn.split ps.toList.length (by simpa using hl) hv;have cI:(Us ps.toList args bS).bU=(gq bS).bU:=by
  funext id;cases id with
  |cl k=>rfl
  |new i j=>
   simp only[Us,gq,AS.bU,List.getD_eq_getElem?_getD,List.getElem?_replicate];split <;> simp
 have aiA:(Us ps.toList args bS).env w g β=(gq bS).env w g β:=by simp only[AS.env,cI]
 have e:(ps.zip us.toArray).foldl (λtmps (x:Tmp×Value)=>tmps.setIfInBounds x.1 x.2) ts.toArray=(ps.toList.zip us).foldl (λtmps (x:Tmp×Value)=>tmps.setIfInBounds x.1 x.2) ts.toArray:=by rw[<-Array.foldl_toList,Array.toList_zip]
 have e':(ps.zip us.toArray).foldl (λtmps (t,a)=>tmps.setIfInBounds t a) ts.toArray=(ps.toList.zip us).foldl (λtmps (x:Tmp×Value)=>tmps.setIfInBounds x.1 x.2) ts.toArray:=e;rw[e'];refine⟨⟨gh,λ_ h=>by cases h⟩,?_,λi=> ?_,by rw[aiA];exact ho,Trans.refl _ _,by rw[aiA];exact cE.refl _⟩
 ·show Array.size _=(wI _ _).length;rw[Hq,E4];simpa using h2.len.symm
 ·rw[aiA];exact Hr ps.toList _ us _ _ h1 (by simpa using h2.len) (λi=>by simpa[cC,List.getD_eq_getElem?_getD]using h2.get i) i
theorem Je.zY(hm:P.follows .mixedOrders=aS)(hΓ:Sound P Γ){y:Nat}{fn:Func}{en:Entry}{an:A4}{N:Nat}(hL:jx P Γ an N (iQ (TI P y).as++iQ (TI P y).b))
  (h:∀args bS x,en.run args bS=av x->acx P Γ an N fn args bS av=av (en.out args bS x)) (Z3:an.ky=av y):Je P y en:=by
 intro w g β args bS ir x hv ho hx l us ts f rd n aIH sh;have hN:=h args bS x hx;unfold acx at hN;rw[Z3]at hN;simp only at hN;unfold ayq at hN;split at hN;rotate_left
 ·cases hN
 rename_i args;split at hN
 ·cases hN
 rename_i hF;subst aIH;obtain⟨aFI,Ql⟩:=hv;have hC:(Ctx.mk ((gq bS).env w g β)).ok:=⟨λi j=>by simp[AS.env,gq,AS.bU],λk v fr c hk=>adx hF hk⟩;obtain⟨cs,hV,hO⟩:=aFI;simp only[V]at hV;obtain⟨l',rfl,aix,ff⟩:=hV;have hl:l'=l:=by simpa[fw,aE.agg]using hO
 subst hl;have at_l:∀ {s:AS} {g1:Nat->kI} {β1:Id->Option Pl} {a:Act} {w1:World} {pl:Pl},Inv ⟨(gq bS).env w g β⟩ g1 β1 s a w1->(s.env w1 g1 β1).cur (.cl 0) 0->β1 (.cl 0)=av pl->pl.b=l':=by intro s g1 β1 a w1 pl hi hc hp;obtain⟨c1,c2⟩:=hi.le.cur _ _ aix hc;obtain⟨pl',hp',rfl⟩:=ff c1;have c2:β1 (.cl 0)=β (.cl 0):=c2;have hp':β (.cl 0)=av pl':=hp';rw[c2,hp']at hp;exact(cf Pl.b (Option.some.inj hp)).symm
 refine roundIn_of_wpIn (F:=Fr rd) trivial ?_
 have aiE:av l'=aF\/an.ky.isSome=aS:= .inr (by rw[Z3];rfl);refine mh (rd:=av l') hm hΓ hC aiE _ hL.append.1 _ _ w _ _ ⟨g,β,alz sh Ql ho⟩ hN λe s1 a1 w1 A7 adL=> ?_
 cases e with
 |normal=>
  simp only at adL;cases h1:s1.Nq 0 1 with
  |none=>rw[h1]at adL;cases adL
  |some s2=>
   rw[h1]at adL;simp only[ak]at adL;obtain⟨g1,β1,aDZ⟩:=A7;obtain⟨pl,r,hp,hc,hb,pO,aIv⟩:=K5 aDZ h1;have:=at_l aDZ hc hp;subst this;refine⟨_,run_beginRound hb pO.1,?_⟩;have aKk:=aIv {r with state:= .busy} rfl rfl rfl rfl rfl;refine mh (rd:=av pl.b) hm hΓ hC aiE _ hL.append.2 _ _ _ _ _ ⟨_,_,aKk⟩ adL λe s3 a3 w3 aFF aBh=> ?_
   cases aDX:aDO e with
   |none=>rw[aDX]at aBh;cases aBh
   |some p=>
    rw[aDX]at aBh;simp only[ak]at aBh;cases h4:s3.Nq 1 p with
    |none=>rw[h4]at aBh;cases aBh
    |some s4=>
     rw[h4]at aBh;simp only at aBh;obtain⟨g3,β3,aLI⟩:=aFF;obtain⟨pl3,r3,aMR,aDT,aLD,aM6,hnext3⟩:=K5 aLI h4;have aMJ:=at_l aLI aDT aMR;rw[aMJ]at aLD hnext3
     have fin:∀(jump:Option Code) (b:Bool),gG p 0=jump.isNone->afF p (if jump.isNone then .ready else .done) jump->
       ∃v w',(Instr.endRound pl.b jump).run P w3= .ok v w'/\∃v',Ending.returned v= .returned v'/\vc ((gq bS).env w g β) (en.out (.yl (.cl 0) 0::args) bS x) v' w':=λjump b hb hr=>by
      have aMC:=hnext3 {r3 with state:=if jump.isNone then .ready else .done,pending:=jump} rfl rfl rfl rfl hr;refine⟨_,_,run_endRound jump aLD,_,rfl,?_⟩;obtain⟨G,k1,k2⟩:=gr.1 aBh;simp only[aB]at k2;subst k2;unfold amW at k1;obtain⟨sd,m1,k1⟩:=az.1 k1;obtain⟨s5,m2,k1⟩:=az.1 k1;obtain⟨s6,m3,k1⟩:=az.1 k1;obtain⟨s7,m4,k1⟩:=az.1 k1;obtain⟨g0,β0,aBf⟩:=xp _ ⟨_,_,aMC⟩ m1;obtain⟨g',β',hi⟩:=I4 _ (ko hC _ ⟨g0,β0,aBf.drop _⟩ m2) m3;have hi:=Bl hC _ hi m4;rw[<-aA.1 k1,hb];exact Xv hi hC (tj _)
     cases e with
     |normal=>
      obtain rfl:=Option.some.inj aDX;exact fin aF aS rfl ⟨rfl,rfl⟩
     |ret=>
      obtain rfl:=Option.some.inj aDX;exact fin (av .ret) bq rfl ⟨rfl,rfl⟩
     |exit i=>
      obtain rfl:=Option.some.inj aDX;exact fin (av (.exit i)) bq rfl ⟨rfl,rfl⟩
     |goto _=>cases aDX
     |panic _=>cases aDX
     |outgrown=>cases aDX
 |_=>cases adL
end
end Go.Ab
namespace Go.Ab
def dd(k:iv)(n:Int):Int:=k.wrap n
def bl(k:iv)(x y:Int):Int:=k.wrap (x+y)
def bA(k:iv)(x y:Int):Int:=k.wrap (x - y)
def ed(k:iv)(x y:Int):Int:=k.wrap (x*y)
def ig(k:iv)(x y:Int):Int:=k.wrap (x.tdiv y)
def eA(x y:Int):Int:=x.tmod y
def mJ(k:iv)(x y:Int):Int:=k.wrap (x*2^(min y.toNat k.bits))
def bM(k:iv)(x y:Int):Int:=x.fdiv (2^(min y.toNat k.bits))
def aFN(k:iv)(x:Int):Int:=k.wrap (0 - x)
def aBP(k:iv)(x:Int):Int:=cn .xor k (if k.signed then -1 else k.max) x
def kK(x y:Int):Bool:=x==y
def yV(x y:Int):Bool:=x !=y
def fG(x y:Int):Bool:=decide (x < y)
def ab9(x y:Int):Bool:=decide (x<=y)
def vh(x y:Int):Bool:=decide (x > y)
def qS(x y:Int):Bool:=decide (x>=y)
def seq(x y:ByteArray):Bool:=x.toList==y.toList
def agl(a:ByteArray)(i:Int):Int:=((a.data.toList.getD i.toNat 0).toNat:Int)
def aFM(x y:Int):Int:=if y < x then y else x
def imax(x y:Int):Int:=if x < y then y else x
def dr(i n:Int):Bool:=decide (0<=i/\i < n)
def inc(i n:Int):Bool:=decide (0<=i/\i<=n)
def jr(y:Int):Bool:=decide (0<=y)
def jB(y:Int):Bool:= !(decide (y=0))
open Classical in
def eb.of{D X:Type}(st:D->AS)(gd:D->Prop)(F:D->X)(out:X->Out (Exit×AS)):eb:= {X,run:=λs=>if h:∃d,st d=s/\gd d then av (F h.choose) else aF,out}
open Classical in
theorem eb.zY{D X:Type}{st:D->AS}{gd:D->Prop}{F:D->X}{out:X->Out (Exit×AS)}(Z1:∀d d',st d=st d'->d=d'){d:D}(h:gd d):(eb.of st gd F out).run (st d)=av (F d):=by have hex:∃d',st d'=st d/\gd d':=⟨d,rfl,h⟩;show(if h:∃d',st d'=st d/\gd d' then av (F h.choose) else aF)=_;rw[dif_pos hex,Z1 _ _ hex.choose_spec.1]
open Classical in
def aor.of{X:Type}(an:nP)(st:X->AS):aor:=
 {an,X,aJG:=λe s=>if h:e= .normal/\∃x,st x=s then av h.2.choose else aF,out:=λx=> .ok (.normal,st x),
  ok:=λe s x h=>by
   by_cases h1:e= .normal/\∃x,st x=s
   ·rw[dif_pos h1]at h;have h2:=h1.2.choose_spec;rw[Option.some.inj h]at h2;rw[h1.1,<-h2];rfl
   ·rw[dif_neg h1]at h;cases h}
open Classical in
open Classical in
theorem amf.of{P:aK}{Γ:sa}{an:A4}{N:Nat}{fn:Func}{i:Nat}{D X:Type}{st:D->AS}{gd:D->Prop}{F:D->X}{out:X->Out (Exit×AS)}
  (hle:an.fo (dz (nc fn i))=av (eb.of st gd F out)) (h:∀d,gd d->∃n,aaD P Γ an N fn i n (st d) (λe s=>av (e,s))=(out (F d)).eval):amf P Γ an N (nc fn i):=by
 intro le hle';rw[hle]at hle';simp only[aB]at hle';subst hle';refine⟨λ_ s x hx=> ?_,λS hS=>by cases hS⟩;change (if h:∃d',st d'=s/\gd d' then av (F h.choose) else aF)=av x at hx;split at hx
 ·rename_i hex;obtain rfl:=Option.some.inj hx;obtain⟨h1,h2⟩:=hex.choose_spec;obtain⟨n,hn⟩:=h _ h2;refine⟨n,?_⟩;show aaD P Γ an N fn i n s _=_;rw[h1]at hn;exact hn
 ·cases hx
theorem X0(P:aK)(Γ:sa)(an:A4)(N:Nat)(fn:Func)(i:Nat){R:Type}(n:Nat)(s:AS)(k:Exit->AS->Option R):aaD P Γ an N fn i (n+1) s k=M8 P Γ an N fn i s (λs1=>aaD P Γ an N fn i n s1 k) k:=rfl
theorem anB{P:aK}{Γ:sa}{an:A4}{N:Nat}{fn:Func}{i:Nat}{D X:Type}{st:D->AS}{gd:D->Prop}{F:D->X}{out:X->Out (Exit×AS)}(μ:D->Nat)
  (h:∀d,gd d->(∃d',gd d'/\μ d' < μ d/\F d'=F d/\∀ {R:Type} (kn:AS->Option R) (kx:Exit->AS->Option R),M8 P Γ an N fn i (st d) kn kx=kn (st d'))\/
   (∃r,(out (F d)).eval=av r/\∀ {R:Type} (kn:AS->Option R) (kx:Exit->AS->Option R),M8 P Γ an N fn i (st d) kn kx=kx r.1 r.2)):
  ∀d,gd d->∃n,aaD P Γ an N fn i n (st d) (λe s=>av (e,s))=(out (F d)).eval:=by
 have key:∀m d,μ d=m->gd d->∃n,aaD P Γ an N fn i n (st d) (λe s=>av (e,s))=(out (F d)).eval:=by
  intro m
  induction m using Nat.strongRecOn with
  |_ m ih=>
   intro d hm hp;rcases h d hp with⟨d',hp',iI,hF,hr⟩ | ⟨r,hr,hx⟩
   ·obtain⟨n,hn⟩:=ih (μ d') ao d' rfl hp';exact⟨n+1,by rw[X0,hr,hn,hF]⟩
   ·exact⟨1,by rw[X0,hx,hr]⟩
 exact λd hp=>key _ d rfl hp
open Classical in
def eb.aq1{D X Y:Type}(st:D->AS)(gd:D->Prop)(add:D->Y->X)(Post:D->Y->Prop)(out:X->Out (Exit×AS)):eb:= {X,run:=λ_=>aF,out,set:=av λs x=>∃d,st d=s/\gd d/\∃y,Post d y/\x=add d y}
abbrev aHx(P:aK)(G:sa)(an:A4)(N:Nat)(fn:Func)(i:Nat){D X Y:Type}(st:D->AS)(gd:D->Prop)(add:D->Y->X)(Post:D->Y->Prop)(out:X->Out (Exit×AS)):Prop:=∀d,gd d->∃n,∀k:Exit->AS->Option Unit,(∀y e s,Post d y->(out (add d y)).eval=av (e,s)->k e s=av ())->aaD P G an N fn i n (st d) k=av ()
theorem amf.aq1{P:aK}{Γ:sa}{an:A4}{N:Nat}{fn:Func}{i:Nat}{D X Y:Type}{st:D->AS}{gd:D->Prop}{add:D->Y->X}{Post:D->Y->Prop}{out:X->Out (Exit×AS)}
  (h:aHx P Γ an N fn i st gd add Post out) (hle:an.fo (dz (nc fn i))=av (eb.aq1 st gd add Post out)):amf P Γ an N (nc fn i):=by
 intro le hle';rw[hle]at hle';simp only[aB]at hle';subst hle';refine⟨λhS=>(by cases hS),λS hS s hs=> ?_⟩;obtain rfl:=Option.some.inj hS;obtain⟨x,d,rfl,hp,y,hy,rfl⟩:=hs;obtain⟨n,hn⟩:=h d hp;exact⟨n,hn _ λy e s h1 h2=>axF ⟨add d y,⟨d,rfl,hp,y,h1,rfl⟩,h2⟩⟩
theorem aeP{P:aK}{Γ:sa}{an:A4}{N:Nat}{fn:Func}{i:Nat}{D X:Type}{st:D->AS}{gd:D->Prop}{F:D->X}{ex:X->Exit×AS}(μ:D->Nat)(h:∀d,gd d->(∃d',gd d'/\μ d' < μ d/\F d'=F d/\∀ {R:Type} (kn:AS->Option R) (kx:Exit->AS->Option R),M8 P Γ an N fn i (st d) kn kx=kn (st d'))\/(∀ {R:Type} (kn:AS->Option R) (kx:Exit->AS->Option R),M8 P Γ an N fn i (st d) kn kx=kx (ex (F d)).1 (ex (F d)).2)):∀d,gd d->∃n,aaD P Γ an N fn i n (st d) (λe s=>av (e,s))=(Out.ok (ex (F d))).eval:=anB (out:=λx=> .ok (ex x)) μ λd hp=>(h d hp).imp id λh=>⟨_,rfl,h⟩
open Classical in
def Entry.of{D X:Type}(params:List (Option Ty))(st:D->List aE×List dB)(gd:D->Prop)(F:D->X)(out:X->iJ):Entry:= {params,X,run:=λargs bS=>if h:∃d,st d=(args,bS)/\gd d then av (F h.choose) else aF,out:=λ_ _=>out}
open Classical in
theorem Entry.zY{D X:Type}{params:List (Option Ty)}{st:D->List aE×List dB}{gd:D->Prop}{F:D->X}{out:X->iJ}(Z1:∀d d',st d=st d'->d=d'){d:D}(h:gd d):
  (Entry.of params st gd F out).run (st d).1 (st d).2=av (F d):=by
 have hex:∃d',st d'=((st d).1,(st d).2)/\gd d':=⟨d,rfl,h⟩;show(if h:∃d',st d'=((st d).1,(st d).2)/\gd d' then av (F h.choose) else aF)=_;rw[dif_pos hex,Z1 _ _ hex.choose_spec.1]
open Classical in
theorem anJ{D X:Type}{params:List (Option Ty)}{st:D->List aE×List dB}{gd:D->Prop}{F:D->X}{out:X->iJ}{args:List aE}{bS:List dB}{x:X}(hx:(Entry.of params st gd F out).run args bS=av x):∃d,st d=(args,bS)/\gd d/\x=F d:=by
 change (if h:∃d',st d'=(args,bS)/\gd d' then av (F h.choose) else aF)=av x at hx;split at hx
 ·rename_i hex;obtain rfl:=Option.some.inj hx;exact⟨_,hex.choose_spec.1,hex.choose_spec.2,rfl⟩
 ·cases hx
theorem si.of{P:aK}{Γ:sa}(hm:P.follows .mixedOrders=aS)(hΓ:Sound P Γ){f:gg}{fn:Func}(hf:P.funcs[f]? =av fn)(hb:fn.body.isSome=aS)(xy:(fn.name== "runtime.NumGoroutine")=bq){an:A4}{N:Nat}
  (hL:∀c,fn.body=av c->jx P Γ an N (iQ c)) {D X:Type} {params:List (Option Ty)} {st:D->List aE×List dB} {gd:D->Prop} {F:D->X} {out:X->iJ}
  (h:∀d,gd d->acx P Γ an N fn (st d).1 (st d).2 av=av (out (F d))) (Z3:an.ky=aF:=by exact rfl):si P f (Entry.of params st gd F out):=by
 refine si.zY hm hΓ hf hb xy hL (λargs bS x hx=> ?_) Z3;obtain⟨d,e1,e2,rfl⟩:=anJ hx;have:=h d e2;rw[e1]at this;exact this
def az5(P:aK)(Γ:sa)(an:A4)(N:Nat)(fn:Func):Nat->Nat->Prop
 | 0,_=>True
 |n+1,i=>amf P Γ an N (nc fn i)/\az5 P Γ an N fn n (i+1)
theorem az5.get{P:aK}{Γ:sa}{an:A4}{N:Nat}{fn:Func}:∀ {n i:Nat},az5 P Γ an N fn n i->∀j,j < n->amf P Γ an N (nc fn (i+j))
 | 0,_,_,j,hj=>ao
 |n+1,i,h,0,_=>h.1
 |n+1,i,h,j+1,hj=>by have:=az5.get h.2 j ao;rwa[show i+1+j=i+(j+1) by omega]at this
theorem jx.axB{P:aK}{Γ:sa}{an:A4}{N:Nat}:∀(l:List Code),(∀j,j < l.length->amf P Γ an N (l.getD j .skip))->jx P Γ an N l
 |[],_=>trivial
 |b::l,h=>⟨h 0 (by simp),jx.axB l λj hj=>by have:=h (j+1) (by simpa using hj);simpa using this⟩
theorem jx.fn{P:aK}{Γ:sa}{an:A4}{N:Nat}{fn:Func}(n:Nat)(hn:(match fn.body with | some c=>(iQ c).length | none=>0)=n)(h:az5 P Γ an N fn n 0):∀c,fn.body=av c->jx P Γ an N (iQ c):=by
 intro c hc;refine jx.axB _ λj hj=> ?_
 rw[hc]at hn;simp only at hn;have:=h.get j ao;unfold nc at this;rw[hc]at this;simpa using this
theorem amf.none{P:aK}{Γ:sa}{an:A4}{N:Nat}{fn:Func}{i:Nat}(h:an.fo (dz (nc fn i))=aF):amf P Γ an N (nc fn i):=λle hle=>by
 rw[h]at hle;cases hle
def aHS:sa:=λ_ _=>aF
theorem Sound.nil(P:aK):Sound P aHS:=λ_ _ _ h=>by cases h
def avB(f:gg)(p:List aE->Bool)(en:Entry)(Γ:sa):sa:=λg vs=>match gG g f with | true=>(match p vs with | true=>av en | false=>Γ g vs) | false=>Γ g vs
theorem Sound.cons{P:aK}{f:gg}{p:List aE->Bool}{en:Entry}{Γ:sa}(h:Jd P f en)(hΓ:Sound P Γ):Sound P (avB f p en Γ):=λg vs e hg=>by
 unfold avB at hg;split at hg
 ·rename_i he;have:g=f:=eC he;split at hg
  ·simp only[aB]at hg;subst hg this;exact h
  ·exact hΓ g vs e hg
 ·exact hΓ g vs e hg
theorem aDN{t:Ty}{x y:t.den}(h:aE.d t x=aE.d t y):x=y:=by injection h with _ h
def Jk:List aE->Bool:=λ_=>aS
def aq8:List aE->Bool | .cX::_=>aS | _=>bq
def NM:List aE->Bool | .dj .. ::_=>aS | _=>bq
@[simp] theorem aj{α:Type}(x y:Option α):aG aS x y=x:=rfl
@[simp] theorem al{α:Type}(x y:Option α):aG bq x y=y:=rfl
@[simp] theorem ah{α β:Type}(x:α)(f:α->Option β):ak (av x) f=f x:=rfl
@[simp] theorem aHr{α:Type}(c:sA)(x:Option α):same c c x=x:=by simp[same]
@[simp] theorem F6{α:Type}(x:Option α):nd x x=x:=by simp[nd]
structure SG(P:aK) where
 f:gg
 p:List aE->Bool
 e:Entry
 h:Jd P f e
def oP{P:aK}:List (SG P)->sa
 |[]=>aHS
 |a::l=>avB a.f a.p a.e (oP l)
theorem Sound.oP{P:aK}:∀l:List (SG P),Sound P (oP l)
 |[]=>Sound.nil P
 |a::l=>Sound.cons a.h (Sound.oP l)
abbrev SA:=List aE×List dB
def acf(P:aK)(G:sa)(an:A4)(N:Nat)(fn:Func){D:Type}(st:D->SA){R:Type}(d:D)(k:iJ->Option R):Option R:=acx P G an N fn (st d).1 (st d).2 k
def gk(P:aK)(G:sa)(an:A4)(N:Nat)(fn:Func)(i:Nat){D:Type}(st:D->AS){R:Type}(d:D)(kn:AS->Option R)(kx:Exit->AS->Option R):Option R:=M8 P G an N fn i (st d) kn kx
abbrev aAk{D X Y:Type}(A: {R:Type}->D->(iJ->Option R)->Option R)(gd:D->Prop)(add:D->Y->X)(F:D->Y)(out:X->iJ):Prop:=∀d,gd d->A d av=av (out (add d (F d)))
abbrev qq(P:aK)(G:sa)(an:A4)(N:Nat)(fn:Func)(i:Nat){D X Y:Type}(st:D->AS)(gd:D->Prop)(add:D->Y->X)(F:D->Y)(out:X->Out (Exit×AS)):Prop:=∀d,gd d->∃n,aaD P G an N fn i n (st d) (λe s=>av (e,s))=(out (add d (F d))).eval
abbrev aAj{D X Y:Type}(R: {R:Type}->D->(AS->Option R)->(Exit->AS->Option R)->Option R)(st:D->AS)(gd:D->Prop)(add:D->Y->X)(F:D->Y)(ex:X->Exit×AS)(C:Prop):Prop:=∀μ:D->Nat,(∀d,gd d->(∃d',gd d'/\μ d' < μ d/\add d' (F d')=add d (F d)/\∀ {T:Type} (kn:AS->Option T) (kx:Exit->AS->Option T),R d kn kx=kn (st d'))\/(∀ {T:Type} (kn:AS->Option T) (kx:Exit->AS->Option T),R d kn kx=kx (ex (add d (F d))).1 (ex (add d (F d))).2))->C
abbrev uR{D X Y:Type}(R: {R:Type}->D->(AS->Option R)->(Exit->AS->Option R)->Option R)(st:D->AS)(gd:D->Prop)(add:D->Y->X)(F:D->Y)(out:X->Out (Exit×AS))(C:Prop):Prop:=∀μ:D->Nat,(∀d,gd d->(∃d',gd d'/\μ d' < μ d/\add d' (F d')=add d (F d)/\∀ {T:Type} (kn:AS->Option T) (kx:Exit->AS->Option T),R d kn kx=kn (st d'))\/(∃r,(out (add d (F d))).eval=av r/\∀ {T:Type} (kn:AS->Option T) (kx:Exit->AS->Option T),R d kn kx=kx r.1 r.2))->C
theorem aHE{P:aK}{G:sa}{an:A4}{N:Nat}{fn:Func}{i:Nat}{D X Y:Type}{st:D->AS}{gd:D->Prop}{add:D->Y->X}{F:D->Y}{ex:X->Exit×AS}:aAj (gk P G an N fn i st) st gd add F ex (qq P G an N fn i st gd add F λx=> .ok (ex x)):=λ μ h=>aeP (F:=λd=>add d (F d)) μ h
theorem vA{P:aK}{G:sa}{an:A4}{N:Nat}{fn:Func}{i:Nat}{D X Y:Type}{st:D->AS}{gd:D->Prop}{add:D->Y->X}{F:D->Y}{out:X->Out (Exit×AS)}:uR (gk P G an N fn i st) st gd add F out (qq P G an N fn i st gd add F out):=λ μ h=>anB (F:=λd=>add d (F d)) (out:=out) μ h
def mM:List (Nat×nP)->Nat->nP
 |[],_=> {}
 |a::l,r=>bif gG r a.1 then a.2 else mM l r
def mL:List (Nat×nP×nP)->Nat->Bool->nP
 |[],_,_=> {}
 |a::l,r,b=>bif gG r a.1 then(bif b then a.2.2 else a.2.1) else mL l r b
def oR.{v} {α:Type v}:List (Nat×α)->Nat->Option α
 |[],_=>aF
 |a::l,r=>bif gG r a.1 then av a.2 else oR l r
inductive Lf where
 |d (t:Ty)
 |n
@[reducible] def Lf.den:Lf->Type
 | .d t=>t.den
 | .n=>Nat
@[reducible] def Lf.ahu:List Lf->Type
 |[]=>Unit
 |[a]=>a.den
 |a::b::l=>a.den×Lf.ahu (b::l)
abbrev aHy:=List (Sigma Lf.den)
def Lf.mk:(ts:List Lf)->Lf.ahu ts->aHy
 |[],_=> []
 |[a],x=> [⟨a,x⟩]
 |a::b::l,x=>⟨a,x.1⟩::Lf.mk (b::l) x.2
theorem Lf.mk_inj:∀(ts:List Lf) (x y:Lf.ahu ts),Lf.mk ts x=Lf.mk ts y->x=y
 |[],_,_,_=>rfl
 |[a],x,y,h=>by
  injection h with h _
  injection h
 |a::b::l,(x,u),(y,v),h=>by
  injection h with h h2
  injection h with _ h
  have h:x=y:=h;rw[h,Lf.mk_inj (b::l) u v h2]
def aE.leaves:aE->aHy
 | .d .unit _=> []
 | .d (.arr _ t) l=> [⟨.d (.slice t),l⟩]
 | .d t x=> [⟨.d t,x⟩]
 | .dN t x=> [⟨.d t,x⟩]
 | .vec _ t l=> [⟨.d (.slice t),l⟩]
 | .mp k v l=> [⟨.d (.slice (.pair k v)),l⟩]
 | .qu _ _ k v l _=> [⟨.d (.slice (.pair k v)),l⟩]
 | .xU _ f _=>f.leaves
 | .dj _ _ _ _ _ n=> [⟨.n,n⟩]
 | .pr a b=>a.leaves++b.leaves
 | .cons a b=>a.leaves++b.leaves
 | .fn _ c=>c.leaves
 | .bx _ _ c=>c.leaves
 |_=> []
def dB.leaves:dB->aHy
 | .obj _ _ c=>c.leaves
 | .dead=> []
def SA.leaves(s:SA):aHy:=s.1.flatMap aE.leaves++s.2.flatMap dB.leaves
def AS.leaves(s:AS):aHy:=s.cj.flatMap aE.leaves++(s.bS.flatMap dB.leaves++s.news.flatMap (·.flatMap dB.leaves))
theorem aFO(ts:List Lf){st:Lf.ahu ts->SA}(h:∀d,SA.leaves (st d)=Lf.mk ts d)(d d':Lf.ahu ts)(e:st d=st d'):d=d':=Lf.mk_inj ts d d' (by rw[<-h,<-h,e])
theorem sJ(ts:List Lf){st:Lf.ahu ts->AS}(h:∀d,AS.leaves (st d)=Lf.mk ts d)(d d':Lf.ahu ts)(e:st d=st d'):d=d':=Lf.mk_inj ts d d' (by rw[<-h,<-h,e])
def Entry.fH{D X Y:Type}(params:List (Option Ty))(st:D->SA)(gd:D->Prop)(add:D->Y->X)(F:D->Y)(out:X->iJ):Entry:=Entry.of params st gd (λd=>add d (F d)) out
def aL6{X Y:Type}(x:X⊕Y):Out (X⊕Y):= .br x.isLeft (.get x.getLeft? λa=> .ok (.inl a)) (.get x.getRight? λb=> .ok (.inr b))
theorem aGz{X Y:Type}(x y:X⊕Y)(h:(aL6 x).eval=av y):y=x:=by cases x <;> exact(Option.some.inj h).symm
def Entry.axq{D X X' Y:Type}(params:List (Option Ty))(st:D->SA)(gd:D->Prop)(add:D->Y->X⊕X')(F:D->Y)(out:X⊕X'->iJ):Entry:= {Entry.fH params st gd add F out with sp:=aL6,an4:=aGz}
theorem Je.aLs{P:aK}{y:Nat}{D X X' Y:Type}{params:List (Option Ty)}{st:D->SA}{gd:D->Prop}{add:D->Y->X⊕X'}{F:D->Y}{out:X⊕X'->iJ}(h:Je P y (Entry.fH params st gd add F out)):Je P y (Entry.axq params st gd add F out):=h
theorem si.aLs{P:aK}{f:gg}{D X X' Y:Type}{params:List (Option Ty)}{st:D->SA}{gd:D->Prop}{add:D->Y->X⊕X'}{F:D->Y}{out:X⊕X'->iJ}(h:si P f (Entry.fH params st gd add F out)):si P f (Entry.axq params st gd add F out):=h
def Entry.aq1{D X Y:Type}(params:List (Option Ty))(st:D->SA)(gd:D->Prop)(add:D->Y->X)(Post:D->Y->Prop)(out:X->iJ):Entry:= {params,X,run:=λ_ _=>aF,out:=λ_ _ x=>out x,rel:=aS,set:=λargs bS x=>∃d,st d=(args,bS)/\gd d/\∃y,Post d y/\x=add d y}
abbrev aHv{D X Y:Type}(A: {R:Type}->D->(iJ->Option R)->Option R)(gd:D->Prop)(add:D->Y->X)(Post:D->Y->Prop)(out:X->iJ):Prop:=∀d,gd d->∀k:iJ->Option Unit,(∀y,Post d y->k (out (add d y))=av ())->A d k=av ()
def eb.fH{D X Y:Type}(st:D->AS)(gd:D->Prop)(add:D->Y->X)(F:D->Y)(out:X->Out (Exit×AS)):eb:=eb.of st gd (λd=>add d (F d)) out
def amw{D:Type}(E:Entry)(st:D->SA):D->Option E.X:=λd=>E.run (st d).1 (st d).2
def kD{D:Type}(E:eb)(st:D->AS):D->Option E.X:=λd=>E.run (st d)
abbrev mR{D X Y:Type}(call:D->Option X)(gd:D->Prop)(add:D->Y->X)(F:D->Y):Prop:=∀ {d:D},gd d->call d=av (add d (F d))
theorem aGp{D X Y:Type}{params:List (Option Ty)}{st:D->SA}{gd:D->Prop}{add:D->Y->X}{F:D->Y}{out:X->iJ}(Z1:∀d d',st d=st d'->d=d'):mR (amw (Entry.fH params st gd add F out) st) gd add F:=λh=>Entry.zY Z1 h
theorem aEv{D X X' Y:Type}{params:List (Option Ty)}{st:D->SA}{gd:D->Prop}{add:D->Y->X⊕X'}{F:D->Y}{out:X⊕X'->iJ}(Z1:∀d d',st d=st d'->d=d'){d:D}(h:gd d):(Entry.axq params st gd add F out).run (st d).1 (st d).2=av (add d (F d)):=aGp (params:=params) (out:=out) Z1 h
theorem sV{D X Y:Type}{st:D->AS}{gd:D->Prop}{add:D->Y->X}{F:D->Y}{out:X->Out (Exit×AS)}(Z1:∀d d',st d=st d'->d=d'):mR (kD (eb.fH st gd add F out) st) gd add F:=λh=>eb.zY Z1 h
def apE(P:aK)(fn:Func):Bool:=P.follows .mixedOrders && fn.body.isSome && !(fn.name== "runtime.NumGoroutine")
def avr(fn:Func):Nat:=match fn.body with | some c=>(iQ c).length | none=>0
theorem si.fn{P:aK}{l:List (SG P)}{f:gg}{fn:Func}{an:A4}{N:Nat}{D X Y:Type}{params:List (Option Ty)}{st:D->SA}{gd:D->Prop}{add:D->Y->X}{F:D->Y}{out:X->iJ}(n:Nat)
  (hc:(P.funcs[f]?,apE P fn,avr fn)=(av fn,aS,n))
  (h:aAk (@acf P (oP l) an N fn D st) gd add F out)
  (hL:az5 P (oP l) an N fn n 0) (Z3:an.ky=aF:=by exact rfl):si P f (Entry.fH params st gd add F out):=by
 injection hc with h1 h2
 injection h2 with h2 h3
 unfold apE at h2;simp only[au,cr]at h2;exact si.of h2.1.1 (Sound.oP l) h1 h2.1.2 h2.2 (jx.fn n h3 hL) h Z3
theorem NX.fn{P:aK}{l:List (SG P)}{f:gg}{fn:Func}{an:A4}{N:Nat}{D X Y:Type}{params:List (Option Ty)}{st:D->SA}{gd:D->Prop}{add:D->Y->X}{Post:D->Y->Prop}{out:X->iJ}(n:Nat)
  (hc:(P.funcs[f]?,apE P fn,avr fn)=(av fn,aS,n))
  (h:aHv (@acf P (oP l) an N fn D st) gd add Post out)
  (hL:az5 P (oP l) an N fn n 0) (Z3:an.ky=aF:=by exact rfl):NX P f (Entry.aq1 params st gd add Post out):=by
 injection hc with h1 h2
 injection h2 with h2 h3
 unfold apE at h2;simp only[au,cr]at h2;refine NX.zY h2.1.1 (Sound.oP l) h1 h2.1.2 h2.2 (jx.fn n h3 hL) (λargs bS hx=> ?_) Z3;obtain⟨x,d,e,hp,y,hy,rfl⟩:=hx;have:=h d hp (λG=>aGc (∃x,(Entry.aq1 params st gd add Post out).set args bS x/\G=(Entry.aq1 params st gd add Post out).out args bS x)) λy hy=>axF ⟨_,⟨d,e,hp,y,hy,rfl⟩,rfl⟩
 unfold acf at this;rw[e]at this;exact this
theorem Je.fn{P:aK}{l:List (SG P)}{y:Nat}{an:A4}{N:Nat}{D X Y:Type}{params:List (Option Ty)}{st:D->SA}{gd:D->Prop}{add:D->Y->X}{F:D->Y}{out:X->iJ}(n:Nat)
  (hc:(P.follows .mixedOrders,avr (aJh P y))=(aS,n))
  (h:aAk (@acf P (oP l) an N (aJh P y) D st) gd add F out)
  (hL:az5 P (oP l) an N (aJh P y) n 0) (Z3:an.ky=av y):Je P y (Entry.fH params st gd add F out):=by
 injection hc with h1 h2
 refine Je.zY h1 (Sound.oP l) (fn:=aJh P y) (jx.fn (fn:=aJh P y) n h2 hL _ rfl) (λargs bS x hx=> ?_) Z3;obtain⟨d,e1,e2,rfl⟩:=anJ hx;have:=h d e2;unfold acf at this;rw[e1]at this;exact this
theorem amf.fH{P:aK}{Γ:sa}{an:A4}{N:Nat}{fn:Func}{i:Nat}{D X Y:Type}{st:D->AS}{gd:D->Prop}{add:D->Y->X}{F:D->Y}{out:X->Out (Exit×AS)}
  (h:qq P Γ an N fn i st gd add F out) (hle:an.fo (dz (nc fn i))=av (eb.fH st gd add F out):=by kernel_rfl):amf P Γ an N (nc fn i):=amf.of hle h
abbrev K1(R:Type):=iJ->Option R
abbrev K2(R:Type):=AS->Option R
abbrev K3(R:Type):=Exit->AS->Option R
@[reducible] def bk{D Y:Type}(_:D)(y:Y):Y:=y
structure Ls{D Y X:Type}(gd:D->Prop)(add:D->Y->X)(F:D->Y) where
 st:D->AS
 ex:X->Exit×AS
noncomputable def oa{D Y X:Type}{gd:D->Prop}{add:D->Y->X}{F:D->Y}(st:D->AS)(ex:X->Exit×AS):Ls gd add F:=⟨st,ex⟩
section
variable {D Y X:Type} {gd:D->Prop} {add:D->Y->X} {F:D->Y} (L:Ls gd add F)
def Ls.out:X->Out (Exit×AS):=λx=> .ok (L.ex x)
def Ls.E:eb:=eb.fH L.st gd add F L.out
def Ls.call:D->Option X:=kD L.E L.st
abbrev Ls.go{R:Type}(kx:K3 R)(x:X):Option R:=kx (L.ex x).1 (L.ex x).2
abbrev Ls.RS:Prop:=mR L.call gd add F
end
theorem rL(ts:List Lf){Y X:Type}{gd:Lf.ahu ts->Prop}{add:Lf.ahu ts->Y->X}{F:Lf.ahu ts->Y}(L:Ls gd add F)(h:∀d,AS.leaves (L.st d)=Lf.mk ts d:=by exact λ_=>cq):mR L.call gd add F:=sV (sJ ts h)
structure Fs(P:aK){D Y X:Type}(gd:D->Prop)(add:D->Y->X)(F:D->Y) where
 i:gg
 fn:Func
 st:D->SA
 out:X->iJ
 ps:List (Option Ty)
 G:List (SG P)
 an:A4
 N:Nat
noncomputable def dV{P:aK}{D Y X:Type}{gd:D->Prop}{add:D->Y->X}{F:D->Y}(i:gg)(fn:Func)(st:D->SA)(out:X->iJ)(ps:List (Option Ty))(G:List (SG P):=[])(an:A4:= {})(N:Nat:=0):Fs P gd add F:=⟨i,fn,st,out,ps,G,an,N⟩
section
variable {P:aK} {D Y X:Type} {gd:D->Prop} {add:D->Y->X} {F:D->Y} (f:Fs P gd add F) {D' Y' X':Type} {Pre':D'->Prop} {add':D'->Y'->X'} {F':D'->Y'}
def Fs.A{R:Type}(d:D)(k:K1 R):Option R:=acf P (oP f.G) f.an f.N f.fn f.st d k
def Fs.R(i:Nat)(L:Ls Pre' add' F'){R:Type}(d:D')(kn:K2 R)(kx:K3 R):Option R:=gk P (oP f.G) f.an f.N f.fn i L.st d kn kx
abbrev Fs.Ok:Prop:=∀d,gd d->f.A d av=av (f.out (add d (F d)))
abbrev Fs.jx(i:Nat)(L:Ls Pre' add' F'):Prop:=qq P (oP f.G) f.an f.N f.fn i L.st Pre' add' F' L.out
def Fs.E:Entry:=Entry.fH f.ps f.st gd add F f.out
def Fs.call:D->Option X:=amw f.E f.st
theorem Fs.ky(i:Nat)(L:Ls Pre' add' F'):aAj (@Fs.R P D Y X gd add F f D' Y' X' Pre' add' F' i L) L.st Pre' add' F' L.ex (f.jx i L):=λ μ h=>aeP (F:=λd=>add' d (F' d)) μ h
abbrev Fs.RS:Prop:=mR f.call gd add F
def Fs.aI5(p:List aE->Bool)(ok:f.Ok)(n:Nat:=0)(hL:az5 P (oP f.G) f.an f.N f.fn n 0:=by exact trivial)(hc:(P.funcs[f.i]?,apE P f.fn,avr f.fn)=(av f.fn,aS,n):=by kernel_rfl)(hy:Nat.blt f.i yB=aS:=by exact rfl)(hn:f.an.ky=aF:=by exact rfl):SG P:=⟨f.i,p,f.E,.of (si.fn n hc ok hL hn) hy⟩
def Fs.dZ(ok:f.Ok)(n:Nat:=0)(hL:az5 P (oP f.G) f.an f.N f.fn n 0:=by exact trivial)(hc:(P.funcs[f.i]?,apE P f.fn,avr f.fn)=(av f.fn,aS,n):=by kernel_rfl)(hy:Nat.blt f.i yB=aS:=by exact rfl)(hn:f.an.ky=aF:=by exact rfl):SG P:=f.aI5 Jk ok n hL hc hy hn
end
theorem rE(ts:List Lf){P:aK}{Y X:Type}{gd:Lf.ahu ts->Prop}{add:Lf.ahu ts->Y->X}{F:Lf.ahu ts->Y}(f:Fs P gd add F)(h:∀d,SA.leaves (f.st d)=Lf.mk ts d:=by exact λ_=>cq):mR f.call gd add F:=aGp (aFO ts h)
abbrev tu:Ty:=(.int .u64)
abbrev ti:Ty:=(.int .i64)
abbrev tb:Ty:=(.int .u8)
abbrev tB:Ty:=(.slice tb)
abbrev Bs:=(List Int)
abbrev tH:Ty:=(.arr 32 tb)
abbrev tU:Ty:=(.slice tu)
abbrev eD:Ty:=(.pair tH (.pair ti .unit))
abbrev fA:=(Bs×(Int×Unit))
abbrev NP:Ty:=(.pair tu (.pair tu .unit))
abbrev Sg:=(Int×(Int×Unit))
abbrev aAf:Ty:=(.pair ti (.pair (.slice NP) (.pair tu .unit)))
abbrev WR:=(Int×((List Sg)×(Int×Unit)))
abbrev iB:Ty:=(.pair eD (.pair aAf .unit))
abbrev kG:=(fA×(WR×Unit))
abbrev qo:Ty:=(.pair tU (.pair ti (.pair ti (.pair tu .unit))))
abbrev wS:=(Bs×(Int×(Int×(Int×Unit))))
abbrev yC:Ty:=(.pair (.slice qo) .unit)
abbrev Lk:=((List wS)×Unit)
abbrev jE:Ty:=(.pair ti (.pair yC .unit))
abbrev jI:=(Int×(Lk×Unit))
abbrev jC:Ty:=(.pair (.slice iB) (.pair (.slice jE) (.pair ti .unit)))
abbrev gf:=((List kG)×((List jI)×(Int×Unit)))
end Go.Ab
namespace Go.Ab
theorem nh{n:Int}(h1: -9223372036854775808<=n)(h2:n<=9223372036854775807):IntKind.i64.wrap n=n:=by simp[IntKind.wrap,IntKind.bits,IntKind.signed];split <;> omega
theorem cQ{x y:Int}(h1: -9223372036854775808<=x+y)(h2:x+y<=9223372036854775807):bl .i64 x y=x+y:=nh h1 h2
theorem dL{x y:Int}(h1: -9223372036854775808<=x - y)(h2:x - y<=9223372036854775807):bA .i64 x y=x - y:=nh h1 h2
theorem mi{x y:Int}(h1: -9223372036854775808<=x*y)(h2:x*y<=9223372036854775807):ed .i64 x y=x*y:=nh h1 h2
theorem pk{x:Int}(h1: -9223372036854775808<=x)(h2:x<=9223372036854775807):dd .i64 x=x:=nh h1 h2
def vw{n:Nat}(w:BitVec n):Int:=(w.toNat:Int)
theorem fY(n:Nat)(x:Int):vw (bf n x)=x%((2^n:Nat):Int):=by unfold vw;rw[pC];have:0<=x%((2^n:Nat):Int):=gC _ (by have:=Nat.two_pow_pos n;omega);omega
theorem NU{n:Nat}(w:BitVec n):0<=vw w:=pE _
theorem azX{n:Nat}(w:BitVec n):vw w < ((2^n:Nat):Int):=by have:=w.isLt;unfold vw;omega
theorem rb{n:Nat}(w:BitVec n):bf n (vw w)=w:=by apply BitVec.eq_of_toNat_eq;have:=fY n (vw w);unfold vw at this ⊢;have h:=w.isLt;rw[fE (pE _) ao]at this;omega
theorem wrap_u32(x:Int):IntKind.u32.wrap x=vw (bf 32 x):=by rw[fY];simp[IntKind.wrap,IntKind.bits,IntKind.signed]
theorem wrap_u64(x:Int):IntKind.u64.wrap x=vw (bf 64 x):=by rw[fY];simp[IntKind.wrap,IntKind.bits,IntKind.signed]
theorem wrap_u8(x:Int):IntKind.u8.wrap x=vw (bf 8 x):=by rw[fY];simp[IntKind.wrap,IntKind.bits,IntKind.signed]
theorem wrap_u16(x:Int):IntKind.u16.wrap x=vw (bf 16 x):=by rw[fY];simp[IntKind.wrap,IntKind.bits,IntKind.signed]
theorem ofInt_add(n:Nat)(x y:Int):bf n (x+y)=bf n x+bf n y:=BitVec.ofInt_add ..
theorem AE(x y:BitVec 32):bl .u32 (vw x) (vw y)=vw (x+y):=by rw[bl,wrap_u32,BitVec.ofInt_add,rb,rb]
theorem ana(x:Int):dd .u32 x=vw (bf 32 x):=wrap_u32 x
theorem Qm(x:Int):dd .u64 x=vw (bf 64 x):=wrap_u64 x
theorem Sh(x:Int):dd .u8 x=vw (bf 8 x):=wrap_u8 x
theorem axv{n:Nat}(x:BitVec n):bf n ((x.toNat:Nat):Int)=x:=rb x
theorem nR(op:BinOp)(x y:BitVec 32):cn op .u32 (vw x) (vw y)=vw (match op with | .and=>x &&& y | .or=>x ||| y | .xor=>x^^^y | _=>x &&& ~~~y):=by unfold cn;split <;> (simp only[IntKind.bits,rb,wrap_u32,axv];rfl)
theorem aoL(op:BinOp)(x y:BitVec 64):cn op .u64 (vw x) (vw y)=vw (match op with | .and=>x &&& y | .or=>x ||| y | .xor=>x^^^y | _=>x &&& ~~~y):=by unfold cn;split <;> (simp only[IntKind.bits,rb,wrap_u64,axv];rfl)
theorem avc(x y:Nat):Int.fdiv (x:Int) (y:Int)=((x / y:Nat):Int):=by rw[jm _ (pE _)];rfl
theorem L4(k:Nat):(2:Int)^k=((2^k:Nat):Int):=by simp
theorem aGv{n:Nat}(w:BitVec n)(k:Nat):Int.fdiv (vw w) (2^(min k n))=vw (w >>> k):=by
 rw[L4];unfold vw;rw[avc,BitVec.toNat_ushiftRight,Nat.shiftRight_eq_div_pow];congr 1;rcases Nat.le_total k n with hk | hk
 ·rw[fN hk]
 ·rw[Nat.min_eq_right hk,Nat.div_eq_of_lt w.isLt,Nat.div_eq_of_lt];exact Nat.lt_of_lt_of_le w.isLt (Nat.pow_le_pow_right ao hk)
theorem Ec(w:BitVec 32)(k:Int):bM .u32 (vw w) k=vw (w >>> k.toNat):=aGv w k.toNat
theorem aGu{n:Nat}(w:BitVec n)(k:Nat):bf n (vw w*2^(min k n))=w <<< k:=by
 apply BitVec.eq_of_toNat_eq;rw[pC,BitVec.toNat_shiftLeft,Nat.shiftLeft_eq];unfold vw;rw[L4];have e:((w.toNat:Int)*((2^min k n:Nat):Int))=((w.toNat*2^min k n:Nat):Int):=by simp
 rw[e];have:(((w.toNat*2^min k n:Nat):Int)%((2^n:Nat):Int)).toNat=(w.toNat*2^min k n)%2^n:=ao;rw[this];rcases Nat.le_total k n with hk | hk
 ·rw[fN hk]
 ·rw[Nat.min_eq_right hk,Nat.mul_mod_left];obtain⟨m,rfl⟩:=Nat.exists_eq_add_of_le hk;rw[mQ,<-Nat.mul_assoc,Nat.mul_right_comm,Nat.mul_mod_left]
theorem Kn(w:BitVec 32)(k:Int):mJ .u32 (vw w) k=vw (w <<< k.toNat):=by rw[mJ,wrap_u32];congr 1;exact aGu w k.toNat
theorem aV{i n:Int}(h1:0<=i)(h2:i < n):dr i n=aS:=by simp[dr,h1,h2]
theorem nj{i n:Int}(h1:0<=i)(h2:i<=n):inc i n=aS:=by simp[inc,h1,h2]
theorem aZ{x y:Int}(h:x < y):fG x y=aS:=by simp[fG,h]
theorem aQ{x y:Int}(h:¬x < y):fG x y=bq:=by simp[fG];omega
theorem Ea{x y:Int}(h:x<=y):ab9 x y=aS:=by simp[ab9,h]
theorem sI{x y:Int}(h:¬x<=y):ab9 x y=bq:=by simp[ab9];omega
theorem dw{x y:Int}(h:x > y):vh x y=aS:=by simp[vh];omega
theorem cJ{x y:Int}(h:¬x > y):vh x y=bq:=by simp[vh];omega
theorem ia{x y:Int}(h:x>=y):qS x y=aS:=by simp[qS];omega
theorem eL{x y:Int}(h:¬x>=y):qS x y=bq:=by simp[qS];omega
theorem dU{x y:Int}(h:x=y):kK x y=aS:=by simp[kK,h]
theorem dF{x y:Int}(h:¬x=y):kK x y=bq:=by simp[kK,h]
theorem gH{x y:Int}(h:¬x=y):yV x y=aS:=by simp[yV,h]
theorem ez{x y:Int}(h:x=y):yV x y=bq:=by simp[yV,h]
theorem j5{x:Int}(h:0<=x):jr x=aS:=by simp[jr,h]
theorem aJ{p:Prop} [Decidable p] (h:p):decide p=aS:=by simp[h]
theorem bP{p:Prop} [Decidable p] (h:¬p):decide p=bq:=by simp[h]
theorem dR{n b:Nat}(h:n*b<=140737488355328)(h2:n<=9223372036854775807):db n b=aS:=by simp[db,h,h2]
def from_{α:Type}(f:Nat->α->α)(t:Nat)(l:List α):List α:=l.mapIdx λi x=>if i < t then x else f i x
theorem AB{α:Type}(f:Nat->α->α)(l:List α)(t:Nat)(h:t < l.length):from_ f (t+1) (l.set t (f t l[t]))=from_ f t l:=by
 unfold from_;apply List.ext_getElem (by simp);intro i h1 h2;simp only[List.getElem_mapIdx,List.getElem_set];by_cases hi:t=i
 ·subst hi;simp
 ·simp only[if_neg hi];by_cases h3:i < t
  ·rw[if_pos ao,if_pos h3]
  ·rw[if_neg ao,if_neg h3]
theorem D3{α:Type}(f:Nat->α->α)(l:List α)(t:Nat)(h:l.length<=t):from_ f t l=l:=by unfold from_;apply List.ext_getElem (by simp);intro i h1 h2;simp only[List.getElem_mapIdx];rw[if_pos ao]
theorem R0{α:Type}(f:Nat->α->α)(n:Nat)(x:α):from_ f 0 (ai n x)=(List.range n).map λi=>f i x:=by unfold from_;apply List.ext_getElem (by simp);intro i h1 h2;simp
theorem cK{t:Ty}{l:List t.den}{i:Nat}(h:i < l.length):nth t l i=l[i]:=by simp[nth,h]
end Go.Ab
namespace Go.Ab.N
section
variable {α:Type} {x y:Option α} {a b n:Nat} {i j:Int}
theorem lt:aG (fG i j) x y=if i < j then x else y:=by unfold fG;split <;> rename_i h <;> simp[h]
theorem le:aG (ab9 i j) x y=if i<=j then x else y:=by unfold ab9;split <;> rename_i h <;> simp[h]
theorem gt:aG (vh i j) x y=if j < i then x else y:=by unfold vh;split <;> rename_i h <;> simp[h]
theorem ge:aG (qS i j) x y=if j<=i then x else y:=by unfold qS;split <;> rename_i h <;> simp[h]
theorem eq:aG (kK i j) x y=if i=j then x else y:=by
 by_cases h:i=j
 ·rw[dU h,if_pos h];rfl
 ·rw[dF h,if_neg h];rfl
theorem ne:aG (yV i j) x y=if i=j then y else x:=by
 by_cases h:i=j
 ·rw[ez h,if_pos h];rfl
 ·rw[gH h,if_neg h];rfl
theorem ib:aG (dr i j) x y=if 0<=i/\i < j then x else y:=by unfold dr;split <;> rename_i h <;> simp[h]
theorem ic:aG (inc i j) x y=if 0<=i/\i<=j then x else y:=by unfold inc;split <;> rename_i h <;> simp[h]
theorem nn:aG (jr i) x y=if 0<=i then x else y:=by unfold jr;split <;> rename_i h <;> simp[h]
theorem nz:aG (jB i) x y=if i=0 then y else x:=by unfold jB;split <;> rename_i h <;> simp[h]
theorem dc{p:Prop} [Decidable p]:aG (decide p) x y=if p then x else y:=by split <;> rename_i h <;> simp[h]
theorem rm:aG (db n b) x y=if n*b<=140737488355328/\n<=9223372036854775807 then x else y:=by unfold db;exact dc
theorem an{c d:Bool}:aG (c && d) x y=aG c (aG d x y) y:=by cases c <;> rfl
theorem or{c d:Bool}:aG (c || d) x y=aG c x (aG d x y):=by cases c <;> rfl
theorem no{c:Bool}:aG (!c) x y=aG c y x:=by cases c <;> rfl
theorem aJo(h:a+b<=9223372036854775807):bl .i64 (a:Int) (b:Int)=((a+b:Nat):Int):=by rw[cQ ao ao];omega
theorem qt(h:a+dg n<=9223372036854775807):bl .i64 (a:Int) (no_index (dg n))=((a+dg n:Nat):Int):=aJo h
theorem aLz(h:dg n+a<=9223372036854775807):bl .i64 (no_index (dg n)) (a:Int)=((dg n+a:Nat):Int):=aJo h
theorem aJM(h:b<=a)(h2:a<=9223372036854775807):bA .i64 (a:Int) (b:Int)=((a - b:Nat):Int):=by rw[dL ao ao];omega
theorem aJL(h:dg n<=a)(h2:a<=9223372036854775807):bA .i64 (a:Int) (no_index (dg n))=((a - dg n:Nat):Int):=aJM h h2
theorem aL5(h:a<=dg n)(h2:(dg n:Nat)<=9223372036854775807):bA .i64 (no_index (dg n)) (a:Int)=((dg n - a:Nat):Int):=aJM h h2
theorem aJJ(h:a*b<=9223372036854775807):ed .i64 (a:Int) (b:Int)=((a*b:Nat):Int):=by
 have e:(a:Int)*(b:Int)=((a*b:Nat):Int):=by simp
 rw[mi ao ao,e]
theorem aL1(h:a*dg n<=9223372036854775807):ed .i64 (a:Int) (no_index (dg n))=((a*dg n:Nat):Int):=aJJ h
theorem aJI(h:dg n*a<=9223372036854775807):ed .i64 (no_index (dg n)) (a:Int)=((dg n*a:Nat):Int):=aJJ h
theorem aLf(h:a<=9223372036854775807):ig .i64 (a:Int) (b:Int)=((a / b:Nat):Int):=by
 have:(a:Int).tdiv (b:Int)=((a / b:Nat):Int):=by rw[eH ao];simp
 have hl:a / b<=a:=Nat.div_le_self a b;unfold ig;rw[this];generalize a / b=c at hl;exact nh ao ao
theorem aL2(h:a<=9223372036854775807):ig .i64 (a:Int) (no_index (dg n))=((a / dg n:Nat):Int):=aLf h
theorem aLg:eA (a:Int) (b:Int)=((a%b:Nat):Int):=by unfold eA;rw[dT ao];simp
theorem aL4:eA (a:Int) (no_index (dg n))=((a%dg n:Nat):Int):=aLg
theorem cN(h:a<=9223372036854775807):dd .i64 (a:Int)=(a:Int):=pk ao ao
theorem cL(h:(dg n:Nat)<=9223372036854775807):dd .i64 (no_index (dg n))=dg n:=cN h
theorem tL:ab (no_index (dg n))=dg n:=rfl
end
end Go.Ab.N
namespace Go.Ab
section
variable {P:aK}
theorem au8{E E':Env}(h1:E'.w=E.w)(h2:E'.g=E.g)(h3:E'.β=E.β)(h4:E'.s=E.s):E'=E:=by obtain⟨a,b,c,d⟩:=E;obtain⟨a',b',c',d'⟩:=E';simp only at h1 h2 h3 h4;subst h1 h2 h3 h4;rfl
theorem vc.same{w:World}{g:Nat->kI}{β:Id->Option Pl}{bS:List dB}{a:aE}{v:Value}(hv:VS ((gq bS).env w g β) a v)(ho:gN ((gq bS).env w g β)):
  vc ((gq bS).env w g β) ⟨a,bS,[]⟩ v w:=by
 have hE:(iJ.st ⟨a,bS,[]⟩).env w g β=(gq bS).env w g β:=by
  refine au8 rfl rfl rfl ?_
  funext id;cases id with
  |cl k=>rfl
  |new i j=>
   show([([]:List dB)].getD i [])[j]? =(([]:List (List dB)).getD i [])[j]?
   cases i <;> rfl
 refine⟨g,β,?_⟩;rw[hE];exact⟨hv,ho,Trans.refl w g,cE.refl _⟩
theorem si.extern{f:gg}{fn:Func}{e:Array Value->Sem Value}(hf:P.funcs[f]? =av fn)(xy:(fn.name== "runtime.NumGoroutine")=bq)(hb:fn.body.isNone=aS)(hn:Extern.findNext fn=aF)(he:Extern.find fn=av e){en:Entry}
  (h:∀w g β args bS ir x,vn ((gq bS).env w g β) args ir->gN ((gq bS).env w g β)->en.run args bS=av x->∃v,(e ir.toArray).run P w= .ok v w/\vc ((gq bS).env w g β) (en.out args bS x) v w):si P f en:=by
 intro w g β args bS ir x h1 h2 h3;obtain⟨v,h4,h5⟩:=h w g β args bS ir x h1 h2 h3;refine .inr ⟨v,w,?_,h5⟩;rw[run_callFunc_extern hf xy hb hn he,h4];rfl
def aEp.E:Entry:= {params:=[aF],X:=Unit,run:=λargs _=>match args with | [_]=>av () | _=>aF,out:=λargs bS _=>⟨args.headD .undef,bS,[]⟩}
theorem aEp.of{f:gg}{fn:Func}(hf:P.funcs[f]? =av fn)(xy:(fn.name== "runtime.NumGoroutine")=bq)(hb:fn.body.isNone=aS)(hn:Extern.findNext fn=aF)(he:Extern.find fn=av Extern.AbiNoEscape.same):si P f aEp.E:=by
 refine si.extern hf xy hb hn he λw g β args bS ir x h1 h2 h3=> ?_
 cases args with
 |nil=>cases h3
 |cons a as=>
  cases as with
  |cons _ _=>cases h3
  |nil=>
   cases ir with
   |nil=>exact h1.elim
   |cons v vs=>
    obtain⟨h4,h5⟩:=h1;cases vs with
    |cons _ _=>exact h5.elim
    |nil=>exact⟨v,rfl,vc.same h4 h2⟩
theorem Yo{w:World}:∀(xs:List Int) (a:Addr) (acc:ByteArray),(∀j x,xs[j]? =av x->w.cell? (a.add j)=av (.int .u8 x))->
  (Extern.Bytes.loadBytes a xs.length acc).run P w= .ok ⟨acc.data++(xs.map λn=>UInt8.ofNat n.toNat).toArray⟩ w
 |[],a,acc,_=>by simp[Extern.Bytes.loadBytes]
 |x::l,a,acc,h=>by
  have h0:w.cell? a=av (.int .u8 x):=by have:=h 0 x rfl;simpa[Addr.add]using this
  have ih:=Yo l (a.add 1) (acc.push x.toNat.toUInt8) (λj y hy=>by
   have:=h (j+1) y (by simpa using hy);have e:(a.add 1).add j=a.add (j+1):=by
    unfold Addr.add;by_cases hj:j=0
    ·subst hj;simp
    ·simp[hj];omega
   rw[e];exact this)
  simp only[aI,Extern.Bytes.loadBytes,bY,run_load,h0,Result.andThen];rw[ih];congr 1;apply ByteArray.ext;simp[ByteArray.push]
theorem TQ{E:Env}{l:List Int}{y:Value}(h:VS E (.d (.slice (.int .u8)) l) y):(Extern.Bytes.bytesOf y).run P E.w= .ok (gO l) E.w:=by
 obtain⟨a,cap,vs,rfl,_,hs,lb,dx⟩:=rK h;have PW:=tY (k:= .u8) (vs:=vs) (l:=l) dx;cases a with
 |none=>
  have hl:l=[]:=by
   cases l with
   |nil=>rfl
   |cons _ _=>simp at hs
  subst hl;rfl
 |some ad=>
  have avH:=Yo (P:=P) (w:=E.w) l ad .empty λj x hx=>by
   obtain⟨b,off,e,hh⟩:=lb j (.int .u8 x) (by rw[PW];simp[hx]);have e:ad=⟨b,off,aF⟩:=by simpa using e
   subst e;have h1:=hh.1;unfold Addr.add;by_cases hj:j=0
   ·subst hj;simpa using h1
   ·simpa[hj]using h1
  show(Extern.Bytes.loadBytes ad l.length .empty).run P E.w=_;rw[avH];congr 1;apply ByteArray.ext;simp[gO]
def ah5(a b:List Int):Int:=Extern.BytealgCompare.cmp (gO a) (gO b)
def amp:Entry:=Entry.of (D:=List Int×List Int) (X:=Int) [av (.slice (.int .u8)),av (.slice (.int .u8))] (λd=>([.d (.slice (.int .u8)) d.1,.d (.slice (.int .u8)) d.2],[])) (λ_=>True) (λd=>ah5 d.1 d.2) (λx=>⟨.d (.int .i64) x,[],[]⟩)
theorem aAp:∀d d':List Int×List Int,(([aE.d (.slice (.int .u8)) d.1,aE.d (.slice (.int .u8)) d.2],([]:List dB)):List aE×List dB)=([.d (.slice (.int .u8)) d'.1,.d (.slice (.int .u8)) d'.2],[])->d=d':=by rintro⟨a,b⟩ ⟨a',b'⟩ h;have e1:a=a':=aDN (t:= .slice (.int .u8)) (cf (λs:List aE×List dB=>s.1.getD 0 .undef) h);have e2:b=b':=aDN (t:= .slice (.int .u8)) (cf (λs:List aE×List dB=>s.1.getD 1 .undef) h);rw[e1,e2]
def acA:List Int×List Int->Option Int:=λd=>amp.run [.d (.slice (.int .u8)) d.1,.d (.slice (.int .u8)) d.2] []
theorem amq(d:List Int×List Int):acA d=av (ah5 d.1 d.2):=Entry.zY (d:=d) aAp trivial
theorem aEL{f:gg}{fn:Func}(hf:P.funcs[f]? =av fn)(xy:(fn.name== "runtime.NumGoroutine")=bq)(hb:fn.body.isNone=aS)(hn:Extern.findNext fn=aF)(he:Extern.find fn=av Extern.BytealgCompare.compare):si P f amp:=by
 refine si.extern hf xy hb hn he λw g β args bS ir x h1 h2 h3=> ?_
 have hx:∃d:List Int×List Int,(([aE.d (.slice (.int .u8)) d.1,aE.d (.slice (.int .u8)) d.2],([]:List dB)):List aE×List dB)=(args,bS):=by
  by_cases hh:∃d:List Int×List Int,(([aE.d (.slice (.int .u8)) d.1,aE.d (.slice (.int .u8)) d.2],([]:List dB)):List aE×List dB)=(args,bS)
  ·exact hh
  ·exfalso;have hn:amp.run args bS=aF:=dif_neg λ⟨d,h,_⟩=>hh ⟨d,h⟩
   rw[hn]at h3;cases h3
 obtain⟨d,hd⟩:=hx;simp only[cG]at hd;obtain⟨rfl,rfl⟩:=hd;have hr:=amq d;have hx:x=ah5 d.1 d.2:=Option.some.inj (h3.symm.trans hr);subst hx
 match ir,h1 with
 |[u,v],⟨h4,h5,_⟩=>
  refine⟨.int .i64 (ah5 d.1 d.2),?_,vc.same (kf _ _) h2⟩;have e1:=TQ (P:=P) h4;have e2:=TQ (P:=P) h5;have e1:(Extern.Bytes.bytesOf u).run P w= .ok (gO d.1) w:=e1;have e2:(Extern.Bytes.bytesOf v).run P w= .ok (gO d.2) w:=e2;have aFn:Extern.BytealgCompare.compare [u,v].toArray=(do let a <-Extern.Bytes.bytesOf u;let b <-Extern.Bytes.bytesOf v;pure (goInt (Extern.BytealgCompare.cmp a b))):=rfl;rw[aFn];simp[e1,e2,goInt,ah5]
def ahD{X Y:Type} [Inhabited Y] (x:Option X):Option (X×Y):=ak x λy=>av (y,default)
def Jj{X Y:Type} [Inhabited X] (x:Option Y):Option (X×Y):=ak x λy=>av (default,y)
@[simp] theorem aG3{X Y:Type} [Inhabited Y] (x:X):ahD (Y:=Y) (av x)=av (x,default):=rfl
@[simp] theorem aG4{X Y:Type} [Inhabited X] (x:Y):Jj (X:=X) (av x)=av (default,x):=rfl
def Entry.alt(p:List aE->List dB->Bool)(params:List (Option Ty)){X Y:Type} [Inhabited X] [Inhabited Y] (r1:List aE->List dB->Option X) (r2:List aE->List dB->Option Y) (o1:List aE->List dB->X->iJ) (o2:List aE->List dB->Y->iJ):Entry:=
 {params,X:=X×Y,run:=λa o=>match p a o with | true=>ahD (r1 a o) | false=>Jj (r2 a o),out:=λa o x=>match p a o with | true=>o1 a o x.1 | false=>o2 a o x.2}
theorem si.alt{f:gg}{p:List aE->List dB->Bool}{params:List (Option Ty)}{X Y:Type} [Inhabited X] [Inhabited Y] {r1:List aE->List dB->Option X} {r2:List aE->List dB->Option Y} {o1:List aE->List dB->X->iJ} {o2:List aE->List dB->Y->iJ}
  (h1:si P f {params,X,run:=r1,out:=o1}) (h2:si P f {params,X:=Y,run:=r2,out:=o2}):si P f (Entry.alt p params r1 r2 o1 o2):=by
 intro w g β args bS ir x h3 h4 h5;have h5:(match p args bS with | true=>ahD (r1 args bS) | false=>Jj (r2 args bS))=av x:=h5;cases hp:p args bS with
 |true=>
  rw[hp]at h5;cases hr:r1 args bS with
  |none=>rw[hr]at h5;cases h5
  |some y=>
   rw[hr]at h5;obtain rfl:(y,default)=x:=Option.some.inj h5;have:=h1 w g β args bS ir y h3 h4 hr;have e:(Entry.alt p params r1 r2 o1 o2).out args bS (y,default)=o1 args bS y:=by show(match p args bS with | true=>o1 args bS y | false=>o2 args bS default)=_;rw[hp]
   rw[e];exact this
 |false=>
  rw[hp]at h5;cases hr:r2 args bS with
  |none=>rw[hr]at h5;cases h5
  |some y=>
   rw[hr]at h5;obtain rfl:(default,y)=x:=Option.some.inj h5;have:=h2 w g β args bS ir y h3 h4 hr;have e:(Entry.alt p params r1 r2 o1 o2).out args bS (default,y)=o2 args bS y:=by show(match p args bS with | true=>o1 args bS default | false=>o2 args bS y)=_;rw[hp]
   rw[e];exact this
def aGd:List aE->List dB->Bool:=λ_ bS=>match bS with | [_]=>aS | _=>bq
end
theorem S1:(type_of% @N.lt)/\(type_of% @N.le)/\(type_of% @N.gt)/\(type_of% @N.ge)/\(type_of% @N.eq)/\(type_of% @N.ne)/\(type_of% @N.ib)/\(type_of% @N.ic)/\(type_of% @N.nn)/\(type_of% @N.nz)/\(type_of% @N.dc)/\(type_of% @N.rm)/\(type_of% @N.an)/\(type_of% @N.or)/\(type_of% @N.no)/\(type_of% @aj)/\(type_of% @al)/\(type_of% @ah):=⟨@N.lt,@N.le,@N.gt,@N.ge,@N.eq,@N.ne,@N.ib,@N.ic,@N.nn,@N.nz,@N.dc,@N.rm,@N.an,@N.or,@N.no,@aj,@al,@ah⟩
theorem S2:(type_of% @ah)/\(type_of% @N.aJo)/\(type_of% @N.qt)/\(type_of% @N.aLz)/\(type_of% @N.aJM)/\(type_of% @N.aJL)/\(type_of% @N.aL5)/\(type_of% @N.aJJ)/\(type_of% @N.aL1)/\(type_of% @N.aJI)/\(type_of% @N.aLf)/\(type_of% @N.aL2)/\(type_of% @N.aLg)/\(type_of% @N.aL4)/\(type_of% @N.cN)/\(type_of% @N.cL)/\(type_of% @N.tL)/\(type_of% @aa)/\(type_of% @jM)/\(type_of% @true_and)/\(type_of% @gZ):=⟨@ah,@N.aJo,@N.qt,@N.aLz,@N.aJM,@N.aJL,@N.aL5,@N.aJJ,@N.aL1,@N.aJI,@N.aLf,@N.aL2,@N.aLg,@N.aL4,@N.cN,@N.cL,@N.tL,@aa,@jM,@true_and,@gZ⟩
end Go.Ab
namespace Go.Ab
open Go.ChangeShapes Go.WideShapes Go.ChangeAt Go.RowKit Go.Deep
def YX:(t:Ty)->t.den->Prop
 | .int k,x=>(Lit.int k x).wf=aS
 | .bool,_=>True
 | .str,s=>(s:ByteArray).size<=maxLen
 | .slice t,l=>(l:List t.den).length<=maxLen/\∀x∈(l:List t.den),YX t x
 | .unit,_=>True
 | .pair a b,x=>YX a x.1/\YX b x.2
 | .arr n t,l=>(l:List t.den).length=n/\∀x∈(l:List t.den),YX t x
 | .gE _,_ | .gm _,_=>False
def xu(P:aK)(rd:TypeId->Ty->Bool):Nat->List Field->Ty->Bool
 |_,[],.unit=>aS
 |off,f::fs,.pair a b=>gG f.offset off && (rd f.type a && (gG (P.cellsOf f.type) a.size && xu P rd (off+a.size) fs b))
 |_,_,_=>bq
def Af(P:aK):Nat->TypeId->Ty->Bool
 | 0,_,_=>bq
 |n+1,T,ty=>
  match P.underlying T,ty with
  |some (.int k),.int k'=>decide (k=k')
  |some .bool,.bool=>aS
  |some .string,.str=>aS
  |some (.slice e),.slice t=>Af P n e t && gG (P.cellsOf e) t.size
  |some (.array k e),.arr k' t=>gG k k' && (Af P n e t && (gG (P.cellsOf e) t.size && gG (P.cellsOf T) (k*t.size)))
  |some (.struct fs),ty=>xu P (Af P n) 0 fs.toList ty && gG (P.cellsOf T) ty.size
  |_,_=>bq
theorem aAt{a b:Nat}:(gG a b=aS)=(a=b):=propext ⟨eC,λh=>by subst h;exact Nat.beq_refl a⟩
theorem aeU{α β:Type}{f:α->Option β}:∀ {l:List α} {r:List β},l.mapM f=av r->r.length=l.length/\∀(i:Nat) (x:α),l[i]? =av x->f x=r[i]?
 |[],r,h=>by simp only[List.mapM_nil,Option.pure_def,aB]at h;subst h;exact⟨rfl,λi x h=>by simp at h⟩
 |y::l,r,h=>by
  simp only[List.mapM_cons,Option.bind_eq_bind,Option.pure_def,Option.bind_eq_some_iff,aB]at h;obtain⟨b,hb,r',hr,rfl⟩:=h;obtain⟨h1,h2⟩:=aeU hr;refine⟨by simp[h1],λi x hi=> ?_⟩;cases i with
  |zero=>
   simp only[fe,aB]at hi;subst hi;simpa using hb
  |succ i=>
   simp only[kN]at hi ⊢;exact h2 i x hi
theorem aoT{w:World}{base:Nat}{a:Addr}{n:Nat}{cs:List Value}(h:w.cells? base a n=av cs):cs.length=n/\∀i,i < n->w.cell? (a.add i)=cs[i]? :=by
 unfold World.cells? at h;split at h
 ·obtain⟨h1,h2⟩:=aeU h;exact⟨by simpa using h1,λi hi=>h2 i i (by simp[hi])⟩
 ·cases h
theorem add_add(a:Addr)(x y:Nat):(a.add x).add y=a.add (x+y):=by unfold Addr.add;by_cases hx:x=0 <;> by_cases hy:y=0 <;> simp[hx,hy,dP]
theorem asD{w:World}{a:Addr}{v:Value}(h:w.cell? a=av v):a.spot=aF:=by
 unfold eO at h;split at h
 ·split at h
  ·cases h
  ·rename_i hs;cases hh:a.spot with
   |none=>rfl
   |some _=>simp[hh]at hs
 ·cases h
theorem aGn{E:Env}(hg:∀b,E.g b= .free){a:Addr}{vs:List Value}(h:∀i,i < vs.length->E.w.cell? (a.add i)=vs[i]?):Ar E (av a) vs:=by
 intro i v hv;have hi:i < vs.length:=(List.getElem?_eq_some_iff.1 hv).1;have h0:=h 0 ao;rw[cm ao]at h0;have hs:a.spot=aF:=asD (a:=a) (by simpa[Addr.add]using h0);obtain⟨b,off,sp⟩:=a;simp only at hs;subst hs;refine⟨b,off,rfl,?_,?_⟩
 ·have:=h i hi;rw[hv]at this;rw[<-this];unfold Addr.add;split
  ·rename_i h;subst h;rfl
  ·rfl
 ·unfold ur;rw[hg b];trivial
section
variable {H:Type} {enc:TypeId×Value->H} {P:aK} {base:Nat} {spare:Nat->Bool} {held:Bool} {E:Env}
theorem anV{t:Ty}{R:List Value->t.den->Prop}{G:t.den->Prop}{w:World}{a:Addr}{z:Nat}(hR:∀c x,R c x->c.length=z):∀(len:Nat),(∀i,i < len->∃c x,R c x/\G x/\∀j,j < z->w.cell? (a.add (i*z+j))=c[j]?)->
  ∃(vs:List Value) (l:List t.den),vs.length=len*z/\l.length=len/\(∀i,i < vs.length->w.cell? (a.add i)=vs[i]?)/\bp R vs l/\∀x∈l,G x
 | 0,_=>⟨[],[],by simp,rfl,λi h=>by simp at h,rfl,λ_ h=>by cases h⟩
 |len+1,h=>by
  obtain⟨vs,l,h1,h2,h3,h4,h5⟩:=anV hR len λi hi=>h i ao
  obtain⟨c,x,g1,g2,g3⟩:=h len ao;have hc:=hR c x g1;refine⟨vs++c,l++ [x],by rw[aq,h1,hc,ei,gY],by rw[aq,h2];rfl,λi hi=> ?_,bp.append h4 ⟨c,[],by simp,g1,rfl⟩,λy hy=> ?_⟩
  ·rw[aq,h1,hc]at hi;by_cases hl:i < vs.length
   ·rw[h3 i hl,gF hl]
   ·rw[List.getElem?_append_right ao,h1,<-g3 (i - len*z) ao,show len*z+(i - len*z)=i by omega]
  ·rcases bt.1 hy with hy | hy
   ·exact h5 y hy
   ·rw[List.mem_singleton.1 hy];exact g2
theorem W5{t:Ty}{R:List Value->t.den->Prop}{G:t.den->Prop}{z:Nat}:∀(n:Nat) (cs:List Value),cs.length=n*z->(∀i,i < n->∃x,R ((cs.drop (i*z)).take z) x/\G x)->
  ∃l:List t.den,l.length=n/\bp R cs l/\∀x∈l,G x
 | 0,cs,h,_=>⟨[],rfl,bV (by simpa using h),λ_ h=>by cases h⟩
 |n+1,cs,h,hi=>by
  obtain⟨x,g1,g2⟩:=hi 0 ao;obtain⟨l,h1,h2,h3⟩:=W5 (R:=R) (G:=G) (z:=z) n (cs.drop z) (by rw[eK,h,ei];omega) λi aIl=>by obtain⟨y,k1,k2⟩:=hi (i+1) ao;refine⟨y,?_,k2⟩;rw[fi,show z+i*z=(i+1)*z by rw[ei];omega];exact k1
  refine⟨x::l,by simp[h1],⟨cs.take z,cs.drop z,(dH z cs).symm,by simpa using g1,h2⟩,λy hy=> ?_⟩;rcases bI.1 hy with rfl | hy
  ·exact g2
  ·exact h3 y hy
theorem Pf{rd:TypeId->Ty->Bool}{cs:List Value}:∀(fs:List Field) (off:Nat) (ty:Ty),xu P rd off fs ty=aS->off+ty.size<=cs.length->
  (∀f∈fs,∀t,rd f.type t=aS->P.cellsOf f.type=t.size->∃v,cV E t ((cs.drop f.offset).take (P.cellsOf f.type)) v/\YX t v)->∃v,cV E ty ((cs.drop off).take ty.size) v/\YX ty v
 |[],off,ty,h,hl,_=>by
  cases ty <;> simp only[xu]at h <;> first | cases h | skip
  exact⟨(),by simp[cV,Ty.size],trivial⟩
 |f::fs,off,ty,h,hl,hf=>by
  cases ty <;> simp only[xu]at h <;> first | cases h | skip
  rename_i a b;simp only[au,aAt]at h;obtain⟨h1,h2,h3,h4⟩:=h;have hl:off+(a.size+b.size)<=cs.length:=hl;obtain⟨v,k1,k2⟩:=hf f (aM ..) a h2 h3;obtain⟨u,k3,k4⟩:=Pf fs (off+a.size) b h4 ao λf' hf'=>hf f' (aN _ hf')
  refine⟨(v,u),⟨(cs.drop off).take a.size,(cs.drop (off+a.size)).take b.size,?_,?_,k3⟩,k2,k4⟩
  ·rw[show Ty.size (.pair a b)=a.size+b.size from rfl,List.take_add,fi]
  ·rw[h1,h3]at k1;exact k1
theorem K4(hg:∀b,E.g b= .free):∀(n:Nat) (T:TypeId) (ty:Ty),Af P n T ty=aS->∀ {fuel:Nat} {cs:List Value} {x:DataW H×List MemPlace},DataW.trod enc P E.w base spare held fuel T cs=av x->∃v,cV E ty cs v/\YX ty v
 | 0,_,_,h,_,_,_,_=>by simp[Af]at h
 |n+1,T,ty,h,fuel,cs,x,hx=>by
  unfold Af at h;split at h
  ·rename_i k k' hu;obtain rfl:=of_decide_eq_true h;obtain⟨m,rfl,_,hw⟩:=DataW.trod_int hu hx;exact⟨m,rfl,hw⟩
  ·rename_i hu;obtain⟨b,rfl,_⟩:=DataW.trod_bool hu hx;exact⟨b,rfl,trivial⟩
  ·rename_i hu;obtain⟨s,rfl,_,hs⟩:=DataW.trod_string hu hx;exact⟨s,rfl,hs⟩
  ·rename_i e t hu;simp only[au,aAt]at h;obtain⟨h1,h2⟩:=h;rcases open_slice hu hx with⟨rfl,_⟩ | ⟨a,len,cap,m,f,D,Pl,rfl,_,hl,hm,aKC,_,he⟩
   ·exact⟨([]:List t.den),⟨aF,0,[],rfl,aC _,λh=>by simp at h,λi v hv=>by simp at hv,rfl⟩,aO _,λ_ h=>by cases h⟩
   ·have aJz:len<=m:=by rw[aKC];split <;> omega
    obtain⟨vs,l,k1,k2,k3,k4,k5⟩:=anV (t:=t) (R:=cV E t) (G:=YX t) (w:=E.w) (a:=a) (z:=t.size) (λc x h=>cV.size h) len λi hi=>by obtain⟨cs',g1,g2⟩:=he i ao;obtain⟨v,g3,g4⟩:=K4 hg n e t h1 g2;obtain⟨g5,g6⟩:=aoT g1;refine⟨cs',v,g3,g4,λj hj=> ?_⟩;rw[<-g6 j ao,add_add,h2]
    refine⟨l,⟨av a,cap,vs,by rw[k2],by rw[k2];exact hl,λ_=>rfl,aGn hg k3,k4⟩,by rw[k2];omega,k5⟩
  ·rename_i k e k' t hu;simp only[au,aAt]at h;obtain⟨rfl,h1,h2,h3⟩:=h;obtain⟨xs,m,rfl,_,hl,aAd,he⟩:=DataW.trod_array hu hx;obtain⟨l,k1,k2,k3⟩:=W5 (t:=t) (R:=cV E t) (G:=YX t) (z:=t.size) k cs (by rw[hl,h3]) λi hi=>by have:=he i hi;rw[cm ao,h2]at this;exact K4 hg n e t h1 this
   exact⟨l,⟨k1,k2⟩,k1,k3⟩
  ·rename_i ty fs hu;simp only[au,aAt]at h;obtain⟨h1,h2⟩:=h;obtain⟨xs,m,rfl,_,hl,aAd,he⟩:=DataW.trod_struct hu hx;obtain⟨v,k1,k2⟩:=Pf (E:=E) (cs:=cs) fs.toList 0 _ h1 (by rw[hl,h2];omega) λf hf t ht hc=>by
    obtain⟨i,hi,aMy⟩:=List.mem_iff_getElem.1 hf;have hi':i < fs.size:=by simpa using hi
    have:=he i f (by rw[<-aMy];simp[hi']);rw[cm ao]at this;exact K4 hg n f.type t ht this
   refine⟨v,?_,k2⟩;rwa[aL,bu ao]at k1
  ·cases h
end
end Go.Ab
namespace Go.Ab
open Go.ChangeShapes Go.WideShapes Go.ChangeAt Go.RowKit Go.Deep
section
variable {H:Type} {enc:TypeId×Value->H} {P:aK} {base b0:Nat} {spare:Nat->Bool} {held:Bool} {E:Env} {W:World}
theorem aiq{rd:TypeId->Ty->Bool}{fs:List Field}{off:Nat}{ty:Ty}(h:xu P rd off fs ty=aS):ty.agg=aS:=by cases fs <;> cases ty <;> first | rfl | (simp[xu]at h)
theorem ayd(hw:E.w=W)(hg:∀b,E.g b= .free){n:Nat}{t:TypeId}{ty:Ty}(h:Af P n t ty=aS){v:Value}{d:DataW H}{ps:List MemPlace}(xA:Value.okWide P W .any base t v)(hd:DataW.Trod enc P W b0 spare held t v d ps):
  ∃x:ty.den,VS E (.d ty x) v/\YX ty x:=by
 subst hw;obtain⟨fuel,hf⟩:=hd;obtain⟨x,h1,h2⟩:=K4 hg n t ty h hf;refine⟨x,⟨v.cells.toList,h1,?_⟩,h2⟩;cases n with
 |zero=>simp[Af]at h
 |succ n=>
  unfold Af at h;split at h
  ·rename_i k k' hu;obtain⟨m,rfl⟩:=okWide_int hu xA;rfl
  ·rename_i hu;obtain⟨m,rfl⟩:=okWide_bool hu xA;rfl
  ·rename_i hu;obtain⟨m,rfl⟩:=okWide_string hu xA;rfl
  ·rename_i hu;obtain⟨a,len,cap,rfl⟩:=okWide_slice hu xA;rfl
  ·rename_i hu;simp only[Value.okWide,hu]at xA;obtain⟨cs,rfl,_⟩:=xA;show _=_;simp[Value.cells]
  ·rename_i fs hu;simp only[Value.okWide,hu]at xA;obtain⟨cs,rfl,_⟩:=xA;simp only[au]at h;have:=aiq h.1;simp only[aE.agg,this,fw,Value.cells,Array.toArray_toList]
  ·cases h
def DV:List Ty->Type
 |[]=>Unit
 |t::ts=>t.den×DV ts
def DV.ir:(ts:List Ty)->DV ts->List aE
 |[],_=> []
 |t::ts,x=> .d t x.1::DV.ir ts x.2
def DV.aLm:(ts:List Ty)->DV ts->Prop
 |[],_=>True
 |t::ts,x=>YX t x.1/\DV.aLm ts x.2
def tG(P:aK)(n:Nat):List TypeId->List Ty->Bool
 |[],[]=>aS
 |T::Ts,t::ts=>Af P n T t && tG P n Ts ts
 |_,_=>bq
theorem Yf(hw:E.w=W)(hg:∀b,E.g b= .free){n:Nat}:∀ {Ts:List TypeId} {ts:List Ty} {vs:List Value} {ds:List (DataW H)} {ps:List MemPlace},tG P n Ts ts=aS->
  (∀(j:Nat) t v,Ts[j]? =av t->vs[j]? =av v->Value.okWide P W .any base t v)->DataW.TrodAll enc P W b0 spare held Ts vs ds ps->∃x:DV ts,vn E (DV.ir ts x) vs/\DV.aLm ts x
 |[],[],vs,ds,ps,_,_,h=>by obtain⟨rfl,rfl,rfl⟩:=trodAll_nil h;exact⟨(),trivial,trivial⟩
 |T::Ts,[],_,_,_,h,_,_=>by simp[tG]at h
 |[],t::ts,_,_,_,h,_,_=>by simp[tG]at h
 |T::Ts,t::ts,vs,ds,ps,h,xA,hd=>by simp only[tG,au]at h;obtain⟨v,vs',d,ds',p,q,rfl,rfl,rfl,h1,h2⟩:=trodAll_cons hd;obtain⟨x,k1,k2⟩:=ayd hw hg h.1 (xA 0 T v rfl rfl) h1;obtain⟨y,k3,k4⟩:=Yf hw hg h.2 (λj t v hj hv=>xA (j+1) t v (by simpa using hj) (by simpa using hv)) h2;exact⟨(x,y),⟨k1,k3⟩,⟨k2,k4⟩⟩
def uB(P:aK)(Ts:List TypeId):Bool:=Ts.all λt=>P.readableRec t && decide (t < P.types.size)
theorem HB(hl:laidOutB P=aS){W':World}(hb:Below W.heap.size W W')(sp:Nat->Bool):∀ {Ts:List TypeId} {vs:List Value} {ds:List (DataW H)} {ps:List MemPlace},uB P Ts=aS->(∀p∈ps,p.block < W.heap.size)->(∀p∈ps,sp p.block=aS)->
  DataW.TrodAll enc P W 0 (λ_=>aS) aS Ts vs ds ps->DataW.TrodAll enc P W' 0 sp aS Ts vs ds ps
 |[],vs,ds,ps,_,_,_,h=>by obtain⟨rfl,rfl,rfl⟩:=trodAll_nil h;exact trodAll_mk0
 |T::Ts,vs,ds,ps,hr,iI,hs,h=>by obtain⟨v,vs',d,ds',p,q,rfl,rfl,rfl,h1,h2⟩:=trodAll_cons h;simp only[uB,gS,au,aP]at hr;have h3:=WideElems.Trod_stays hl hr.1.1 hr.1.2 h1 (λx hx=>hb.same (iI x (bt.2 (.inl hx)))) (λx hx=>hs x (bt.2 (.inl hx)));exact⟨p,q,h3,HB hl hb sp (by simpa[uB]using hr.2) (λx hx=>iI x (bt.2 (.inr hx))) (λx hx=>hs x (bt.2 (.inr hx))) h2,rfl⟩
end
theorem FA{H:Type}{enc:TypeId×Value->H}{P:aK}{W:World}{b0:Nat}{spare:Nat->Bool}{held:Bool}:∀ {Ts:List TypeId} {vs:List Value} {ds:List (DataW H)} {ps:List MemPlace},DataW.TrodAll enc P W b0 spare held Ts vs ds ps->ds.length=Ts.length
 |[],_,_,_,h=>by obtain⟨_,rfl,_⟩:=trodAll_nil h;rfl
 |_::_,_,_,_,h=>by obtain⟨v,vs',d,ds',p,q,rfl,rfl,rfl,h1,h2⟩:=trodAll_cons h;simp[FA h2]
theorem afq{H:Type}{enc:TypeId×Value->H}{P:aK}{f:Func}{s:ChangeSpec}{W W':World}{args:Array Value}{v:Value}{ds gs:List (DataW H)}{before:List MemPlace}{tb:TypeId}
  (hl:laidOutB P=aS) (aho:uB P f.params.toList=aS) (adX:s.vars=[]) (aKT:f.resultTypes= #[tb]) (aKW:P.underlying tb=av .bool)
  (hW:DataW.Whole enc P f.params.toList s.vars bq W args.toList ds gs before) (aFo:s.fn H (ds++gs)= {results:=[.lit (.bool aS)],args:=ds}) (hb:Below W.heap.size W W') (hv:v= .bool aS):
  s.post enc P f bq aS bq bq W args v W':=by
 subst hv;have hW':=hW;have hold:∀p∈before,(λb=>decide (b < W.heap.size)) p.block=aS:=λp hp=>by simpa using hW.lt p hp
 obtain⟨p,q,hA,hV,rfl,hz,_⟩:=hW;rw[adX]at hV;obtain⟨rfl,rfl⟩:=trodVars_none hV;have iI:∀x∈p,x.block < W.heap.size:=λx hx=>hW'.lt x (bt.2 (.inl hx))
 have G1:∀sp:Nat->Bool,(∀x∈p,sp x.block=aS)->DataW.TrodAll enc P W' 0 sp aS f.params.toList args.toList (s.fn H (ds++ [])).args p:=λsp hs=>by rw[aFo];exact HB hl hb sp aho iI hs hA
 have aKP:∀(b:Nat) (sp:Nat->Bool) (hd:Bool),DataW.TrodAll enc P W' b sp hd f.resultTypes.toList ((Value.bool aS).resultList f.resultTypes.size) (s.fn H (ds++ [])).results []:=λb sp hd=>by rw[aFo,aKT];exact trodAll_mk1 (shut_bool aKW _)
 have PW:∀sp:Nat->Bool,DataW.TrodVars enc P W' sp s.vars (s.fn H (ds++ [])).vars []:=λsp=>by rw[aFo,adX];rfl
 refine⟨ds,[],p++ [],[],p,[],hW',aKP _ _ _,G1 _ (λx hx=>hold x (bt.2 (.inl hx))),PW _,hb.frame _,λh=>by cases h⟩
theorem ES{P:aK}{n:Nat}:∀ {Ts:List TypeId} {ts:List Ty},tG P n Ts ts=aS->Ts.length=ts.length
 |[],[],_=>rfl
 |[],_::_,h=>by simp[tG]at h
 |_::_,[],h=>by simp[tG]at h
 |_::_,_::_,h=>by simp only[tG,au]at h;simp[ES h.2]
theorem aqC{H:Type}{enc:TypeId×Value->H}{P:aK}{f:gg}{fn:Func}{en:Entry}{s:ChangeSpec}{tb:TypeId}(n:Nat)(tys:List Ty)(hD:si P f en)(hf:P.funcs[f]? =av fn)(aH4:fn.body.isSome=aS)(xy:(fn.name== "runtime.NumGoroutine")=bq)
  (hl:laidOutB P=aS) (aD5:tG P n fn.params.toList tys=aS) (aho:uB P fn.params.toList=aS) (adX:s.vars=[]) (aKT:fn.resultTypes= #[tb]) (aKW:P.underlying tb=av .bool)
  (aFo:∀ds:List (DataW H),ds.length=tys.length->s.fn H (ds++ [])= {results:=[.lit (.bool aS)],args:=ds})
  (oX:∀x:DV tys,DV.aLm tys x->∃r,en.run (DV.ir tys x) []=av r/\en.out (DV.ir tys x) [] r=⟨.d .bool aS,[],[]⟩)
  {W:World} {base:Nat} {args:Array Value} {ds gs:List (DataW H)} {before:List MemPlace}
  (xA:∀(j:Nat) t v,fn.params[j]? =av t->args[j]? =av v->Value.okWide P W .any base t v)
  (hW:DataW.Whole enc P fn.params.toList s.vars bq W args.toList ds gs before) (aJw:Gl ((gq []).env W (λ_=> .free) (λ_=>aF)):=by exact λ_ h=>nomatch h):
  Calls P f args W λe W'=>∃v,e= .returned v/\s.post enc P fn bq aS bq bq W args v W':=by
 have hW':=hW;obtain⟨p,q,hA,hV,_,_,_⟩:=hW;rw[adX]at hV;obtain⟨rfl,rfl⟩:=trodVars_none hV;obtain⟨x,aK0,aK1⟩:=Yf (E:=(gq []).env W (λ_=> .free) (λ_=>aF)) rfl (λ_=>rfl) aD5 (λj t v hj hv=>xA j t v (by simpa using hj) (by simpa using hv)) hA;obtain⟨r,aFC,aiE⟩:=oX x aK1;have cI:(callFunc f args).run P W= .ok (.enter f args) W:=by
  unfold callFunc;obtain⟨c,hc⟩:=cd.1 aH4;have hname':¬fn.name= "runtime.NumGoroutine" :=by simpa using xy
  simp[hf,hname',hc]
 have hlen:ds.length=tys.length:=by rw[FA hA,ES aD5]
 have ho:gN ((gq []).env W (λ_=> .free) (λ_=>aF)):=by
  refine⟨λid ver fr c h=> ?_,aJw⟩;exfalso;cases id with
  |cl k=>simp[AS.env,AS.bU,gq]at h
  |new i j=>simp[AS.env,AS.bU,gq]at h
 rcases hD W (λ_=> .free) (λ_=>aF) (DV.ir tys x) [] args.toList r aK0 ho aFC with⟨_,hc⟩ | ⟨v,w',hc,_⟩
 ·refine hc.mono λe w' he=> ?_
  obtain⟨v,rfl,g',β',h1,_,h2,_⟩:=he;rw[aiE]at h1;refine⟨v,rfl,afq hl aho adX aKT aKW hW' (aFo ds hlen) ⟨h2.os,h2.tape,h2.output.1,h2.size,λb hb=>(h2.ahO b hb).2⟩ ?_⟩;obtain⟨cs,k1,k2⟩:=h1;have k1:cs=[.bool aS]:=k1;subst k1;have k2: [Value.bool aS]=[v]:=k2;simpa using k2.symm
 ·rw[show args.toList.toArray=args from Array.toArray_toList ..,cI]at hc;cases hc
end Go.Ab
namespace Go.Ab
abbrev W:=BitVec 32
def sU(w:W)(k:Nat):W:=w <<< (32 - k) ||| w >>> k
def aHD(a b c d:Int):W:=bf 32 a <<< 24 ||| bf 32 b <<< 16 ||| bf 32 c <<< 8 ||| bf 32 d
def be(l:List Int)(i:Nat):W:=aHD (l.getD (4*i) 0) (l.getD (4*i+1) 0) (l.getD (4*i+2) 0) (l.getD (4*i+3) 0)
structure St where
 a:W
 b:W
 c:W
 d:W
 e:W
 f:W
 g:W
 h:W
def St.l(s:St):List Int:=[vw s.a,vw s.b,vw s.c,vw s.d,vw s.e,vw s.f,vw s.g,vw s.h]
def aLo(x:W):W:=sU x 7^^^sU x 18^^^x >>> 3
def aLp(y:W):W:=sU y 17^^^sU y 19^^^y >>> 10
def aEo(l:List W)(i:Nat):W:=l.getD (i - 16) 0+aLo (l.getD (i - 15) 0)+l.getD (i - 7) 0+aLp (l.getD (i - 2) 0)
def ext(l:List W):List W:=l++ [aEo l l.length]
def aAg(m:List W):Nat->List W
 | 0=>m
 |n+1=>ext (aAg m n)
def words(b:List Int):List W:=(List.range 16).map (be b)
def sched(b:List Int):List W:=aAg (words b) 48
def kl:List Nat:=[0x428a2f98,0x71374491,0xb5c0fbcf,0xe9b5dba5,0x3956c25b,0x59f111f1,0x923f82a4,0xab1c5ed5,0xd807aa98,0x12835b01,0x243185be,0x550c7dc3,0x72be5d74,0x80deb1fe,0x9bdc06a7,0xc19bf174,0xe49b69c1,0xefbe4786,0x0fc19dc6,0x240ca1cc,0x2de92c6f,0x4a7484aa,0x5cb0a9dc,0x76f988da,0x983e5152,0xa831c66d,0xb00327c8,0xbf597fc7,0xc6e00bf3,0xd5a79147,0x06ca6351,0x14292967,0x27b70a85,0x2e1b2138,0x4d2c6dfc,0x53380d13,0x650a7354,0x766a0abb,0x81c2c92e,0x92722c85,0xa2bfe8a1,0xa81a664b,0xc24b8b70,0xc76c51a3,0xd192e819,0xd6990624,0xf40e3585,0x106aa070,0x19a4c116,0x1e376c08,0x2748774c,0x34b0bcb5,0x391c0cb3,0x4ed8aa4a,0x5b9cca4f,0x682e6ff3,0x748f82ee,0x78a5636f,0x84c87814,0x8cc70208,0x90befffa,0xa4506ceb,0xbef9a3f7,0xc67178f2]
def kw(i:Nat):W:=BitVec.ofNat 32 (kl.getD i 0)
def MV:List Int:=kl.map λ(n:Nat)=>(n:Int)
def ky(s:St)(k w:W):St:=
 let t:=s.h+(sU s.e 6^^^sU s.e 11^^^sU s.e 25)+(s.g^^^s.e &&& (s.f^^^s.g))+k+w
 let r:=sU s.a 2^^^sU s.a 13^^^sU s.a 22
 let most:=s.a &&& s.b ||| s.c &&& (s.a ||| s.b)
 ⟨t+r+most,s.a,s.b,s.c,s.d+t,s.e,s.f,s.g⟩
def rounds(ws:List W)(s:St):Nat->St
 | 0=>s
 |n+1=>ky (rounds ws s n) (kw n) (ws.getD n 0)
def KF(s:St)(b:List Int):St:=
 let v:=rounds (sched b) s 64
 ⟨v.a+s.a,v.b+s.b,v.c+s.c,v.d+s.d,v.e+s.e,v.f+s.f,v.g+s.g,v.h+s.h⟩
def mD:St:=⟨0x6a09e667,0xbb67ae85,0x3c6ef372,0xa54ff53a,0x510e527f,0x9b05688c,0x1f83d9ab,0x5be0cd19⟩
def yI:Nat->St->List Int->St
 | 0,s,_=>s
 |n+1,s,l=>yI n (KF s (l.take 64)) (l.drop 64)
def blocks(s:St)(l:List Int):St:=yI (l.length / 64) s l
def aJq(w:W)(k:Nat):Int:=vw ((w >>> (24 - 8*k)).setWidth 8)
def aAv(w:W):List Int:=[aJq w 0,aJq w 1,aJq w 2,aJq w 3]
def aCB(s:St):List Int:=aAv s.a++aAv s.b++aAv s.c++aAv s.d++aAv s.e++aAv s.f++aAv s.g++aAv s.h
def kH(n:Int):List Int:=[n / 2^56%256,n / 2^48%256,n / 2^40%256,n / 2^32%256,n / 2^24%256,n / 2^16%256,n / 2^8%256,n%256]
def oI(n:Nat):Nat:=(119 - n%64)%64
def pad(b:List Int):List Int:=b++128::(ai (oI b.length) 0++kH (8*b.length))
def atp(b:List Int):List Int:=aCB (blocks mD (pad b))
def mK(parts:List (List Int)):List Int:=parts.flatMap λp=>kH p.length++p
def NQ(name:List Int)(parts:List (List Int)):List Int:=kH name.length++name++mK parts
def tag(name:List Int)(parts:List (List Int)):List Int:=atp (NQ name parts)
theorem Ud(b:List Int):(atp b).length=32:=rfl
theorem cF(n:Int):(kH n).length=8:=rfl
theorem sG(l:List W):(ext l).length=l.length+1:=by simp[ext]
theorem yy(m:List W):∀n,(aAg m n).length=m.length+n
 | 0=>rfl
 |n+1=>by rw[aAg,sG,yy m n];omega
theorem eE(b:List Int):(words b).length=16:=by simp[words]
theorem DJ:∀(n:Nat) (s:St) (a b:List Int),a.length=64*n->∀m,yI (n+m) s (a++b)=yI m (yI n s a) b
 | 0,s,a,b,h,m=>by have:a=[]:=bV ao;subst this;simp[yI]
 |n+1,s,a,b,h,m=>by rw[show n+1+m=(n+m)+1 by omega,yI,yI];rw[gX ao,List.drop_append_of_le_length ao];exact DJ n _ _ _ (by simp;omega) m
theorem GG(s:St)(a b:List Int)(h:a.length%64=0):blocks s (a++b)=blocks (blocks s a) b:=by
 unfold blocks;have e:(a++b).length / 64=a.length / 64+b.length / 64:=by simp;omega
 rw[e];exact DJ _ _ _ _ ao _
theorem yJ(s:St)(l:List Int)(h:64<=l.length):blocks s l=blocks (KF s (l.take 64)) (l.drop 64):=by unfold blocks;rw[show l.length / 64=(l.drop 64).length / 64+1 by simp;omega];rfl
theorem xf(s:St)(l:List Int)(h:l.length < 64):blocks s l=s:=by unfold blocks;rw[show l.length / 64=0 by omega];rfl
def U9(x:Int):Prop:=0<=x/\x < 256
def Bytes(l:List Int):Prop:=∀x∈l,U9 x
theorem aAw(w:BitVec 8):U9 (vw w):=⟨NU w,azX w⟩
theorem U9.vw{x:Int}(h:U9 x):x=vw (bf 8 x):=by rw[fY];obtain⟨h1,h2⟩:=h;omega
theorem ahR(s:St):Bytes (aCB s):=by intro x hx;simp only[aCB,aAv,bt,bI,List.not_mem_nil,or_false]at hx;rcases hx with((((((hx | hx) | hx) | hx) | hx) | hx) | hx) | hx <;> rcases hx with rfl | rfl | rfl | rfl <;> exact aAw _
theorem aoQ(b:List Int):Bytes (atp b):=ahR _
end Go.Ab
end
