/-
  Made short by a program of mine (wip/tools/mini.py).
-/
import Derived.Test.YtipnkibclflleaaGreatS34x2
import Derived.Scope
import Derived.Laws.Externs
import Derived.KernelRfl
import Derived.ProofKit
import Derived.OpenShut
import Derived.Deep.Slices
import Derived.Carry
set_option linter.unusedVariables false
set_option linter.unusedSimpArgs false
set_option maxRecDepth 100000
set_option synthInstance.maxSize 5000
open Go renaming IntKind->ki,FuncId->fw,Operand->bI,Program->aL,World->bV
open List renaming replicate->ai
open BitVec renaming ofInt->aX
open UInt8 renaming ofNat->fm
open Nat renaming beq->ia
open Go.World renaming cell?->eI
open Go.Sem renaming run_bind->cg,run_pure->dK
open Go.Result renaming andThen_ok->bE
open Int renaming toNat_natCast->aa,toNat->ab
open OfNat renaming ofNat->du
open Option renaming some->au,none->aH
open Bool renaming true->aO,false->aV
noncomputable section
namespace Go.Ab
section
variable {P:aL} {Γ:qh} {an:zp} {C:Ctx}
open Classical in
def aCN(p:Prop):Option Unit:=if p then au () else aH
theorem aeQ{p:Prop}(h:aCN p=au ()):p:=by
 unfold aCN at h;split at h
 ·assumption
 ·cases h
theorem auo{p:Prop}(h:p):aCN p=au ():=by unfold aCN;rw[if_pos h]
theorem ZI{X R:Type}{S:X->Prop}{k:X->Option R}{x:Option R}(hn:∃y,S y)(h:∀y,S y->k y=x):P2 S k=x:=by
 unfold P2;cases x with
 |none=>exact zI λ⟨r,⟨y,hy⟩,hr⟩=>by have:=h y hy;rw[hr y hy]at this;cases this
 |some r=>
  have hx:∃r,(∃x,S x)/\∀x,S x->k x=au r:=⟨r,hn,h⟩;rw[zJ hx];obtain⟨⟨y,hy⟩,h1⟩:=hx.choose_spec;have:=h1 y hy;rw[h y hy]at this;exact this.symm
def akk(P:aL)(Γ:qh)(an:zp)(N:Nat)(b:Code):Prop:=∀le,an.iE (dH b)=au le->(le.set=aH->∀s x,le.run s=au x->∃n,OS (norm P (an.loops (dH b))) (λe=>norm P (an.outs (dH b) (aec e))) (ev P Γ an N b) n s (λe s'=>au (e,s'))=(le.out x).eval)/\∀S,le.set=au S->∀s,(∃x,S s x)->∃n,OS (norm P (an.loops (dH b))) (λe=>norm P (an.outs (dH b) (aec e))) (ev P Γ an N b) n s (λe s'=>aCN (∃x,S s x/\(le.out x).eval=au (e,s')))=au ()
def mN(P:aL)(Γ:qh)(an:zp)(N:Nat):List Code->Prop
 |[]=>True
 |b::l=>akk P Γ an N b/\mN P Γ an N l
theorem mN.append{N:Nat}:∀ {l l':List Code},mN P Γ an N (l++l')->mN P Γ an N l/\mN P Γ an N l'
 |[],_,h=>⟨trivial,h⟩
 |_::_,_,⟨h1,h2⟩=>⟨⟨h1,(mN.append h2).1⟩,(mN.append h2).2⟩
theorem rB{c:Code}{b:Frame}{a:Act}{k:List Item}{cs:List Frame}{w:bV}:step P (lone (b.atR a (.code (.scope c)::k)) cs w)= .next (lone (b.atR a (.code c:: .inScope c::k)) cs w):=
 step_lone_go (by simp[stepG,stepG.exec,Frame.atR])
theorem Wu{c:Code}{b:Frame}{a:Act}{k:List Item}{cs:List Frame}{w:bV}:step P (lone (b.atR a (.inScope c::k)) cs w)= .next (lone (b.atR a k) cs w):=
 step_lone_go (by simp[stepG,stepG.exec,Frame.atR])
theorem GA{F:Fence}{n:Nat}{Q:Exit->Act->bV->Prop}{a:Act}{w:bV}{c:Code}(h:c.wpIn F n P (Exit.noGoto Q) a w):(Code.scope c).wpIn F n P Q a w:=by
 intro b k cs aJz hb hr;have h0:(lone (b.atR a (.code (.scope c)::k)) cs w).fenced P F:=fenced_calm hb hr rfl;obtain⟨e,a1,w1,hq,hx⟩:=h b (.inScope c::k) cs aJz hb hr;cases e with
 |normal=>exact⟨.normal,a1,w1,hq,.head h0 rB (StepsIn.trans hx (.one (fenced_calm hb hr rfl) Wu))⟩
 |exit i=>
  have e1:exitTo i (.inScope c::k)=exitTo i k:=by simp[exitTo]
  exact⟨.exit i,a1,w1,hq,λk' hk=> .head h0 rB (hx.1 k' (e1.trans hk)),λh1 hk=>let⟨k2,h2,h3⟩:=hx.2 h1 (e1.trans hk);⟨k2,h2,.head h0 rB h3⟩⟩
 |goto l=>exact hq.elim
 |ret=>exact⟨_,a1,w1,hq,.of_steps (.one h0 rB) hx⟩
 |panic ch=>exact⟨_,a1,w1,hq,.of_steps (.one h0 rB) hx⟩
 |outgrown=>exact⟨_,a1,w1,hq,.of_steps (.one h0 rB) hx⟩
theorem Cq{rd:Option Nat}{m:Nat}{R:Type}{r:R}{b:Code}{nrm:AS->Out AS}{nrmX:Exit->AS->Out AS}{body:AS->(Exit->AS->Option R)->Option R}
  (hn:∀s s1 a w,gW C s a w->(nrm s).eval=au s1->gW C s1 a w) (hx:∀e s s1 a w,gW C s a w->(nrmX e s).eval=au s1->gW C s1 a w)
  (hb:∀(s:AS) (a:Act) (w:bV) (k:Exit->AS->Option R) (Q:Exit->Act->bV->Prop),gW C s a w->body s k=au r->(∀e s' a' w',gW C s' a' w'->k e s'=au r->Q e a' w')->b.wpIn (Fr rd) m P Q a w)
  {k:Exit->AS->Option R} {Q:Exit->Act->bV->Prop} (hk:∀e s' a' w',gW C s' a' w'->k e s'=au r->Q e a' w'):
  ∀(n:Nat) (s:AS) (a:Act) (w:bV),gW C s a w->OS nrm nrmX body n s k=au r->Code.roundsIn (Fr rd) m P b Q n a w
 | 0,s,a,w,_,h=>by simp[OS]at h
 |n+1,s,a,w,hs,h=>by
  simp only[OS]at h;rw[roundsIn_succ];refine hb s a w _ _ hs h λe s' a' w' hs' aEM=> ?_
  have exits:∀e,(nrmX e s').run (k e)=au r->Q e a' w':=λe aEM=>by obtain⟨s1,h1,h2⟩:=gT.1 aEM;exact hk e s1 a' w' (hx e s' s1 a' w' hs' h1) h2
  cases e with
  |normal=>
   simp only at aEM;obtain⟨s1,h1,h2⟩:=gT.1 aEM;exact Cq hn hx hb hk n s1 a' w' (hn s' s1 a' w' hs' h1) h2
  |_=>exact exits _ aEM
theorem Ki{rd:Option Nat}{n:Nat}(hC:C.ok){j:Option aml}{run: {R:Type}->(Exit->AS->Option R)->Option R}{c:Code}{a:Act}{w:bV}
  (pb:∀ {R:Type} {r:R} (k:Exit->AS->Option R) (Q:Exit->Act->bV->Prop),run k=au r->(∀e s' a' w',gW C s' a' w'->k e s'=au r->Q e a' w')->c.wpIn (Fr rd) n P Q a w)
  {R:Type} {r:R} {k:Exit->AS->Option R} {Q:Exit->Act->bV->Prop} (h:MY P j run k=au r) (hk:∀e s' a' w',gW C s' a' w'->k e s'=au r->Q e a' w'):c.wpIn (Fr rd) n P Q a w:=by
 cases j with
 |none=>exact pb k Q h hk
 |some j=>
  simp only[MY]at h;cases hx:run λe s=>(norm P j.an s).run (j.aGd e) with
  |none=>rw[hx]at h;cases h
  |some x=>
   rw[hx]at h;simp only[ax]at h;obtain⟨y,hy,h⟩:=gT.1 h;refine pb _ Q hx λe s' a' w' hs' hK=> ?_
   obtain⟨s1,h1,h2⟩:=gT.1 hK;have he:=j.ok _ _ _ h2;rw[hy,az]at he;subst he;exact hk e s1 a' w' (ou hC hs' h1) h
theorem Inv.amq{g:Nat->lA}{β:Id->Option Pl}{s:AS}{a:Act}{w:bV}(h:Inv C g β s a w):
  Inv C (mM g w.heap.size (.own .ez 0)) β s {a with defers:=tI w.heap.size::a.defers} (w.alloc (.deferred (au []))):=by
 have ht:=Trans.alloc w g (.deferred (au [])) (.own .ez 0);have he:cP (s.env w g β) (s.env (w.alloc (.deferred (au []))) (mM g w.heap.size (.own .ez 0)) β):=cP.same ht;have h1:=h.step rfl ht he (iR.same h.bM he λi ver fr c pl hi hp=>by
  have hl:=((h.bM i ver fr c hi).label (pl:=pl) hp).1;have hl':pl.b < w.heap.size:=hl;exact⟨pW w _ hl',fD _ _ _ aq⟩)
 refine⟨⟨df.2 ⟨λhm=> ?_,h1.defers.1⟩,λd hd=> ?_⟩,h1.size,h1.cn,h1.bM,h1.trans,h1.le⟩
 ·obtain⟨D,e,_,hh,_⟩:=h.defers.2 _ hm;have e:Deferred.mk (.collected w.heap.size) #[]=Deferred.mk (.collected D) #[]:=e;injection e with e _
  injection e with e
  have:=(bN.1 hh).1;omega
 ·rcases bA.1 hd with rfl | hd
  ·exact⟨w.heap.size,rfl,h.trans.size,rV w _,fI _ _ _⟩
  ·exact h1.defers.2 d hd
theorem HI:∀l:List aF,(yp l).list=l
 |[]=>rfl
 |a::l=>by simp[yp,aF.list,HI l]
theorem Bz(bz:List Nat):∀(i:Nat) (l:List aF),(eO bz i l).length=l.length
 |_,[]=>rfl
 |i,_::l=>by simp[eO,Bz bz (i+1) l]
theorem G0(bz:List Nat):∀(l:List aF) (i j:Nat),(eO bz i l).getD j .undef=l.getD j .undef\/(eO bz i l).getD j .undef= .undef
 |[],_,_=> .inl rfl
 |v::l,i,0=>by
  simp only[eO,lu];split
  ·exact .inl rfl
  ·exact .inr rfl
 |v::l,i,j+1=>by simpa[eO]using G0 bz l (i+1) j
theorem Inv.frame{g:Nat->lA}{β:Id->Option Pl}{s:AS}{a:Act}{w:bV}(h:Inv C g β s a w)(bz:List Nat):BU (s.env w g β) (yp (eO bz 0 s.cn)) a.tmps:=by
 refine⟨by rw[HI,Bz,h.size],λi=> ?_⟩;rw[HI];rcases G0 bz s.cn 0 i with e | e
 ·rw[e];exact h.cn i
 ·rw[e];exact VS.undef
theorem azw(a:Act)(q:Nat)(x:Value):(a.put (au q) x).put (au q) (a.tmps.getD q undef)=a:=by
 obtain⟨t,d⟩:=a;simp only[Act.put];congr 1;apply qp;intro i;simp only[dS,Array.size_setIfInBounds];by_cases h:q=i
 ·subst h;by_cases hl:q < t.size
  ·simp[hl]
  ·simp[hl]
 ·simp[h]
theorem Ld{g:Nat->lA}{β:Id->Option Pl}{s s':AS}{a:Act}{w:bV}{q p:Nat}(h:Inv C g β s a w)(he:s.Ns q p=au s'):∃pl r,β (.bF 0)=au pl/\(s.env w g β).cur (.bF 0) 0/\w.heap[pl.b]? =au (.loop r)/\afq q r.state r.pending/\
  ∀r':Loop,r'.params=r.params->r'.assign=r.assign->r'.body=r.body->r'.tmps=r.tmps->afq p r'.state r'.pending->Inv C g β s' a (w.putObj pl.b (.loop r')):=by
 unfold AS.Ns at he;split at he;rotate_left
 ·cases he
 rename_i c f q' cI;split at he;rotate_left
 ·cases he
 rename_i hq;obtain rfl:q=q':=eW hq;obtain rfl:=aQ he;obtain⟨pl,r,hp,hb,hg,⟨q1,q2,q3⟩,aqW,nw⟩:=h.bM (.bF 0) 0 aV _ cI;have hp:β (.bF 0)=au pl:=hp;have hb:w.heap[pl.b]? =au (.loop r):=hb
 have hg:g pl.b= .own (.id (.bF 0)) 0:=hg;refine⟨pl,r,hp,⟨aV,_,cI⟩,hb,nw,λr' e1 e2 e3 e4 hs'=> ?_⟩;have iJ:pl.b < w.heap.size:=(bN.1 hb).1;have hother:∀b',b'≠pl.b->(w.putObj pl.b (.loop r')).heap[b']? =w.heap[b']? :=λb' gV=>World.putObj_heap_other gV
 have ht:Trans w (w.putObj pl.b (.loop r')) g g:=by
  refine⟨rfl,rfl,⟨rfl,aC _⟩,by simp,λb' _=> ?_⟩;by_cases he:b'=pl.b
  ·subst he;rw[hg];exact⟨.inr ⟨_,0,rfl,aC _⟩,λ_ _ hh=>aq⟩
  ·rw[hother b' he];cases P4:g b' with
   |free=>exact⟨rfl,rfl⟩
   |own o' k=>cases o' with
    |ez=>exact⟨rfl,rfl⟩
    |id i'=>exact⟨.inr ⟨i',k,rfl,aC _⟩,λoff v _ hv=>by simpa only[eI,hother b' he]using hv⟩
 have hle:cP (s.env w g β) ((s.aY (.bF 0) (.obj 0 aV (.uN c f p))).env (w.putObj pl.b (.loop r')) g β):=cP.aY cI (aC _) ht (λ_ _=>rfl) (λ_=>rfl);refine h.step (dh _ _ _) ht hle (iR.aY h.bM (by rw[cI];simp) hle (λ_ _=>rfl) (λi ver fr c pl2 hi R3 P5=>⟨hother _ (h.apart hg hi R3 P5),rfl⟩) ?_ (Ko cI));exact⟨pl,r',hp,World.putObj_heap_same iJ,hg,⟨e1.trans q1,e2.trans q2,e3.trans q3⟩,by rw[e4];exact aqW.mono hle,hs'⟩
theorem Qg{n:Nat}(hΓ:Sound P Γ){f:bI}{ps:Array Tmp}{as b:Code}{R:Type}{r:R}{k:Exit->AS->Option R}{Q:Exit->Act->bV->Prop}{s:AS}{a:Act}{w:bV}(h:gW C s a w)
  (he:CL P Γ an s f ps as b k=au r) (hk:∀e s' a' w',gW C s' a' w'->k e s'=au r->Q e a' w'):(Code.rangeFunc f ps as b).wpIn (Fr aH) n P Q a w:=by
 obtain⟨g,β,h⟩:=h;unfold CL at he;split at he;rotate_left
 ·cases he
 rename_i y bz h0 caps aJy aKj hF;split at he;rotate_left
 ·cases he
 rename_i en aEy adQ;simp only[al]at aEy;obtain⟨⟨⟨anR,atm⟩,hq⟩,iJ⟩:=aEy;have hd:=(hΓ _ _ _ adQ).1 iJ;have hdR:=(hΓ _ _ _ adQ).2.2 iJ;generalize aHk:ps.getD 0 0=q at atm hq he adQ;have hq:q < s.cn.length:=gE hq;obtain⟨vs,hy,aDM⟩:=RN (hF▸h.ev f);refine wpIn_rangeFunc λfn _=> ?_
 have cI:=run_enterLoop_outer (P:=P) (w:=w) fn a.tmps ps as b;have i1:=h.amq;generalize aFa:w.alloc (.deferred (au []))=w1 at i1 cI;have re:w1.heap.size=w.heap.size+1:=by rw[<-aFa];exact World.size_alloc ..
 generalize aHl:({state:= .ready,pending:=aH,fn,tmps:=a.tmps,params:=ps,assign:=as,body:=b,defers:=w.heap.size}:Loop)=r0 at cI;have ht:=Trans.alloc w1 (mM g w.heap.size (.own .ez 0)) (.loop r0) (.own (.id (.new q 0)) 0);obtain⟨i2,e2⟩:=i1.Mo atm (c:= .uN ⟨y,ps,as,b⟩ (yp (eO bz 0 s.cn)) 0) (p:=au ⟨w1.heap.size,0⟩) ht (λb hb=>⟨pW w1 _ hb,fD _ _ _ aq⟩) (λhe=>
  ⟨⟨w1.heap.size,0⟩,r0,jP _ _ _,rV w1 _,fI _ _ _,by subst aHl;exact⟨rfl,rfl,rfl⟩,by subst aHl;exact(i1.frame bz).mono he,by subst aHl;exact⟨rfl,rfl⟩⟩)
 generalize mM (mM g w.heap.size (.own .ez 0)) w1.heap.size (.own (.id (.new q 0)) 0)=g2 at i2 e2;generalize hβ2:FP β (.new q 0) (au ⟨w1.heap.size,0⟩)=β2 at i2 e2;generalize ak7:w1.alloc (.loop r0)=w2 at i2 e2 cI;have aIG:VS ((s.born q [.obj 0 aV (.uN ⟨y,ps,as,b⟩ (yp (eO bz 0 s.cn)) 0)]).env w2 g2 β2) (.yl (.new q 0) 0) (.func (.yield w1.heap.size) #[] #[]):=by refine⟨[.func (.yield w1.heap.size) #[] #[]],?_,rfl⟩;simp only[V];exact⟨_,rfl,pa atm _ _ _ _,λ_=>⟨⟨w1.heap.size,0⟩,by rw[<-hβ2];exact jP _ _ _,rfl⟩⟩
 have i3:=i2.put (au q) aIG;have hF2:(s.born q [.obj 0 aV (.uN ⟨y,ps,as,b⟩ (yp (eO bz 0 s.cn)) 0)]).ev f= .fn h0 caps:=by rw[<-hF];cases f <;> rfl
 obtain⟨vs2,aDO,aHv⟩:=RN (hF2▸i2.ev f);have J9:vs2=vs:=by
  have e:Value.func (.func h0) #[] vs2.toArray= .func (.func h0) #[] vs.toArray:=by rw[<-aDO,<-hy];cases f <;> rfl
  injection e with _ _ e
  simpa using bK Array.toList e
 subst J9;have GX:wG (((s.born q [.obj 0 aV (.uN ⟨y,ps,as,b⟩ (yp (eO bz 0 s.cn)) 0)]).put (au q) (.yl (.new q 0) 0)).env w2 g2 β2) (.yl (.new q 0) 0::caps.list) (.func (.yield w1.heap.size) #[] #[]::vs2):=by rw[ZN];exact⟨aIG,Y1 aHv⟩
 have aIl:∀args:Array Value,(callFunc h0 args).run P w2= .ok (.enter h0 args) w2:=λargs=>by
  unfold afs at anR;split at anR
  ·rename_i fn' aBW;simp only[al,bP,gz]at anR;obtain⟨c,hc⟩:=bD.1 anR.2;unfold callFunc;simp[aBW,anR.1,hc]
  ·cases anR
 have post:∀ {s3:AS} {w3:bV} {v:Value},gW C s3 ((({a with defers:=tI w.heap.size::a.defers}:Act).put (au q) (.func (.yield w1.heap.size) #[] #[])).put aH v) w3->∀ {c:tm} {fr:aF} {p:Nat},s3.bS (.new q 0)=au (.obj 0 aV (.uN c fr p))->s3.slot q= .yl (.new q 0) 0->p≠1->
   ∃jump w4,(Instr.endLoop w1.heap.size).run P w3= .ok jump w4/\afq p (if p=0 then .ready else .done) jump/\gW C ((s3.aY (.new q 0) .dead).put (au q) .undef) {a with defers:=tI w.heap.size::a.defers} w4:=by
  intro s3 w3 v aCh c fr p R1 atg awT;obtain⟨g3,β3,i5⟩:=aCh;obtain⟨pl,r3,hp,hb,hg,_,_,nw⟩:=i5.bM (.new q 0) 0 aV _ R1;have hp:β3 (.new q 0)=au pl:=hp;have hb:w3.heap[pl.b]? =au (.loop r3):=hb
  have hg:g3 pl.b= .own (.id (.new q 0)) 0:=hg;have aAG:=i5.cn q;rw[atg]at aAG;obtain⟨cs,hV,hO⟩:=aAG;simp only[V]at hV;obtain⟨l,rfl,_,fE⟩:=hV;obtain⟨pl',hp',rfl⟩:=fE ⟨aV,_,R1⟩;have hp':β3 (.new q 0)=au pl':=hp';rw[hp]at hp';obtain rfl:pl=pl':=by simpa using hp'
  have hO: [Value.func (.yield pl.b) #[] #[]]=[((({a with defers:=tI w.heap.size::a.defers}:Act).put (au q) (.func (.yield w1.heap.size) #[] #[])).put aH v).tmps.getD q undef]:=hO;have MP:q < ({a with defers:=tI w.heap.size::a.defers}:Act).tmps.size:=by show q < a.tmps.size;rw[h.size];exact hq
  have hO2:((({a with defers:=tI w.heap.size::a.defers}:Act).put (au q) (.func (.yield w1.heap.size) #[] #[])).put aH v).tmps.getD q undef= .func (.yield w1.heap.size) #[] #[]:=by show((({a with defers:=tI w.heap.size::a.defers}:Act).put (au q) (.func (.yield w1.heap.size) #[] #[]))).tmps.getD q undef=_;rw[af7,if_pos ⟨rfl,MP⟩]
  rw[hO2]at hO;have hl:pl.b=w1.heap.size:=by simpa using hO
  have aEw:r3.state≠ .busy:=by
   match p,nw,awT with
   | 0,nw,_=>rw[nw.1];simp
   | 1,_,h=>exact absurd rfl h
   | 2,nw,_=>rw[nw.1];simp
   |_+3,nw,_=>rw[nw.1];simp
  have iJ:pl.b < w3.heap.size:=(bN.1 hb).1;refine⟨r3.pending,_,by rw[<-hl];exact run_endLoop hb aEw,?_,?_⟩
  ·match p,nw,awT with
   | 0,nw,_=>exact⟨rfl,nw.2⟩
   | 1,_,h=>exact absurd rfl h
   | 2,nw,_=>exact⟨rfl,nw.2⟩
   |_+3,nw,_=>exact⟨rfl,nw.2⟩
  ·have i6:=i5.kill R1 hg (w':=w3.putObj pl.b (.loop {r3 with state:= .exhausted})) rfl rfl ⟨rfl,aC _⟩ (by simp) (λb' hb'=>World.putObj_heap_other hb');have i7:=i6.put (au q) (v:= .undef) (x:=({a with defers:=tI w.heap.size::a.defers}:Act).tmps.getD q undef) VS.undef;have e:=azw {a with defers:=tI w.heap.size::a.defers} q (.func (.yield w1.heap.size) #[] #[]);refine⟨mM g3 pl.b .free,β3,?_⟩;simp only[Act.put]at e i7;rw[e]at i7;exact i7
 generalize hK:(λs3:AS=>(match s3.bS (.new q 0),s3.slot q with
   |some (.obj 0 aV (.uN _ _ p)),.yl (.new q' 0) 0=>match ia q' q,p with
    |true,0=>k .normal ((s3.aY (.new q 0) .dead).put (au q) .undef)
    |true,2=>k .ret ((s3.aY (.new q 0) .dead).put (au q) .undef)
    |true,i+3=>k (.exit i) ((s3.aY (.new q 0) .dead).put (au q) .undef)
    |_,_=>aH
   |_,_=>aH))=K at he
 have hc:Calls P h0 (.func (.yield w1.heap.size) #[] #[]::vs2).toArray w2 λe w'=>∃v,e= .returned v/\∃s3,gW C s3 ((({a with defers:=tI w.heap.size::a.defers}:Act).put (au q) (.func (.yield w1.heap.size) #[] #[])).put aH v) w'/\K s3=au r:=by
  unfold AS.aAm at he;split at he
  ·exact(Od (o:= {(default:Oper) with dst:=aH}) i3 hdR GX he).2
  ·obtain⟨s3,aAu,he⟩:=gT.1 he;unfold AS.call at aAu;obtain⟨r2,h1,h2⟩:=aw.1 aAu;obtain⟨g',i4,e4,_,f1⟩:=eZ r2.2 i3;obtain⟨x,hx,k1,k2,key⟩:=MH (o:= {(default:Oper) with dst:=aH}) i4 (zS _ _) (Bj rfl i3.bM e4 _ _ _ r2 GX h1 f1) h2;rcases hd _ _ _ _ _ _ _ k1 k2 hx with⟨_,hc⟩ | ⟨v,w',aF8,_⟩
   ·exact hc.mono λe w' ⟨v,adR,ha⟩=>⟨v,adR,s3,key v w' ha,he⟩
   ·rw[aIl]at aF8;cases aF8
 refine⟨w1.heap.size,[tI w.heap.size],w2,⟨.fn (.func h0) vs2.toArray,#[.func (.yield w1.heap.size) #[] #[]]⟩,w2,h0,(.func (.yield w1.heap.size) #[] #[]::vs2).toArray,w2,?_,?_,λ_ _=>trivial,?_,λh=>(by cases h),?_⟩
 ·rw[re];exact cI
 ·have e:resolve a.eval (rangeCall f w1.heap.size) 0=Deferred.ofValue (a.eval f) #[.func (.yield w1.heap.size) #[] #[]]:=by simp[resolve,rangeCall,Act.eval]
  rw[e,hy];simp[Deferred.ofValue]
 ·have e:(#[.func (.yield w1.heap.size) #[] #[]]++vs2.toArray:Array Value)=(.func (.yield w1.heap.size) #[] #[]::vs2).toArray:=by simp
  rw[<-aIl,<-e];rfl
 ·have h1:CallsIn (Fr aH) (n - 1) P h0 (.func (.yield w1.heap.size) #[] #[]::vs2).toArray w2 _:=callsIn_wide.2 hc;refine h1.mono λe w3 ⟨v,adR,s3,aCh,he⟩=> ?_
  subst adR;subst hK;show ∃jump w4,_/\_;simp only at he;split at he;rotate_left
  ·cases he
  rename_i c3 fr3 p3 q' R1 atg;split at he
  ·rename_i hq';obtain rfl:q'=q:=eW hq';obtain⟨jump,w4,as7,nw,aE3⟩:=post aCh R1 atg eR;obtain⟨_,rfl⟩:=nw;exact⟨aH,w4,as7,hk _ _ _ _ aE3 he⟩
  ·rename_i hq';obtain rfl:q'=q:=eW hq';obtain⟨jump,w4,as7,nw,aE3⟩:=post aCh R1 atg eR;obtain⟨_,rfl⟩:=nw;exact⟨_,w4,as7,wpIn_ret (hk _ _ _ _ aE3 he)⟩
  ·rename_i i hq';obtain rfl:q'=q:=eW hq';obtain⟨jump,w4,as7,nw,aE3⟩:=post aCh R1 atg (by simp);obtain⟨_,rfl⟩:=nw;exact⟨_,w4,as7,wpIn_exit (hk _ _ _ _ aE3 he)⟩
  ·cases he
theorem mQ{rd:Option Nat}{n:Nat}(hm:P.follows .mixedOrders=aO)(hΓ:Sound P Γ)(hC:C.ok){N:Nat}(anW:rd=aH\/an.px.isSome=aO):∀(c:Code),mN P Γ an N (jv c)->∀ {R:Type} {r:R} (s:AS) (a:Act) (w:bV) (k:Exit->AS->Option R) (Q:Exit->Act->bV->Prop),
  gW C s a w->ev P Γ an N c s k=au r->(∀e s' a' w',gW C s' a' w'->k e s'=au r->Q e a' w')->c.wpIn (Fr rd) n P Q a w
 | .skip,hL,_,_,s,a,w,k,Q,hs,h,hk=>wpIn_skip (hk _ _ _ _ hs h)
 | .region id ops draw,hL,_,_,s,a,w,k,Q,hs,h,hk=>by
  simp only[ev]at h;obtain⟨s,hs,h⟩:=Pb _ hs h;refine Ki hC (λk Q h hk=> ?_) h hk;cases draw with
  |true=>
   simp only at h;split at h
   ·rename_i hE;exact afr hm hΓ hs hE h λs' a' w' hs' hk'=>hk _ _ _ _ hs' hk'
   ·cases h
  |false=>exact wpIn_region_list (OD hΓ ops.toList hs h λs' a' w' hs' hk'=>hk _ _ _ _ hs' hk')
 | .seq x y,hL,_,_,s,a,w,k,Q,hs,h,hk=>by
  simp only[ev]at h;refine wpIn_seq (Ki hC (λk Q h hk=>mQ hm hΓ hC anW x hL.append.1 s a w k Q hs h hk) h λe s' a' w' hs' hk'=> ?_);cases e with
  |normal=>exact mQ hm hΓ hC anW y hL.append.2 s' a' w' k Q hs' hk' hk
  |_=>exact hk _ s' a' w' hs' hk'
 | .cond c x y,hL,_,_,s,a,w,k,Q,hs,h,hk=>by
  simp only[ev]at h;split at h
  ·rename_i b hb;have hc:a.eval c= .bool b:=by obtain⟨g,β,hi⟩:=hs;have:=hi.ev c;rw[hb]at this;exact Qm this
   refine wpIn_cond hc ?_
   cases b with
   |true=>exact mQ hm hΓ hC anW x hL.append.1 s a w k Q hs h hk
   |false=>exact mQ hm hΓ hC anW y hL.append.2 s a w k Q hs h hk
  ·cases h
 | .block id b,hL,_,_,s,a,w,k,Q,hs,h,hk=>by
  simp only[ev]at h;refine wpIn_block (mQ hm hΓ hC anW b hL s a w _ _ hs h λe s' a' w' hs' hk'=> ?_);cases e with
  |exit i=>
   simp only at hk';simp only[Exit.inBlock];by_cases hi:i=id
   ·rw[if_pos hi];simp only[hi,cQ]at hk';exact hk _ s' a' w' hs' hk'
   ·rw[if_neg hi];simp only[hi,decide_false]at hk';exact hk _ s' a' w' hs' hk'
  |_=>exact hk _ s' a' w' hs' hk'
 | .loop b,hL,R,r,s,a,w,k,Q,hs,h,hk=>by
  simp only[ev]at h;obtain⟨s1,h1,h⟩:=gT.1 h;have L9:=ou hC hs h1;obtain⟨hL1,hL2⟩:=(hL:akk P Γ an N b/\mN P Γ an N (jv b));split at h
  ·rename_i le hle;unfold awE at h;cases Z8:le.set with
   |some S=>
    rw[Z8]at h;simp only at h;obtain⟨h2,h3⟩:=MF h;obtain⟨n,hn⟩:=(hL1 le hle).2 S Z8 s1 h2;refine wpIn_loop_rounds n (Cq (λs s1 a w hs hn=>ou hC hs hn) (λe s s1 a w hs hn=>ou hC hs hn) (λs a w k Q hs hb hk=>mQ hm hΓ hC anW b hL2 s a w k Q hs hb hk) (λe s' a' w' hs' he=> ?_) n s1 a w L9 hn);obtain⟨x,aGa,aGb⟩:=aeQ he;obtain⟨y,hy,h4⟩:=gT.1 (h3 x aGa);rw[aGb,az]at hy;subst hy;exact hk _ _ _ _ hs' h4
   |none=>
   rw[Z8]at h;simp only at h;cases hr:le.run s1 with
   |none=>rw[hr]at h;cases h
   |some x=>
    rw[hr]at h;simp only[ax]at h;obtain⟨y,hy,h⟩:=gT.1 h;obtain⟨n,hn⟩:=(hL1 le hle).1 Z8 s1 x hr;rw[hy]at hn;refine wpIn_loop_rounds n (Cq (λs s1 a w hs hn=>ou hC hs hn) (λe s s1 a w hs hn=>ou hC hs hn) (λs a w k Q hs hb hk=>mQ hm hΓ hC anW b hL2 s a w k Q hs hb hk) (λe s' a' w' hs' he=> ?_) n s1 a w L9 hn);simp only[az]at he;subst he;exact hk e s' a' w' hs' h
  ·exact wpIn_loop_rounds N (Cq (λs s1 a w hs hn=>ou hC hs hn) (λe s s1 a w hs hn=>ou hC hs hn) (λs a w k Q hs hb hk=>mQ hm hΓ hC anW b hL2 s a w k Q hs hb hk) hk N s1 a w L9 h)
 | .exit id,hL,_,_,s,a,w,k,Q,hs,h,hk=>wpIn_exit (hk _ _ _ _ hs h)
 | .ret,hL,_,_,s,a,w,k,Q,hs,h,hk=>wpIn_ret (hk _ _ _ _ hs h)
 | .rangeFunc f ps as b,_,_,_,s,a,w,k,Q,hs,h,hk=>by
  simp only[ev]at h;obtain⟨s1,h1,h⟩:=gT.1 h;have hs:=kW hC _ hs h1;rcases anW with rfl | anW
  ·exact Qg hΓ hs h hk
  ·unfold CL at h;split at h
   ·rename_i h0 _ _;rw[h0]at anW;cases anW
   ·cases h
 | .scope b,hL,_,_,s,a,w,k,Q,hs,h,hk=>by
  simp only[ev]at h;refine GA (mQ hm hΓ hC anW b hL s a w _ _ hs h λe s' a' w' hs' hk'=> ?_);cases e with
  |goto l=>cases hk'
  |_=>exact hk _ s' a' w' hs' hk'
 | .label _,hL,_,_,s,a,w,k,Q,hs,h,hk=>wpIn_label (hk _ _ _ _ hs h)
 | .goto _,_,_,_,_,_,_,_,_,_,h,_=>by simp[ev]at h
 | .refuse _,_,_,_,_,_,_,_,_,_,h,_=>by simp[ev]at h
variable {g:Nat->lA} {β:Id->Option Pl} {s:AS} {a:Act} {w:bV}
def T9(tmps:Array Value)(r:ResultVar):Sem Value:=
 match r with
 | .tmp t=>pure (tmps.getD t undef)
 | .cell a t=>do loadVar t (<-asAddr (tmps.getD a undef))
theorem Ll(h:Inv C g β s a w){r:ResultVar}{v:aF}(he:(Ub P s r).eval=au v):∃x,(T9 a.tmps r).run P w= .ok x w/\VS (s.env w g β) v x:=by
 cases r with
 |tmp t=>
  simp only[Ub]at he;obtain rfl:=ay.1 he;exact⟨_,by simp[T9],h.cn t⟩
 |cell t T=>
  simp only[Ub]at he;obtain⟨ad,z,hy,hr,hv⟩:=Sw h (h.cn t) he;exact⟨z,by simp[T9,hy,asAddr,hr],hv⟩
theorem Lj(h:Inv C g β s a w){r:ResultVar}{o:Option Ty}{y:AS×aF}(he:(Ua P s r o).eval=au y):
  ∃x g',(T9 a.tmps r).run P w= .ok x w/\Inv C g' β y.1 a w/\cP (s.env w g β) (y.1.env w g' β)/\VS (y.1.env w g' β) y.2 x:=by
 cases o with
 |none=>
  simp only[Ua]at he;obtain⟨v,h1,h2⟩:=aw.1 he;obtain rfl:=ay.1 h2;obtain⟨x,hx,hv⟩:=Ll h h1;exact⟨x,g,hx,h,cP.refl _,hv⟩
 |some t=>
  simp only[Ua]at he;obtain⟨v,h1,h2⟩:=aw.1 he;obtain⟨d,h3,h4⟩:=aw.1 h2;obtain rfl:=ay.1 h4;obtain⟨x,hx,hv⟩:=Ll h h1;obtain⟨g',i1,e1,_,cs,hR,hO⟩:=ze h hv h3;exact⟨x,g',hx,i1,e1,VS.of (a:= .d t d) (cs:=cs) (by simpa only[V]using hR) hO⟩
theorem Hh:∀(l:List ResultVar) (ts:List (Option Ty)) {s:AS} {g:Nat->lA} (_:Inv C g β s a w) {y:AS×aF},(Lm P s l ts).eval=au y->
  ∃(xs:List Value) (g':Nat->lA),(l.mapM (T9 a.tmps)).run P w= .ok xs w/\Inv C g' β y.1 a w/\cP (s.env w g β) (y.1.env w g' β)/\VC (y.1.env w g' β) y.2 xs/\xs.length=l.length
 |[],ts,s,g,h,y,he=>by simp only[Lm]at he;obtain rfl:=ay.1 he;exact⟨[],g,by simp,h,cP.refl _,by simp[VC],rfl⟩
 |r::l,ts,s,g,h,y,he=>by simp only[Lm]at he;obtain⟨u,h1,h2⟩:=aw.1 he;obtain⟨hc,h2⟩:=aI.1 h2;obtain⟨us,h3,h4⟩:=aw.1 h2;obtain rfl:=ay.1 h4;obtain⟨x,g1,hx,i1,e1,hv⟩:=Lj h h1;obtain⟨xs,g2,agx,i2,e2,J9,hl⟩:=Hh l ts.tail i1 h3;obtain⟨cs,hV,hO⟩:=(hv.mono e2).eJ hc;refine⟨x::xs,g2,?_,i2,e1.trans e2,by simp only[VC];exact⟨x,xs,cs,rfl,hV,hO,J9⟩,by simp[hl]⟩;simp only[List.mapM_cons,cg,hx,bE,agx,dK]
theorem aq8{E:Env}{v:aF}{xs:List Value}(h:VC E v xs):VS E v (.tuple xs.toArray):=by
 cases v <;> first
  | (simp only[VC]at h;done)
  |exact⟨xs,rfl,h⟩
  | (simp only[VC]at h;subst h;rfl)
theorem Wp(h:Inv C g β s a w){fn:Func}{ts:List (Option Ty)}{y:AS×aF}(he:(abj P fn ts s).eval=au y):
  ∃x g',(results fn a.tmps).run P w= .ok x w/\Inv C g' β y.1 a w/\VS (y.1.env w g' β) y.2 x:=by
 have key:∀xs:List Value,(fn.results.toList.mapM (T9 a.tmps)).run P w= .ok xs w->(results fn a.tmps).run P w= .ok (if h:xs.length=1 then xs[0] else .tuple xs.toArray) w:=λxs agx=>by
  have e:results fn a.tmps=(do
   let vs <-fn.results.mapM (T9 a.tmps)
   pure (if h:vs.size=1 then vs[0] else .tuple vs)):=rfl
  rw[e,Array.mapM_eq_mapM_toList];simp only[map_eq_pure_bind,cg,agx,bE,dK];congr 1
 unfold abj at he;split at he
 ·rename_i r hr;obtain⟨x,g',hx,hi,_,hv⟩:=Lj h he;refine⟨x,g',?_,hi,hv⟩;rw[key [x] (by simp[hr,hx])];simp
 ·rename_i rs gV;obtain⟨xs,g',hx,hi,_,hv,hl⟩:=Hh _ _ h he;refine⟨.tuple xs.toArray,g',?_,hi,aq8 hv⟩;rw[key xs hx,zI];rw[hl];intro h1;obtain⟨r,hr⟩:=List.length_eq_one_iff.1 h1;exact gV r hr
end
end Go.Ab
namespace Go.Ab
def tD(ids:List Id):lA->lA
 | .own (.id (.new i j)) k=> .own (.id (match idxOf (.new i j) ids with | some m=> .new 0 m | none=> .new 1 0)) k
 |l=>l
def auY(β:Id->Option Pl)(ids:List Id):Id->Option Pl
 | .bF k=>β (.bF k)
 | .new 0 m=>(ids[m]?).bind β
 | .new (_+1) _=>aH
theorem aob{ids:List Id}{g:Nat->lA}{b off:Nat}(h:rH g b off):rH (λb=>tD ids (g b)) b off:=by
 unfold rH at*;simp only;cases hg:g b with
 |free=>simp[tD]
 |own o k=>
  rw[hg]at h;cases o with
  |ez=>exact h
  |id i=>cases i <;> exact h
theorem ZV(s:AS)(v:aF):(s.MI v).Nodup:=(ru s _ _ _ (by simp)).filter _
theorem ahJ{s:AS}{v:aF}{id:Id}(h:id∈s.MI v):∃i j,id= .new i j:=by
 unfold AS.MI at h;have:=(eo.1 h).2;cases id with
 |bF k=>simp[Id.aAK]at this
 |new i j=>exact⟨i,j,rfl⟩
section
variable {P:aL} {Γ:qh} {C:Ctx} {g:Nat->lA} {β:Id->Option Pl} {s:AS} {a:Act} {w:bV}
theorem Xw(h:Inv C g β s a w)(hC:C.ok){v:aF}{x:Value}(hv:VS (s.env w g β) v x):rK C.E (s.fin v) x w:=by
 unfold AS.fin;have hn:=ZV s v;have Bw:∀id∈s.MI v,∃i j,id= .new i j:=λid c8=>ahJ c8
 generalize s.MI v=ids at hn Bw;generalize hG:s.aAq ids v=G;have yH:G.val=v.iL (H2 ids):=by rw[<-hG];rfl
 have hold:∀k,G.st.bS (.bF k)=(s.bS (.bF k)).map (dE.fin ids):=λk=>by
  rw[<-hG];show(s.b8.map (dE.fin ids))[k]? =_
  rw[ei];rfl
 have aIy:∀m,G.st.bS (.new 0 m)=(ids[m]?).map λid=>((s.bS id).getD .dead).fin ids:=λm=>by
  rw[<-hG];show(ids.map λid=>((s.bS id).getD .dead).fin ids)[m]? =_
  rw[ei]
 have aJr:∀i m,G.st.bS (.new (i+1) m)=aH:=λi m=>by simp[iq.st,AS.bS]
 let g':Nat->lA:=λb=>tD ids (g b)
 let β':=auY β ids
 have anT:∀e ver fr c,dE.fin ids e= .obj ver fr c->∃c0,e= .obj ver fr c0/\c=c0.iL (H2 ids):=λe ver fr c he=>by
  cases e with
  |dead=>cases he
  |obj v0 fr0 c0=>
   simp only[dE.fin,dE.obj.injEq]at he;obtain⟨rfl,rfl,rfl⟩:=he;exact⟨c0,rfl,rfl⟩
 have hle:ye (H2 ids) (s.env w g β) (G.st.env w g' β'):=by
  refine⟨⟨λb off v ⟨h1,h2⟩=>⟨h1,aob h2⟩,λb ob h1 h2=>⟨by show tD ids (g b)= .free;have h1:g b= .free:=h1;rw[h1];rfl,h2⟩⟩,λid ver r hr hb=> ?_⟩;obtain⟨L8,Qt⟩:=hb;have L8:s.bS id≠aH:=L8;have Qt:∀v fr c,s.bS id=au (.obj v fr c)->ver<=v:=Qt;cases id with
  |bF k=>
   simp only[H2,az]at hr;subst hr;refine⟨⟨?_,λv fr c hh=> ?_⟩,λ⟨fr,c,hh⟩=>⟨?_,rfl⟩⟩
   ·show G.st.bS (.bF k)≠aH;rw[hold];simpa using L8
   ·have hh:G.st.bS (.bF k)=au (.obj v fr c):=hh;rw[hold,dq]at hh;obtain⟨e,he,hh⟩:=hh;obtain⟨c0,rfl,_⟩:=anT _ _ _ _ hh;exact Qt v fr c0 he
   ·have hh:G.st.bS (.bF k)=au (.obj ver fr c):=hh;rw[hold,dq]at hh;obtain⟨e,he,hh⟩:=hh;obtain⟨c0,rfl,_⟩:=anT _ _ _ _ hh;exact⟨fr,c0,he⟩
  |new i j=>
   simp only[H2]at hr;split at hr
   ·rename_i m hm;simp only[az]at hr;subst hr;have c8:=oh hm;obtain⟨e,he⟩:=Option.ne_none_iff_exists'.1 L8;have hg:G.st.bS (.new 0 m)=au (e.fin ids):=by rw[aIy,c8];simp[he]
    refine⟨⟨?_,λv fr c hh=> ?_⟩,λ⟨fr,c,hh⟩=>⟨?_,?_⟩⟩
    ·show G.st.bS (.new 0 m)≠aH;rw[hg];simp
    ·have hh:G.st.bS (.new 0 m)=au (.obj v fr c):=hh;rw[hg,az]at hh;obtain⟨c0,rfl,_⟩:=anT _ _ _ _ hh;exact Qt v fr c0 he
    ·have hh:G.st.bS (.new 0 m)=au (.obj ver fr c):=hh;rw[hg,az]at hh;obtain⟨c0,rfl,_⟩:=anT _ _ _ _ hh;exact⟨fr,c0,he⟩
    ·show(ids[m]?).bind β=β (.new i j);rw[c8];rfl
   ·cases hr
 have ah5:Trans C.E.w w C.E.g g':=by
  have h0:=h.trans;refine⟨h0.os,h0.tape,h0.output,h0.size,λb hb=> ?_⟩;have h1:=h0.Mn b hb;show match C.E.g b with | .free=>tD ids (g b)= .free/\_ | .own .ez k=>tD ids (g b)= .own .ez k/\_ | .own (.id _) k=>(tD ids (g b)= .free\/∃i k',tD ids (g b)= .own (.id i) k'/\k<=k')/\_
  cases P4:C.E.g b with
  |free=>simp only[P4]at h1 ⊢;rw[h1.1];exact⟨rfl,h1.2⟩
  |own o k=>cases o with
   |ez=>simp only[P4]at h1 ⊢;rw[h1.1];exact⟨rfl,h1.2⟩
   |id i=>
    simp only[P4]at h1 ⊢;refine⟨?_,h1.2⟩;rcases h1.1 with h2 | ⟨i',k',h2,h3⟩
    ·rw[h2];exact .inl rfl
    ·rw[h2];right;cases i' with
     |bF m=>exact⟨_,k',rfl,h3⟩
     |new i j=>exact⟨_,k',rfl,h3⟩
 have aya:iR (G.st.env w g' β'):=by
  intro id ver fr c c8;have c8:G.st.bS id=au (.obj ver fr c):=c8;cases id with
  |bF k=>
   rw[hold,dq]at c8;obtain⟨e,he,c8⟩:=c8;obtain⟨c0,rfl,rfl⟩:=anT _ _ _ _ c8;refine u7 hle (h.bM (.bF k) ver fr c0 he) rfl λpl _=>⟨rfl,λn hg=> ?_,λhg=> ?_⟩
   ·have hg:g pl.b= .own (.id (.bF k)) n:=hg;show tD ids (g pl.b)=_;rw[hg];rfl
   ·have hg:g pl.b= .free:=hg;show tD ids (g pl.b)=_;rw[hg];rfl
  |new i m=>
   cases i with
   |succ i=>rw[aJr]at c8;cases c8
   |zero=>
    rw[aIy,dq]at c8;obtain⟨id0,aB2,c8⟩:=c8;obtain⟨c0,he,rfl⟩:=anT _ _ _ _ c8;have cI:s.bS id0=au (.obj ver fr c0):=by
     cases hs:s.bS id0 with
     |none=>rw[hs]at he;cases he
     |some e=>rw[hs]at he;simp only[dQ]at he;rw[he]
    obtain⟨i0,j0,rfl⟩:=Bw id0 (cS aB2);refine u7 hle (h.bM (.new i0 j0) ver fr c0 cI) (by show(ids[m]?).bind β=_;rw[aB2];rfl) λpl _=>⟨rfl,λn hg=> ?_,λhg=> ?_⟩
    ·have hg:g pl.b= .own (.id (.new i0 j0)) n:=hg;show tD ids (g pl.b)=_;rw[hg];simp only[tD,vn hn aB2]
    ·have hg:g pl.b= .free:=hg;show tD ids (g pl.b)=_;rw[hg];rfl
 have ho:∀id ver,C.E.C8 id ver->∃k,id= .bF k:=λid ver hb=>by
  cases id with
  |bF k=>exact⟨k,rfl⟩
  |new i j=>exact absurd (hC.1 i j) hb.1
 refine⟨g',β',by rw[yH];exact DI hle hv,aya,ah5,Trans.mem (E:=C.E) (E':=G.st.env w g' β') ah5,λid ver hb=> ?_,λid ver hb hc=> ?_⟩
 ·obtain⟨k,rfl⟩:=ho id ver hb;exact(hle.ref (.bF k) ver (.bF k,ver) rfl (h.le.C8 _ _ hb)).1
 ·obtain⟨k,rfl⟩:=ho id ver hb;obtain⟨h1,h2⟩:=(hle.ref (.bF k) ver (.bF k,ver) rfl (h.le.C8 _ _ hb)).2 hc;obtain⟨h3,h4⟩:=h.le.cur _ _ hb h1;exact⟨h3,h2.trans h4⟩
theorem wG.len{E:Env}:∀ {as:List aF} {vs:List Value},wG E as vs->as.length=vs.length
 |[],[],_=>rfl
 |_::_,_::_,⟨_,h⟩=>by simp[wG.len h]
 |[],_::_,h=>h.elim
 |_::_,[],h=>h.elim
theorem wG.get{E:Env}:∀ {as:List aF} {vs:List Value},wG E as vs->∀i,VS E (as.getD i .undef) (vs.getD i undef)
 |[],[],_,i=>by simpa using VS.undef
 |_::_,_::_,⟨h,_⟩,0=>by simpa using h
 |_::_,_::_,⟨_,h⟩,i+1=>by simpa using wG.get h i
 |[],_::_,h,_=>h.elim
 |_::_,[],h,_=>h.elim
theorem aqd{w:bV}{g:Nat->lA}{β:Id->Option Pl}{fn:Func}{args:List aF}{b8:List dE}{iY:List Value}(hv:wG ((fL b8).env w g β) args iY)(ho:iR ((fL b8).env w g β)):
  Inv ⟨(fL b8).env w g β⟩ g β (start fn args b8) {tmps:=iY.toArray++Array.replicate (fn.ntmps - iY.toArray.size) undef,defers:=[]} w:=by
 have hl:=hv.len;have cI:(start fn args b8).bS=(fL b8).bS:=by
  funext id;cases id with
  |bF k=>rfl
  |new i j=>
   simp only[start,fL,AS.bS,aJ,List.getElem?_replicate];split <;> simp
 have ahW:(start fn args b8).env w g β=(fL b8).env w g β:=by simp only[AS.env,cI]
 refine⟨⟨ja,λ_ h=>by cases h⟩,by simp[start,hl],λi=> ?_,by rw[ahW];exact ho,Trans.refl _ _,by rw[ahW];exact cP.refl _⟩;rw[ahW];have h1:(start fn args b8).slot i=args.getD i .undef:=by
  simp only[start,AS.slot,aJ,List.getElem?_append,List.getElem?_replicate];split
  ·rfl
  ·rw[dG (l:=args) aq];split <;> rfl
 have h2:(iY.toArray++Array.replicate (fn.ntmps - iY.toArray.size) undef).getD i undef=iY.getD i undef:=by
  simp only[cJ,aJ,jZ,Array.getElem?_replicate];simp only[hZ,List.getElem?_toArray];split
  ·rfl
  ·rw[dG (l:=iY) aq];split <;> rfl
 rw[h1,h2];exact hv.get i
theorem Inv.aDf{C:Ctx}{g:Nat->lA}{β:Id->Option Pl}{s:AS}{a:Act}{w:bV}(h:Inv C g β s a w){D:Nat}{ds:List Deferred}(hd:a.defers=tI D::ds):
  (Instr.takeDeferred D).run P w= .ok [] (w.putObj D (.deferred aH))/\Inv C g β s {a with defers:=ds} (w.putObj D (.deferred aH)):=by
 obtain⟨hn,wc⟩:=h.defers;rw[hd]at hn wc;obtain⟨D',e,hD,hh,hg⟩:=wc _ (aG ..);have e:Deferred.mk (.collected D) #[]=Deferred.mk (.collected D') #[]:=e;injection e with e _
 injection e with e
 subst e;have iJ:=(bN.1 hh).1;refine⟨run_takeDeferred hh,?_⟩;have other:∀b,b≠D->(w.putObj D (.deferred aH)).heap[b]? =w.heap[b]? :=λb hb=>World.putObj_heap_other hb
 have Bt:∀b off v,w.cell? ⟨b,off,aH⟩=au v->b≠D:=λb off v hv e=>by subst e;simp[eI,hh]at hv
 have rD:rS (s.env w g β) (s.env (w.putObj D (.deferred aH)) g β):=by
  refine⟨λb off v ⟨h1,h2⟩=>⟨?_,h2⟩,λb ob h1 h2=>⟨h1,?_⟩⟩
  ·have h1:w.cell? ⟨b,off,aH⟩=au v:=h1;show(w.putObj D (.deferred aH)).cell? ⟨b,off,aH⟩=au v;rw[World.cell?_of_block (other b (Bt b off v h1))];exact h1
  ·have h1:g b= .free:=h1;have h2:w.heap[b]? =au ob:=h2
   show(w.putObj D (.deferred aH)).heap[b]? =au ob
   rw[other b λe=>by rw[e,hg]at h1;cases h1];exact h2
 have hle:cP (s.env w g β) (s.env (w.putObj D (.deferred aH)) g β):=⟨rD,λ_ _ h=>h,λ_ _ _ h=>⟨h,rfl⟩⟩;have gV:∀ {id:Id} {v:Nat} {fr:Bool} {c:aF} {pl:Pl},s.bS id=au (.obj v fr c)->β id=au pl->pl.b≠D:=λhs hp e=>by
  have:=((h.bM _ _ _ _ hs).label hp).2;have this:(∃k,g _= .own (.id _) k)\/(_/\g _= .free):=this;rw[e,hg]at this;rcases this with⟨k,hk⟩ | ⟨_,hk⟩
  ·cases hk
  ·cases hk
 refine⟨⟨(df.1 hn).2,λd hd'=> ?_⟩,h.size,λi=>(h.cn i).mono hle,λid ver fr c hs=> ?_,?_,h.le.trans hle⟩
 ·obtain⟨D2,e1,e2,e3,e4⟩:=wc d (aD _ hd');refine⟨D2,e1,e2,?_,e4⟩;rw[other D2 λe=>(df.1 hn).1 (by rw[<-e,<-e1];exact hd')];exact e3
 ·exact u6.mono hle (h.bM id ver fr c hs) rfl (λpl hp=>⟨other _ (gV hs hp),rfl⟩) λq vq k v l hq _=>⟨⟨k,v,l,hq⟩,λpl hp=>⟨other _ (gV hq hp),rfl⟩⟩
 ·have ht:=h.trans;refine⟨ht.os,ht.tape,ht.output,?_,λb hb=> ?_⟩
  ·have:=ht.size;simpa[World.putObj]using this
  ·have h1:=ht.Mn b hb;have hbD:b≠D:=aq;have hc:∀off v,w.cell? ⟨b,off,aH⟩=au v->(w.putObj D (.deferred aH)).cell? ⟨b,off,aH⟩=au v:=λoff v hv=>by rw[World.cell?_of_block (other b hbD)];exact hv
   rw[other b hbD];split at h1
   ·exact h1
   ·exact h1
   ·exact⟨h1.1,λoff v ho hv=>hc off v (h1.2 off v ho hv)⟩
theorem OX{C:Ctx}{g:Nat->lA}{β:Id->Option Pl}{s:AS}{fn:Func}{R:Ending->bV->Prop}:∀(ds:List Deferred) {a:Act} {w:bV},Inv C g β s a w->a.defers=ds->
  (∀a2 w2,Inv C g β s a2 w2->a2.tmps=a.tmps->∃v,(results fn a.tmps).run P w2= .ok v w2/\R (.returned v) w2)->LeavesInM Fence.wide 0 P fn a.tmps R ds .returning w
 |[],a,w,h,hd,hk=>hk a w h rfl
 |d::ds,a,w,h,hd,hk=>by obtain⟨D,e,_⟩:=h.defers.2 d (by rw[hd];exact aG ..);subst e;obtain⟨h1,h2⟩:=h.aDf (P:=P) hd;exact⟨by simp,.inl ⟨D,_,rfl,h1,OX (fn:=fn) (R:=R) ds (a:= {a with defers:=ds}) h2 rfl hk⟩⟩
theorem adz{b8:List dE}{w:bV}{g:Nat->lA}{β:Id->Option Pl}(h:b8.all dE.first=aO){k v:Nat}{fr:Bool}{c:aF}(hk:((fL b8).env w g β).s (.bF k)=au (.obj v fr c)):v=0:=by
 have hk:b8[k]? =au (.obj v fr c):=by simpa[AS.env,fL,AS.bS]using hk
 have:=dj.1 h _ (cS hk);exact eW this
theorem Js(hm:P.follows .mixedOrders=aO)(hΓ:Sound P Γ){f:fw}{fn:Func}(hf:P.funcs[f]? =au fn)(hb:fn.body.isSome=aO)(yG:(fn.name== "runtime.NumGoroutine")=aV){an:zp}{N:Nat}(hL:∀c,fn.body=au c->mN P Γ an N (jv c))
  {args:List aF} {b8:List dE} {R:Type} {k:iq->Option R} {r:R} (hN:acq P Γ an N fn args b8 k=au r) (Z7:an.px=aH)
  {iY:List Value} (hv:wG ((fL b8).env w g β) args iY) (ho:iR ((fL b8).env w g β)):(callFunc f iY.toArray).run P w= .ok (.enter f iY.toArray) w/\
   Calls P f iY.toArray w λe w'=>∃v G,e= .returned v/\k G=au r/\rK ((fL b8).env w g β) G v w':=by
 obtain⟨c,hc⟩:=bD.1 hb;refine⟨?_,?_⟩
 ·unfold callFunc;have hname':¬fn.name= "runtime.NumGoroutine" :=by simpa using yG
  simp[hf,hname',hc]
 ·unfold acq at hN;rw[Z7,hc]at hN;simp only at hN;split at hN
  ·cases hN
  rename_i hF;have hC:(Ctx.mk ((fL b8).env w g β)).ok:=⟨λi j=>by simp[AS.env,fL,AS.bS],λk v fr c hk=>adz hF hk⟩;refine callsIn_wide.1 (callsIn_of_wp_marks (F:=Fence.wide) (n:=0) hf hc trivial (mQ (rd:=aH) (C:=⟨(fL b8).env w g β⟩) hm hΓ hC (.inl rfl) c (hL c hc) _ _ w _ _ ⟨g,β,aqd hv ho⟩ hN λe s' a' w' hs' hk'=> ?_));have fin:(finish P an fn s').run k=au r->LeavesInM Fence.wide 0 P fn a'.tmps (λe w'=>∃v G,e= .returned v/\k G=au r/\rK ((fL b8).env w g β) G v w') a'.defers .returning w':=λhr=>by
   obtain⟨G,h1,h2⟩:=gT.1 hr;unfold finish at h1;obtain⟨sd,aGE,h1⟩:=aw.1 h1;obtain⟨s2,h3,h4⟩:=aw.1 h1;obtain⟨s3,aIW,h4⟩:=aw.1 h4;obtain⟨s4,aIX,h4⟩:=aw.1 h4;obtain⟨y,h5,h6⟩:=aw.1 h4;obtain⟨g1,β1,aAy⟩:=hs';refine OX a'.defers aAy rfl λa2 w2 aGV aHp=> ?_
   obtain⟨g0,β0,ax6⟩:=yy _ ⟨g1,β1,aGV⟩ aGE;obtain⟨g',β',hi⟩:=I1 _ (kW hC _ ⟨g0,β0,ax6.drop _⟩ h3) aIW;have hi:=BX hC _ hi aIX;obtain⟨z,g2,h7,h8,h9⟩:=Wp hi h5;refine⟨z,by rw[<-aHp];exact h7,z,G,rfl,h2,?_⟩;rw[<-ay.1 h6];exact Xw h8 hC h9
  cases e with
  |normal=>exact fin hk'
  |ret=>exact fin hk'
  |_=>cases hk'
theorem nI.yT(hm:P.follows .mixedOrders=aO)(hΓ:Sound P Γ){f:fw}{fn:Func}(hf:P.funcs[f]? =au fn)(hb:fn.body.isSome=aO)(yG:(fn.name== "runtime.NumGoroutine")=aV){en:Entry}{an:zp}{N:Nat}(hL:∀c,fn.body=au c->mN P Γ an N (jv c))
  (h:∀args b8 x,en.run args b8=au x->acq P Γ an N fn args b8 au=au (en.out args b8 x)) (Z7:an.px=aH):nI P f en:=by
 intro w g β args b8 iY x hv ho hx;obtain⟨h1,h2⟩:=Js hm hΓ hf hb yG hL (h args b8 x hx) Z7 hv ho;exact .inl ⟨h1,h2.mono λe w' ⟨v,G,e1,e2,e3⟩=>⟨v,e1,by rw[<-aQ e2];exact e3⟩⟩
theorem Ja.yT(hm:P.follows .mixedOrders=aO)(hΓ:Sound P Γ){f:fw}{fn:Func}(hf:P.funcs[f]? =au fn)(hb:fn.body.isSome=aO)(yG:(fn.name== "runtime.NumGoroutine")=aV){en:Entry}{an:zp}{N:Nat}(hL:∀c,fn.body=au c->mN P Γ an N (jv c))
  (h:∀args b8,(∃x,en.set args b8 x)->acq P Γ an N fn args b8 (λG=>aCN (∃x,en.set args b8 x/\G=en.out args b8 x))=au ()) (Z7:an.px=aH):Ja P f en:=by
 intro w g β args b8 iY hv ho hx;obtain⟨h1,h2⟩:=Js hm hΓ hf hb yG hL (h args b8 hx) Z7 hv ho;refine⟨h1,h2.mono λe w' ⟨v,G,e1,e2,e3⟩=> ?_⟩;obtain⟨x,hs,rfl⟩:=aeQ e2;exact⟨v,x,e1,hs,e3⟩
theorem Hj:∀(l:List (Tmp×Value)) (t:Array Value),(l.foldl (λtmps (x:Tmp×Value)=>tmps.setIfInBounds x.1 x.2) t).size=t.size
 |[],_=>rfl
 |x::l,t=>by rw[bJ,Hj l];simp
theorem Fj:∀(l:List (Tmp×aF)) (fs:List aF),(xF l fs).length=fs.length
 |[],_=>rfl
 |x::l,fs=>by rw[xF,Fj l];simp
theorem Hk{E:Env}:∀(ps:List Tmp) (vs:List aF) (us:List Value) (fs:List aF) (t:Array Value),wG E vs us->fs.length=t.size->(∀i,VS E (fs.getD i .undef) (t.getD i undef))->
  ∀i,VS E ((xF (ps.zip vs) fs).getD i .undef) (((ps.zip us).foldl (λtmps (x:Tmp×Value)=>tmps.setIfInBounds x.1 x.2) t).getD i undef)
 |[],_,_,fs,t,_,_,h=>by simpa[xF]using h
 |_::_,[],[],fs,t,_,_,h=>by simpa[xF]using h
 |_::_,[],_::_,_,_,h,_,_=>h.elim
 |_::_,_::_,[],_,_,h,_,_=>h.elim
 |p::ps,v::vs,u::us,fs,t,⟨h1,h2⟩,hl,h=>by
  simp only[List.zip_cons_cons,xF,bJ];refine Hk ps vs us _ _ h2 (by simpa using hl) λi=> ?_
  simp only[aJ,cJ,List.getElem?_set,dS,hl];have hi:=h i;simp only[aJ,cJ]at hi;split
  ·split
   ·simpa using h1
   ·simpa using VS.undef
  ·exact hi
theorem wG.split{E:Env}:∀(n:Nat) {as:List aF} {us ts:List Value},us.length=n->wG E as (us++ts)->wG E (as.take n) us/\wG E (as.drop n) ts
 | 0,as,[],ts,_,h=>by simpa using⟨trivial,h⟩
 | 0,as,_::_,ts,hn,h=>by simp at hn
 |n+1,as,[],ts,hn,h=>by simp at hn
 |n+1,[],u::us,ts,_,h=>h.elim
 |n+1,a::as,u::us,ts,hn,⟨h1,h2⟩=>by have:=wG.split n (by simpa using hn) h2;exact⟨⟨h1,this.1⟩,this.2⟩
theorem ajN{w:bV}{g:Nat->lA}{β:Id->Option Pl}{ps:Array Tmp}{args:List aF}{b8:List dE}{us ts:List Value}(hl:us.length=ps.size)(hv:wG ((fL b8).env w g β) args (us++ts))(ho:iR ((fL b8).env w g β)):
  Inv ⟨(fL b8).env w g β⟩ g β (UA ps.toList args b8) {tmps:=(ps.zip us.toArray).foldl (λtmps (t,a)=>tmps.setIfInBounds t a) ts.toArray,defers:=[]} w:=by
 obtain⟨h1,h2⟩:=wG.split ps.toList.length (by simpa using hl) hv;have cI:(UA ps.toList args b8).bS=(fL b8).bS:=by
  funext id;cases id with
  |bF k=>rfl
  |new i j=>
   simp only[UA,fL,AS.bS,aJ,List.getElem?_replicate];split <;> simp
 have ahW:(UA ps.toList args b8).env w g β=(fL b8).env w g β:=by simp only[AS.env,cI]
 have e:(ps.zip us.toArray).foldl (λtmps (x:Tmp×Value)=>tmps.setIfInBounds x.1 x.2) ts.toArray=(ps.toList.zip us).foldl (λtmps (x:Tmp×Value)=>tmps.setIfInBounds x.1 x.2) ts.toArray:=by rw[<-Array.foldl_toList,Array.toList_zip]
 have e':(ps.zip us.toArray).foldl (λtmps (t,a)=>tmps.setIfInBounds t a) ts.toArray=(ps.toList.zip us).foldl (λtmps (x:Tmp×Value)=>tmps.setIfInBounds x.1 x.2) ts.toArray:=e;rw[e'];refine⟨⟨ja,λ_ h=>by cases h⟩,?_,λi=> ?_,by rw[ahW];exact ho,Trans.refl _ _,by rw[ahW];exact cP.refl _⟩
 ·show Array.size _=(xF _ _).length;rw[Hj,Fj];simpa using h2.len.symm
 ·rw[ahW];exact Hk ps.toList _ us _ _ h1 (by simpa using h2.len) (λi=>by simpa[cJ,aJ]using h2.get i) i
theorem DG.yT(hm:P.follows .mixedOrders=aO)(hΓ:Sound P Γ){y:Nat}{fn:Func}{en:Entry}{an:zp}{N:Nat}(hL:mN P Γ an N (jv (CN P y).as++jv (CN P y).b))
  (h:∀args b8 x,en.run args b8=au x->acq P Γ an N fn args b8 au=au (en.out args b8 x)) (Z7:an.px=au y):DG P y en:=by
 intro w g β args b8 iY x hv ho hx l us ts f rd n aE8 re;have hN:=h args b8 x hx;unfold acq at hN;rw[Z7]at hN;simp only at hN;unfold avP at hN;split at hN;rotate_left
 ·cases hN
 rename_i args;split at hN
 ·cases hN
 rename_i hF;subst aE8;obtain⟨aCk,OK⟩:=hv;have hC:(Ctx.mk ((fL b8).env w g β)).ok:=⟨λi j=>by simp[AS.env,fL,AS.bS],λk v fr c hk=>adz hF hk⟩;obtain⟨cs,hV,hO⟩:=aCk;simp only[V]at hV;obtain⟨l',rfl,adO,fE⟩:=hV;have hl:l'=l:=by simpa[fT,aF.agg]using hO
 subst hl;have at_l:∀ {s:AS} {g1:Nat->lA} {β1:Id->Option Pl} {a:Act} {w1:bV} {pl:Pl},Inv ⟨(fL b8).env w g β⟩ g1 β1 s a w1->(s.env w1 g1 β1).cur (.bF 0) 0->β1 (.bF 0)=au pl->pl.b=l':=by intro s g1 β1 a w1 pl hi hc hp;obtain⟨c1,c2⟩:=hi.le.cur _ _ adO hc;obtain⟨pl',hp',rfl⟩:=fE c1;have c2:β1 (.bF 0)=β (.bF 0):=c2;have hp':β (.bF 0)=au pl':=hp';rw[c2,hp']at hp;exact(bK Pl.b (aQ hp)).symm
 refine roundIn_of_wpIn (F:=Fr rd) trivial ?_
 have adT:au l'=aH\/an.px.isSome=aO:= .inr (by rw[Z7];rfl);refine mQ (rd:=au l') hm hΓ hC adT _ hL.append.1 _ _ w _ _ ⟨g,β,ajN re OK ho⟩ hN λe s1 a1 w1 L9 ak4=> ?_
 cases e with
 |normal=>
  simp only at ak4;cases h1:s1.Ns 0 1 with
  |none=>rw[h1]at ak4;cases ak4
  |some s2=>
   rw[h1]at ak4;simp only[ax]at ak4;obtain⟨g1,β1,aAy⟩:=L9;obtain⟨pl,r,hp,hc,hb,nw,aEU⟩:=Ld aAy h1;have:=at_l aAy hc hp;subst this;refine⟨_,run_beginRound hb nw.1,?_⟩;have aGV:=aEU {r with state:= .busy} rfl rfl rfl rfl rfl;refine mQ (rd:=au pl.b) hm hΓ hC adT _ hL.append.2 _ _ _ _ _ ⟨_,_,aGV⟩ ak4 λe s3 a3 w3 aCh ax7=> ?_
   cases aAw:aAp e with
   |none=>rw[aAw]at ax7;cases ax7
   |some p=>
    rw[aAw]at ax7;simp only[ax]at ax7;cases h4:s3.Ns 1 p with
    |none=>rw[h4]at ax7;cases ax7
    |some s4=>
     rw[h4]at ax7;simp only at ax7;obtain⟨g3,β3,aIr⟩:=aCh;obtain⟨pl3,r3,aJt,aAt,aIi,aJD,hnext3⟩:=Ld aIr h4;have aJk:=at_l aIr aAt aJt;rw[aJk]at aIi hnext3
     have fin:∀(jump:Option Code) (b:Bool),ia p 0=jump.isNone->afq p (if jump.isNone then .ready else .done) jump->
       ∃v w',(Instr.endRound pl.b jump).run P w3= .ok v w'/\∃v',Ending.returned v= .returned v'/\rK ((fL b8).env w g β) (en.out (.yl (.bF 0) 0::args) b8 x) v' w':=λjump b hb hr=>by
      have aJc:=hnext3 {r3 with state:=if jump.isNone then .ready else .done,pending:=jump} rfl rfl rfl rfl hr;refine⟨_,_,run_endRound jump aIi,_,rfl,?_⟩;obtain⟨G,k1,k2⟩:=gT.1 ax7;simp only[az]at k2;subst k2;unfold akR at k1;obtain⟨sd,m1,k1⟩:=aw.1 k1;obtain⟨s5,m2,k1⟩:=aw.1 k1;obtain⟨s6,m3,k1⟩:=aw.1 k1;obtain⟨s7,m4,k1⟩:=aw.1 k1;obtain⟨g0,β0,ax6⟩:=yy _ ⟨_,_,aJc⟩ m1;obtain⟨g',β',hi⟩:=I1 _ (kW hC _ ⟨g0,β0,ax6.drop _⟩ m2) m3;have hi:=BX hC _ hi m4;rw[<-ay.1 k1,hb];exact Xw hi hC (ua _)
     cases e with
     |normal=>
      obtain rfl:=aQ aAw;exact fin aH aO rfl ⟨rfl,rfl⟩
     |ret=>
      obtain rfl:=aQ aAw;exact fin (au .ret) aV rfl ⟨rfl,rfl⟩
     |exit i=>
      obtain rfl:=aQ aAw;exact fin (au (.exit i)) aV rfl ⟨rfl,rfl⟩
     |goto _=>cases aAw
     |panic _=>cases aAw
     |outgrown=>cases aAw
 |_=>cases ak4
end
end Go.Ab
namespace Go.Ab
def dP(k:ki)(n:Int):Int:=k.wrap n
def bT(k:ki)(x y:Int):Int:=k.wrap (x+y)
def ed(k:ki)(x y:Int):Int:=k.wrap (x - y)
def iT(k:ki)(x y:Int):Int:=k.wrap (x*y)
def AE(k:ki)(x y:Int):Int:=k.wrap (x.tdiv y)
def tC(x y:Int):Int:=x.tmod y
def nM(k:ki)(x y:Int):Int:=k.wrap (x*2^(min y.toNat k.bits))
def cR(k:ki)(x y:Int):Int:=x.fdiv (2^(min y.toNat k.bits))
def Qw(x y:Int):Bool:=x==y
def DF(x y:Int):Bool:=x !=y
def iG(x y:Int):Bool:=decide (x < y)
def aad(x y:Int):Bool:=decide (x<=y)
def wC(x y:Int):Bool:=decide (x > y)
def zP(x y:Int):Bool:=decide (x>=y)
def seq(x y:ByteArray):Bool:=x.toList==y.toList
def afL(a:ByteArray)(i:Int):Int:=((a.data.toList.getD i.toNat 0).toNat:Int)
def AB(x y:Int):Int:=if y < x then y else x
def imax(x y:Int):Int:=if x < y then y else x
def iO(i n:Int):Bool:=decide (0<=i/\i < n)
def inc(i n:Int):Bool:=decide (0<=i/\i<=n)
def qN(y:Int):Bool:=decide (0<=y)
def qj(y:Int):Bool:= !(decide (y=0))
open Classical in
def eA.of{D X:Type}(st:D->AS)(fS:D->Prop)(F:D->X)(out:X->Out (Exit×AS)):eA:= {X,run:=λs=>if h:∃d,st d=s/\fS d then au (F h.choose) else aH,out}
open Classical in
theorem eA.yT{D X:Type}{st:D->AS}{fS:D->Prop}{F:D->X}{out:X->Out (Exit×AS)}(MO:∀d d',st d=st d'->d=d'){d:D}(h:fS d):(eA.of st fS F out).run (st d)=au (F d):=by have hex:∃d',st d'=st d/\fS d':=⟨d,rfl,h⟩;show(if h:∃d',st d'=st d/\fS d' then au (F h.choose) else aH)=_;rw[zJ hex,MO _ _ hex.choose_spec.1]
open Classical in
def aml.of{X:Type}(an:oU)(st:X->AS):aml:=
 {an,X,aGd:=λe s=>if h:e= .normal/\∃x,st x=s then au h.2.choose else aH,out:=λx=> .ok (.normal,st x),
  ok:=λe s x h=>by
   by_cases h1:e= .normal/\∃x,st x=s
   ·rw[zJ h1]at h;have h2:=h1.2.choose_spec;rw[aQ h]at h2;rw[h1.1,<-h2];rfl
   ·rw[zI h1]at h;cases h}
open Classical in
open Classical in
theorem akk.of{P:aL}{Γ:qh}{an:zp}{N:Nat}{fn:Func}{i:Nat}{D X:Type}{st:D->AS}{fS:D->Prop}{F:D->X}{out:X->Out (Exit×AS)}
  (hle:an.iE (dH (oe fn i))=au (eA.of st fS F out)) (h:∀d,fS d->∃n,M6 P Γ an N fn i n (st d) (λe s=>au (e,s))=(out (F d)).eval):akk P Γ an N (oe fn i):=by
 intro le hle';rw[hle]at hle';simp only[az]at hle';subst hle';refine⟨λ_ s x hx=> ?_,λS hS=>by cases hS⟩;change (if h:∃d',st d'=s/\fS d' then au (F h.choose) else aH)=au x at hx;split at hx
 ·rename_i hex;obtain rfl:=aQ hx;obtain⟨h1,h2⟩:=hex.choose_spec;obtain⟨n,hn⟩:=h _ h2;refine⟨n,?_⟩;show M6 P Γ an N fn i n s _=_;rw[h1]at hn;exact hn
 ·cases hx
theorem BA(P:aL)(Γ:qh)(an:zp)(N:Nat)(fn:Func)(i:Nat){R:Type}(n:Nat)(s:AS)(k:Exit->AS->Option R):M6 P Γ an N fn i (n+1) s k=ED P Γ an N fn i s (λs1=>M6 P Γ an N fn i n s1 k) k:=rfl
theorem alo{P:aL}{Γ:qh}{an:zp}{N:Nat}{fn:Func}{i:Nat}{D X:Type}{st:D->AS}{fS:D->Prop}{F:D->X}{out:X->Out (Exit×AS)}(μ:D->Nat)
  (h:∀d,fS d->(∃d',fS d'/\μ d' < μ d/\F d'=F d/\∀ {R:Type} (kn:AS->Option R) (kx:Exit->AS->Option R),ED P Γ an N fn i (st d) kn kx=kn (st d'))\/
   (∃r,(out (F d)).eval=au r/\∀ {R:Type} (kn:AS->Option R) (kx:Exit->AS->Option R),ED P Γ an N fn i (st d) kn kx=kx r.1 r.2)):
  ∀d,fS d->∃n,M6 P Γ an N fn i n (st d) (λe s=>au (e,s))=(out (F d)).eval:=by
 have key:∀m d,μ d=m->fS d->∃n,M6 P Γ an N fn i n (st d) (λe s=>au (e,s))=(out (F d)).eval:=by
  intro m
  induction m using Nat.strongRecOn with
  |_ m ih=>
   intro d hm hp;rcases h d hp with⟨d',hp',iJ,hF,hr⟩ | ⟨r,hr,hx⟩
   ·obtain⟨n,hn⟩:=ih (μ d') aq d' rfl hp';exact⟨n+1,by rw[BA,hr,hn,hF]⟩
   ·exact⟨1,by rw[BA,hx,hr]⟩
 exact λd hp=>key _ d rfl hp
open Classical in
def eA.Qc{D X Y:Type}(st:D->AS)(fS:D->Prop)(add:D->Y->X)(Post:D->Y->Prop)(out:X->Out (Exit×AS)):eA:= {X,run:=λ_=>aH,out,set:=au λs x=>∃d,st d=s/\fS d/\∃y,Post d y/\x=add d y}
def aCV{D X Y:Type}(st:D->AS)(fS:D->Prop)(add:D->Y->X)(Post:D->Y->Prop):D->X->Prop:=λd0 x=>∃d,st d=st d0/\fS d/\∃y,Post d y/\x=add d y
abbrev aq6{D X Y:Type}(set:D->X->Prop)(fS:D->Prop)(add:D->Y->X)(Post:D->Y->Prop):Prop:=∀ {d:D} {R:Type} {k:X->Option R} {r:Option R},fS d->(∃y,Post d y)->(∀y,Post d y->k (add d y)=r)->P2 (set d) k=r
theorem aFv{D X Y:Type}{st:D->AS}{fS:D->Prop}{add:D->Y->X}{Post:D->Y->Prop}(MO:∀d d',st d=st d'->d=d'):aq6 (aCV st fS add Post) fS add Post:=λh h1 h2=>by
 obtain⟨y,hy⟩:=h1;refine ZI ⟨_,_,rfl,h,y,hy,rfl⟩ λx hx=> ?_
 obtain⟨d',h3,_,y',h4,rfl⟩:=hx;obtain rfl:=MO _ _ h3;exact h2 y' h4
abbrev akl(P:aL)(G:qh)(an:zp)(N:Nat)(fn:Func)(i:Nat){D X Y:Type}(st:D->AS)(fS:D->Prop)(add:D->Y->X)(Post:D->Y->Prop)(out:X->Out (Exit×AS)):Prop:=∀d,fS d->∃n,∀k:Exit->AS->Option Unit,(∀y e s,Post d y->(out (add d y)).eval=au (e,s)->k e s=au ())->M6 P G an N fn i n (st d) k=au ()
theorem akk.Qc{P:aL}{Γ:qh}{an:zp}{N:Nat}{fn:Func}{i:Nat}{D X Y:Type}{st:D->AS}{fS:D->Prop}{add:D->Y->X}{Post:D->Y->Prop}{out:X->Out (Exit×AS)}
  (h:akl P Γ an N fn i st fS add Post out) (hle:an.iE (dH (oe fn i))=au (eA.Qc st fS add Post out)):akk P Γ an N (oe fn i):=by
 intro le hle';rw[hle]at hle';simp only[az]at hle';subst hle';refine⟨λhS=>(by cases hS),λS hS s hs=> ?_⟩;obtain rfl:=aQ hS;obtain⟨x,d,rfl,hp,y,hy,rfl⟩:=hs;obtain⟨n,hn⟩:=h d hp;exact⟨n,hn _ λy e s h1 h2=>auo ⟨add d y,⟨d,rfl,hp,y,h1,rfl⟩,h2⟩⟩
theorem amH{n:Nat}{Q:Nat->Nat->Prop}(h:∀j,j < n->∃N,∀M,N<=M->Q j M):∃N,∀M,N<=M->∀j,j < n->Q j M:=by
 induction n with
 |zero=>exact⟨0,λ_ _ j hj=>aq⟩
 |succ n ih=>
  obtain⟨N1,h1⟩:=ih λj hj=>h j aq
  obtain⟨N2,h2⟩:=h n aq;refine⟨max N1 N2,λM hM j hj=> ?_⟩;by_cases aIu:j=n
  ·subst aIu;exact h2 M aq
  ·exact h1 M aq j aq
theorem atW{P:aL}{Γ:qh}{an:zp}{N:Nat}{fn:Func}{i:Nat}{D X:Type}{st:D->AS}{fS:D->Prop}{F:D->X}{out:X->Out (Exit×AS)}(μ:D->Nat)
  (h:∀d,fS d->(∃(m:Nat) (d':Nat->D),0 < m/\(∀j,j < m->fS (d' j)/\μ (d' j) < μ d/\F (d' j)=F d)/\∀ {R:Type} (kn:AS->Option R) (kx:Exit->AS->Option R),ED P Γ an N fn i (st d) kn kx=asw m λj=>kn (st (d' j)))\/
   (∃r,(out (F d)).eval=au r/\∀ {R:Type} (kn:AS->Option R) (kx:Exit->AS->Option R),ED P Γ an N fn i (st d) kn kx=kx r.1 r.2)):
  ∀d,fS d->∃n,M6 P Γ an N fn i n (st d) (λe s=>au (e,s))=(out (F d)).eval:=by
 have key:∀m d,μ d=m->fS d->∃n,∀M,n<=M->M6 P Γ an N fn i M (st d) (λe s=>au (e,s))=(out (F d)).eval:=by
  intro m
  induction m using Nat.strongRecOn with
  |_ m ih=>
   intro d hm hp;rcases h d hp with⟨c,d',hc,hd,hr⟩ | ⟨r,hr,hx⟩
   ·obtain⟨n,hn⟩:=amH (n:=c) (Q:=λj M=>M6 P Γ an N fn i M (st (d' j)) (λe s=>au (e,s))=(out (F d)).eval) λj hj=>by obtain⟨h1,h2,h3⟩:=hd j hj;obtain⟨n,hn⟩:=ih (μ (d' j)) aq (d' j) rfl h1;exact⟨n,λM hM=>by rw[hn M hM,h3]⟩
    refine⟨n+1,λM hM=> ?_⟩;obtain⟨M,rfl⟩:∃M',M=M'+1:=⟨M - 1,aq⟩;rw[BA,hr];exact asx hc λj hj=>hn M aq j hj
   ·refine⟨1,λM hM=> ?_⟩;obtain⟨M,rfl⟩:∃M',M=M'+1:=⟨M - 1,aq⟩;rw[BA,hx,hr]
 exact λd hp=>let⟨n,hn⟩:=key _ d rfl hp;⟨n,hn n (aC _)⟩
theorem aet{P:aL}{Γ:qh}{an:zp}{N:Nat}{fn:Func}{i:Nat}{D X:Type}{st:D->AS}{fS:D->Prop}{F:D->X}{ex:X->Exit×AS}(μ:D->Nat)(h:∀d,fS d->(∃d',fS d'/\μ d' < μ d/\F d'=F d/\∀ {R:Type} (kn:AS->Option R) (kx:Exit->AS->Option R),ED P Γ an N fn i (st d) kn kx=kn (st d'))\/(∀ {R:Type} (kn:AS->Option R) (kx:Exit->AS->Option R),ED P Γ an N fn i (st d) kn kx=kx (ex (F d)).1 (ex (F d)).2)):∀d,fS d->∃n,M6 P Γ an N fn i n (st d) (λe s=>au (e,s))=(Out.ok (ex (F d))).eval:=alo (out:=λx=> .ok (ex x)) μ λd hp=>(h d hp).imp id λh=>⟨_,rfl,h⟩
open Classical in
def Entry.of{D X:Type}(params:List (Option Ty))(st:D->List aF×List dE)(fS:D->Prop)(F:D->X)(out:X->iq):Entry:= {params,X,run:=λargs b8=>if h:∃d,st d=(args,b8)/\fS d then au (F h.choose) else aH,out:=λ_ _=>out}
open Classical in
theorem Entry.yT{D X:Type}{params:List (Option Ty)}{st:D->List aF×List dE}{fS:D->Prop}{F:D->X}{out:X->iq}(MO:∀d d',st d=st d'->d=d'){d:D}(h:fS d):
  (Entry.of params st fS F out).run (st d).1 (st d).2=au (F d):=by
 have hex:∃d',st d'=((st d).1,(st d).2)/\fS d':=⟨d,rfl,h⟩;show(if h:∃d',st d'=((st d).1,(st d).2)/\fS d' then au (F h.choose) else aH)=_;rw[zJ hex,MO _ _ hex.choose_spec.1]
open Classical in
theorem alB{D X:Type}{params:List (Option Ty)}{st:D->List aF×List dE}{fS:D->Prop}{F:D->X}{out:X->iq}{args:List aF}{b8:List dE}{x:X}(hx:(Entry.of params st fS F out).run args b8=au x):∃d,st d=(args,b8)/\fS d/\x=F d:=by
 change (if h:∃d',st d'=(args,b8)/\fS d' then au (F h.choose) else aH)=au x at hx;split at hx
 ·rename_i hex;obtain rfl:=aQ hx;exact⟨_,hex.choose_spec.1,hex.choose_spec.2,rfl⟩
 ·cases hx
theorem nI.of{P:aL}{Γ:qh}(hm:P.follows .mixedOrders=aO)(hΓ:Sound P Γ){f:fw}{fn:Func}(hf:P.funcs[f]? =au fn)(hb:fn.body.isSome=aO)(yG:(fn.name== "runtime.NumGoroutine")=aV){an:zp}{N:Nat}
  (hL:∀c,fn.body=au c->mN P Γ an N (jv c)) {D X:Type} {params:List (Option Ty)} {st:D->List aF×List dE} {fS:D->Prop} {F:D->X} {out:X->iq}
  (h:∀d,fS d->acq P Γ an N fn (st d).1 (st d).2 au=au (out (F d))) (Z7:an.px=aH:=by exact rfl):nI P f (Entry.of params st fS F out):=by
 refine nI.yT hm hΓ hf hb yG hL (λargs b8 x hx=> ?_) Z7;obtain⟨d,e1,e2,rfl⟩:=alB hx;have:=h d e2;rw[e1]at this;exact this
def aq3(P:aL)(Γ:qh)(an:zp)(N:Nat)(fn:Func):Nat->Nat->Prop
 | 0,_=>True
 |n+1,i=>akk P Γ an N (oe fn i)/\aq3 P Γ an N fn n (i+1)
theorem aq3.get{P:aL}{Γ:qh}{an:zp}{N:Nat}{fn:Func}:∀ {n i:Nat},aq3 P Γ an N fn n i->∀j,j < n->akk P Γ an N (oe fn (i+j))
 | 0,_,_,j,hj=>aq
 |n+1,i,h,0,_=>h.1
 |n+1,i,h,j+1,hj=>by have:=aq3.get h.2 j aq;rwa[show i+1+j=i+(j+1) by omega]at this
theorem mN.aun{P:aL}{Γ:qh}{an:zp}{N:Nat}:∀(l:List Code),(∀j,j < l.length->akk P Γ an N (l.getD j .skip))->mN P Γ an N l
 |[],_=>trivial
 |b::l,h=>⟨h 0 (by simp),mN.aun l λj hj=>by have:=h (j+1) (by simpa using hj);simpa using this⟩
theorem mN.fn{P:aL}{Γ:qh}{an:zp}{N:Nat}{fn:Func}(n:Nat)(hn:(match fn.body with | some c=>(jv c).length | none=>0)=n)(h:aq3 P Γ an N fn n 0):∀c,fn.body=au c->mN P Γ an N (jv c):=by
 intro c hc;refine mN.aun _ λj hj=> ?_
 rw[hc]at hn;simp only at hn;have:=h.get j aq;unfold oe at this;rw[hc]at this;simpa using this
theorem akk.none{P:aL}{Γ:qh}{an:zp}{N:Nat}{fn:Func}{i:Nat}(h:an.iE (dH (oe fn i))=aH):akk P Γ an N (oe fn i):=λle hle=>by
 rw[h]at hle;cases hle
def aEj:qh:=λ_ _=>aH
theorem Sound.nil(P:aL):Sound P aEj:=λ_ _ _ h=>by cases h
def as2(f:fw)(p:List aF->Bool)(en:Entry)(Γ:qh):qh:=λg vs=>match ia g f with | true=>(match p vs with | true=>au en | false=>Γ g vs) | false=>Γ g vs
theorem Sound.cons{P:aL}{f:fw}{p:List aF->Bool}{en:Entry}{Γ:qh}(h:nO P f en)(hΓ:Sound P Γ):Sound P (as2 f p en Γ):=λg vs e hg=>by
 unfold as2 at hg;split at hg
 ·rename_i he;have:g=f:=eW he;split at hg
  ·simp only[az]at hg;subst hg this;exact h
  ·exact hΓ g vs e hg
 ·exact hΓ g vs e hg
theorem aAo{t:Ty}{x y:t.den}(h:aF.d t x=aF.d t y):x=y:=by injection h with _ h
theorem aAa{e:TypeId}{t:Ty}{x y:List t.den}(h:aF.vec e t x=aF.vec e t y):x=y:=by injection h with _ _ h
def wI:List aF->Bool:=λ_=>aO
def aoF:List aF->Bool | .dd::_=>aO | _=>aV
def YH:List aF->Bool | .cM .. ::_=>aO | _=>aV
@[simp] theorem aj{α:Type}(x y:Option α):aP aO x y=x:=rfl
@[simp] theorem ao{α:Type}(x y:Option α):aP aV x y=y:=rfl
@[simp] theorem ag{α β:Type}(x:α)(f:α->Option β):ax (au x) f=f x:=rfl
@[simp] theorem apY{α:Type}(c:tm)(x:Option α):same c c x=x:=by simp[same]
@[simp] theorem Cz{α:Type}(x:Option α):nd x x=x:=by simp[nd]
structure SG(P:aL) where
 f:fw
 p:List aF->Bool
 e:Entry
 h:nO P f e
def pS{P:aL}:List (SG P)->qh
 |[]=>aEj
 |a::l=>as2 a.f a.p a.e (pS l)
theorem Sound.pS{P:aL}:∀l:List (SG P),Sound P (pS l)
 |[]=>Sound.nil P
 |a::l=>Sound.cons a.h (Sound.pS l)
abbrev SA:=List aF×List dE
def QO(P:aL)(G:qh)(an:zp)(N:Nat)(fn:Func){D:Type}(st:D->SA){R:Type}(d:D)(k:iq->Option R):Option R:=acq P G an N fn (st d).1 (st d).2 k
def gw(P:aL)(G:qh)(an:zp)(N:Nat)(fn:Func)(i:Nat){D:Type}(st:D->AS){R:Type}(d:D)(kn:AS->Option R)(kx:Exit->AS->Option R):Option R:=ED P G an N fn i (st d) kn kx
abbrev amj{D X Y:Type}(A: {R:Type}->D->(iq->Option R)->Option R)(fS:D->Prop)(add:D->Y->X)(F:D->Y)(out:X->iq):Prop:=∀d,fS d->A d au=au (out (add d (F d)))
abbrev qu(P:aL)(G:qh)(an:zp)(N:Nat)(fn:Func)(i:Nat){D X Y:Type}(st:D->AS)(fS:D->Prop)(add:D->Y->X)(F:D->Y)(out:X->Out (Exit×AS)):Prop:=∀d,fS d->∃n,M6 P G an N fn i n (st d) (λe s=>au (e,s))=(out (add d (F d))).eval
abbrev aq0{D X Y:Type}(R: {R:Type}->D->(AS->Option R)->(Exit->AS->Option R)->Option R)(st:D->AS)(fS:D->Prop)(add:D->Y->X)(F:D->Y)(ex:X->Exit×AS)(C:Prop):Prop:=∀μ:D->Nat,(∀d,fS d->(∃d',fS d'/\μ d' < μ d/\add d' (F d')=add d (F d)/\∀ {T:Type} (kn:AS->Option T) (kx:Exit->AS->Option T),R d kn kx=kn (st d'))\/(∀ {T:Type} (kn:AS->Option T) (kx:Exit->AS->Option T),R d kn kx=kx (ex (add d (F d))).1 (ex (add d (F d))).2))->C
abbrev yd{D X Y:Type}(R: {R:Type}->D->(AS->Option R)->(Exit->AS->Option R)->Option R)(st:D->AS)(fS:D->Prop)(add:D->Y->X)(F:D->Y)(out:X->Out (Exit×AS))(C:Prop):Prop:=∀μ:D->Nat,(∀d,fS d->(∃d',fS d'/\μ d' < μ d/\add d' (F d')=add d (F d)/\∀ {T:Type} (kn:AS->Option T) (kx:Exit->AS->Option T),R d kn kx=kn (st d'))\/(∃r,(out (add d (F d))).eval=au r/\∀ {T:Type} (kn:AS->Option T) (kx:Exit->AS->Option T),R d kn kx=kx r.1 r.2))->C
abbrev aA7{D X Y:Type}(R: {R:Type}->D->(AS->Option R)->(Exit->AS->Option R)->Option R)(st:D->AS)(fS:D->Prop)(add:D->Y->X)(F:D->Y)(ex:X->Exit×AS)(C:Prop):Prop:=∀μ:D->Nat,(∀d,fS d->(∃(m:Nat) (d':Nat->D),0 < m/\(∀j,j < m->fS (d' j)/\μ (d' j) < μ d/\add (d' j) (F (d' j))=add d (F d))/\∀ {T:Type} (kn:AS->Option T) (kx:Exit->AS->Option T),R d kn kx=asw m λj=>kn (st (d' j)))\/(∀ {T:Type} (kn:AS->Option T) (kx:Exit->AS->Option T),R d kn kx=kx (ex (add d (F d))).1 (ex (add d (F d))).2))->C
theorem aEa{P:aL}{G:qh}{an:zp}{N:Nat}{fn:Func}{i:Nat}{D X Y:Type}{st:D->AS}{fS:D->Prop}{add:D->Y->X}{F:D->Y}{ex:X->Exit×AS}:aA7 (gw P G an N fn i st) st fS add F ex (qu P G an N fn i st fS add F λx=> .ok (ex x)):=λ μ h=>atW (F:=λd=>add d (F d)) (out:=λx=> .ok (ex x)) μ λd hp=>(h d hp).imp id λh=>⟨_,rfl,h⟩
theorem aBq{P:aL}{G:qh}{an:zp}{N:Nat}{fn:Func}{i:Nat}{D X Y:Type}{st:D->AS}{fS:D->Prop}{add:D->Y->X}{F:D->Y}{ex:X->Exit×AS}:aq0 (gw P G an N fn i st) st fS add F ex (qu P G an N fn i st fS add F λx=> .ok (ex x)):=λ μ h=>aet (F:=λd=>add d (F d)) μ h
theorem zr{P:aL}{G:qh}{an:zp}{N:Nat}{fn:Func}{i:Nat}{D X Y:Type}{st:D->AS}{fS:D->Prop}{add:D->Y->X}{F:D->Y}{out:X->Out (Exit×AS)}:yd (gw P G an N fn i st) st fS add F out (qu P G an N fn i st fS add F out):=λ μ h=>alo (F:=λd=>add d (F d)) (out:=out) μ h
def th:List (Nat×oU)->Nat->oU
 |[],_=> {}
 |a::l,r=>bif ia r a.1 then a.2 else th l r
def tg:List (Nat×oU×oU)->Nat->Bool->oU
 |[],_,_=> {}
 |a::l,r,b=>bif ia r a.1 then(bif b then a.2.2 else a.2.1) else tg l r b
def uA.{v} {α:Type v}:List (Nat×α)->Nat->Option α
 |[],_=>aH
 |a::l,r=>bif ia r a.1 then au a.2 else uA l r
inductive Lf where
 |d (t:Ty)
 |n
@[reducible] def Lf.den:Lf->Type
 | .d t=>t.den
 | .n=>Nat
@[reducible] def Lf.aqA:List Lf->Type
 |[]=>Unit
 |[a]=>a.den
 |a::b::l=>a.den×Lf.aqA (b::l)
abbrev aD5:=List (Sigma Lf.den)
def Lf.mk:(ts:List Lf)->Lf.aqA ts->aD5
 |[],_=> []
 |[a],x=> [⟨a,x⟩]
 |a::b::l,x=>⟨a,x.1⟩::Lf.mk (b::l) x.2
theorem Lf.mk_inj:∀(ts:List Lf) (x y:Lf.aqA ts),Lf.mk ts x=Lf.mk ts y->x=y
 |[],_,_,_=>rfl
 |[a],x,y,h=>by
  injection h with h _
  injection h
 |a::b::l,(x,u),(y,v),h=>by
  injection h with h h2
  injection h with _ h
  have h:x=y:=h;rw[h,Lf.mk_inj (b::l) u v h2]
def aF.leaves:aF->aD5
 | .d .unit _=> []
 | .d (.arr _ t) l=> [⟨.d (.slice t),l⟩]
 | .d t x=> [⟨.d t,x⟩]
 | .eG t x=> [⟨.d t,x⟩]
 | .vec _ t l=> [⟨.d (.slice t),l⟩]
 | .mp k v l=> [⟨.d (.slice (.pair k v)),l⟩]
 | .qa _ _ k v l _=> [⟨.d (.slice (.pair k v)),l⟩]
 | .uN _ f _=>f.leaves
 | .cM _ _ _ _ _ n=> [⟨.n,n⟩]
 | .pr a b=>a.leaves++b.leaves
 | .cons a b=>a.leaves++b.leaves
 | .fn _ c=>c.leaves
 | .bx _ _ c=>c.leaves
 |_=> []
def dE.leaves:dE->aD5
 | .obj _ _ c=>c.leaves
 | .dead=> []
def SA.leaves(s:SA):aD5:=s.1.flatMap aF.leaves++s.2.flatMap dE.leaves
def AS.leaves(s:AS):aD5:=s.cn.flatMap aF.leaves++(s.b8.flatMap dE.leaves++s.news.flatMap (·.flatMap dE.leaves))
theorem an7(ts:List Lf){st:Lf.aqA ts->SA}(h:∀d,SA.leaves (st d)=Lf.mk ts d)(d d':Lf.aqA ts)(e:st d=st d'):d=d':=Lf.mk_inj ts d d' (by rw[<-h,<-h,e])
theorem sy(ts:List Lf){st:Lf.aqA ts->AS}(h:∀d,AS.leaves (st d)=Lf.mk ts d)(d d':Lf.aqA ts)(e:st d=st d'):d=d':=Lf.mk_inj ts d d' (by rw[<-h,<-h,e])
def Entry.iB{D X Y:Type}(params:List (Option Ty))(st:D->SA)(fS:D->Prop)(add:D->Y->X)(F:D->Y)(out:X->iq):Entry:=Entry.of params st fS (λd=>add d (F d)) out
def aIL{X Y:Type}(x:X⊕Y):Out (X⊕Y):= .br x.isLeft (.get x.getLeft? λa=> .ok (.inl a)) (.get x.getRight? λb=> .ok (.inr b))
theorem aC2{X Y:Type}(x y:X⊕Y)(h:(aIL x).eval=au y):y=x:=by cases x <;> exact(aQ h).symm
def Entry.aix{D X X' Y:Type}(params:List (Option Ty))(st:D->SA)(fS:D->Prop)(add:D->Y->X⊕X')(F:D->Y)(out:X⊕X'->iq):Entry:= {Entry.iB params st fS add F out with sp:=aIL,al7:=aC2}
theorem DG.aFC{P:aL}{y:Nat}{D X X' Y:Type}{params:List (Option Ty)}{st:D->SA}{fS:D->Prop}{add:D->Y->X⊕X'}{F:D->Y}{out:X⊕X'->iq}(h:DG P y (Entry.iB params st fS add F out)):DG P y (Entry.aix params st fS add F out):=h
theorem nI.aFC{P:aL}{f:fw}{D X X' Y:Type}{params:List (Option Ty)}{st:D->SA}{fS:D->Prop}{add:D->Y->X⊕X'}{F:D->Y}{out:X⊕X'->iq}(h:nI P f (Entry.iB params st fS add F out)):nI P f (Entry.aix params st fS add F out):=h
def Entry.Qc{D X Y:Type}(params:List (Option Ty))(st:D->SA)(fS:D->Prop)(add:D->Y->X)(Post:D->Y->Prop)(out:X->iq):Entry:= {params,X,run:=λ_ _=>aH,out:=λ_ _ x=>out x,rel:=aO,set:=λargs b8 x=>∃d,st d=(args,b8)/\fS d/\∃y,Post d y/\x=add d y}
def aFy{D:Type}(E:Entry)(st:D->SA):D->E.X->Prop:=λd=>E.set (st d).1 (st d).2
theorem aFw{D X Y:Type}{params:List (Option Ty)}{st:D->SA}{fS:D->Prop}{add:D->Y->X}{Post:D->Y->Prop}{out:X->iq}(MO:∀d d',st d=st d'->d=d'):aq6 (aFy (Entry.Qc params st fS add Post out) st) fS add Post:=λh h1 h2=>by
 obtain⟨y,hy⟩:=h1;refine ZI ⟨_,_,rfl,h,y,hy,rfl⟩ λx hx=> ?_
 obtain⟨d',h3,_,y',h4,rfl⟩:=hx;obtain rfl:=MO _ _ h3;exact h2 y' h4
abbrev aAh{D X Y:Type}(A: {R:Type}->D->(iq->Option R)->Option R)(fS:D->Prop)(add:D->Y->X)(Post:D->Y->Prop)(out:X->iq):Prop:=∀d,fS d->∀k:iq->Option Unit,(∀y,Post d y->k (out (add d y))=au ())->A d k=au ()
def eA.iB{D X Y:Type}(st:D->AS)(fS:D->Prop)(add:D->Y->X)(F:D->Y)(out:X->Out (Exit×AS)):eA:=eA.of st fS (λd=>add d (F d)) out
def W4{D:Type}(E:Entry)(st:D->SA):D->Option E.X:=λd=>E.run (st d).1 (st d).2
def lg{D:Type}(E:eA)(st:D->AS):D->Option E.X:=λd=>E.run (st d)
abbrev nK{D X Y:Type}(call:D->Option X)(fS:D->Prop)(add:D->Y->X)(F:D->Y):Prop:=∀ {d:D},fS d->call d=au (add d (F d))
theorem aFx{D X Y:Type}{params:List (Option Ty)}{st:D->SA}{fS:D->Prop}{add:D->Y->X}{F:D->Y}{out:X->iq}(MO:∀d d',st d=st d'->d=d'):nK (W4 (Entry.iB params st fS add F out) st) fS add F:=λh=>Entry.yT MO h
theorem al6{D X X' Y:Type}{params:List (Option Ty)}{st:D->SA}{fS:D->Prop}{add:D->Y->X⊕X'}{F:D->Y}{out:X⊕X'->iq}(MO:∀d d',st d=st d'->d=d'){d:D}(h:fS d):(Entry.aix params st fS add F out).run (st d).1 (st d).2=au (add d (F d)):=aFx (params:=params) (out:=out) MO h
theorem tR{D X Y:Type}{st:D->AS}{fS:D->Prop}{add:D->Y->X}{F:D->Y}{out:X->Out (Exit×AS)}(MO:∀d d',st d=st d'->d=d'):nK (lg (eA.iB st fS add F out) st) fS add F:=λh=>eA.yT MO h
def anw(P:aL)(fn:Func):Bool:=P.follows .mixedOrders && fn.body.isSome && !(fn.name== "runtime.NumGoroutine")
def anD(fn:Func):Nat:=match fn.body with | some c=>(jv c).length | none=>0
theorem nI.fn{P:aL}{l:List (SG P)}{f:fw}{fn:Func}{an:zp}{N:Nat}{D X Y:Type}{params:List (Option Ty)}{st:D->SA}{fS:D->Prop}{add:D->Y->X}{F:D->Y}{out:X->iq}(n:Nat)
  (hc:(P.funcs[f]?,anw P fn,anD fn)=(au fn,aO,n))
  (h:amj (@QO P (pS l) an N fn D st) fS add F out)
  (hL:aq3 P (pS l) an N fn n 0) (Z7:an.px=aH:=by exact rfl):nI P f (Entry.iB params st fS add F out):=by
 injection hc with h1 h2
 injection h2 with h2 h3
 unfold anw at h2;simp only[al,bP]at h2;exact nI.of h2.1.1 (Sound.pS l) h1 h2.1.2 h2.2 (mN.fn n h3 hL) h Z7
theorem Ja.fn{P:aL}{l:List (SG P)}{f:fw}{fn:Func}{an:zp}{N:Nat}{D X Y:Type}{params:List (Option Ty)}{st:D->SA}{fS:D->Prop}{add:D->Y->X}{Post:D->Y->Prop}{out:X->iq}(n:Nat)
  (hc:(P.funcs[f]?,anw P fn,anD fn)=(au fn,aO,n))
  (h:aAh (@QO P (pS l) an N fn D st) fS add Post out)
  (hL:aq3 P (pS l) an N fn n 0) (Z7:an.px=aH:=by exact rfl):Ja P f (Entry.Qc params st fS add Post out):=by
 injection hc with h1 h2
 injection h2 with h2 h3
 unfold anw at h2;simp only[al,bP]at h2;refine Ja.yT h2.1.1 (Sound.pS l) h1 h2.1.2 h2.2 (mN.fn n h3 hL) (λargs b8 hx=> ?_) Z7;obtain⟨x,d,e,hp,y,hy,rfl⟩:=hx;have:=h d hp (λG=>aCN (∃x,(Entry.Qc params st fS add Post out).set args b8 x/\G=(Entry.Qc params st fS add Post out).out args b8 x)) λy hy=>auo ⟨_,⟨d,e,hp,y,hy,rfl⟩,rfl⟩
 unfold QO at this;rw[e]at this;exact this
theorem DG.fn{P:aL}{l:List (SG P)}{y:Nat}{an:zp}{N:Nat}{D X Y:Type}{params:List (Option Ty)}{st:D->SA}{fS:D->Prop}{add:D->Y->X}{F:D->Y}{out:X->iq}(n:Nat)
  (hc:(P.follows .mixedOrders,anD (aA2 P y))=(aO,n))
  (h:amj (@QO P (pS l) an N (aA2 P y) D st) fS add F out)
  (hL:aq3 P (pS l) an N (aA2 P y) n 0) (Z7:an.px=au y):DG P y (Entry.iB params st fS add F out):=by
 injection hc with h1 h2
 refine DG.yT h1 (Sound.pS l) (fn:=aA2 P y) (mN.fn (fn:=aA2 P y) n h2 hL _ rfl) (λargs b8 x hx=> ?_) Z7;obtain⟨d,e1,e2,rfl⟩:=alB hx;have:=h d e2;unfold QO at this;rw[e1]at this;exact this
theorem akk.iB{P:aL}{Γ:qh}{an:zp}{N:Nat}{fn:Func}{i:Nat}{D X Y:Type}{st:D->AS}{fS:D->Prop}{add:D->Y->X}{F:D->Y}{out:X->Out (Exit×AS)}
  (h:qu P Γ an N fn i st fS add F out) (hle:an.iE (dH (oe fn i))=au (eA.iB st fS add F out):=by kernel_rfl):akk P Γ an N (oe fn i):=akk.of hle h
abbrev K1(R:Type):=iq->Option R
abbrev K2(R:Type):=AS->Option R
abbrev K3(R:Type):=Exit->AS->Option R
@[reducible] def bG{D Y:Type}(_:D)(y:Y):Y:=y
structure Ls{D Y X:Type}(fS:D->Prop)(add:D->Y->X)(F:D->Y) where
 st:D->AS
 ex:X->Exit×AS
noncomputable def wh{D Y X:Type}{fS:D->Prop}{add:D->Y->X}{F:D->Y}(st:D->AS)(ex:X->Exit×AS):Ls fS add F:=⟨st,ex⟩
section
variable {D Y X:Type} {fS:D->Prop} {add:D->Y->X} {F:D->Y} (L:Ls fS add F)
def Ls.out:X->Out (Exit×AS):=λx=> .ok (L.ex x)
def Ls.E:eA:=eA.iB L.st fS add F L.out
def Ls.call:D->Option X:=lg L.E L.st
abbrev Ls.go{R:Type}(kx:K3 R)(x:X):Option R:=kx (L.ex x).1 (L.ex x).2
abbrev Ls.RS:Prop:=nK L.call fS add F
end
theorem rL(ts:List Lf){Y X:Type}{fS:Lf.aqA ts->Prop}{add:Lf.aqA ts->Y->X}{F:Lf.aqA ts->Y}(L:Ls fS add F)(h:∀d,AS.leaves (L.st d)=Lf.mk ts d:=by exact λ_=>cW):nK L.call fS add F:=tR (sy ts h)
structure Fs(P:aL){D Y X:Type}(fS:D->Prop)(add:D->Y->X)(F:D->Y) where
 i:fw
 fn:Func
 st:D->SA
 out:X->iq
 ps:List (Option Ty)
 G:List (SG P)
 an:zp
 N:Nat
noncomputable def gf{P:aL}{D Y X:Type}{fS:D->Prop}{add:D->Y->X}{F:D->Y}(i:fw)(fn:Func)(st:D->SA)(out:X->iq)(ps:List (Option Ty))(G:List (SG P):=[])(an:zp:= {})(N:Nat:=0):Fs P fS add F:=⟨i,fn,st,out,ps,G,an,N⟩
section
variable {P:aL} {D Y X:Type} {fS:D->Prop} {add:D->Y->X} {F:D->Y} (f:Fs P fS add F) {D' Y' X':Type} {Pre':D'->Prop} {add':D'->Y'->X'} {F':D'->Y'}
def Fs.A{R:Type}(d:D)(k:K1 R):Option R:=QO P (pS f.G) f.an f.N f.fn f.st d k
def Fs.R(i:Nat)(L:Ls Pre' add' F'){R:Type}(d:D')(kn:K2 R)(kx:K3 R):Option R:=gw P (pS f.G) f.an f.N f.fn i L.st d kn kx
abbrev Fs.Ok:Prop:=∀d,fS d->f.A d au=au (f.out (add d (F d)))
abbrev Fs.mN(i:Nat)(L:Ls Pre' add' F'):Prop:=qu P (pS f.G) f.an f.N f.fn i L.st Pre' add' F' L.out
def Fs.E:Entry:=Entry.iB f.ps f.st fS add F f.out
def Fs.call:D->Option X:=W4 f.E f.st
theorem Fs.px(i:Nat)(L:Ls Pre' add' F'):aq0 (@Fs.R P D Y X fS add F f D' Y' X' Pre' add' F' i L) L.st Pre' add' F' L.ex (f.mN i L):=λ μ h=>aet (F:=λd=>add' d (F' d)) μ h
theorem Fs.aFu(i:Nat)(L:Ls Pre' add' F'):aA7 (@Fs.R P D Y X fS add F f D' Y' X' Pre' add' F' i L) L.st Pre' add' F' L.ex (f.mN i L):=aEa
abbrev Fs.RS:Prop:=nK f.call fS add F
def Fs.aGi(p:List aF->Bool)(ok:f.Ok)(n:Nat:=0)(hL:aq3 P (pS f.G) f.an f.N f.fn n 0:=by exact trivial)(hc:(P.funcs[f.i]?,anw P f.fn,anD f.fn)=(au f.fn,aO,n):=by kernel_rfl)(hy:Nat.blt f.i yB=aO:=by exact rfl)(hn:f.an.px=aH:=by exact rfl):SG P:=⟨f.i,p,f.E,.of (nI.fn n hc ok hL hn) hy⟩
def Fs.aJV(ok:f.Ok)(n:Nat:=0)(hL:aq3 P (pS f.G) f.an f.N f.fn n 0:=by exact trivial)(hc:(P.follows .mixedOrders,anD (aA2 P f.i))=(aO,n):=by kernel_rfl)(hf:f.fn=aA2 P f.i:=by exact rfl)(hy:Nat.ble yB f.i=aO:=by exact rfl)(hn:f.an.px=au f.i:=by exact rfl):SG P:=
 ⟨f.i,wI,f.E,.aJQ (DG.fn n hc (by have:=ok;unfold Fs.Ok Fs.A at this;rw[hf]at this;exact this) (by rw[<-hf];exact hL) hn) hy⟩
def Fs.gr(ok:f.Ok)(n:Nat:=0)(hL:aq3 P (pS f.G) f.an f.N f.fn n 0:=by exact trivial)(hc:(P.funcs[f.i]?,anw P f.fn,anD f.fn)=(au f.fn,aO,n):=by kernel_rfl)(hy:Nat.blt f.i yB=aO:=by exact rfl)(hn:f.an.px=aH:=by exact rfl):SG P:=f.aGi wI ok n hL hc hy hn
end
theorem rE(ts:List Lf){P:aL}{Y X:Type}{fS:Lf.aqA ts->Prop}{add:Lf.aqA ts->Y->X}{F:Lf.aqA ts->Y}(f:Fs P fS add F)(h:∀d,SA.leaves (f.st d)=Lf.mk ts d:=by exact λ_=>cW):nK f.call fS add F:=aFx (an7 ts h)
abbrev tu:Ty:=(.int .u64)
abbrev ti:Ty:=(.int .i64)
abbrev tb:Ty:=(.int .u8)
abbrev tB:Ty:=(.slice tb)
abbrev Bs:=(List Int)
abbrev tH:Ty:=(.arr 32 tb)
abbrev tU:Ty:=(.slice tu)
abbrev cV:Ty:=(.pair tH (.pair ti .unit))
abbrev dC:=(Bs×(Int×Unit))
abbrev LK:Ty:=(.pair tu (.pair tu .unit))
abbrev Sg:=(Int×(Int×Unit))
abbrev awZ:Ty:=(.pair ti (.pair (.slice LK) (.pair tu .unit)))
abbrev QQ:=(Int×((List Sg)×(Int×Unit)))
abbrev gB:Ty:=(.pair cV (.pair awZ .unit))
abbrev gU:=(dC×(QQ×Unit))
abbrev pT:Ty:=(.pair tU (.pair ti (.pair ti (.pair tu .unit))))
abbrev rI:=(Bs×(Int×(Int×(Int×Unit))))
abbrev I9:Ty:=(.pair (.slice pT) .unit)
abbrev Lk:=((List rI)×Unit)
abbrev nu:Ty:=(.pair ti (.pair I9 .unit))
abbrev jo:=(Int×(Lk×Unit))
abbrev jk:Ty:=(.pair (.slice gB) (.pair (.slice nu) (.pair ti .unit)))
abbrev fN:=((List gU)×((List jo)×(Int×Unit)))
abbrev rJ:Ty:=(.pair tB (.pair .bool .unit))
abbrev gJ:=(Bs×(Bool×Unit))
abbrev aJW:Ty:=(.pair ti (.pair (.fX LK) (.pair tu .unit)))
abbrev aGr:=(Int×((Option (List Sg))×(Int×Unit)))
abbrev qe:Ty:=(.pair cV (.pair aJW .unit))
abbrev Am:=(dC×(aGr×Unit))
end Go.Ab
namespace Go.Ab
theorem pZ{n:Int}(h1: -9223372036854775808<=n)(h2:n<=9223372036854775807):IntKind.i64.wrap n=n:=by simp[IntKind.wrap,IntKind.bits,IntKind.signed];split <;> omega
theorem eU{x y:Int}(h1: -9223372036854775808<=x+y)(h2:x+y<=9223372036854775807):bT .i64 x y=x+y:=pZ h1 h2
theorem eV{x y:Int}(h1: -9223372036854775808<=x - y)(h2:x - y<=9223372036854775807):ed .i64 x y=x - y:=pZ h1 h2
theorem Bx{x y:Int}(h1: -9223372036854775808<=x*y)(h2:x*y<=9223372036854775807):iT .i64 x y=x*y:=pZ h1 h2
theorem ala{x:Int}(h1: -9223372036854775808<=x)(h2:x<=9223372036854775807):dP .i64 x=x:=pZ h1 h2
def vw{n:Nat}(w:BitVec n):Int:=(w.toNat:Int)
theorem lR(n:Nat)(x:Int):vw (aX n x)=x%((2^n:Nat):Int):=by unfold vw;rw[qq];have:0<=x%((2^n:Nat):Int):=j7 _ (by have:=Nat.two_pow_pos n;omega);omega
theorem YU{n:Nat}(w:BitVec n):0<=vw w:=gI _
theorem aAZ{n:Nat}(w:BitVec n):vw w < ((2^n:Nat):Int):=by have:=w.isLt;unfold vw;omega
theorem vD{n:Nat}(w:BitVec n):aX n (vw w)=w:=by apply BitVec.eq_of_toNat_eq;have:=lR n (vw w);unfold vw at this ⊢;have h:=w.isLt;rw[ff (gI _) aq]at this;omega
theorem wrap_u32(x:Int):IntKind.u32.wrap x=vw (aX 32 x):=by rw[lR];simp[IntKind.wrap,IntKind.bits,IntKind.signed]
theorem wrap_u64(x:Int):IntKind.u64.wrap x=vw (aX 64 x):=by rw[lR];simp[IntKind.wrap,IntKind.bits,IntKind.signed]
theorem wrap_u8(x:Int):IntKind.u8.wrap x=vw (aX 8 x):=by rw[lR];simp[IntKind.wrap,IntKind.bits,IntKind.signed]
theorem ofInt_add(n:Nat)(x y:Int):aX n (x+y)=aX n x+aX n y:=BitVec.ofInt_add ..
theorem R7(x y:BitVec 32):bT .u32 (vw x) (vw y)=vw (x+y):=by rw[bT,wrap_u32,BitVec.ofInt_add,vD,vD]
theorem aym(x:Int):dP .u32 x=vw (aX 32 x):=wrap_u32 x
theorem alb(x:Int):dP .u64 x=vw (aX 64 x):=wrap_u64 x
theorem aac(x:Int):dP .u8 x=vw (aX 8 x):=wrap_u8 x
theorem at9{n:Nat}(x:BitVec n):aX n ((x.toNat:Nat):Int)=x:=vD x
theorem FW(op:BinOp)(x y:BitVec 32):di op .u32 (vw x) (vw y)=vw (match op with | .and=>x &&& y | .or=>x ||| y | .xor=>x^^^y | _=>x &&& ~~~y):=by unfold di;split <;> (simp only[IntKind.bits,vD,wrap_u32,at9];rfl)
theorem amE(op:BinOp)(x y:BitVec 64):di op .u64 (vw x) (vw y)=vw (match op with | .and=>x &&& y | .or=>x ||| y | .xor=>x^^^y | _=>x &&& ~~~y):=by unfold di;split <;> (simp only[IntKind.bits,vD,wrap_u64,at9];rfl)
theorem asL(x y:Nat):Int.fdiv (x:Int) (y:Int)=((x / y:Nat):Int):=by rw[Int.fdiv_eq_ediv_of_nonneg _ (gI _)];rfl
theorem LZ(k:Nat):(2:Int)^k=((2^k:Nat):Int):=by simp
theorem aCY{n:Nat}(w:BitVec n)(k:Nat):Int.fdiv (vw w) (2^(min k n))=vw (w >>> k):=by
 rw[LZ];unfold vw;rw[asL,BitVec.toNat_ushiftRight,Nat.shiftRight_eq_div_pow];congr 1;rcases Nat.le_total k n with hk | hk
 ·rw[fF hk]
 ·rw[Nat.min_eq_right hk,Nat.div_eq_of_lt w.isLt,Nat.div_eq_of_lt];exact Nat.lt_of_lt_of_le w.isLt (Nat.pow_le_pow_right aq hk)
theorem Sj(w:BitVec 32)(k:Int):cR .u32 (vw w) k=vw (w >>> k.toNat):=aCY w k.toNat
theorem aCX{n:Nat}(w:BitVec n)(k:Nat):aX n (vw w*2^(min k n))=w <<< k:=by
 apply BitVec.eq_of_toNat_eq;rw[qq,BitVec.toNat_shiftLeft,Nat.shiftLeft_eq];unfold vw;rw[LZ];have e:((w.toNat:Int)*((2^min k n:Nat):Int))=((w.toNat*2^min k n:Nat):Int):=by simp
 rw[e];have:(((w.toNat*2^min k n:Nat):Int)%((2^n:Nat):Int)).toNat=(w.toNat*2^min k n)%2^n:=aq;rw[this];rcases Nat.le_total k n with hk | hk
 ·rw[fF hk]
 ·rw[Nat.min_eq_right hk,Nat.mul_mod_left];obtain⟨m,rfl⟩:=Nat.exists_eq_add_of_le hk;rw[nR,<-Nat.mul_assoc,Nat.mul_right_comm,Nat.mul_mod_left]
theorem aed(w:BitVec 32)(k:Int):nM .u32 (vw w) k=vw (w <<< k.toNat):=by rw[nM,wrap_u32];congr 1;exact aCX w k.toNat
theorem bB{i n:Int}(h1:0<=i)(h2:i < n):iO i n=aO:=by simp[iO,h1,h2]
theorem lJ{i n:Int}(h1:0<=i)(h2:i<=n):inc i n=aO:=by simp[inc,h1,h2]
theorem bh{x y:Int}(h:x < y):iG x y=aO:=by simp[iG,h]
theorem aW{x y:Int}(h:¬x < y):iG x y=aV:=by simp[iG];omega
theorem p9{x y:Int}(h:x<=y):aad x y=aO:=by simp[aad,h]
theorem jO{x y:Int}(h:¬x<=y):aad x y=aV:=by simp[aad];omega
theorem dy{x y:Int}(h:x > y):wC x y=aO:=by simp[wC];omega
theorem cY{x y:Int}(h:¬x > y):wC x y=aV:=by simp[wC];omega
theorem ik{x y:Int}(h:x>=y):zP x y=aO:=by simp[zP];omega
theorem eN{x y:Int}(h:¬x>=y):zP x y=aV:=by simp[zP];omega
theorem jV{x y:Int}(h:x=y):Qw x y=aO:=by simp[Qw,h]
theorem gQ{x y:Int}(h:¬x=y):Qw x y=aV:=by simp[Qw,h]
theorem fY{x y:Int}(h:¬x=y):DF x y=aO:=by simp[DF,h]
theorem dX{x y:Int}(h:x=y):DF x y=aV:=by simp[DF,h]
theorem vC{x:Int}(h:0<=x):qN x=aO:=by simp[qN,h]
theorem aM{p:Prop} [Decidable p] (h:p):decide p=aO:=by simp[h]
theorem cz{p:Prop} [Decidable p] (h:¬p):decide p=aV:=by simp[h]
theorem dN{n b:Nat}(h:n*b<=140737488355328)(h2:n<=9223372036854775807):dI n b=aO:=by simp[dI,h,h2]
def from_{α:Type}(f:Nat->α->α)(t:Nat)(l:List α):List α:=l.mapIdx λi x=>if i < t then x else f i x
theorem Xz{α:Type}(f:Nat->α->α)(l:List α)(t:Nat)(h:t < l.length):from_ f (t+1) (l.set t (f t l[t]))=from_ f t l:=by
 unfold from_;apply oR (by simp);intro i h1 h2;simp only[List.getElem_mapIdx,List.getElem_set];by_cases hi:t=i
 ·subst hi;simp
 ·simp only[if_neg hi];by_cases h3:i < t
  ·rw[if_pos aq,if_pos h3]
  ·rw[if_neg aq,if_neg h3]
theorem adE{α:Type}(f:Nat->α->α)(l:List α)(t:Nat)(h:l.length<=t):from_ f t l=l:=by unfold from_;apply oR (by simp);intro i h1 h2;simp only[List.getElem_mapIdx];rw[if_pos aq]
theorem RR{α:Type}(f:Nat->α->α)(n:Nat)(x:α):from_ f 0 (ai n x)=(List.range n).map λi=>f i x:=by unfold from_;apply oR (by simp);intro i h1 h2;simp
theorem db{t:Ty}{l:List t.den}{i:Nat}(h:i < l.length):nth t l i=l[i]:=by simp[nth,h]
end Go.Ab
namespace Go.Ab.N
section
variable {α:Type} {x y:Option α} {a b n:Nat} {i j:Int}
theorem lt:aP (iG i j) x y=if i < j then x else y:=by unfold iG;split <;> rename_i h <;> simp[h]
theorem le:aP (aad i j) x y=if i<=j then x else y:=by unfold aad;split <;> rename_i h <;> simp[h]
theorem gt:aP (wC i j) x y=if j < i then x else y:=by unfold wC;split <;> rename_i h <;> simp[h]
theorem ge:aP (zP i j) x y=if j<=i then x else y:=by unfold zP;split <;> rename_i h <;> simp[h]
theorem eq:aP (Qw i j) x y=if i=j then x else y:=by
 by_cases h:i=j
 ·rw[jV h,if_pos h];rfl
 ·rw[gQ h,if_neg h];rfl
theorem ne:aP (DF i j) x y=if i=j then y else x:=by
 by_cases h:i=j
 ·rw[dX h,if_pos h];rfl
 ·rw[fY h,if_neg h];rfl
theorem ib:aP (iO i j) x y=if 0<=i/\i < j then x else y:=by unfold iO;split <;> rename_i h <;> simp[h]
theorem ic:aP (inc i j) x y=if 0<=i/\i<=j then x else y:=by unfold inc;split <;> rename_i h <;> simp[h]
theorem nn:aP (qN i) x y=if 0<=i then x else y:=by unfold qN;split <;> rename_i h <;> simp[h]
theorem nz:aP (qj i) x y=if i=0 then y else x:=by unfold qj;split <;> rename_i h <;> simp[h]
theorem dc{p:Prop} [Decidable p]:aP (decide p) x y=if p then x else y:=by split <;> rename_i h <;> simp[h]
theorem rm:aP (dI n b) x y=if n*b<=140737488355328/\n<=9223372036854775807 then x else y:=by unfold dI;exact dc
theorem an{c d:Bool}:aP (c && d) x y=aP c (aP d x y) y:=by cases c <;> rfl
theorem or{c d:Bool}:aP (c || d) x y=aP c x (aP d x y):=by cases c <;> rfl
theorem no{c:Bool}:aP (!c) x y=aP c y x:=by cases c <;> rfl
theorem aFP(h:a+b<=9223372036854775807):bT .i64 (a:Int) (b:Int)=((a+b:Nat):Int):=by rw[eU aq aq];omega
theorem pV(h:a+du n<=9223372036854775807):bT .i64 (a:Int) (no_index (du n))=((a+du n:Nat):Int):=aFP h
theorem aIc(h:du n+a<=9223372036854775807):bT .i64 (no_index (du n)) (a:Int)=((du n+a:Nat):Int):=aFP h
theorem aGh(h:b<=a)(h2:a<=9223372036854775807):ed .i64 (a:Int) (b:Int)=((a - b:Nat):Int):=by rw[eV aq aq];omega
theorem aIK(h:du n<=a)(h2:a<=9223372036854775807):ed .i64 (a:Int) (no_index (du n))=((a - du n:Nat):Int):=aGh h h2
theorem aIJ(h:a<=du n)(h2:(du n:Nat)<=9223372036854775807):ed .i64 (no_index (du n)) (a:Int)=((du n - a:Nat):Int):=aGh h h2
theorem aGe(h:a*b<=9223372036854775807):iT .i64 (a:Int) (b:Int)=((a*b:Nat):Int):=by
 have e:(a:Int)*(b:Int)=((a*b:Nat):Int):=by simp
 rw[Bx aq aq,e]
theorem aIH(h:a*du n<=9223372036854775807):iT .i64 (a:Int) (no_index (du n))=((a*du n:Nat):Int):=aGe h
theorem aFj(h:du n*a<=9223372036854775807):iT .i64 (no_index (du n)) (a:Int)=((du n*a:Nat):Int):=aGe h
theorem aHH(h:a<=9223372036854775807):AE .i64 (a:Int) (b:Int)=((a / b:Nat):Int):=by
 have:(a:Int).tdiv (b:Int)=((a / b:Nat):Int):=by rw[jT aq];simp
 have hl:a / b<=a:=Nat.div_le_self a b;unfold AE;rw[this];generalize a / b=c at hl;exact pZ aq aq
theorem aII(h:a<=9223372036854775807):AE .i64 (a:Int) (no_index (du n))=((a / du n:Nat):Int):=aHH h
theorem aHJ:tC (a:Int) (b:Int)=((a%b:Nat):Int):=by unfold tC;rw[gY aq];simp
theorem aHI:tC (a:Int) (no_index (du n))=((a%du n:Nat):Int):=aHJ
theorem cN(h:a<=9223372036854775807):dP .i64 (a:Int)=(a:Int):=ala aq aq
theorem cL(h:(du n:Nat)<=9223372036854775807):dP .i64 (no_index (du n))=du n:=cN h
theorem tL:ab (no_index (du n))=du n:=rfl
end
end Go.Ab.N
namespace Go.Ab
section
variable {P:aL}
theorem asG{E E':Env}(h1:E'.w=E.w)(h2:E'.g=E.g)(h3:E'.β=E.β)(h4:E'.s=E.s):E'=E:=by obtain⟨a,b,c,d⟩:=E;obtain⟨a',b',c',d'⟩:=E';simp only at h1 h2 h3 h4;subst h1 h2 h3 h4;rfl
theorem rK.same{w:bV}{g:Nat->lA}{β:Id->Option Pl}{b8:List dE}{a:aF}{v:Value}(hv:VS ((fL b8).env w g β) a v)(ho:iR ((fL b8).env w g β)):
  rK ((fL b8).env w g β) ⟨a,b8,[]⟩ v w:=by
 have hE:(iq.st ⟨a,b8,[]⟩).env w g β=(fL b8).env w g β:=by
  refine asG rfl rfl rfl ?_
  funext id;cases id with
  |bF k=>rfl
  |new i j=>
   show([([]:List dE)].getD i [])[j]? =(([]:List (List dE)).getD i [])[j]?
   cases i <;> rfl
 refine⟨g,β,?_⟩;rw[hE];exact⟨hv,ho,Trans.refl w g,cP.refl _⟩
theorem nI.extern{f:fw}{fn:Func}{e:Array Value->Sem Value}(hf:P.funcs[f]? =au fn)(yG:(fn.name== "runtime.NumGoroutine")=aV)(hb:fn.body.isNone=aO)(hn:Extern.findNext fn=aH)(he:Extern.find fn=au e){en:Entry}
  (h:∀w g β args b8 iY x,wG ((fL b8).env w g β) args iY->iR ((fL b8).env w g β)->en.run args b8=au x->∃v,(e iY.toArray).run P w= .ok v w/\rK ((fL b8).env w g β) (en.out args b8 x) v w):nI P f en:=by
 intro w g β args b8 iY x h1 h2 h3;obtain⟨v,h4,h5⟩:=h w g β args b8 iY x h1 h2 h3;refine .inr ⟨v,w,?_,h5⟩;rw[run_callFunc_extern hf yG hb hn he,h4];rfl
def aAP.E:Entry:= {params:=[aH],X:=Unit,run:=λargs _=>match args with | [_]=>au () | _=>aH,out:=λargs b8 _=>⟨args.headD .undef,b8,[]⟩}
theorem aAP.of{f:fw}{fn:Func}(hf:P.funcs[f]? =au fn)(yG:(fn.name== "runtime.NumGoroutine")=aV)(hb:fn.body.isNone=aO)(hn:Extern.findNext fn=aH)(he:Extern.find fn=au Extern.AbiNoEscape.same):nI P f aAP.E:=by
 refine nI.extern hf yG hb hn he λw g β args b8 iY x h1 h2 h3=> ?_
 cases args with
 |nil=>cases h3
 |cons a as=>
  cases as with
  |cons _ _=>cases h3
  |nil=>
   cases iY with
   |nil=>exact h1.elim
   |cons v vs=>
    obtain⟨h4,h5⟩:=h1;cases vs with
    |cons _ _=>exact h5.elim
    |nil=>exact⟨v,rfl,rK.same h4 h2⟩
theorem YA{w:bV}:∀(xs:List Int) (a:Addr) (acc:ByteArray),(∀j x,xs[j]? =au x->w.cell? (a.add j)=au (.int .u8 x))->
  (Extern.Bytes.loadBytes a xs.length acc).run P w= .ok ⟨acc.data++(xs.map λn=>fm n.toNat).toArray⟩ w
 |[],a,acc,_=>by simp[Extern.Bytes.loadBytes]
 |x::l,a,acc,h=>by
  have h0:w.cell? a=au (.int .u8 x):=by have:=h 0 x rfl;simpa[Addr.add]using this
  have ih:=YA l (a.add 1) (acc.push x.toNat.toUInt8) (λj y hy=>by
   have:=h (j+1) y (by simpa using hy);have e:(a.add 1).add j=a.add (j+1):=by
    unfold Addr.add;by_cases hj:j=0
    ·subst hj;simp
    ·simp[hj];omega
   rw[e];exact this)
  simp only[aB,Extern.Bytes.loadBytes,cg,run_load,h0,Result.andThen];rw[ih];congr 1;apply ByteArray.ext;simp[ByteArray.push]
theorem Um{E:Env}{l:List Int}{y:Value}(h:VS E (.d (.slice (.int .u8)) l) y):(Extern.Bytes.bytesOf y).run P E.w= .ok (fC l) E.w:=by
 obtain⟨a,cap,vs,rfl,_,hs,pP,uq⟩:=sK h;have J9:=vj (k:= .u8) (vs:=vs) (l:=l) uq;cases a with
 |none=>
  have hl:l=[]:=by
   cases l with
   |nil=>rfl
   |cons _ _=>simp at hs
  subst hl;rfl
 |some ad=>
  have as9:=YA (P:=P) (w:=E.w) l ad .empty λj x hx=>by
   obtain⟨b,off,e,hh⟩:=pP j (.int .u8 x) (by rw[J9];simp[hx]);have e:ad=⟨b,off,aH⟩:=by simpa using e
   subst e;have h1:=hh.1;unfold Addr.add;by_cases hj:j=0
   ·subst hj;simpa using h1
   ·simpa[hj]using h1
  show(Extern.Bytes.loadBytes ad l.length .empty).run P E.w=_;rw[as9];congr 1;apply ByteArray.ext;simp[fC]
def VB(a b:List Int):Int:=Extern.BytealgCompare.cmp (fC a) (fC b)
def aks:Entry:=Entry.of (D:=List Int×List Int) (X:=Int) [au (.slice (.int .u8)),au (.slice (.int .u8))] (λd=>([.d (.slice (.int .u8)) d.1,.d (.slice (.int .u8)) d.2],[])) (λ_=>True) (λd=>VB d.1 d.2) (λx=>⟨.d (.int .i64) x,[],[]⟩)
theorem aw7:∀d d':List Int×List Int,(([aF.d (.slice (.int .u8)) d.1,aF.d (.slice (.int .u8)) d.2],([]:List dE)):List aF×List dE)=([.d (.slice (.int .u8)) d'.1,.d (.slice (.int .u8)) d'.2],[])->d=d':=by rintro⟨a,b⟩ ⟨a',b'⟩ h;have e1:a=a':=aAo (t:= .slice (.int .u8)) (bK (λs:List aF×List dE=>s.1.getD 0 .undef) h);have e2:b=b':=aAo (t:= .slice (.int .u8)) (bK (λs:List aF×List dE=>s.1.getD 1 .undef) h);rw[e1,e2]
def acu:List Int×List Int->Option Int:=λd=>aks.run [.d (.slice (.int .u8)) d.1,.d (.slice (.int .u8)) d.2] []
theorem akt(d:List Int×List Int):acu d=au (VB d.1 d.2):=Entry.yT (d:=d) aw7 trivial
theorem aBi{f:fw}{fn:Func}(hf:P.funcs[f]? =au fn)(yG:(fn.name== "runtime.NumGoroutine")=aV)(hb:fn.body.isNone=aO)(hn:Extern.findNext fn=aH)(he:Extern.find fn=au Extern.BytealgCompare.compare):nI P f aks:=by
 refine nI.extern hf yG hb hn he λw g β args b8 iY x h1 h2 h3=> ?_
 have hx:∃d:List Int×List Int,(([aF.d (.slice (.int .u8)) d.1,aF.d (.slice (.int .u8)) d.2],([]:List dE)):List aF×List dE)=(args,b8):=by
  by_cases hh:∃d:List Int×List Int,(([aF.d (.slice (.int .u8)) d.1,aF.d (.slice (.int .u8)) d.2],([]:List dE)):List aF×List dE)=(args,b8)
  ·exact hh
  ·exfalso;have hn:aks.run args b8=aH:=zI λ⟨d,h,_⟩=>hh ⟨d,h⟩
   rw[hn]at h3;cases h3
 obtain⟨d,hd⟩:=hx;simp only[cF]at hd;obtain⟨rfl,rfl⟩:=hd;have hr:=akt d;have hx:x=VB d.1 d.2:=aQ (h3.symm.trans hr);subst hx
 match iY,h1 with
 |[u,v],⟨h4,h5,_⟩=>
  refine⟨.int .i64 (VB d.1 d.2),?_,rK.same (kS _ _) h2⟩;have e1:=Um (P:=P) h4;have e2:=Um (P:=P) h5;have e1:(Extern.Bytes.bytesOf u).run P w= .ok (fC d.1) w:=e1;have e2:(Extern.Bytes.bytesOf v).run P w= .ok (fC d.2) w:=e2;have aBU:Extern.BytealgCompare.compare [u,v].toArray=(do let a <-Extern.Bytes.bytesOf u;let b <-Extern.Bytes.bytesOf v;pure (goInt (Extern.BytealgCompare.cmp a b))):=rfl;rw[aBU];simp[e1,e2,goInt,VB]
def aGs{X Y:Type} [Inhabited Y] (x:Option X):Option (X×Y):=ax x λy=>au (y,default)
def aGt{X Y:Type} [Inhabited X] (x:Option Y):Option (X×Y):=ax x λy=>au (default,y)
@[simp] theorem aDr{X Y:Type} [Inhabited Y] (x:X):aGs (Y:=Y) (au x)=au (x,default):=rfl
@[simp] theorem aDs{X Y:Type} [Inhabited X] (x:Y):aGt (X:=X) (au x)=au (default,x):=rfl
def Entry.half(params:List (Option Ty)){X Z:Type}(run:List aF->List dE->Option X)(out:List aF->List dE->X->iq)(i:Z->X)(p:X->Option Z):Entry:= {params,X:=Z,run:=λa o=>(run a o).bind p,out:=λa o z=>out a o (i z)}
def te{X Z:Type}(p:X->Option Z)(x:Option X):Option Z:=x.bind p
theorem nI.half{f:fw}{params:List (Option Ty)}{X Z:Type}{run:List aF->List dE->Option X}{out:List aF->List dE->X->iq}{i:Z->X}{p:X->Option Z}(hp:∀x z,p x=au z->x=i z)
  (h:nI P f {params,X,run,out}):nI P f (Entry.half params run out i p):=by
 intro w g β args b8 iY z h3 h4 h5;have h5:(run args b8).bind p=au z:=h5;cases hr:run args b8 with
 |none=>rw[hr]at h5;cases h5
 |some x=>
  rw[hr]at h5;obtain rfl:=hp x z h5;exact h w g β args b8 iY (i z) h3 h4 hr
end
theorem S1:(type_of% @N.lt)/\(type_of% @N.le)/\(type_of% @N.gt)/\(type_of% @N.ge)/\(type_of% @N.eq)/\(type_of% @N.ne)/\(type_of% @N.ib)/\(type_of% @N.ic)/\(type_of% @N.nn)/\(type_of% @N.nz)/\(type_of% @N.dc)/\(type_of% @N.rm)/\(type_of% @N.an)/\(type_of% @N.or)/\(type_of% @N.no)/\(type_of% @aj)/\(type_of% @ao)/\(type_of% @ag):=⟨@N.lt,@N.le,@N.gt,@N.ge,@N.eq,@N.ne,@N.ib,@N.ic,@N.nn,@N.nz,@N.dc,@N.rm,@N.an,@N.or,@N.no,@aj,@ao,@ag⟩
theorem S2:(type_of% @ag)/\(type_of% @N.aFP)/\(type_of% @N.pV)/\(type_of% @N.aIc)/\(type_of% @N.aGh)/\(type_of% @N.aIK)/\(type_of% @N.aIJ)/\(type_of% @N.aGe)/\(type_of% @N.aIH)/\(type_of% @N.aFj)/\(type_of% @N.aHH)/\(type_of% @N.aII)/\(type_of% @N.aHJ)/\(type_of% @N.aHI)/\(type_of% @N.cN)/\(type_of% @N.cL)/\(type_of% @N.tL)/\(type_of% @aa)/\(type_of% @lH)/\(type_of% @true_and)/\(type_of% @ea):=⟨@ag,@N.aFP,@N.pV,@N.aIc,@N.aGh,@N.aIK,@N.aIJ,@N.aGe,@N.aIH,@N.aFj,@N.aHH,@N.aII,@N.aHJ,@N.aHI,@N.cN,@N.cL,@N.tL,@aa,@lH,@true_and,@ea⟩
end Go.Ab
namespace Go.Ab
open Go.ChangeShapes Go.WideShapes Go.ChangeAt Go.RowKit Go.Deep
def aqP:(t:Ty)->t.den->Prop
 | .int k,x=>(Lit.int k x).wf=aO
 | .bool,_=>True
 | .str,s=>(s:ByteArray).size<=maxLen
 | .slice t,l=>(l:List t.den).length<=maxLen/\∀x∈(l:List t.den),aqP t x
 | .unit,_=>True
 | .pair a b,x=>aqP a x.1/\aqP b x.2
 | .arr n t,l=>(l:List t.den).length=n/\∀x∈(l:List t.den),aqP t x
 | .fX _,_ | .nL _,_ | .gR _,_=>False
def yC(P:aL)(rd:TypeId->Ty->Bool):Nat->List Field->Ty->Bool
 |_,[],.unit=>aO
 |off,f::fs,.pair a b=>ia f.offset off && (rd f.type a && (ia (P.cellsOf f.type) a.size && yC P rd (off+a.size) fs b))
 |_,_,_=>aV
def AU(P:aL):Nat->TypeId->Ty->Bool
 | 0,_,_=>aV
 |n+1,T,ty=>
  match P.underlying T,ty with
  |some (.int k),.int k'=>decide (k=k')
  |some .bool,.bool=>aO
  |some .string,.str=>aO
  |some (.slice e),.slice t=>AU P n e t && ia (P.cellsOf e) t.size
  |some (.array k e),.arr k' t=>ia k k' && (AU P n e t && (ia (P.cellsOf e) t.size && ia (P.cellsOf T) (k*t.size)))
  |some (.struct fs),ty=>yC P (AU P n) 0 fs.toList ty && ia (P.cellsOf T) ty.size
  |_,_=>aV
theorem axe{a b:Nat}:(ia a b=aO)=(a=b):=propext ⟨eW,λh=>by subst h;exact Nat.beq_refl a⟩
theorem aev{α β:Type}{f:α->Option β}:∀ {l:List α} {r:List β},l.mapM f=au r->r.length=l.length/\∀(i:Nat) (x:α),l[i]? =au x->f x=r[i]?
 |[],r,h=>by simp only[List.mapM_nil,Option.pure_def,az]at h;subst h;exact⟨rfl,λi x h=>by simp at h⟩
 |y::l,r,h=>by
  simp only[List.mapM_cons,Option.bind_eq_bind,Option.pure_def,Option.bind_eq_some_iff,az]at h;obtain⟨b,hb,r',hr,rfl⟩:=h;obtain⟨h1,h2⟩:=aev hr;refine⟨by simp[h1],λi x hi=> ?_⟩;cases i with
  |zero=>
   simp only[fR,az]at hi;subst hi;simpa using hb
  |succ i=>
   simp only[lE]at hi ⊢;exact h2 i x hi
theorem am2{w:bV}{base:Nat}{a:Addr}{n:Nat}{cs:List Value}(h:w.cells? base a n=au cs):cs.length=n/\∀i,i < n->w.cell? (a.add i)=cs[i]? :=by
 unfold World.cells? at h;split at h
 ·obtain⟨h1,h2⟩:=aev h;exact⟨by simpa using h1,λi hi=>h2 i i (by simp[hi])⟩
 ·cases h
theorem add_add(a:Addr)(x y:Nat):(a.add x).add y=a.add (x+y):=by unfold Addr.add;by_cases hx:x=0 <;> by_cases hy:y=0 <;> simp[hx,hy,dZ]
theorem aqa{w:bV}{a:Addr}{v:Value}(h:w.cell? a=au v):a.spot=aH:=by
 unfold eI at h;split at h
 ·split at h
  ·cases h
  ·rename_i hs;cases hh:a.spot with
   |none=>rfl
   |some _=>simp[hh]at hs
 ·cases h
theorem aCU{E:Env}(hg:∀b,E.g b= .free){a:Addr}{vs:List Value}(h:∀i,i < vs.length->E.w.cell? (a.add i)=vs[i]?):wB E (au a) vs:=by
 intro i v hv;have hi:i < vs.length:=(dF.1 hv).1;have h0:=h 0 aq;rw[bW aq]at h0;have hs:a.spot=aH:=aqa (a:=a) (by simpa[Addr.add]using h0);obtain⟨b,off,sp⟩:=a;simp only at hs;subst hs;refine⟨b,off,rfl,?_,?_⟩
 ·have:=h i hi;rw[hv]at this;rw[<-this];unfold Addr.add;split
  ·rename_i h;subst h;rfl
  ·rfl
 ·unfold rH;rw[hg b];trivial
section
variable {H:Type} {enc:TypeId×Value->H} {P:aL} {base:Nat} {spare:Nat->Bool} {held:Bool} {E:Env}
theorem al4{t:Ty}{R:List Value->t.den->Prop}{G:t.den->Prop}{w:bV}{a:Addr}{z:Nat}(hR:∀c x,R c x->c.length=z):∀(len:Nat),(∀i,i < len->∃c x,R c x/\G x/\∀j,j < z->w.cell? (a.add (i*z+j))=c[j]?)->
  ∃(vs:List Value) (l:List t.den),vs.length=len*z/\l.length=len/\(∀i,i < vs.length->w.cell? (a.add i)=vs[i]?)/\bq R vs l/\∀x∈l,G x
 | 0,_=>⟨[],[],by simp,rfl,λi h=>by simp at h,rfl,λ_ h=>by cases h⟩
 |len+1,h=>by
  obtain⟨vs,l,h1,h2,h3,h4,h5⟩:=al4 hR len λi hi=>h i aq
  obtain⟨c,x,g1,g2,g3⟩:=h len aq;have hc:=hR c x g1;refine⟨vs++c,l++ [x],by rw[ak,h1,hc,eH,iv],by rw[ak,h2];rfl,λi hi=> ?_,bq.append h4 ⟨c,[],by simp,g1,rfl⟩,λy hy=> ?_⟩
  ·rw[ak,h1,hc]at hi;by_cases hl:i < vs.length
   ·rw[h3 i hl,fu hl]
   ·rw[List.getElem?_append_right aq,h1,<-g3 (i - len*z) aq,show len*z+(i - len*z)=i by omega]
  ·rcases bp.1 hy with hy | hy
   ·exact h5 y hy
   ·rw[bf.1 hy];exact g2
theorem W8{t:Ty}{R:List Value->t.den->Prop}{G:t.den->Prop}{z:Nat}:∀(n:Nat) (cs:List Value),cs.length=n*z->(∀i,i < n->∃x,R ((cs.drop (i*z)).take z) x/\G x)->
  ∃l:List t.den,l.length=n/\bq R cs l/\∀x∈l,G x
 | 0,cs,h,_=>⟨[],rfl,bm (by simpa using h),λ_ h=>by cases h⟩
 |n+1,cs,h,hi=>by
  obtain⟨x,g1,g2⟩:=hi 0 aq;obtain⟨l,h1,h2,h3⟩:=W8 (R:=R) (G:=G) (z:=z) n (cs.drop z) (by rw[cv,h,eH];omega) λi ak3=>by obtain⟨y,k1,k2⟩:=hi (i+1) aq;refine⟨y,?_,k2⟩;rw[fU,show z+i*z=(i+1)*z by rw[eH];omega];exact k1
  refine⟨x::l,by simp[h1],⟨cs.take z,cs.drop z,(da z cs).symm,by simpa using g1,h2⟩,λy hy=> ?_⟩;rcases bA.1 hy with rfl | hy
  ·exact g2
  ·exact h3 y hy
theorem Pz{rd:TypeId->Ty->Bool}{cs:List Value}:∀(fs:List Field) (off:Nat) (ty:Ty),yC P rd off fs ty=aO->off+ty.size<=cs.length->
  (∀f∈fs,∀t,rd f.type t=aO->P.cellsOf f.type=t.size->∃v,cG E t ((cs.drop f.offset).take (P.cellsOf f.type)) v/\aqP t v)->∃v,cG E ty ((cs.drop off).take ty.size) v/\aqP ty v
 |[],off,ty,h,hl,_=>by
  cases ty <;> simp only[yC]at h <;> first | cases h | skip
  exact⟨(),by simp[cG,Ty.size],trivial⟩
 |f::fs,off,ty,h,hl,hf=>by
  cases ty <;> simp only[yC]at h <;> first | cases h | skip
  rename_i a b;simp only[al,axe]at h;obtain⟨h1,h2,h3,h4⟩:=h;have hl:off+(a.size+b.size)<=cs.length:=hl;obtain⟨v,k1,k2⟩:=hf f (aG ..) a h2 h3;obtain⟨u,k3,k4⟩:=Pz fs (off+a.size) b h4 aq λf' hf'=>hf f' (aD _ hf')
  refine⟨(v,u),⟨(cs.drop off).take a.size,(cs.drop (off+a.size)).take b.size,?_,?_,k3⟩,k2,k4⟩
  ·rw[show Ty.size (.pair a b)=a.size+b.size from rfl,List.take_add,fU]
  ·rw[h1,h3]at k1;exact k1
theorem Lc(hg:∀b,E.g b= .free):∀(n:Nat) (T:TypeId) (ty:Ty),AU P n T ty=aO->∀ {fuel:Nat} {cs:List Value} {x:DataW H×List MemPlace},DataW.trod enc P E.w base spare held fuel T cs=au x->∃v,cG E ty cs v/\aqP ty v
 | 0,_,_,h,_,_,_,_=>by simp[AU]at h
 |n+1,T,ty,h,fuel,cs,x,hx=>by
  unfold AU at h;split at h
  ·rename_i k k' hu;obtain rfl:=of_decide_eq_true h;obtain⟨m,rfl,_,hw⟩:=DataW.trod_int hu hx;exact⟨m,rfl,hw⟩
  ·rename_i hu;obtain⟨b,rfl,_⟩:=DataW.trod_bool hu hx;exact⟨b,rfl,trivial⟩
  ·rename_i hu;obtain⟨s,rfl,_,hs⟩:=DataW.trod_string hu hx;exact⟨s,rfl,hs⟩
  ·rename_i e t hu;simp only[al,axe]at h;obtain⟨h1,h2⟩:=h;rcases open_slice hu hx with⟨rfl,_⟩ | ⟨a,len,cap,m,f,D,Pl,rfl,_,hl,hm,aDG,_,he⟩
   ·exact⟨([]:List t.den),⟨aH,0,[],rfl,aC _,λh=>by simp at h,λi v hv=>by simp at hv,rfl⟩,aS _,λ_ h=>by cases h⟩
   ·have aF4:len<=m:=by rw[aDG];split <;> omega
    obtain⟨vs,l,k1,k2,k3,k4,k5⟩:=al4 (t:=t) (R:=cG E t) (G:=aqP t) (w:=E.w) (a:=a) (z:=t.size) (λc x h=>cG.size h) len λi hi=>by obtain⟨cs',g1,g2⟩:=he i aq;obtain⟨v,g3,g4⟩:=Lc hg n e t h1 g2;obtain⟨g5,g6⟩:=am2 g1;refine⟨cs',v,g3,g4,λj hj=> ?_⟩;rw[<-g6 j aq,add_add,h2]
    refine⟨l,⟨au a,cap,vs,by rw[k2],by rw[k2];exact hl,λ_=>rfl,aCU hg k3,k4⟩,by rw[k2];omega,k5⟩
  ·rename_i k e k' t hu;simp only[al,axe]at h;obtain⟨rfl,h1,h2,h3⟩:=h;obtain⟨xs,m,rfl,_,hl,awV,he⟩:=DataW.trod_array hu hx;obtain⟨l,k1,k2,k3⟩:=W8 (t:=t) (R:=cG E t) (G:=aqP t) (z:=t.size) k cs (by rw[hl,h3]) λi hi=>by have:=he i hi;rw[bW aq,h2]at this;exact Lc hg n e t h1 this
   exact⟨l,⟨k1,k2⟩,k1,k3⟩
  ·rename_i ty fs hu;simp only[al,axe]at h;obtain⟨h1,h2⟩:=h;obtain⟨xs,m,rfl,_,hl,awV,he⟩:=DataW.trod_struct hu hx;obtain⟨v,k1,k2⟩:=Pz (E:=E) (cs:=cs) fs.toList 0 _ h1 (by rw[hl,h2];omega) λf hf t ht hc=>by
    obtain⟨i,hi,aI8⟩:=List.mem_iff_getElem.1 hf;have hi':i < fs.size:=by simpa using hi
    have:=he i f (by rw[<-aI8];simp[hi']);rw[bW aq]at this;exact Lc hg n f.type t ht this
   refine⟨v,?_,k2⟩;rwa[aN,bH aq]at k1
  ·cases h
end
end Go.Ab
namespace Go.Ab
open Go.ChangeShapes Go.WideShapes Go.ChangeAt Go.RowKit Go.Deep
section
variable {H:Type} {enc:TypeId×Value->H} {P:aL} {base b0:Nat} {spare:Nat->Bool} {held:Bool} {E:Env} {W:bV}
theorem ahI{rd:TypeId->Ty->Bool}{fs:List Field}{off:Nat}{ty:Ty}(h:yC P rd off fs ty=aO):ty.agg=aO:=by cases fs <;> cases ty <;> first | rfl | (simp[yC]at h)
theorem avt(hw:E.w=W)(hg:∀b,E.g b= .free){n:Nat}{t:TypeId}{ty:Ty}(h:AU P n t ty=aO){v:Value}{d:DataW H}{ps:List MemPlace}(yH:Value.okWide P W .any base t v)(hd:DataW.Trod enc P W b0 spare held t v d ps):
  ∃x:ty.den,VS E (.d ty x) v/\aqP ty x:=by
 subst hw;obtain⟨fuel,hf⟩:=hd;obtain⟨x,h1,h2⟩:=Lc hg n t ty h hf;refine⟨x,⟨v.cells.toList,h1,?_⟩,h2⟩;cases n with
 |zero=>simp[AU]at h
 |succ n=>
  unfold AU at h;split at h
  ·rename_i k k' hu;obtain⟨m,rfl⟩:=okWide_int hu yH;rfl
  ·rename_i hu;obtain⟨m,rfl⟩:=okWide_bool hu yH;rfl
  ·rename_i hu;obtain⟨m,rfl⟩:=okWide_string hu yH;rfl
  ·rename_i hu;obtain⟨a,len,cap,rfl⟩:=okWide_slice hu yH;rfl
  ·rename_i hu;simp only[Value.okWide,hu]at yH;obtain⟨cs,rfl,_⟩:=yH;show _=_;simp[Value.cells]
  ·rename_i fs hu;simp only[Value.okWide,hu]at yH;obtain⟨cs,rfl,_⟩:=yH;simp only[al]at h;have:=ahI h.1;simp only[aF.agg,this,fT,Value.cells,Array.toArray_toList]
  ·cases h
def DV:List Ty->Type
 |[]=>Unit
 |t::ts=>t.den×DV ts
def DV.iY:(ts:List Ty)->DV ts->List aF
 |[],_=> []
 |t::ts,x=> .d t x.1::DV.iY ts x.2
def DV.aHP:(ts:List Ty)->DV ts->Prop
 |[],_=>True
 |t::ts,x=>aqP t x.1/\DV.aHP ts x.2
def uO(P:aL)(n:Nat):List TypeId->List Ty->Bool
 |[],[]=>aO
 |T::Ts,t::ts=>AU P n T t && uO P n Ts ts
 |_,_=>aV
theorem Yr(hw:E.w=W)(hg:∀b,E.g b= .free){n:Nat}:∀ {Ts:List TypeId} {ts:List Ty} {vs:List Value} {ds:List (DataW H)} {ps:List MemPlace},uO P n Ts ts=aO->
  (∀(j:Nat) t v,Ts[j]? =au t->vs[j]? =au v->Value.okWide P W .any base t v)->DataW.TrodAll enc P W b0 spare held Ts vs ds ps->∃x:DV ts,wG E (DV.iY ts x) vs/\DV.aHP ts x
 |[],[],vs,ds,ps,_,_,h=>by obtain⟨rfl,rfl,rfl⟩:=trodAll_nil h;exact⟨(),trivial,trivial⟩
 |T::Ts,[],_,_,_,h,_,_=>by simp[uO]at h
 |[],t::ts,_,_,_,h,_,_=>by simp[uO]at h
 |T::Ts,t::ts,vs,ds,ps,h,yH,hd=>by simp only[uO,al]at h;obtain⟨v,vs',d,ds',p,q,rfl,rfl,rfl,h1,h2⟩:=trodAll_cons hd;obtain⟨x,k1,k2⟩:=avt hw hg h.1 (yH 0 T v rfl rfl) h1;obtain⟨y,k3,k4⟩:=Yr hw hg h.2 (λj t v hj hv=>yH (j+1) t v (by simpa using hj) (by simpa using hv)) h2;exact⟨(x,y),⟨k1,k3⟩,⟨k2,k4⟩⟩
def vM(P:aL)(Ts:List TypeId):Bool:=Ts.all λt=>P.readableRec t && decide (t < P.types.size)
theorem Hs(hl:laidOutB P=aO){W':bV}(hb:Below W.heap.size W W')(sp:Nat->Bool):∀ {Ts:List TypeId} {vs:List Value} {ds:List (DataW H)} {ps:List MemPlace},vM P Ts=aO->(∀p∈ps,p.block < W.heap.size)->(∀p∈ps,sp p.block=aO)->
  DataW.TrodAll enc P W 0 (λ_=>aO) aO Ts vs ds ps->DataW.TrodAll enc P W' 0 sp aO Ts vs ds ps
 |[],vs,ds,ps,_,_,_,h=>by obtain⟨rfl,rfl,rfl⟩:=trodAll_nil h;exact trodAll_mk0
 |T::Ts,vs,ds,ps,hr,iJ,hs,h=>by obtain⟨v,vs',d,ds',p,q,rfl,rfl,rfl,h1,h2⟩:=trodAll_cons h;simp only[vM,mY,al,aR]at hr;have h3:=WideElems.Trod_stays hl hr.1.1 hr.1.2 h1 (λx hx=>hb.same (iJ x (bp.2 (.inl hx)))) (λx hx=>hs x (bp.2 (.inl hx)));exact⟨p,q,h3,Hs hl hb sp (by simpa[vM]using hr.2) (λx hx=>iJ x (bp.2 (.inr hx))) (λx hx=>hs x (bp.2 (.inr hx))) h2,rfl⟩
end
theorem FM{H:Type}{enc:TypeId×Value->H}{P:aL}{W:bV}{b0:Nat}{spare:Nat->Bool}{held:Bool}:∀ {Ts:List TypeId} {vs:List Value} {ds:List (DataW H)} {ps:List MemPlace},DataW.TrodAll enc P W b0 spare held Ts vs ds ps->ds.length=Ts.length
 |[],_,_,_,h=>by obtain⟨_,rfl,_⟩:=trodAll_nil h;rfl
 |_::_,_,_,_,h=>by obtain⟨v,vs',d,ds',p,q,rfl,rfl,rfl,h1,h2⟩:=trodAll_cons h;simp[FM h2]
theorem afg{H:Type}{enc:TypeId×Value->H}{P:aL}{f:Func}{s:ChangeSpec}{W W':bV}{args:Array Value}{v:Value}{ds gs:List (DataW H)}{before:List MemPlace}{tb:TypeId}
  (hl:laidOutB P=aO) (agv:vM P f.params.toList=aO) (ad3:s.vars=[]) (aHq:f.resultTypes= #[tb]) (aHt:P.underlying tb=au .bool)
  (hW:DataW.Whole enc P f.params.toList s.vars aV W args.toList ds gs before) (aBW:s.fn H (ds++gs)= {results:=[.lit (.bool aO)],args:=ds}) (hb:Below W.heap.size W W') (hv:v= .bool aO):
  s.post enc P f aV aO aV aV W args v W':=by
 subst hv;have hW':=hW;have hold:∀p∈before,(λb=>decide (b < W.heap.size)) p.block=aO:=λp hp=>by simpa using hW.lt p hp
 obtain⟨p,q,hA,hV,rfl,hz,_⟩:=hW;rw[ad3]at hV;obtain⟨rfl,rfl⟩:=trodVars_none hV;have iJ:∀x∈p,x.block < W.heap.size:=λx hx=>hW'.lt x (bp.2 (.inl hx))
 have GX:∀sp:Nat->Bool,(∀x∈p,sp x.block=aO)->DataW.TrodAll enc P W' 0 sp aO f.params.toList args.toList (s.fn H (ds++ [])).args p:=λsp hs=>by rw[aBW];exact Hs hl hb sp agv iJ hs hA
 have aHm:∀(b:Nat) (sp:Nat->Bool) (hd:Bool),DataW.TrodAll enc P W' b sp hd f.resultTypes.toList ((Value.bool aO).resultList f.resultTypes.size) (s.fn H (ds++ [])).results []:=λb sp hd=>by rw[aBW,aHq];exact trodAll_mk1 (shut_bool aHt _)
 have J9:∀sp:Nat->Bool,DataW.TrodVars enc P W' sp s.vars (s.fn H (ds++ [])).vars []:=λsp=>by rw[aBW,ad3];rfl
 refine⟨ds,[],p++ [],[],p,[],hW',aHm _ _ _,GX _ (λx hx=>hold x (bp.2 (.inl hx))),J9 _,hb.frame _,λh=>by cases h⟩
theorem Fc{P:aL}{n:Nat}:∀ {Ts:List TypeId} {ts:List Ty},uO P n Ts ts=aO->Ts.length=ts.length
 |[],[],_=>rfl
 |[],_::_,h=>by simp[uO]at h
 |_::_,[],h=>by simp[uO]at h
 |_::_,_::_,h=>by simp only[uO,al]at h;simp[Fc h.2]
theorem aoc{H:Type}{enc:TypeId×Value->H}{P:aL}{f:fw}{fn:Func}{en:Entry}{s:ChangeSpec}{tb:TypeId}(n:Nat)(tys:List Ty)(hD:nI P f en)(hf:P.funcs[f]? =au fn)(aEv:fn.body.isSome=aO)(yG:(fn.name== "runtime.NumGoroutine")=aV)
  (hl:laidOutB P=aO) (aAF:uO P n fn.params.toList tys=aO) (agv:vM P fn.params.toList=aO) (ad3:s.vars=[]) (aHq:fn.resultTypes= #[tb]) (aHt:P.underlying tb=au .bool)
  (aBW:∀ds:List (DataW H),ds.length=tys.length->s.fn H (ds++ [])= {results:=[.lit (.bool aO)],args:=ds})
  (pb:∀x:DV tys,DV.aHP tys x->∃r,en.run (DV.iY tys x) []=au r/\en.out (DV.iY tys x) [] r=⟨.d .bool aO,[],[]⟩)
  {W:bV} {base:Nat} {args:Array Value} {ds gs:List (DataW H)} {before:List MemPlace}
  (yH:∀(j:Nat) t v,fn.params[j]? =au t->args[j]? =au v->Value.okWide P W .any base t v)
  (hW:DataW.Whole enc P fn.params.toList s.vars aV W args.toList ds gs before):
  Calls P f args W λe W'=>∃v,e= .returned v/\s.post enc P fn aV aO aV aV W args v W':=by
 have hW':=hW;obtain⟨p,q,hA,hV,_,_,_⟩:=hW;rw[ad3]at hV;obtain⟨rfl,rfl⟩:=trodVars_none hV;obtain⟨x,aGa,aGb⟩:=Yr (E:=(fL []).env W (λ_=> .free) (λ_=>aH)) rfl (λ_=>rfl) aAF (λj t v hj hv=>yH j t v (by simpa using hj) (by simpa using hv)) hA;obtain⟨r,aCd,adT⟩:=pb x aGb;have cI:(callFunc f args).run P W= .ok (.enter f args) W:=by
  unfold callFunc;obtain⟨c,hc⟩:=bD.1 aEv;have hname':¬fn.name= "runtime.NumGoroutine" :=by simpa using yG
  simp[hf,hname',hc]
 have hlen:ds.length=tys.length:=by rw[FM hA,Fc aAF]
 have ho:iR ((fL []).env W (λ_=> .free) (λ_=>aH)):=λid ver fr c h=>by
  exfalso;cases id with
  |bF k=>simp[AS.env,AS.bS,fL]at h
  |new i j=>simp[AS.env,AS.bS,fL]at h
 rcases hD W (λ_=> .free) (λ_=>aH) (DV.iY tys x) [] args.toList r aGa ho aCd with⟨_,hc⟩ | ⟨v,w',hc,_⟩
 ·refine hc.mono λe w' he=> ?_
  obtain⟨v,rfl,g',β',h1,_,h2,_⟩:=he;rw[adT]at h1;refine⟨v,rfl,afg hl agv ad3 aHq aHt hW' (aBW ds hlen) ⟨h2.os,h2.tape,h2.output.1,h2.size,λb hb=>(h2.Mn b hb).2⟩ ?_⟩;obtain⟨cs,k1,k2⟩:=h1;have k1:cs=[.bool aO]:=k1;subst k1;have k2: [Value.bool aO]=[v]:=k2;simpa using k2.symm
 ·rw[show args.toList.toArray=args from Array.toArray_toList ..,cI]at hc;cases hc
end Go.Ab
namespace Go.Ab
abbrev W:=BitVec 32
def Gy(w:W)(k:Nat):W:=w <<< (32 - k) ||| w >>> k
def aFQ(a b c d:Int):W:=aX 32 a <<< 24 ||| aX 32 b <<< 16 ||| aX 32 c <<< 8 ||| aX 32 d
def be(l:List Int)(i:Nat):W:=aFQ (l.getD (4*i) 0) (l.getD (4*i+1) 0) (l.getD (4*i+2) 0) (l.getD (4*i+3) 0)
structure St where
 a:W
 b:W
 c:W
 d:W
 e:W
 f:W
 g:W
 h:W
def St.l(s:St):List Int:=[vw s.a,vw s.b,vw s.c,vw s.d,vw s.e,vw s.f,vw s.g,vw s.h]
def aHR(x:W):W:=Gy x 7^^^Gy x 18^^^x >>> 3
def aHS(y:W):W:=Gy y 17^^^Gy y 19^^^y >>> 10
def aAO(l:List W)(i:Nat):W:=l.getD (i - 16) 0+aHR (l.getD (i - 15) 0)+l.getD (i - 7) 0+aHS (l.getD (i - 2) 0)
def ext(l:List W):List W:=l++ [aAO l l.length]
def aFE(m:List W):Nat->List W
 | 0=>m
 |n+1=>ext (aFE m n)
def words(b:List Int):List W:=(List.range 16).map (be b)
def sched(b:List Int):List W:=aFE (words b) 48
def kl:List Nat:=[0x428a2f98,0x71374491,0xb5c0fbcf,0xe9b5dba5,0x3956c25b,0x59f111f1,0x923f82a4,0xab1c5ed5,0xd807aa98,0x12835b01,0x243185be,0x550c7dc3,0x72be5d74,0x80deb1fe,0x9bdc06a7,0xc19bf174,0xe49b69c1,0xefbe4786,0x0fc19dc6,0x240ca1cc,0x2de92c6f,0x4a7484aa,0x5cb0a9dc,0x76f988da,0x983e5152,0xa831c66d,0xb00327c8,0xbf597fc7,0xc6e00bf3,0xd5a79147,0x06ca6351,0x14292967,0x27b70a85,0x2e1b2138,0x4d2c6dfc,0x53380d13,0x650a7354,0x766a0abb,0x81c2c92e,0x92722c85,0xa2bfe8a1,0xa81a664b,0xc24b8b70,0xc76c51a3,0xd192e819,0xd6990624,0xf40e3585,0x106aa070,0x19a4c116,0x1e376c08,0x2748774c,0x34b0bcb5,0x391c0cb3,0x4ed8aa4a,0x5b9cca4f,0x682e6ff3,0x748f82ee,0x78a5636f,0x84c87814,0x8cc70208,0x90befffa,0xa4506ceb,0xbef9a3f7,0xc67178f2]
def kw(i:Nat):W:=BitVec.ofNat 32 (kl.getD i 0)
def aeg:List Int:=kl.map λ(n:Nat)=>(n:Int)
def px(s:St)(k w:W):St:=
 let t:=s.h+(Gy s.e 6^^^Gy s.e 11^^^Gy s.e 25)+(s.g^^^s.e &&& (s.f^^^s.g))+k+w
 let r:=Gy s.a 2^^^Gy s.a 13^^^Gy s.a 22
 let most:=s.a &&& s.b ||| s.c &&& (s.a ||| s.b)
 ⟨t+r+most,s.a,s.b,s.c,s.d+t,s.e,s.f,s.g⟩
def rounds(ws:List W)(s:St):Nat->St
 | 0=>s
 |n+1=>px (rounds ws s n) (kw n) (ws.getD n 0)
def aow(s:St)(b:List Int):St:=
 let v:=rounds (sched b) s 64
 ⟨v.a+s.a,v.b+s.b,v.c+s.c,v.d+s.d,v.e+s.e,v.f+s.f,v.g+s.g,v.h+s.h⟩
def yD:St:=⟨0x6a09e667,0xbb67ae85,0x3c6ef372,0xa54ff53a,0x510e527f,0x9b05688c,0x1f83d9ab,0x5be0cd19⟩
def zw:Nat->St->List Int->St
 | 0,s,_=>s
 |n+1,s,l=>zw n (aow s (l.take 64)) (l.drop 64)
def blocks(s:St)(l:List Int):St:=zw (l.length / 64) s l
def aFR(w:W)(k:Nat):Int:=vw ((w >>> (24 - 8*k)).setWidth 8)
def axj(w:W):List Int:=[aFR w 0,aFR w 1,aFR w 2,aFR w 3]
def ay1(s:St):List Int:=axj s.a++axj s.b++axj s.c++axj s.d++axj s.e++axj s.f++axj s.g++axj s.h
def lS(n:Int):List Int:=[n / 2^56%256,n / 2^48%256,n / 2^40%256,n / 2^32%256,n / 2^24%256,n / 2^16%256,n / 2^8%256,n%256]
def KJ(n:Nat):Nat:=(119 - n%64)%64
def pad(b:List Int):List Int:=b++128::(ai (KJ b.length) 0++lS (8*b.length))
def aDY(b:List Int):List Int:=ay1 (blocks yD (pad b))
def xI(parts:List (List Int)):List Int:=parts.flatMap λp=>lS p.length++p
def Wv(name:List Int)(parts:List (List Int)):List Int:=lS name.length++name++xI parts
def tag(name:List Int)(parts:List (List Int)):List Int:=aDY (Wv name parts)
theorem ajB(b:List Int):(aDY b).length=32:=rfl
theorem dv(n:Int):(lS n).length=8:=rfl
theorem ahE(l:List W):(ext l).length=l.length+1:=by simp[ext]
theorem I6(m:List W):∀n,(aFE m n).length=m.length+n
 | 0=>rfl
 |n+1=>by rw[aFE,ahE,I6 m n];omega
theorem sW(b:List Int):(words b).length=16:=by simp[words]
theorem DO:∀(n:Nat) (s:St) (a b:List Int),a.length=64*n->∀m,zw (n+m) s (a++b)=zw m (zw n s a) b
 | 0,s,a,b,h,m=>by have:a=[]:=bm aq;subst this;simp[zw]
 |n+1,s,a,b,h,m=>by rw[show n+1+m=(n+m)+1 by omega,zw,zw];rw[gC aq,List.drop_append_of_le_length aq];exact DO n _ _ _ (by simp;omega) m
theorem GC(s:St)(a b:List Int)(h:a.length%64=0):blocks s (a++b)=blocks (blocks s a) b:=by
 unfold blocks;have e:(a++b).length / 64=a.length / 64+b.length / 64:=by simp;omega
 rw[e];exact DO _ _ _ _ aq _
theorem NZ(s:St)(l:List Int)(h:64<=l.length):blocks s l=blocks (aow s (l.take 64)) (l.drop 64):=by unfold blocks;rw[show l.length / 64=(l.drop 64).length / 64+1 by simp;omega];rfl
theorem Hz(s:St)(l:List Int)(h:l.length < 64):blocks s l=s:=by unfold blocks;rw[show l.length / 64=0 by omega];rfl
def YX(x:Int):Prop:=0<=x/\x < 256
def Bytes(l:List Int):Prop:=∀x∈l,YX x
theorem axk(w:BitVec 8):YX (vw w):=⟨YU w,aAZ w⟩
theorem YX.vw{x:Int}(h:YX x):x=vw (aX 8 x):=by rw[lR];obtain⟨h1,h2⟩:=h;omega
theorem ahd(s:St):Bytes (ay1 s):=by intro x hx;simp only[ay1,axj,bp,bA,gK,vF]at hx;rcases hx with((((((hx | hx) | hx) | hx) | hx) | hx) | hx) | hx <;> rcases hx with rfl | rfl | rfl | rfl <;> exact axk _
theorem amY(b:List Int):Bytes (aDY b):=ahd _
theorem Bg(n:Int):Bytes (lS n):=by intro x hx;simp only[lS,bA,gK,vF]at hx;rcases hx with rfl | rfl | rfl | rfl | rfl | rfl | rfl | rfl <;> exact⟨aq,aq⟩
end Go.Ab
end
