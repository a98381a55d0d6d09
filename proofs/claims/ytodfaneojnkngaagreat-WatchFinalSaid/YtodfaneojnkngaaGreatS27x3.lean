/-
  Made short by a program of mine (wip/tools/mini.py).
-/
import Derived.Test.YtodfaneojnkngaaGreatS27x2
import Derived.Scope
import Derived.Laws.Externs
import Derived.KernelRfl
import Derived.ProofKit
import Derived.OpenShut
import Derived.Deep.Slices
import Derived.Carry
set_option linter.unusedVariables false
set_option linter.unusedSimpArgs false
set_option maxRecDepth 100000
set_option synthInstance.maxSize 5000
open Int renaming toNat->ae
open List renaming replicate->ab
open BitVec renaming ofInt->bf
open Nat renaming beq->iJ
open UInt8 renaming ofNat->fi
open Sum renaming getLeft?->cT
noncomputable section
namespace Go.Ab
section
variable {P:Program} {Γ:oT} {an:xi} {C:Ctx}
open Classical in
def aPw(p:Prop):Option Unit:=if p then some () else none
theorem anX{p:Prop}(h:aPw p=some ()):p:=by
 unfold aPw at h;split at h
 ·assumption
 ·cases h
theorem aGp{p:Prop}(h:p):aPw p=some ():=by unfold aPw;rw[if_pos h]
theorem avj{X R:Type}{S:X->Prop}{k:X->Option R}{x:Option R}(hn:∃y,S y)(h:∀y,S y->k y=x):Zx S k=x:=by
 unfold Zx;cases x with
 |none=>exact Cg λ⟨r,⟨y,hy⟩,hr⟩=>by have:=h y hy;rw[hr y hy]at this;cases this
 |some r=>
  have hx:∃r,(∃x,S x)/\∀x,S x->k x=some r:=⟨r,hn,h⟩;rw[ze hx];obtain⟨⟨y,hy⟩,h1⟩:=hx.choose_spec;have:=h1 y hy;rw[h y hy]at this;exact this.symm
def auI(P:Program)(Γ:oT)(an:xi)(N:Nat)(b:Code):Prop:=∀le,an.fC (dM b)=some le->(le.set=none->∀s x,le.run s=some x->∃n,VB (norm P (an.loops (dM b))) (λe=>norm P (an.outs (dM b) (anm e))) (ev P Γ an N b) n s (λe s'=>some (e,s'))=(le.out x).eval)/\∀S,le.set=some S->∀s,(∃x,S s x)->∃n,VB (norm P (an.loops (dM b))) (λe=>norm P (an.outs (dM b) (anm e))) (ev P Γ an N b) n s (λe s'=>aPw (∃x,S s x/\(le.out x).eval=some (e,s')))=some ()
def kN(P:Program)(Γ:oT)(an:xi)(N:Nat):List Code->Prop
 |[]=>True
 |b::l=>auI P Γ an N b/\kN P Γ an N l
theorem kN.append{N:Nat}:∀ {l l':List Code},kN P Γ an N (l++l')->kN P Γ an N l/\kN P Γ an N l'
 |[],_,h=>⟨trivial,h⟩
 |_::_,_,⟨h1,h2⟩=>⟨⟨h1,(kN.append h2).1⟩,(kN.append h2).2⟩
theorem tQ{c:Code}{b:Frame}{a:Act}{k:List Item}{cs:List Frame}{w:World}:step P (lone (b.atR a (.code (.scope c)::k)) cs w)= .next (lone (b.atR a (.code c:: .inScope c::k)) cs w):=
 step_lone_go (by simp[stepG,stepG.exec,Frame.atR])
theorem aeF{c:Code}{b:Frame}{a:Act}{k:List Item}{cs:List Frame}{w:World}:step P (lone (b.atR a (.inScope c::k)) cs w)= .next (lone (b.atR a k) cs w):=
 step_lone_go (by simp[stepG,stepG.exec,Frame.atR])
theorem Ld{F:Fence}{n:Nat}{Q:Exit->Act->World->Prop}{a:Act}{w:World}{c:Code}(h:c.wpIn F n P (Exit.noGoto Q) a w):(Code.scope c).wpIn F n P Q a w:=by
 intro b k cs aWI hb hr;have h0:(lone (b.atR a (.code (.scope c)::k)) cs w).fenced P F:=fenced_calm hb hr rfl;obtain⟨e,a1,w1,hq,hx⟩:=h b (.inScope c::k) cs aWI hb hr;cases e with
 |normal=>exact⟨.normal,a1,w1,hq,.head h0 tQ (StepsIn.trans hx (.one (fenced_calm hb hr rfl) aeF))⟩
 |exit i=>
  have e1:exitTo i (.inScope c::k)=exitTo i k:=by simp[exitTo]
  exact⟨.exit i,a1,w1,hq,λk' hk=> .head h0 tQ (hx.1 k' (e1.trans hk)),λh1 hk=>let⟨k2,h2,h3⟩:=hx.2 h1 (e1.trans hk);⟨k2,h2,.head h0 tQ h3⟩⟩
 |goto l=>exact hq.elim
 |ret=>exact⟨_,a1,w1,hq,.of_steps (.one h0 tQ) hx⟩
 |panic ch=>exact⟨_,a1,w1,hq,.of_steps (.one h0 tQ) hx⟩
 |outgrown=>exact⟨_,a1,w1,hq,.of_steps (.one h0 tQ) hx⟩
theorem FV{rd:Option Nat}{m:Nat}{R:Type}{r:R}{b:Code}{nrm:AS->Out AS}{nrmX:Exit->AS->Out AS}{body:AS->(Exit->AS->Option R)->Option R}
  (hn:∀s s1 a w,iw C s a w->(nrm s).eval=some s1->iw C s1 a w) (hx:∀e s s1 a w,iw C s a w->(nrmX e s).eval=some s1->iw C s1 a w)
  (hb:∀(s:AS) (a:Act) (w:World) (k:Exit->AS->Option R) (Q:Exit->Act->World->Prop),iw C s a w->body s k=some r->(∀e s' a' w',iw C s' a' w'->k e s'=some r->Q e a' w')->b.wpIn (Fr rd) m P Q a w)
  {k:Exit->AS->Option R} {Q:Exit->Act->World->Prop} (hk:∀e s' a' w',iw C s' a' w'->k e s'=some r->Q e a' w'):
  ∀(n:Nat) (s:AS) (a:Act) (w:World),iw C s a w->VB nrm nrmX body n s k=some r->Code.roundsIn (Fr rd) m P b Q n a w
 | 0,s,a,w,_,h=>by simp[VB]at h
 |n+1,s,a,w,hs,h=>by
  simp only[VB]at h;rw[roundsIn_succ];refine hb s a w _ _ hs h λe s' a' w' hs' aRv=> ?_
  have exits:∀e,(nrmX e s').run (k e)=some r->Q e a' w':=λe aRv=>by obtain⟨s1,h1,h2⟩:=iq.1 aRv;exact hk e s1 a' w' (hx e s' s1 a' w' hs' h1) h2
  cases e with
  |normal=>
   simp only at aRv;obtain⟨s1,h1,h2⟩:=iq.1 aRv;exact FV hn hx hb hk n s1 a' w' (hn s' s1 a' w' hs' h1) h2
  |_=>exact exits _ aRv
theorem Qx{rd:Option Nat}{n:Nat}(hC:C.ok){j:Option oU}{run: {R:Type}->(Exit->AS->Option R)->Option R}{c:Code}{a:Act}{w:World}
  (iO:∀ {R:Type} {r:R} (k:Exit->AS->Option R) (Q:Exit->Act->World->Prop),run k=some r->(∀e s' a' w',iw C s' a' w'->k e s'=some r->Q e a' w')->c.wpIn (Fr rd) n P Q a w)
  {R:Type} {r:R} {k:Exit->AS->Option R} {Q:Exit->Act->World->Prop} (h:Tn P j run k=some r) (hk:∀e s' a' w',iw C s' a' w'->k e s'=some r->Q e a' w'):c.wpIn (Fr rd) n P Q a w:=by
 cases j with
 |none=>exact iO k Q h hk
 |some j=>
  simp only[Tn]at h;cases hx:run λe s=>(norm P j.an s).run (j.avC e) with
  |none=>rw[hx]at h;cases h
  |some x=>
   rw[hx]at h;simp only[al]at h;obtain⟨y,hy,h⟩:=iq.1 h;refine iO _ Q hx λe s' a' w' hs' hK=> ?_
   obtain⟨s1,h1,h2⟩:=iq.1 hK;have he:=j.ok _ _ _ h2;rw[hy,az]at he;subst he;exact hk e s1 a' w' (pK hC hs' h1) h
theorem Inv.awK{g:Nat->mr}{β:Id->Option Pl}{s:AS}{a:Act}{w:World}(h:Inv C g β s a w):
  Inv C (nR g w.heap.size (.own .eh 0)) β s {a with defers:=vH w.heap.size::a.defers} (w.alloc (.deferred (some []))):=by
 have ht:=Trans.alloc w g (.deferred (some [])) (.own .eh 0);have he:cK (s.env w g β) (s.env (w.alloc (.deferred (some []))) (nR g w.heap.size (.own .eh 0)) β):=cK.same ht;have h1:=h.step rfl ht he (iV.same h.bJ he λi ver fr c pl hi hp=>by
  have hl:=((h.bJ i ver fr c hi).label (pl:=pl) hp).1;have hl':pl.b < w.heap.size:=hl;exact⟨ru w _ hl',fw _ _ _ ak⟩)
 refine⟨⟨cU.2 ⟨λhm=> ?_,h1.defers.1⟩,λd hd=> ?_⟩,h1.size,h1.cq,h1.bJ,h1.trans,h1.le⟩
 ·obtain⟨D,e,_,hh,_⟩:=h.defers.2 _ hm;have e:Deferred.mk (.collected w.heap.size) #[]=Deferred.mk (.collected D) #[]:=e;injection e with e _
  injection e with e
  have:=(bO.1 hh).1;omega
 ·rcases cd.1 hd with rfl | hd
  ·exact⟨w.heap.size,rfl,h.trans.size,uf w _,fE _ _ _⟩
  ·exact h1.defers.2 d hd
theorem Nj:∀l:List aB,(mA l).list=l
 |[]=>rfl
 |a::l=>by simp[mA,aB.list,Nj l]
theorem En(aV:List Nat):∀(i:Nat) (l:List aB),(eI aV i l).length=l.length
 |_,[]=>rfl
 |i,_::l=>by simp[eI,En aV (i+1) l]
theorem L1(aV:List Nat):∀(l:List aB) (i j:Nat),(eI aV i l).getD j .undef=l.getD j .undef\/(eI aV i l).getD j .undef= .undef
 |[],_,_=> .inl rfl
 |v::l,i,0=>by
  simp only[eI,jw];split
  ·exact .inl rfl
  ·exact .inr rfl
 |v::l,i,j+1=>by simpa[eI]using L1 aV l (i+1) j
theorem Inv.frame{g:Nat->mr}{β:Id->Option Pl}{s:AS}{a:Act}{w:World}(h:Inv C g β s a w)(aV:List Nat):E3 (s.env w g β) (mA (eI aV 0 s.cq)) a.tmps:=by
 refine⟨by rw[Nj,En,h.size],λi=> ?_⟩;rw[Nj];rcases L1 aV s.cq 0 i with e | e
 ·rw[e];exact h.cq i
 ·rw[e];exact VS.undef
theorem aMb(a:Act)(q:Nat)(x:Value):(a.put (some q) x).put (some q) (a.tmps.getD q undef)=a:=by
 obtain⟨t,d⟩:=a;simp only[Act.put];congr 1;apply sJ;intro i;simp only[dT,Array.size_setIfInBounds];by_cases h:q=i
 ·subst h;by_cases hl:q < t.size
  ·simp[hl]
  ·simp[hl]
 ·simp[h]
theorem Q8{g:Nat->mr}{β:Id->Option Pl}{s s':AS}{a:Act}{w:World}{q p:Nat}(h:Inv C g β s a w)(he:s.TO q p=some s'):∃pl r,β (.bm 0)=some pl/\(s.env w g β).cur (.bm 0) 0/\w.heap[pl.b]? =some (.loop r)/\aoH q r.state r.pending/\
  ∀r':Loop,r'.params=r.params->r'.assign=r.assign->r'.body=r.body->r'.tmps=r.tmps->aoH p r'.state r'.pending->Inv C g β s' a (w.putObj pl.b (.loop r')):=by
 unfold AS.TO at he;split at he;rotate_left
 ·cases he
 rename_i c f q' cO;split at he;rotate_left
 ·cases he
 rename_i hq;obtain rfl:q=q':=eU hq;obtain rfl:=bk he;obtain⟨pl,r,hp,hb,hg,⟨q1,q2,q3⟩,avv,mB⟩:=h.bJ (.bm 0) 0 false _ cO;have hp:β (.bm 0)=some pl:=hp;have hb:w.heap[pl.b]? =some (.loop r):=hb
 have hg:g pl.b= .own (.id (.bm 0)) 0:=hg;refine⟨pl,r,hp,⟨false,_,cO⟩,hb,mB,λr' e1 e2 e3 e4 hs'=> ?_⟩;have gJ:pl.b < w.heap.size:=(bO.1 hb).1;have hother:∀b',b'≠pl.b->(w.putObj pl.b (.loop r')).heap[b']? =w.heap[b']? :=λb' gC=>World.putObj_heap_other gC
 have ht:Trans w (w.putObj pl.b (.loop r')) g g:=by
  refine⟨rfl,rfl,⟨rfl,ax _⟩,by simp,λb' _=> ?_⟩;by_cases he:b'=pl.b
  ·subst he;rw[hg];exact⟨.inr ⟨_,0,rfl,ax _⟩,λ_ _ hh=>ak⟩
  ·rw[hother b' he];cases WY:g b' with
   |free=>exact⟨rfl,rfl⟩
   |own o' k=>cases o' with
    |eh=>exact⟨rfl,rfl⟩
    |id i'=>exact⟨.inr ⟨i',k,rfl,ax _⟩,λoff v _ hv=>by simpa only[World.cell?,hother b' he]using hv⟩
 have hle:cK (s.env w g β) ((s.bj (.bm 0) (.obj 0 false (.rN c f p))).env (w.putObj pl.b (.loop r')) g β):=cK.bj cO (ax _) ht (λ_ _=>rfl) (λ_=>rfl);refine h.step (dj _ _ _) ht hle (iV.bj h.bJ (by rw[cO];simp) hle (λ_ _=>rfl) (λi ver fr c pl2 hi ZV XN=>⟨hother _ (h.apart hg hi ZV XN),rfl⟩) ?_ (QG cO));exact⟨pl,r',hp,World.putObj_heap_same gJ,hg,⟨e1.trans q1,e2.trans q2,e3.trans q3⟩,by rw[e4];exact avv.mono hle,hs'⟩
theorem Xs{n:Nat}(hΓ:Sound P Γ){f:Operand}{ps:Array Tmp}{as b:Code}{R:Type}{r:R}{k:Exit->AS->Option R}{Q:Exit->Act->World->Prop}{s:AS}{a:Act}{w:World}(h:iw C s a w)
  (he:Gg P Γ an s f ps as b k=some r) (hk:∀e s' a' w',iw C s' a' w'->k e s'=some r->Q e a' w'):(Code.rangeFunc f ps as b).wpIn (Fr none) n P Q a w:=by
 obtain⟨g,β,h⟩:=h;unfold Gg at he;split at he;rotate_left
 ·cases he
 rename_i y aV h0 caps aWH aXq hF;split at he;rotate_left
 ·cases he
 rename_i en aRh arJ;simp only[au]at aRh;obtain⟨⟨⟨ayy,aFc⟩,hq⟩,gJ⟩:=aRh;have hd:=(hΓ _ _ _ arJ).1 gJ;have hdR:=(hΓ _ _ _ arJ).2.2 gJ;generalize aTZ:ps.getD 0 0=q at aFc hq he arJ;have hq:q < s.cq.length:=dI hq;obtain⟨vs,hy,aQt⟩:=ZI (hF▸h.ev f);refine wpIn_rangeFunc λfn _=> ?_
 have cO:=run_enterLoop_outer (P:=P) (w:=w) fn a.tmps ps as b;have i1:=h.awK;generalize aWP:w.alloc (.deferred (some []))=w1 at i1 cO;have tT:w1.heap.size=w.heap.size+1:=by rw[<-aWP];exact World.size_alloc ..
 generalize aT0:({state:= .ready,pending:=none,fn,tmps:=a.tmps,params:=ps,assign:=as,body:=b,defers:=w.heap.size}:Loop)=r0 at cO;have ht:=Trans.alloc w1 (nR g w.heap.size (.own .eh 0)) (.loop r0) (.own (.id (.new q 0)) 0);obtain⟨i2,e2⟩:=i1.SF aFc (c:= .rN ⟨y,ps,as,b⟩ (mA (eI aV 0 s.cq)) 0) (p:=some ⟨w1.heap.size,0⟩) ht (λb hb=>⟨ru w1 _ hb,fw _ _ _ ak⟩) (λhe=>
  ⟨⟨w1.heap.size,0⟩,r0,kc _ _ _,uf w1 _,fE _ _ _,by subst aT0;exact⟨rfl,rfl,rfl⟩,by subst aT0;exact(i1.frame aV).mono he,by subst aT0;exact⟨rfl,rfl⟩⟩)
 generalize nR (nR g w.heap.size (.own .eh 0)) w1.heap.size (.own (.id (.new q 0)) 0)=g2 at i2 e2;generalize hβ2:J1 β (.new q 0) (some ⟨w1.heap.size,0⟩)=β2 at i2 e2;generalize aB0:w1.alloc (.loop r0)=w2 at i2 e2 cO;have aVC:VS ((s.born q [.obj 0 false (.rN ⟨y,ps,as,b⟩ (mA (eI aV 0 s.cq)) 0)]).env w2 g2 β2) (.yl (.new q 0) 0) (.func (.yield w1.heap.size) #[] #[]):=by refine⟨[.func (.yield w1.heap.size) #[] #[]],?_,rfl⟩;simp only[V];exact⟨_,rfl,qu aFc _ _ _ _,λ_=>⟨⟨w1.heap.size,0⟩,by rw[<-hβ2];exact kc _ _ _,rfl⟩⟩
 have i3:=i2.put (some q) aVC;have hF2:(s.born q [.obj 0 false (.rN ⟨y,ps,as,b⟩ (mA (eI aV 0 s.cq)) 0)]).ev f= .fn h0 caps:=by rw[<-hF];cases f <;> rfl
 obtain⟨vs2,aQv,aUd⟩:=ZI (hF2▸i2.ev f);have Vr:vs2=vs:=by
  have e:Value.func (.func h0) #[] vs2.toArray= .func (.func h0) #[] vs.toArray:=by rw[<-aQv,<-hy];cases f <;> rfl
  injection e with _ _ e
  simpa using bo Array.toList e
 subst Vr;have LV:yC (((s.born q [.obj 0 false (.rN ⟨y,ps,as,b⟩ (mA (eI aV 0 s.cq)) 0)]).put (some q) (.yl (.new q 0) 0)).env w2 g2 β2) (.yl (.new q 0) 0::caps.list) (.func (.yield w1.heap.size) #[] #[]::vs2):=by rw[air];exact⟨aVC,aho aUd⟩
 have aVg:∀args:Array Value,(callFunc h0 args).run P w2= .ok (.enter h0 args) w2:=λargs=>by
  unfold aoJ at ayy;split at ayy
  ·rename_i fn' aON;simp only[au,cC,gA]at ayy;obtain⟨c,hc⟩:=bN.1 ayy.2;unfold callFunc;simp[aON,ayy.1,hc]
  ·cases ayy
 have post:∀ {s3:AS} {w3:World} {v:Value},iw C s3 ((({a with defers:=vH w.heap.size::a.defers}:Act).put (some q) (.func (.yield w1.heap.size) #[] #[])).put none v) w3->∀ {c:vy} {fr:aB} {p:Nat},s3.bV (.new q 0)=some (.obj 0 false (.rN c fr p))->s3.slot q= .yl (.new q 0) 0->p≠1->
   ∃jump w4,(Instr.endLoop w1.heap.size).run P w3= .ok jump w4/\aoH p (if p=0 then .ready else .done) jump/\iw C ((s3.bj (.new q 0) .dead).put (some q) .undef) {a with defers:=vH w.heap.size::a.defers} w4:=by
  intro s3 w3 v aO2 c fr p ZT aE7 aJq;obtain⟨g3,β3,i5⟩:=aO2;obtain⟨pl,r3,hp,hb,hg,_,_,mB⟩:=i5.bJ (.new q 0) 0 false _ ZT;have hp:β3 (.new q 0)=some pl:=hp;have hb:w3.heap[pl.b]? =some (.loop r3):=hb
  have hg:g3 pl.b= .own (.id (.new q 0)) 0:=hg;have aNs:=i5.cq q;rw[aE7]at aNs;obtain⟨cs,hV,hO⟩:=aNs;simp only[V]at hV;obtain⟨l,rfl,_,fx⟩:=hV;obtain⟨pl',hp',rfl⟩:=fx ⟨false,_,ZT⟩;have hp':β3 (.new q 0)=some pl':=hp';rw[hp]at hp';obtain rfl:pl=pl':=by simpa using hp'
  have hO: [Value.func (.yield pl.b) #[] #[]]=[((({a with defers:=vH w.heap.size::a.defers}:Act).put (some q) (.func (.yield w1.heap.size) #[] #[])).put none v).tmps.getD q undef]:=hO;have Ta:q < ({a with defers:=vH w.heap.size::a.defers}:Act).tmps.size:=by show q < a.tmps.size;rw[h.size];exact hq
  have hO2:((({a with defers:=vH w.heap.size::a.defers}:Act).put (some q) (.func (.yield w1.heap.size) #[] #[])).put none v).tmps.getD q undef= .func (.yield w1.heap.size) #[] #[]:=by show((({a with defers:=vH w.heap.size::a.defers}:Act).put (some q) (.func (.yield w1.heap.size) #[] #[]))).tmps.getD q undef=_;rw[apB,if_pos ⟨rfl,Ta⟩]
  rw[hO2]at hO;have hl:pl.b=w1.heap.size:=by simpa using hO
  have aRg:r3.state≠ .busy:=by
   match p,mB,aJq with
   | 0,mB,_=>rw[mB.1];simp
   | 1,_,h=>exact absurd rfl h
   | 2,mB,_=>rw[mB.1];simp
   |_+3,mB,_=>rw[mB.1];simp
  have gJ:pl.b < w3.heap.size:=(bO.1 hb).1;refine⟨r3.pending,_,by rw[<-hl];exact run_endLoop hb aRg,?_,?_⟩
  ·match p,mB,aJq with
   | 0,mB,_=>exact⟨rfl,mB.2⟩
   | 1,_,h=>exact absurd rfl h
   | 2,mB,_=>exact⟨rfl,mB.2⟩
   |_+3,mB,_=>exact⟨rfl,mB.2⟩
  ·have i6:=i5.kill ZT hg (w':=w3.putObj pl.b (.loop {r3 with state:= .exhausted})) rfl rfl ⟨rfl,ax _⟩ (by simp) (λb' hb'=>World.putObj_heap_other hb');have i7:=i6.put (some q) (v:= .undef) (x:=({a with defers:=vH w.heap.size::a.defers}:Act).tmps.getD q undef) VS.undef;have e:=aMb {a with defers:=vH w.heap.size::a.defers} q (.func (.yield w1.heap.size) #[] #[]);refine⟨nR g3 pl.b .free,β3,?_⟩;simp only[Act.put]at e i7;rw[e]at i7;exact i7
 generalize hK:(λs3:AS=>(match s3.bV (.new q 0),s3.slot q with
   |some (.obj 0 false (.rN _ _ p)),.yl (.new q' 0) 0=>match iJ q' q,p with
    |true,0=>k .normal ((s3.bj (.new q 0) .dead).put (some q) .undef)
    |true,2=>k .ret ((s3.bj (.new q 0) .dead).put (some q) .undef)
    |true,i+3=>k (.exit i) ((s3.bj (.new q 0) .dead).put (some q) .undef)
    |_,_=>none
   |_,_=>none))=K at he
 have hc:Calls P h0 (.func (.yield w1.heap.size) #[] #[]::vs2).toArray w2 λe w'=>∃v,e= .returned v/\∃s3,iw C s3 ((({a with defers:=vH w.heap.size::a.defers}:Act).put (some q) (.func (.yield w1.heap.size) #[] #[])).put none v) w'/\K s3=some r:=by
  unfold AS.aM8 at he;split at he
  ·exact(UU (o:= {(default:Oper) with dst:=none}) i3 hdR LV he).2
  ·obtain⟨s3,aNg,he⟩:=iq.1 he;unfold AS.call at aNg;obtain⟨r2,h1,h2⟩:=aw.1 aNg;obtain⟨g',i4,e4,_,f1⟩:=fA r2.2 i3;obtain⟨x,hx,k1,k2,key⟩:=S3 (o:= {(default:Oper) with dst:=none}) i4 (Cs _ _) (Ec rfl i3.bJ e4 _ _ _ r2 LV h1 f1) h2;rcases hd _ _ _ _ _ _ _ k1 k2 hx with⟨_,hc⟩ | ⟨v,w',aSK,_⟩
   ·exact hc.mono λe w' ⟨v,am1,ha⟩=>⟨v,am1,s3,key v w' ha,he⟩
   ·rw[aVg]at aSK;cases aSK
 refine⟨w1.heap.size,[vH w.heap.size],w2,⟨.fn (.func h0) vs2.toArray,#[.func (.yield w1.heap.size) #[] #[]]⟩,w2,h0,(.func (.yield w1.heap.size) #[] #[]::vs2).toArray,w2,?_,?_,λ_ _=>trivial,?_,λh=>(by cases h),?_⟩
 ·rw[tT];exact cO
 ·have e:resolve a.eval (rangeCall f w1.heap.size) 0=Deferred.ofValue (a.eval f) #[.func (.yield w1.heap.size) #[] #[]]:=by simp[resolve,rangeCall,Act.eval]
  rw[e,hy];simp[Deferred.ofValue]
 ·have e:(#[.func (.yield w1.heap.size) #[] #[]]++vs2.toArray:Array Value)=(.func (.yield w1.heap.size) #[] #[]::vs2).toArray:=by simp
  rw[<-aVg,<-e];rfl
 ·have h1:CallsIn (Fr none) (n - 1) P h0 (.func (.yield w1.heap.size) #[] #[]::vs2).toArray w2 _:=callsIn_wide.2 hc;refine h1.mono λe w3 ⟨v,am1,s3,aO2,he⟩=> ?_
  subst am1;subst hK;show ∃jump w4,_/\_;simp only at he;split at he;rotate_left
  ·cases he
  rename_i c3 fr3 p3 q' ZT aE7;split at he
  ·rename_i hq';obtain rfl:q'=q:=eU hq';obtain⟨jump,w4,aEW,mB,aRJ⟩:=post aO2 ZT aE7 (by decide);obtain⟨_,rfl⟩:=mB;exact⟨none,w4,aEW,hk _ _ _ _ aRJ he⟩
  ·rename_i hq';obtain rfl:q'=q:=eU hq';obtain⟨jump,w4,aEW,mB,aRJ⟩:=post aO2 ZT aE7 (by decide);obtain⟨_,rfl⟩:=mB;exact⟨_,w4,aEW,wpIn_ret (hk _ _ _ _ aRJ he)⟩
  ·rename_i i hq';obtain rfl:q'=q:=eU hq';obtain⟨jump,w4,aEW,mB,aRJ⟩:=post aO2 ZT aE7 (by simp);obtain⟨_,rfl⟩:=mB;exact⟨_,w4,aEW,wpIn_exit (hk _ _ _ _ aRJ he)⟩
  ·cases he
theorem oc{rd:Option Nat}{n:Nat}(hm:P.follows .mixedOrders=true)(hΓ:Sound P Γ)(hC:C.ok){N:Nat}(ayC:rd=none\/an.mh.isSome=true):∀(c:Code),kN P Γ an N (jF c)->∀ {R:Type} {r:R} (s:AS) (a:Act) (w:World) (k:Exit->AS->Option R) (Q:Exit->Act->World->Prop),
  iw C s a w->ev P Γ an N c s k=some r->(∀e s' a' w',iw C s' a' w'->k e s'=some r->Q e a' w')->c.wpIn (Fr rd) n P Q a w
 | .skip,hL,_,_,s,a,w,k,Q,hs,h,hk=>wpIn_skip (hk _ _ _ _ hs h)
 | .region id ops draw,hL,_,_,s,a,w,k,Q,hs,h,hk=>by
  simp only[ev]at h;refine Qx hC (λk Q h hk=> ?_) h hk;cases draw with
  |true=>
   simp only at h;split at h
   ·rename_i hE;exact aoI hm hΓ hs hE h λs' a' w' hs' hk'=>hk _ _ _ _ hs' hk'
   ·cases h
  |false=>exact wpIn_region_list (Vk hΓ ops.toList hs h λs' a' w' hs' hk'=>hk _ _ _ _ hs' hk')
 | .seq x y,hL,_,_,s,a,w,k,Q,hs,h,hk=>by
  simp only[ev]at h;refine wpIn_seq (Qx hC (λk Q h hk=>oc hm hΓ hC ayC x hL.append.1 s a w k Q hs h hk) h λe s' a' w' hs' hk'=> ?_);cases e with
  |normal=>exact oc hm hΓ hC ayC y hL.append.2 s' a' w' k Q hs' hk' hk
  |_=>exact hk _ s' a' w' hs' hk'
 | .cond c x y,hL,_,_,s,a,w,k,Q,hs,h,hk=>by
  simp only[ev]at h;split at h
  ·rename_i b hb;have hc:a.eval c= .bool b:=by obtain⟨g,β,hi⟩:=hs;have:=hi.ev c;rw[hb]at this;exact XC this
   refine wpIn_cond hc ?_
   cases b with
   |true=>exact oc hm hΓ hC ayC x hL.append.1 s a w k Q hs h hk
   |false=>exact oc hm hΓ hC ayC y hL.append.2 s a w k Q hs h hk
  ·cases h
 | .block id b,hL,_,_,s,a,w,k,Q,hs,h,hk=>by
  simp only[ev]at h;refine wpIn_block (oc hm hΓ hC ayC b hL s a w _ _ hs h λe s' a' w' hs' hk'=> ?_);cases e with
  |exit i=>
   simp only at hk';simp only[Exit.inBlock];by_cases hi:i=id
   ·rw[if_pos hi];simp only[hi,cr]at hk';exact hk _ s' a' w' hs' hk'
   ·rw[if_neg hi];simp only[hi,decide_false]at hk';exact hk _ s' a' w' hs' hk'
  |_=>exact hk _ s' a' w' hs' hk'
 | .loop b,hL,R,r,s,a,w,k,Q,hs,h,hk=>by
  simp only[ev]at h;obtain⟨s1,h1,h⟩:=iq.1 h;have Sk:=pK hC hs h1;obtain⟨hL1,hL2⟩:=(hL:auI P Γ an N b/\kN P Γ an N (jF b));split at h
  ·rename_i le hle;unfold aIK at h;cases aiS:le.set with
   |some S=>
    rw[aiS]at h;simp only at h;obtain⟨h2,h3⟩:=afI h;obtain⟨n,hn⟩:=(hL1 le hle).2 S aiS s1 h2;refine wpIn_loop_rounds n (FV (λs s1 a w hs hn=>pK hC hs hn) (λe s s1 a w hs hn=>pK hC hs hn) (λs a w k Q hs hb hk=>oc hm hΓ hC ayC b hL2 s a w k Q hs hb hk) (λe s' a' w' hs' he=> ?_) n s1 a w Sk hn);obtain⟨x,aO8,aSM⟩:=anX he;obtain⟨y,hy,h4⟩:=iq.1 (h3 x aO8);rw[aSM,az]at hy;subst hy;exact hk _ _ _ _ hs' h4
   |none=>
   rw[aiS]at h;simp only at h;cases hr:le.run s1 with
   |none=>rw[hr]at h;cases h
   |some x=>
    rw[hr]at h;simp only[al]at h;obtain⟨y,hy,h⟩:=iq.1 h;obtain⟨n,hn⟩:=(hL1 le hle).1 aiS s1 x hr;rw[hy]at hn;refine wpIn_loop_rounds n (FV (λs s1 a w hs hn=>pK hC hs hn) (λe s s1 a w hs hn=>pK hC hs hn) (λs a w k Q hs hb hk=>oc hm hΓ hC ayC b hL2 s a w k Q hs hb hk) (λe s' a' w' hs' he=> ?_) n s1 a w Sk hn);simp only[az]at he;subst he;exact hk e s' a' w' hs' h
  ·exact wpIn_loop_rounds N (FV (λs s1 a w hs hn=>pK hC hs hn) (λe s s1 a w hs hn=>pK hC hs hn) (λs a w k Q hs hb hk=>oc hm hΓ hC ayC b hL2 s a w k Q hs hb hk) hk N s1 a w Sk h)
 | .exit id,hL,_,_,s,a,w,k,Q,hs,h,hk=>wpIn_exit (hk _ _ _ _ hs h)
 | .ret,hL,_,_,s,a,w,k,Q,hs,h,hk=>wpIn_ret (hk _ _ _ _ hs h)
 | .rangeFunc f ps as b,_,_,_,s,a,w,k,Q,hs,h,hk=>by
  simp only[ev]at h;obtain⟨s1,h1,h⟩:=iq.1 h;have hs:=lY hC _ hs h1;rcases ayC with rfl | ayC
  ·exact Xs hΓ hs h hk
  ·unfold Gg at h;split at h
   ·rename_i h0 _ _;rw[h0]at ayC;cases ayC
   ·cases h
 | .scope b,hL,_,_,s,a,w,k,Q,hs,h,hk=>by
  simp only[ev]at h;refine Ld (oc hm hΓ hC ayC b hL s a w _ _ hs h λe s' a' w' hs' hk'=> ?_);cases e with
  |goto l=>cases hk'
  |_=>exact hk _ s' a' w' hs' hk'
 | .label _,hL,_,_,s,a,w,k,Q,hs,h,hk=>wpIn_label (hk _ _ _ _ hs h)
 | .goto _,_,_,_,_,_,_,_,_,_,h,_=>by simp[ev]at h
 | .refuse _,_,_,_,_,_,_,_,_,_,h,_=>by simp[ev]at h
variable {g:Nat->mr} {β:Id->Option Pl} {s:AS} {a:Act} {w:World}
def abY(tmps:Array Value)(r:ResultVar):Sem Value:=
 match r with
 | .tmp t=>pure (tmps.getD t undef)
 | .cell a t=>do loadVar t (<-asAddr (tmps.getD a undef))
theorem Rf(h:Inv C g β s a w){r:ResultVar}{v:aB}(he:(ab0 P s r).eval=some v):∃x,(abY a.tmps r).run P w= .ok x w/\VS (s.env w g β) v x:=by
 cases r with
 |tmp t=>
  simp only[ab0]at he;obtain rfl:=ay.1 he;exact⟨_,by simp[abY],h.cq t⟩
 |cell t T=>
  simp only[ab0]at he;obtain⟨ad,z,hy,hr,hv⟩:=aak h (h.cq t) he;exact⟨z,by simp[abY,hy,asAddr,hr],hv⟩
theorem Re(h:Inv C g β s a w){r:ResultVar}{o:Option Ty}{y:AS×aB}(he:(abZ P s r o).eval=some y):
  ∃x g',(abY a.tmps r).run P w= .ok x w/\Inv C g' β y.1 a w/\cK (s.env w g β) (y.1.env w g' β)/\VS (y.1.env w g' β) y.2 x:=by
 cases o with
 |none=>
  simp only[abZ]at he;obtain⟨v,h1,h2⟩:=aw.1 he;obtain rfl:=ay.1 h2;obtain⟨x,hx,hv⟩:=Rf h h1;exact⟨x,g,hx,h,cK.refl _,hv⟩
 |some t=>
  simp only[abZ]at he;obtain⟨v,h1,h2⟩:=aw.1 he;obtain⟨d,h3,h4⟩:=aw.1 h2;obtain rfl:=ay.1 h4;obtain⟨x,hx,hv⟩:=Rf h h1;obtain⟨g',i1,e1,_,cs,hR,hO⟩:=BG h hv h3;exact⟨x,g',hx,i1,e1,VS.of (a:= .d t d) (cs:=cs) (by simpa only[V]using hR) hO⟩
theorem Mx:∀(l:List ResultVar) (ts:List (Option Ty)) {s:AS} {g:Nat->mr} (_:Inv C g β s a w) {y:AS×aB},(Rg P s l ts).eval=some y->
  ∃(xs:List Value) (g':Nat->mr),(l.mapM (abY a.tmps)).run P w= .ok xs w/\Inv C g' β y.1 a w/\cK (s.env w g β) (y.1.env w g' β)/\VC (y.1.env w g' β) y.2 xs/\xs.length=l.length
 |[],ts,s,g,h,y,he=>by simp only[Rg]at he;obtain rfl:=ay.1 he;exact⟨[],g,by simp,h,cK.refl _,by simp[VC],rfl⟩
 |r::l,ts,s,g,h,y,he=>by simp only[Rg]at he;obtain⟨u,h1,h2⟩:=aw.1 he;obtain⟨hc,h2⟩:=aC.1 h2;obtain⟨us,h3,h4⟩:=aw.1 h2;obtain rfl:=ay.1 h4;obtain⟨x,g1,hx,i1,e1,hv⟩:=Re h h1;obtain⟨xs,g2,ap8,i2,e2,Vr,hl⟩:=Mx l ts.tail i1 h3;obtain⟨cs,hV,hO⟩:=(hv.mono e2).eP hc;refine⟨x::xs,g2,?_,i2,e1.trans e2,by simp only[VC];exact⟨x,xs,cs,rfl,hV,hO,Vr⟩,by simp[hl]⟩;simp only[List.mapM_cons,Sem.run_bind,hx,Result.andThen_ok,ap8,Sem.run_pure]
theorem aCf{E:Env}{v:aB}{xs:List Value}(h:VC E v xs):VS E v (.tuple xs.toArray):=by
 cases v <;> first
  | (simp only[VC]at h;done)
  |exact⟨xs,rfl,h⟩
  | (simp only[VC]at h;subst h;rfl)
theorem aev(h:Inv C g β s a w){fn:Func}{ts:List (Option Ty)}{y:AS×aB}(he:(ajZ P fn ts s).eval=some y):
  ∃x g',(results fn a.tmps).run P w= .ok x w/\Inv C g' β y.1 a w/\VS (y.1.env w g' β) y.2 x:=by
 have key:∀xs:List Value,(fn.results.toList.mapM (abY a.tmps)).run P w= .ok xs w->(results fn a.tmps).run P w= .ok (if h:xs.length=1 then xs[0] else .tuple xs.toArray) w:=λxs ap8=>by
  have e:results fn a.tmps=(do
   let vs <-fn.results.mapM (abY a.tmps)
   pure (if h:vs.size=1 then vs[0] else .tuple vs)):=rfl
  rw[e,Array.mapM_eq_mapM_toList];simp only[map_eq_pure_bind,Sem.run_bind,ap8,Result.andThen_ok,Sem.run_pure];congr 1
 unfold ajZ at he;split at he
 ·rename_i r hr;obtain⟨x,g',hx,hi,_,hv⟩:=Re h he;refine⟨x,g',?_,hi,hv⟩;rw[key [x] (by simp[hr,hx])];simp
 ·rename_i rs gC;obtain⟨xs,g',hx,hi,_,hv,hl⟩:=Mx _ _ h he;refine⟨.tuple xs.toArray,g',?_,hi,aCf hv⟩;rw[key xs hx,Cg];rw[hl];intro h1;obtain⟨r,hr⟩:=List.length_eq_one_iff.1 h1;exact gC r hr
end
end Go.Ab
namespace Go.Ab
def vF(ids:List Id):mr->mr
 | .own (.id (.new i j)) k=> .own (.id (match idxOf (.new i j) ids with | some m=> .new 0 m | none=> .new 1 0)) k
 |l=>l
def aGK(β:Id->Option Pl)(ids:List Id):Id->Option Pl
 | .bm k=>β (.bm k)
 | .new 0 m=>(ids[m]?).bind β
 | .new (_+1) _=>none
theorem ayQ{ids:List Id}{g:Nat->mr}{b off:Nat}(h:vh g b off):vh (λb=>vF ids (g b)) b off:=by
 unfold vh at*;simp only;cases hg:g b with
 |free=>simp[vF]
 |own o k=>
  rw[hg]at h;cases o with
  |eh=>exact h
  |id i=>cases i <;> exact h
theorem aiC(s:AS)(v:aB):(s.S5 v).Nodup:=(tJ s _ _ _ (by simp)).filter _
theorem arz{s:AS}{v:aB}{id:Id}(h:id∈s.S5 v):∃i j,id= .new i j:=by
 unfold AS.S5 at h;have:=(nY.1 h).2;cases id with
 |bm k=>simp[Id.aNx]at this
 |new i j=>exact⟨i,j,rfl⟩
section
variable {P:Program} {Γ:oT} {C:Ctx} {g:Nat->mr} {β:Id->Option Pl} {s:AS} {a:Act} {w:World}
theorem afP(h:Inv C g β s a w)(hC:C.ok){v:aB}{x:Value}(hv:VS (s.env w g β) v x):tX C.E (s.fin v) x w:=by
 unfold AS.fin;have hn:=aiC s v;have Hv:∀id∈s.S5 v,∃i j,id= .new i j:=λid cX=>arz cX
 generalize s.S5 v=ids at hn Hv;generalize hG:s.aNb ids v=G;have A5:G.val=v.iS (NJ ids):=by rw[<-hG];rfl
 have hold:∀k,G.st.bV (.bm k)=(s.bV (.bm k)).map (dE.fin ids):=λk=>by
  rw[<-hG];show(s.bZ.map (dE.fin ids))[k]? =_
  rw[eg];rfl
 have aVv:∀m,G.st.bV (.new 0 m)=(ids[m]?).map λid=>((s.bV id).getD .dead).fin ids:=λm=>by
  rw[<-hG];show(ids.map λid=>((s.bV id).getD .dead).fin ids)[m]? =_
  rw[eg]
 have aWB:∀i m,G.st.bV (.new (i+1) m)=none:=λi m=>by simp[fG.st,AS.bV]
 let g':Nat->mr:=λb=>vF ids (g b)
 let β':=aGK β ids
 have aiL:∀e ver fr c,dE.fin ids e= .obj ver fr c->∃c0,e= .obj ver fr c0/\c=c0.iS (NJ ids):=λe ver fr c he=>by
  cases e with
  |dead=>cases he
  |obj v0 fr0 c0=>
   simp only[dE.fin,dE.obj.injEq]at he;obtain⟨rfl,rfl,rfl⟩:=he;exact⟨c0,rfl,rfl⟩
 have hle:Az (NJ ids) (s.env w g β) (G.st.env w g' β'):=by
  refine⟨⟨λb off v ⟨h1,h2⟩=>⟨h1,ayQ h2⟩,λb ob h1 h2=>⟨by show vF ids (g b)= .free;have h1:g b= .free:=h1;rw[h1];rfl,h2⟩⟩,λid ver r hr hb=> ?_⟩;obtain⟨Sj,XK⟩:=hb;have Sj:s.bV id≠none:=Sj;have XK:∀v fr c,s.bV id=some (.obj v fr c)->ver<=v:=XK;cases id with
  |bm k=>
   simp only[NJ,az]at hr;subst hr;refine⟨⟨?_,λv fr c hh=> ?_⟩,λ⟨fr,c,hh⟩=>⟨?_,rfl⟩⟩
   ·show G.st.bV (.bm k)≠none;rw[hold];simpa using Sj
   ·have hh:G.st.bV (.bm k)=some (.obj v fr c):=hh;rw[hold,db]at hh;obtain⟨e,he,hh⟩:=hh;obtain⟨c0,rfl,_⟩:=aiL _ _ _ _ hh;exact XK v fr c0 he
   ·have hh:G.st.bV (.bm k)=some (.obj ver fr c):=hh;rw[hold,db]at hh;obtain⟨e,he,hh⟩:=hh;obtain⟨c0,rfl,_⟩:=aiL _ _ _ _ hh;exact⟨fr,c0,he⟩
  |new i j=>
   simp only[NJ]at hr;split at hr
   ·rename_i m hm;simp only[az]at hr;subst hr;have cX:=pB hm;obtain⟨e,he⟩:=Option.ne_none_iff_exists'.1 Sj;have hg:G.st.bV (.new 0 m)=some (e.fin ids):=by rw[aVv,cX];simp[he]
    refine⟨⟨?_,λv fr c hh=> ?_⟩,λ⟨fr,c,hh⟩=>⟨?_,?_⟩⟩
    ·show G.st.bV (.new 0 m)≠none;rw[hg];simp
    ·have hh:G.st.bV (.new 0 m)=some (.obj v fr c):=hh;rw[hg,az]at hh;obtain⟨c0,rfl,_⟩:=aiL _ _ _ _ hh;exact XK v fr c0 he
    ·have hh:G.st.bV (.new 0 m)=some (.obj ver fr c):=hh;rw[hg,az]at hh;obtain⟨c0,rfl,_⟩:=aiL _ _ _ _ hh;exact⟨fr,c0,he⟩
    ·show(ids[m]?).bind β=β (.new i j);rw[cX];rfl
   ·cases hr
 have arT:Trans C.E.w w C.E.g g':=by
  have h0:=h.trans;refine⟨h0.os,h0.tape,h0.output,h0.size,λb hb=> ?_⟩;have h1:=h0.SE b hb;show match C.E.g b with | .free=>vF ids (g b)= .free/\_ | .own .eh k=>vF ids (g b)= .own .eh k/\_ | .own (.id _) k=>(vF ids (g b)= .free\/∃i k',vF ids (g b)= .own (.id i) k'/\k<=k')/\_
  cases WY:C.E.g b with
  |free=>simp only[WY]at h1 ⊢;rw[h1.1];exact⟨rfl,h1.2⟩
  |own o k=>cases o with
   |eh=>simp only[WY]at h1 ⊢;rw[h1.1];exact⟨rfl,h1.2⟩
   |id i=>
    simp only[WY]at h1 ⊢;refine⟨?_,h1.2⟩;rcases h1.1 with h2 | ⟨i',k',h2,h3⟩
    ·rw[h2];exact .inl rfl
    ·rw[h2];right;cases i' with
     |bm m=>exact⟨_,k',rfl,h3⟩
     |new i j=>exact⟨_,k',rfl,h3⟩
 have aK6:iV (G.st.env w g' β'):=by
  intro id ver fr c cX;have cX:G.st.bV id=some (.obj ver fr c):=cX;cases id with
  |bm k=>
   rw[hold,db]at cX;obtain⟨e,he,cX⟩:=cX;obtain⟨c0,rfl,rfl⟩:=aiL _ _ _ _ cX;refine xl hle (h.bJ (.bm k) ver fr c0 he) rfl λpl _=>⟨rfl,λn hg=> ?_,λhg=> ?_⟩
   ·have hg:g pl.b= .own (.id (.bm k)) n:=hg;show vF ids (g pl.b)=_;rw[hg];rfl
   ·have hg:g pl.b= .free:=hg;show vF ids (g pl.b)=_;rw[hg];rfl
  |new i m=>
   cases i with
   |succ i=>rw[aWB]at cX;cases cX
   |zero=>
    rw[aVv,db]at cX;obtain⟨id0,aOT,cX⟩:=cX;obtain⟨c0,he,rfl⟩:=aiL _ _ _ _ cX;have cO:s.bV id0=some (.obj ver fr c0):=by
     cases hs:s.bV id0 with
     |none=>rw[hs]at he;cases he
     |some e=>rw[hs]at he;simp only[dO]at he;rw[he]
    obtain⟨i0,j0,rfl⟩:=Hv id0 (cI aOT);refine xl hle (h.bJ (.new i0 j0) ver fr c0 cO) (by show(ids[m]?).bind β=_;rw[aOT];rfl) λpl _=>⟨rfl,λn hg=> ?_,λhg=> ?_⟩
    ·have hg:g pl.b= .own (.id (.new i0 j0)) n:=hg;show vF ids (g pl.b)=_;rw[hg];simp only[vF,xw hn aOT]
    ·have hg:g pl.b= .free:=hg;show vF ids (g pl.b)=_;rw[hg];rfl
 have ho:∀id ver,C.E.GS id ver->∃k,id= .bm k:=λid ver hb=>by
  cases id with
  |bm k=>exact⟨k,rfl⟩
  |new i j=>exact absurd (hC.1 i j) hb.1
 refine⟨g',β',by rw[A5];exact HF hle hv,aK6,arT,Trans.mem (E:=C.E) (E':=G.st.env w g' β') arT,λid ver hb=> ?_,λid ver hb hc=> ?_⟩
 ·obtain⟨k,rfl⟩:=ho id ver hb;exact(hle.ref (.bm k) ver (.bm k,ver) rfl (h.le.GS _ _ hb)).1
 ·obtain⟨k,rfl⟩:=ho id ver hb;obtain⟨h1,h2⟩:=(hle.ref (.bm k) ver (.bm k,ver) rfl (h.le.GS _ _ hb)).2 hc;obtain⟨h3,h4⟩:=h.le.cur _ _ hb h1;exact⟨h3,h2.trans h4⟩
theorem yC.len{E:Env}:∀ {as:List aB} {vs:List Value},yC E as vs->as.length=vs.length
 |[],[],_=>rfl
 |_::_,_::_,⟨_,h⟩=>by simp[yC.len h]
 |[],_::_,h=>h.elim
 |_::_,[],h=>h.elim
theorem yC.get{E:Env}:∀ {as:List aB} {vs:List Value},yC E as vs->∀i,VS E (as.getD i .undef) (vs.getD i undef)
 |[],[],_,i=>by simpa using VS.undef
 |_::_,_::_,⟨h,_⟩,0=>by simpa using h
 |_::_,_::_,⟨_,h⟩,i+1=>by simpa using yC.get h i
 |[],_::_,h,_=>h.elim
 |_::_,[],h,_=>h.elim
theorem aAZ{w:World}{g:Nat->mr}{β:Id->Option Pl}{fn:Func}{args:List aB}{bZ:List dE}{jd:List Value}(hv:yC ((fI bZ).env w g β) args jd)(ho:iV ((fI bZ).env w g β)):
  Inv ⟨(fI bZ).env w g β⟩ g β (start fn args bZ) {tmps:=jd.toArray++Array.replicate (fn.ntmps - jd.toArray.size) undef,defers:=[]} w:=by
 have hl:=hv.len;have cO:(start fn args bZ).bV=(fI bZ).bV:=by
  funext id;cases id with
  |bm k=>rfl
  |new i j=>
   simp only[start,fI,AS.bV,aG,List.getElem?_replicate];split <;> simp
 have arK:(start fn args bZ).env w g β=(fI bZ).env w g β:=by simp only[AS.env,cO]
 refine⟨⟨fS,λ_ h=>by cases h⟩,by simp[start,hl],λi=> ?_,by rw[arK];exact ho,Trans.refl _ _,by rw[arK];exact cK.refl _⟩;rw[arK];have h1:(start fn args bZ).slot i=args.getD i .undef:=by
  simp only[start,AS.slot,aG,List.getElem?_append,List.getElem?_replicate];split
  ·rfl
  ·rw[dG (l:=args) ak];split <;> rfl
 have h2:(jd.toArray++Array.replicate (fn.ntmps - jd.toArray.size) undef).getD i undef=jd.getD i undef:=by
  simp only[cH,aG,kH,Array.getElem?_replicate];simp only[ij,List.getElem?_toArray];split
  ·rfl
  ·rw[dG (l:=jd) ak];split <;> rfl
 rw[h1,h2];exact hv.get i
theorem Inv.aP2{C:Ctx}{g:Nat->mr}{β:Id->Option Pl}{s:AS}{a:Act}{w:World}(h:Inv C g β s a w){D:Nat}{ds:List Deferred}(hd:a.defers=vH D::ds):
  (Instr.takeDeferred D).run P w= .ok [] (w.putObj D (.deferred none))/\Inv C g β s {a with defers:=ds} (w.putObj D (.deferred none)):=by
 obtain⟨hn,C8⟩:=h.defers;rw[hd]at hn C8;obtain⟨D',e,hD,hh,hg⟩:=C8 _ (aL ..);have e:Deferred.mk (.collected D) #[]=Deferred.mk (.collected D') #[]:=e;injection e with e _
 injection e with e
 subst e;have gJ:=(bO.1 hh).1;refine⟨run_takeDeferred hh,?_⟩;have other:∀b,b≠D->(w.putObj D (.deferred none)).heap[b]? =w.heap[b]? :=λb hb=>World.putObj_heap_other hb
 have Eh:∀b off v,w.cell? ⟨b,off,none⟩=some v->b≠D:=λb off v hv e=>by subst e;simp[World.cell?,hh]at hv
 have FQ:uc (s.env w g β) (s.env (w.putObj D (.deferred none)) g β):=by
  refine⟨λb off v ⟨h1,h2⟩=>⟨?_,h2⟩,λb ob h1 h2=>⟨h1,?_⟩⟩
  ·have h1:w.cell? ⟨b,off,none⟩=some v:=h1;show(w.putObj D (.deferred none)).cell? ⟨b,off,none⟩=some v;rw[World.cell?_of_block (other b (Eh b off v h1))];exact h1
  ·have h1:g b= .free:=h1;have h2:w.heap[b]? =some ob:=h2
   show(w.putObj D (.deferred none)).heap[b]? =some ob
   rw[other b λe=>by rw[e,hg]at h1;cases h1];exact h2
 have hle:cK (s.env w g β) (s.env (w.putObj D (.deferred none)) g β):=⟨FQ,λ_ _ h=>h,λ_ _ _ h=>⟨h,rfl⟩⟩;have gC:∀ {id:Id} {v:Nat} {fr:Bool} {c:aB} {pl:Pl},s.bV id=some (.obj v fr c)->β id=some pl->pl.b≠D:=λhs hp e=>by
  have:=((h.bJ _ _ _ _ hs).label hp).2;have this:(∃k,g _= .own (.id _) k)\/(_/\g _= .free):=this;rw[e,hg]at this;rcases this with⟨k,hk⟩ | ⟨_,hk⟩
  ·cases hk
  ·cases hk
 refine⟨⟨(cU.1 hn).2,λd hd'=> ?_⟩,h.size,λi=>(h.cq i).mono hle,λid ver fr c hs=> ?_,?_,h.le.trans hle⟩
 ·obtain⟨D2,e1,e2,e3,e4⟩:=C8 d (aI _ hd');refine⟨D2,e1,e2,?_,e4⟩;rw[other D2 λe=>(cU.1 hn).1 (by rw[<-e,<-e1];exact hd')];exact e3
 ·exact xk.mono hle (h.bJ id ver fr c hs) rfl (λpl hp=>⟨other _ (gC hs hp),rfl⟩) λq vq k v l hq _=>⟨⟨k,v,l,hq⟩,λpl hp=>⟨other _ (gC hq hp),rfl⟩⟩
 ·have ht:=h.trans;refine⟨ht.os,ht.tape,ht.output,?_,λb hb=> ?_⟩
  ·have:=ht.size;simpa[World.putObj]using this
  ·have h1:=ht.SE b hb;have hbD:b≠D:=ak;have hc:∀off v,w.cell? ⟨b,off,none⟩=some v->(w.putObj D (.deferred none)).cell? ⟨b,off,none⟩=some v:=λoff v hv=>by rw[World.cell?_of_block (other b hbD)];exact hv
   rw[other b hbD];split at h1
   ·exact h1
   ·exact h1
   ·exact⟨h1.1,λoff v ho hv=>hc off v (h1.2 off v ho hv)⟩
theorem VH{C:Ctx}{g:Nat->mr}{β:Id->Option Pl}{s:AS}{fn:Func}{R:Ending->World->Prop}:∀(ds:List Deferred) {a:Act} {w:World},Inv C g β s a w->a.defers=ds->
  (∀a2 w2,Inv C g β s a2 w2->a2.tmps=a.tmps->∃v,(results fn a.tmps).run P w2= .ok v w2/\R (.returned v) w2)->LeavesInM Fence.wide 0 P fn a.tmps R ds .returning w
 |[],a,w,h,hd,hk=>hk a w h rfl
 |d::ds,a,w,h,hd,hk=>by obtain⟨D,e,_⟩:=h.defers.2 d (by rw[hd];exact aL ..);subst e;obtain⟨h1,h2⟩:=h.aP2 (P:=P) hd;exact⟨by simp,.inl ⟨D,_,rfl,h1,VH (fn:=fn) (R:=R) ds (a:= {a with defers:=ds}) h2 rfl hk⟩⟩
theorem amO{bZ:List dE}{w:World}{g:Nat->mr}{β:Id->Option Pl}(h:bZ.all dE.first=true){k v:Nat}{fr:Bool}{c:aB}(hk:((fI bZ).env w g β).s (.bm k)=some (.obj v fr c)):v=0:=by
 have hk:bZ[k]? =some (.obj v fr c):=by simpa[AS.env,fI,AS.bV]using hk
 have:=cV.1 h _ (cI hk);exact eU this
theorem Ps(hm:P.follows .mixedOrders=true)(hΓ:Sound P Γ){f:FuncId}{fn:Func}(hf:P.funcs[f]? =some fn)(hb:fn.body.isSome=true)(A4:(fn.name== "runtime.NumGoroutine")=false){an:xi}{N:Nat}(hL:∀c,fn.body=some c->kN P Γ an N (jF c))
  {args:List aB} {bZ:List dE} {R:Type} {k:fG->Option R} {r:R} (hN:alj P Γ an N fn args bZ k=some r) (aiR:an.mh=none)
  {jd:List Value} (hv:yC ((fI bZ).env w g β) args jd) (ho:iV ((fI bZ).env w g β)):(callFunc f jd.toArray).run P w= .ok (.enter f jd.toArray) w/\
   Calls P f jd.toArray w λe w'=>∃v G,e= .returned v/\k G=some r/\tX ((fI bZ).env w g β) G v w':=by
 obtain⟨c,hc⟩:=bN.1 hb;refine⟨?_,?_⟩
 ·unfold callFunc;have hname':¬fn.name= "runtime.NumGoroutine" :=by simpa using A4
  simp[hf,hname',hc]
 ·unfold alj at hN;rw[aiR,hc]at hN;simp only at hN;split at hN
  ·cases hN
  rename_i hF;have hC:(Ctx.mk ((fI bZ).env w g β)).ok:=⟨λi j=>by simp[AS.env,fI,AS.bV],λk v fr c hk=>amO hF hk⟩;refine callsIn_wide.1 (callsIn_of_wp_marks (F:=Fence.wide) (n:=0) hf hc trivial (oc (rd:=none) (C:=⟨(fI bZ).env w g β⟩) hm hΓ hC (.inl rfl) c (hL c hc) _ _ w _ _ ⟨g,β,aAZ hv ho⟩ hN λe s' a' w' hs' hk'=> ?_));have fin:(finish P an fn s').run k=some r->LeavesInM Fence.wide 0 P fn a'.tmps (λe w'=>∃v G,e= .returned v/\k G=some r/\tX ((fI bZ).env w g β) G v w') a'.defers .returning w':=λhr=>by
   obtain⟨G,h1,h2⟩:=iq.1 hr;unfold finish at h1;obtain⟨sd,aTj,h1⟩:=aw.1 h1;obtain⟨s2,h3,h4⟩:=aw.1 h1;obtain⟨s3,aV5,h4⟩:=aw.1 h4;obtain⟨s4,aV6,h4⟩:=aw.1 h4;obtain⟨y,h5,h6⟩:=aw.1 h4;obtain⟨g1,β1,aNm⟩:=hs';refine VH a'.defers aNm rfl λa2 w2 aOR aT7=> ?_
   obtain⟨g0,β0,aKZ⟩:=AX _ ⟨g1,β1,aOR⟩ aTj;obtain⟨g',β',hi⟩:=OP _ (lY hC _ ⟨g0,β0,aKZ.drop _⟩ h3) aV5;have hi:=Fe hC _ hi aV6;obtain⟨z,g2,h7,h8,h9⟩:=aev hi h5;refine⟨z,by rw[<-aT7];exact h7,z,G,rfl,h2,?_⟩;rw[<-ay.1 h6];exact afP h8 hC h9
  cases e with
  |normal=>exact fin hk'
  |ret=>exact fin hk'
  |_=>cases hk'
theorem qZ.vK(hm:P.follows .mixedOrders=true)(hΓ:Sound P Γ){f:FuncId}{fn:Func}(hf:P.funcs[f]? =some fn)(hb:fn.body.isSome=true)(A4:(fn.name== "runtime.NumGoroutine")=false){en:Entry}{an:xi}{N:Nat}(hL:∀c,fn.body=some c->kN P Γ an N (jF c))
  (h:∀args bZ x,en.run args bZ=some x->alj P Γ an N fn args bZ some=some (en.out args bZ x)) (aiR:an.mh=none):qZ P f en:=by
 intro w g β args bZ jd x hv ho hx;obtain⟨h1,h2⟩:=Ps hm hΓ hf hb A4 hL (h args bZ x hx) aiR hv ho;exact .inl ⟨h1,h2.mono λe w' ⟨v,G,e1,e2,e3⟩=>⟨v,e1,by rw[<-bk e2];exact e3⟩⟩
theorem O0.vK(hm:P.follows .mixedOrders=true)(hΓ:Sound P Γ){f:FuncId}{fn:Func}(hf:P.funcs[f]? =some fn)(hb:fn.body.isSome=true)(A4:(fn.name== "runtime.NumGoroutine")=false){en:Entry}{an:xi}{N:Nat}(hL:∀c,fn.body=some c->kN P Γ an N (jF c))
  (h:∀args bZ,(∃x,en.set args bZ x)->alj P Γ an N fn args bZ (λG=>aPw (∃x,en.set args bZ x/\G=en.out args bZ x))=some ()) (aiR:an.mh=none):O0 P f en:=by
 intro w g β args bZ jd hv ho hx;obtain⟨h1,h2⟩:=Ps hm hΓ hf hb A4 hL (h args bZ hx) aiR hv ho;refine⟨h1,h2.mono λe w' ⟨v,G,e1,e2,e3⟩=> ?_⟩;obtain⟨x,hs,rfl⟩:=anX e2;exact⟨v,x,e1,hs,e3⟩
theorem MC:∀(l:List (Tmp×Value)) (t:Array Value),(l.foldl (λtmps (x:Tmp×Value)=>tmps.setIfInBounds x.1 x.2) t).size=t.size
 |[],_=>rfl
 |x::l,t=>by rw[bA,MC l];simp
theorem Jr:∀(l:List (Tmp×aB)) (fs:List aB),(zX l fs).length=fs.length
 |[],_=>rfl
 |x::l,fs=>by rw[zX,Jr l];simp
theorem MD{E:Env}:∀(ps:List Tmp) (vs:List aB) (us:List Value) (fs:List aB) (t:Array Value),yC E vs us->fs.length=t.size->(∀i,VS E (fs.getD i .undef) (t.getD i undef))->
  ∀i,VS E ((zX (ps.zip vs) fs).getD i .undef) (((ps.zip us).foldl (λtmps (x:Tmp×Value)=>tmps.setIfInBounds x.1 x.2) t).getD i undef)
 |[],_,_,fs,t,_,_,h=>by simpa[zX]using h
 |_::_,[],[],fs,t,_,_,h=>by simpa[zX]using h
 |_::_,[],_::_,_,_,h,_,_=>h.elim
 |_::_,_::_,[],_,_,h,_,_=>h.elim
 |p::ps,v::vs,u::us,fs,t,⟨h1,h2⟩,hl,h=>by
  simp only[List.zip_cons_cons,zX,bA];refine MD ps vs us _ _ h2 (by simpa using hl) λi=> ?_
  simp only[aG,cH,List.getElem?_set,dT,hl];have hi:=h i;simp only[aG,cH]at hi;split
  ·split
   ·simpa using h1
   ·simpa using VS.undef
  ·exact hi
theorem yC.split{E:Env}:∀(n:Nat) {as:List aB} {us ts:List Value},us.length=n->yC E as (us++ts)->yC E (as.take n) us/\yC E (as.drop n) ts
 | 0,as,[],ts,_,h=>by simpa using⟨trivial,h⟩
 | 0,as,_::_,ts,hn,h=>by simp at hn
 |n+1,as,[],ts,hn,h=>by simp at hn
 |n+1,[],u::us,ts,_,h=>h.elim
 |n+1,a::as,u::us,ts,hn,⟨h1,h2⟩=>by have:=yC.split n (by simpa using hn) h2;exact⟨⟨h1,this.1⟩,this.2⟩
theorem at3{w:World}{g:Nat->mr}{β:Id->Option Pl}{ps:Array Tmp}{args:List aB}{bZ:List dE}{us ts:List Value}(hl:us.length=ps.size)(hv:yC ((fI bZ).env w g β) args (us++ts))(ho:iV ((fI bZ).env w g β)):
  Inv ⟨(fI bZ).env w g β⟩ g β (acB ps.toList args bZ) {tmps:=(ps.zip us.toArray).foldl (λtmps (t,a)=>tmps.setIfInBounds t a) ts.toArray,defers:=[]} w:=by
 obtain⟨h1,h2⟩:=yC.split ps.toList.length (by simpa using hl) hv;have cO:(acB ps.toList args bZ).bV=(fI bZ).bV:=by
  funext id;cases id with
  |bm k=>rfl
  |new i j=>
   simp only[acB,fI,AS.bV,aG,List.getElem?_replicate];split <;> simp
 have arK:(acB ps.toList args bZ).env w g β=(fI bZ).env w g β:=by simp only[AS.env,cO]
 have e:(ps.zip us.toArray).foldl (λtmps (x:Tmp×Value)=>tmps.setIfInBounds x.1 x.2) ts.toArray=(ps.toList.zip us).foldl (λtmps (x:Tmp×Value)=>tmps.setIfInBounds x.1 x.2) ts.toArray:=by rw[<-Array.foldl_toList,Array.toList_zip]
 have e':(ps.zip us.toArray).foldl (λtmps (t,a)=>tmps.setIfInBounds t a) ts.toArray=(ps.toList.zip us).foldl (λtmps (x:Tmp×Value)=>tmps.setIfInBounds x.1 x.2) ts.toArray:=e;rw[e'];refine⟨⟨fS,λ_ h=>by cases h⟩,?_,λi=> ?_,by rw[arK];exact ho,Trans.refl _ _,by rw[arK];exact cK.refl _⟩
 ·show Array.size _=(zX _ _).length;rw[MC,Jr];simpa using h2.len.symm
 ·rw[arK];exact MD ps.toList _ us _ _ h1 (by simpa using h2.len) (λi=>by simpa[cH,aG]using h2.get i) i
theorem GL.vK(hm:P.follows .mixedOrders=true)(hΓ:Sound P Γ){y:Nat}{fn:Func}{en:Entry}{an:xi}{N:Nat}(hL:kN P Γ an N (jF (ri P y).as++jF (ri P y).b))
  (h:∀args bZ x,en.run args bZ=some x->alj P Γ an N fn args bZ some=some (en.out args bZ x)) (aiR:an.mh=some y):GL P y en:=by
 intro w g β args bZ jd x hv ho hx l us ts f rd n aRO tT;have hN:=h args bZ x hx;unfold alj at hN;rw[aiR]at hN;simp only at hN;unfold aHy at hN;split at hN;rotate_left
 ·cases hN
 rename_i args;split at hN
 ·cases hN
 rename_i hF;subst aRO;obtain⟨aO4,Vq⟩:=hv;have hC:(Ctx.mk ((fI bZ).env w g β)).ok:=⟨λi j=>by simp[AS.env,fI,AS.bV],λk v fr c hk=>amO hF hk⟩;obtain⟨cs,hV,hO⟩:=aO4;simp only[V]at hV;obtain⟨l',rfl,am0,fx⟩:=hV;have hl:l'=l:=by simpa[fO,aB.agg]using hO
 subst hl;have at_l:∀ {s:AS} {g1:Nat->mr} {β1:Id->Option Pl} {a:Act} {w1:World} {pl:Pl},Inv ⟨(fI bZ).env w g β⟩ g1 β1 s a w1->(s.env w1 g1 β1).cur (.bm 0) 0->β1 (.bm 0)=some pl->pl.b=l':=by intro s g1 β1 a w1 pl hi hc hp;obtain⟨c1,c2⟩:=hi.le.cur _ _ am0 hc;obtain⟨pl',hp',rfl⟩:=fx c1;have c2:β1 (.bm 0)=β (.bm 0):=c2;have hp':β (.bm 0)=some pl':=hp';rw[c2,hp']at hp;exact(bo Pl.b (bk hp)).symm
 refine roundIn_of_wpIn (F:=Fr rd) trivial ?_
 have adT:some l'=none\/an.mh.isSome=true:= .inr (by rw[aiR];rfl);refine oc (rd:=some l') hm hΓ hC adT _ hL.append.1 _ _ w _ _ ⟨g,β,at3 tT Vq ho⟩ hN λe s1 a1 w1 Sk aiN=> ?_
 cases e with
 |normal=>
  simp only at aiN;cases h1:s1.TO 0 1 with
  |none=>rw[h1]at aiN;cases aiN
  |some s2=>
   rw[h1]at aiN;simp only[al]at aiN;obtain⟨g1,β1,aNm⟩:=Sk;obtain⟨pl,r,hp,hc,hb,mB,aRC⟩:=Q8 aNm h1;have:=at_l aNm hc hp;subst this;refine⟨_,run_beginRound hb mB.1,?_⟩;have aOR:=aRC {r with state:= .busy} rfl rfl rfl rfl rfl;refine oc (rd:=some pl.b) hm hΓ hC adT _ hL.append.2 _ _ _ _ _ ⟨_,_,aOR⟩ aiN λe s3 a3 w3 aO2 aK0=> ?_
   cases aNj:aNa e with
   |none=>rw[aNj]at aK0;cases aK0
   |some p=>
    rw[aNj]at aK0;simp only[al]at aK0;cases h4:s3.TO 1 p with
    |none=>rw[h4]at aK0;cases aK0
    |some s4=>
     rw[h4]at aK0;simp only at aK0;obtain⟨g3,β3,aVn⟩:=aO2;obtain⟨pl3,r3,aWD,aEU,aVd,aWL,hnext3⟩:=Q8 aVn h4;have aWt:=at_l aVn aEU aWD;rw[aWt]at aVd hnext3
     have fin:∀(jump:Option Code) (b:Bool),iJ p 0=jump.isNone->aoH p (if jump.isNone then .ready else .done) jump->
       ∃v w',(Instr.endRound pl.b jump).run P w3= .ok v w'/\∃v',Ending.returned v= .returned v'/\tX ((fI bZ).env w g β) (en.out (.yl (.bm 0) 0::args) bZ x) v' w':=λjump b hb hr=>by
      have aWn:=hnext3 {r3 with state:=if jump.isNone then .ready else .done,pending:=jump} rfl rfl rfl rfl hr;refine⟨_,_,run_endRound jump aVd,_,rfl,?_⟩;obtain⟨G,k1,k2⟩:=iq.1 aK0;simp only[az]at k2;subst k2;unfold avm at k1;obtain⟨sd,m1,k1⟩:=aw.1 k1;obtain⟨s5,m2,k1⟩:=aw.1 k1;obtain⟨s6,m3,k1⟩:=aw.1 k1;obtain⟨s7,m4,k1⟩:=aw.1 k1;obtain⟨g0,β0,aKZ⟩:=AX _ ⟨_,_,aWn⟩ m1;obtain⟨g',β',hi⟩:=OP _ (lY hC _ ⟨g0,β0,aKZ.drop _⟩ m2) m3;have hi:=Fe hC _ hi m4;rw[<-ay.1 k1,hb];exact afP hi hC (wg _)
     cases e with
     |normal=>
      obtain rfl:=bk aNj;exact fin none true rfl ⟨rfl,rfl⟩
     |ret=>
      obtain rfl:=bk aNj;exact fin (some .ret) false rfl ⟨rfl,rfl⟩
     |exit i=>
      obtain rfl:=bk aNj;exact fin (some (.exit i)) false rfl ⟨rfl,rfl⟩
     |goto _=>cases aNj
     |panic _=>cases aNj
     |outgrown=>cases aNj
 |_=>cases aiN
end
end Go.Ab
namespace Go.Ab
def dX(k:IntKind)(n:Int):Int:=k.wrap n
def bI(k:IntKind)(x y:Int):Int:=k.wrap (x+y)
def cP(k:IntKind)(x y:Int):Int:=k.wrap (x - y)
def gv(k:IntKind)(x y:Int):Int:=k.wrap (x*y)
def tV(k:IntKind)(x y:Int):Int:=k.wrap (x.tdiv y)
def mR(x y:Int):Int:=x.tmod y
def mD(k:IntKind)(x y:Int):Int:=k.wrap (x*2^(min y.toNat k.bits))
def cv(k:IntKind)(x y:Int):Int:=x.fdiv (2^(min y.toNat k.bits))
def aLr(k:IntKind)(x:Int):Int:=cG .xor k (if k.signed then -1 else k.max) x
def qY(x y:Int):Bool:=x==y
def BY(x y:Int):Bool:=x !=y
def gq(x y:Int):Bool:=decide (x < y)
def aiU(x y:Int):Bool:=decide (x<=y)
def rz(x y:Int):Bool:=decide (x > y)
def Cm(x y:Int):Bool:=decide (x>=y)
def seq(x y:ByteArray):Bool:=x.toList==y.toList
def apd(a:ByteArray)(i:Int):Int:=((a.data.toList.getD i.toNat 0).toNat:Int)
def eo(i n:Int):Bool:=decide (0<=i/\i < n)
def inc(i n:Int):Bool:=decide (0<=i/\i<=n)
def mF(y:Int):Bool:=decide (0<=y)
def rX(y:Int):Bool:= !(decide (y=0))
open Classical in
def dy.of{D X:Type}(st:D->AS)(fF:D->Prop)(F:D->X)(out:X->Out (Exit×AS)):dy:= {X,run:=λs=>if h:∃d,st d=s/\fF d then some (F h.choose) else none,out}
open Classical in
theorem dy.vK{D X:Type}{st:D->AS}{fF:D->Prop}{F:D->X}{out:X->Out (Exit×AS)}(NP:∀d d',st d=st d'->d=d'){d:D}(h:fF d):(dy.of st fF F out).run (st d)=some (F d):=by have hex:∃d',st d'=st d/\fF d':=⟨d,rfl,h⟩;show(if h:∃d',st d'=st d/\fF d' then some (F h.choose) else none)=_;rw[ze hex,NP _ _ hex.choose_spec.1]
open Classical in
def oU.of{X:Type}(an:oM)(st:X->AS):oU:=
 {an,X,avC:=λe s=>if h:e= .normal/\∃x,st x=s then some h.2.choose else none,out:=λx=> .ok (.normal,st x),
  ok:=λe s x h=>by
   by_cases h1:e= .normal/\∃x,st x=s
   ·rw[ze h1]at h;have h2:=h1.2.choose_spec;rw[bk h]at h2;rw[h1.1,<-h2];rfl
   ·rw[Cg h1]at h;cases h}
open Classical in
theorem oU.F5{X:Type}{an:oM}{st:X->AS}(NP:∀d d',st d=st d'->d=d')(x:X):(oU.of an st).avC .normal (st x)=some x:=by have hex:Exit.normal= .normal/\∃y,st y=st x:=⟨rfl,x,rfl⟩;show(if h:Exit.normal= .normal/\∃y,st y=st x then some h.2.choose else none)=_;rw[ze hex,NP _ _ hex.2.choose_spec]
open Classical in
theorem auI.of{P:Program}{Γ:oT}{an:xi}{N:Nat}{fn:Func}{i:Nat}{D X:Type}{st:D->AS}{fF:D->Prop}{F:D->X}{out:X->Out (Exit×AS)}
  (hle:an.fC (dM (pz fn i))=some (dy.of st fF F out)) (h:∀d,fF d->∃n,QK P Γ an N fn i n (st d) (λe s=>some (e,s))=(out (F d)).eval):auI P Γ an N (pz fn i):=by
 intro le hle';rw[hle]at hle';simp only[az]at hle';subst hle';refine⟨λ_ s x hx=> ?_,λS hS=>by cases hS⟩;change (if h:∃d',st d'=s/\fF d' then some (F h.choose) else none)=some x at hx;split at hx
 ·rename_i hex;obtain rfl:=bk hx;obtain⟨h1,h2⟩:=hex.choose_spec;obtain⟨n,hn⟩:=h _ h2;refine⟨n,?_⟩;show QK P Γ an N fn i n s _=_;rw[h1]at hn;exact hn
 ·cases hx
theorem As(P:Program)(Γ:oT)(an:xi)(N:Nat)(fn:Func)(i:Nat){R:Type}(n:Nat)(s:AS)(k:Exit->AS->Option R):QK P Γ an N fn i (n+1) s k=Dd P Γ an N fn i s (λs1=>QK P Γ an N fn i n s1 k) k:=rfl
theorem avM{P:Program}{Γ:oT}{an:xi}{N:Nat}{fn:Func}{i:Nat}{D X:Type}{st:D->AS}{fF:D->Prop}{F:D->X}{out:X->Out (Exit×AS)}(μ:D->Nat)
  (h:∀d,fF d->(∃d',fF d'/\μ d' < μ d/\F d'=F d/\∀ {R:Type} (kn:AS->Option R) (kx:Exit->AS->Option R),Dd P Γ an N fn i (st d) kn kx=kn (st d'))\/
   (∃r,(out (F d)).eval=some r/\∀ {R:Type} (kn:AS->Option R) (kx:Exit->AS->Option R),Dd P Γ an N fn i (st d) kn kx=kx r.1 r.2)):
  ∀d,fF d->∃n,QK P Γ an N fn i n (st d) (λe s=>some (e,s))=(out (F d)).eval:=by
 have key:∀m d,μ d=m->fF d->∃n,QK P Γ an N fn i n (st d) (λe s=>some (e,s))=(out (F d)).eval:=by
  intro m
  induction m using Nat.strongRecOn with
  |_ m ih=>
   intro d hm hp;rcases h d hp with⟨d',hp',gJ,hF,hr⟩ | ⟨r,hr,hx⟩
   ·obtain⟨n,hn⟩:=ih (μ d') ak d' rfl hp';exact⟨n+1,by rw[As,hr,hn,hF]⟩
   ·exact⟨1,by rw[As,hx,hr]⟩
 exact λd hp=>key _ d rfl hp
open Classical in
def dy.W5{D X Y:Type}(st:D->AS)(fF:D->Prop)(add:D->Y->X)(Post:D->Y->Prop)(out:X->Out (Exit×AS)):dy:= {X,run:=λ_=>none,out,set:=some λs x=>∃d,st d=s/\fF d/\∃y,Post d y/\x=add d y}
def aR9{D X Y:Type}(st:D->AS)(fF:D->Prop)(add:D->Y->X)(Post:D->Y->Prop):D->X->Prop:=λd0 x=>∃d,st d=st d0/\fF d/\∃y,Post d y/\x=add d y
abbrev awJ{D X Y:Type}(set:D->X->Prop)(fF:D->Prop)(add:D->Y->X)(Post:D->Y->Prop):Prop:=∀ {d:D} {R:Type} {k:X->Option R} {r:Option R},fF d->(∃y,Post d y)->(∀y,Post d y->k (add d y)=r)->Zx (set d) k=r
theorem aUG{D X Y:Type}{st:D->AS}{fF:D->Prop}{add:D->Y->X}{Post:D->Y->Prop}(NP:∀d d',st d=st d'->d=d'):awJ (aR9 st fF add Post) fF add Post:=λh h1 h2=>by
 obtain⟨y,hy⟩:=h1;refine avj ⟨_,_,rfl,h,y,hy,rfl⟩ λx hx=> ?_
 obtain⟨d',h3,_,y',h4,rfl⟩:=hx;obtain rfl:=NP _ _ h3;exact h2 y' h4
abbrev auJ(P:Program)(G:oT)(an:xi)(N:Nat)(fn:Func)(i:Nat){D X Y:Type}(st:D->AS)(fF:D->Prop)(add:D->Y->X)(Post:D->Y->Prop)(out:X->Out (Exit×AS)):Prop:=∀d,fF d->∃n,∀k:Exit->AS->Option Unit,(∀y e s,Post d y->(out (add d y)).eval=some (e,s)->k e s=some ())->QK P G an N fn i n (st d) k=some ()
theorem auI.W5{P:Program}{Γ:oT}{an:xi}{N:Nat}{fn:Func}{i:Nat}{D X Y:Type}{st:D->AS}{fF:D->Prop}{add:D->Y->X}{Post:D->Y->Prop}{out:X->Out (Exit×AS)}
  (h:auJ P Γ an N fn i st fF add Post out) (hle:an.fC (dM (pz fn i))=some (dy.W5 st fF add Post out)):auI P Γ an N (pz fn i):=by
 intro le hle';rw[hle]at hle';simp only[az]at hle';subst hle';refine⟨λhS=>(by cases hS),λS hS s hs=> ?_⟩;obtain rfl:=bk hS;obtain⟨x,d,rfl,hp,y,hy,rfl⟩:=hs;obtain⟨n,hn⟩:=h d hp;exact⟨n,hn _ λy e s h1 h2=>aGp ⟨add d y,⟨d,rfl,hp,y,h1,rfl⟩,h2⟩⟩
theorem afk{n:Nat}{Q:Nat->Nat->Prop}(h:∀j,j < n->∃N,∀M,N<=M->Q j M):∃N,∀M,N<=M->∀j,j < n->Q j M:=by
 induction n with
 |zero=>exact⟨0,λ_ _ j hj=>ak⟩
 |succ n ih=>
  obtain⟨N1,h1⟩:=ih λj hj=>h j ak
  obtain⟨N2,h2⟩:=h n ak;refine⟨max N1 N2,λM hM j hj=> ?_⟩;by_cases aVq:j=n
  ·subst aVq;exact h2 M ak
  ·exact h1 M ak j ak
theorem aF2{P:Program}{Γ:oT}{an:xi}{N:Nat}{fn:Func}{i:Nat}{D X:Type}{st:D->AS}{fF:D->Prop}{F:D->X}{out:X->Out (Exit×AS)}(μ:D->Nat)
  (h:∀d,fF d->(∃(m:Nat) (d':Nat->D),0 < m/\(∀j,j < m->fF (d' j)/\μ (d' j) < μ d/\F (d' j)=F d)/\∀ {R:Type} (kn:AS->Option R) (kx:Exit->AS->Option R),Dd P Γ an N fn i (st d) kn kx=aEe m λj=>kn (st (d' j)))\/
   (∃r,(out (F d)).eval=some r/\∀ {R:Type} (kn:AS->Option R) (kx:Exit->AS->Option R),Dd P Γ an N fn i (st d) kn kx=kx r.1 r.2)):
  ∀d,fF d->∃n,QK P Γ an N fn i n (st d) (λe s=>some (e,s))=(out (F d)).eval:=by
 have key:∀m d,μ d=m->fF d->∃n,∀M,n<=M->QK P Γ an N fn i M (st d) (λe s=>some (e,s))=(out (F d)).eval:=by
  intro m
  induction m using Nat.strongRecOn with
  |_ m ih=>
   intro d hm hp;rcases h d hp with⟨c,d',hc,hd,hr⟩ | ⟨r,hr,hx⟩
   ·obtain⟨n,hn⟩:=afk (n:=c) (Q:=λj M=>QK P Γ an N fn i M (st (d' j)) (λe s=>some (e,s))=(out (F d)).eval) λj hj=>by obtain⟨h1,h2,h3⟩:=hd j hj;obtain⟨n,hn⟩:=ih (μ (d' j)) ak (d' j) rfl h1;exact⟨n,λM hM=>by rw[hn M hM,h3]⟩
    refine⟨n+1,λM hM=> ?_⟩;obtain⟨M,rfl⟩:∃M',M=M'+1:=⟨M - 1,ak⟩;rw[As,hr];exact aEf hc λj hj=>hn M ak j hj
   ·refine⟨1,λM hM=> ?_⟩;obtain⟨M,rfl⟩:∃M',M=M'+1:=⟨M - 1,ak⟩;rw[As,hx,hr]
 exact λd hp=>let⟨n,hn⟩:=key _ d rfl hp;⟨n,hn n (ax _)⟩
theorem aF3{P:Program}{Γ:oT}{an:xi}{N:Nat}{fn:Func}{i:Nat}{D X Y:Type}{st:D->AS}{fF:D->Prop}{add:D->Y->X}{Post:D->Y->Prop}{out:X->Out (Exit×AS)}(μ:D->Nat)
  (h:∀d,fF d->(∃(m:Nat) (d':Nat->D),0 < m/\(∀j,j < m->fF (d' j)/\μ (d' j) < μ d/\∀y,Post (d' j) y->∃y',Post d y'/\add (d' j) y=add d y')/\∀ {R:Type} (kn:AS->Option R) (kx:Exit->AS->Option R),Dd P Γ an N fn i (st d) kn kx=aEe m λj=>kn (st (d' j)))\/
   (∃y r,Post d y/\(out (add d y)).eval=some r/\∀ {R:Type} (kn:AS->Option R) (kx:Exit->AS->Option R),Dd P Γ an N fn i (st d) kn kx=kx r.1 r.2)):auJ P Γ an N fn i st fF add Post out:=by
 have key:∀m d,μ d=m->fF d->∃n,∀M,n<=M->∀k:Exit->AS->Option Unit,(∀y e s,Post d y->(out (add d y)).eval=some (e,s)->k e s=some ())->QK P Γ an N fn i M (st d) k=some ():=by
  intro m
  induction m using Nat.strongRecOn with
  |_ m ih=>
   intro d hm hp;rcases h d hp with⟨c,d',hc,hd,hr⟩ | ⟨y,r,hy,hr,hx⟩
   ·obtain⟨n,hn⟩:=afk (n:=c) (Q:=λj M=>∀k:Exit->AS->Option Unit,(∀y e s,Post (d' j) y->(out (add (d' j) y)).eval=some (e,s)->k e s=some ())->QK P Γ an N fn i M (st (d' j)) k=some ()) λj hj=>by obtain⟨h1,h2,h3⟩:=hd j hj;exact ih (μ (d' j)) ak (d' j) rfl h1
    refine⟨n+1,λM hM k hk=> ?_⟩;obtain⟨M,rfl⟩:∃M',M=M'+1:=⟨M - 1,ak⟩;rw[As,hr];refine aEf hc λj hj=>hn M ak j hj k λy e s h1 h2=> ?_
    obtain⟨y',h3,h4⟩:=(hd j hj).2.2 y h1;rw[h4]at h2;exact hk y' e s h3 h2
   ·refine⟨1,λM hM k hk=> ?_⟩;obtain⟨M,rfl⟩:∃M',M=M'+1:=⟨M - 1,ak⟩;rw[As,hx];exact hk y r.1 r.2 hy hr
 exact λd hp=>let⟨n,hn⟩:=key _ d rfl hp;⟨n,hn n (ax _)⟩
theorem anF{P:Program}{Γ:oT}{an:xi}{N:Nat}{fn:Func}{i:Nat}{D X:Type}{st:D->AS}{fF:D->Prop}{F:D->X}{ex:X->Exit×AS}(μ:D->Nat)(h:∀d,fF d->(∃d',fF d'/\μ d' < μ d/\F d'=F d/\∀ {R:Type} (kn:AS->Option R) (kx:Exit->AS->Option R),Dd P Γ an N fn i (st d) kn kx=kn (st d'))\/(∀ {R:Type} (kn:AS->Option R) (kx:Exit->AS->Option R),Dd P Γ an N fn i (st d) kn kx=kx (ex (F d)).1 (ex (F d)).2)):∀d,fF d->∃n,QK P Γ an N fn i n (st d) (λe s=>some (e,s))=(Out.ok (ex (F d))).eval:=avM (out:=λx=> .ok (ex x)) μ λd hp=>(h d hp).imp id λh=>⟨_,rfl,h⟩
open Classical in
def Entry.of{D X:Type}(params:List (Option Ty))(st:D->List aB×List dE)(fF:D->Prop)(F:D->X)(out:X->fG):Entry:= {params,X,run:=λargs bZ=>if h:∃d,st d=(args,bZ)/\fF d then some (F h.choose) else none,out:=λ_ _=>out}
open Classical in
theorem Entry.vK{D X:Type}{params:List (Option Ty)}{st:D->List aB×List dE}{fF:D->Prop}{F:D->X}{out:X->fG}(NP:∀d d',st d=st d'->d=d'){d:D}(h:fF d):
  (Entry.of params st fF F out).run (st d).1 (st d).2=some (F d):=by
 have hex:∃d',st d'=((st d).1,(st d).2)/\fF d':=⟨d,rfl,h⟩;show(if h:∃d',st d'=((st d).1,(st d).2)/\fF d' then some (F h.choose) else none)=_;rw[ze hex,NP _ _ hex.choose_spec.1]
open Classical in
theorem avV{D X:Type}{params:List (Option Ty)}{st:D->List aB×List dE}{fF:D->Prop}{F:D->X}{out:X->fG}{args:List aB}{bZ:List dE}{x:X}(hx:(Entry.of params st fF F out).run args bZ=some x):∃d,st d=(args,bZ)/\fF d/\x=F d:=by
 change (if h:∃d',st d'=(args,bZ)/\fF d' then some (F h.choose) else none)=some x at hx;split at hx
 ·rename_i hex;obtain rfl:=bk hx;exact⟨_,hex.choose_spec.1,hex.choose_spec.2,rfl⟩
 ·cases hx
theorem qZ.of{P:Program}{Γ:oT}(hm:P.follows .mixedOrders=true)(hΓ:Sound P Γ){f:FuncId}{fn:Func}(hf:P.funcs[f]? =some fn)(hb:fn.body.isSome=true)(A4:(fn.name== "runtime.NumGoroutine")=false){an:xi}{N:Nat}
  (hL:∀c,fn.body=some c->kN P Γ an N (jF c)) {D X:Type} {params:List (Option Ty)} {st:D->List aB×List dE} {fF:D->Prop} {F:D->X} {out:X->fG}
  (h:∀d,fF d->alj P Γ an N fn (st d).1 (st d).2 some=some (out (F d))) (aiR:an.mh=none:=by exact rfl):qZ P f (Entry.of params st fF F out):=by
 refine qZ.vK hm hΓ hf hb A4 hL (λargs bZ x hx=> ?_) aiR;obtain⟨d,e1,e2,rfl⟩:=avV hx;have:=h d e2;rw[e1]at this;exact this
def aB9(P:Program)(Γ:oT)(an:xi)(N:Nat)(fn:Func):Nat->Nat->Prop
 | 0,_=>True
 |n+1,i=>auI P Γ an N (pz fn i)/\aB9 P Γ an N fn n (i+1)
theorem aB9.get{P:Program}{Γ:oT}{an:xi}{N:Nat}{fn:Func}:∀ {n i:Nat},aB9 P Γ an N fn n i->∀j,j < n->auI P Γ an N (pz fn (i+j))
 | 0,_,_,j,hj=>ak
 |n+1,i,h,0,_=>h.1
 |n+1,i,h,j+1,hj=>by have:=aB9.get h.2 j ak;rwa[show i+1+j=i+(j+1) by omega]at this
theorem kN.aGo{P:Program}{Γ:oT}{an:xi}{N:Nat}:∀(l:List Code),(∀j,j < l.length->auI P Γ an N (l.getD j .skip))->kN P Γ an N l
 |[],_=>trivial
 |b::l,h=>⟨h 0 (by simp),kN.aGo l λj hj=>by have:=h (j+1) (by simpa using hj);simpa using this⟩
theorem kN.fn{P:Program}{Γ:oT}{an:xi}{N:Nat}{fn:Func}(n:Nat)(hn:(match fn.body with | some c=>(jF c).length | none=>0)=n)(h:aB9 P Γ an N fn n 0):∀c,fn.body=some c->kN P Γ an N (jF c):=by
 intro c hc;refine kN.aGo _ λj hj=> ?_
 rw[hc]at hn;simp only at hn;have:=h.get j ak;unfold pz at this;rw[hc]at this;simpa using this
theorem auI.none{P:Program}{Γ:oT}{an:xi}{N:Nat}{fn:Func}{i:Nat}(h:an.fC (dM (pz fn i))=none):auI P Γ an N (pz fn i):=λle hle=>by
 rw[h]at hle;cases hle
def aOF:oT:=λ_ _=>none
theorem Sound.nil(P:Program):Sound P aOF:=λ_ _ _ h=>by cases h
def avr(f:FuncId)(p:List aB->Bool)(en:Entry)(Γ:oT):oT:=λg vs=>match iJ g f with | true=>(match p vs with | true=>some en | false=>Γ g vs) | false=>Γ g vs
theorem Sound.cons{P:Program}{f:FuncId}{p:List aB->Bool}{en:Entry}{Γ:oT}(h:vj P f en)(hΓ:Sound P Γ):Sound P (avr f p en Γ):=λg vs e hg=>by
 unfold avr at hg;split at hg
 ·rename_i he;have:g=f:=eU he;split at hg
  ·simp only[az]at hg;subst hg this;exact h
  ·exact hΓ g vs e hg
 ·exact hΓ g vs e hg
theorem aM9{t:Ty}{x y:t.den}(h:aB.d t x=aB.d t y):x=y:=by injection h with _ h
theorem aMS{e:TypeId}{t:Ty}{x y:List t.den}(h:aB.vec e t x=aB.vec e t y):x=y:=by injection h with _ _ h
def ml:List aB->Bool:=λ_=>true
def azo:List aB->Bool | .dd::_=>true | _=>false
def ag0:List aB->Bool | .bz .. ::_=>true | _=>false
@[simp] theorem aj{α:Type}(x y:Option α):aH true x y=x:=rfl
@[simp] theorem ao{α:Type}(x y:Option α):aH false x y=y:=rfl
@[simp] theorem ah{α β:Type}(x:α)(f:α->Option β):al (some x) f=f x:=rfl
@[simp] theorem Ub{α:Type}(c:vy)(x:Option α):same c c x=x:=by simp[same]
@[simp] theorem zI{α:Type}(x:Option α):nd x x=x:=by simp[nd]
structure SG(P:Program) where
 f:FuncId
 p:List aB->Bool
 e:Entry
 h:vj P f e
def jy{P:Program}:List (SG P)->oT
 |[]=>aOF
 |a::l=>avr a.f a.p a.e (jy l)
theorem Sound.jy{P:Program}:∀l:List (SG P),Sound P (jy l)
 |[]=>Sound.nil P
 |a::l=>Sound.cons a.h (Sound.jy l)
abbrev SA:=List aB×List dE
def HD(P:Program)(G:oT)(an:xi)(N:Nat)(fn:Func){D:Type}(st:D->SA){R:Type}(d:D)(k:fG->Option R):Option R:=alj P G an N fn (st d).1 (st d).2 k
def ee(P:Program)(G:oT)(an:xi)(N:Nat)(fn:Func)(i:Nat){D:Type}(st:D->AS){R:Type}(d:D)(kn:AS->Option R)(kx:Exit->AS->Option R):Option R:=Dd P G an N fn i (st d) kn kx
abbrev ahl{D X Y:Type}(A: {R:Type}->D->(fG->Option R)->Option R)(fF:D->Prop)(add:D->Y->X)(F:D->Y)(out:X->fG):Prop:=∀d,fF d->A d some=some (out (add d (F d)))
abbrev kj(P:Program)(G:oT)(an:xi)(N:Nat)(fn:Func)(i:Nat){D X Y:Type}(st:D->AS)(fF:D->Prop)(add:D->Y->X)(F:D->Y)(out:X->Out (Exit×AS)):Prop:=∀d,fF d->∃n,QK P G an N fn i n (st d) (λe s=>some (e,s))=(out (add d (F d))).eval
abbrev aB7{D X Y:Type}(R: {R:Type}->D->(AS->Option R)->(Exit->AS->Option R)->Option R)(st:D->AS)(fF:D->Prop)(add:D->Y->X)(F:D->Y)(ex:X->Exit×AS)(C:Prop):Prop:=∀μ:D->Nat,(∀d,fF d->(∃d',fF d'/\μ d' < μ d/\add d' (F d')=add d (F d)/\∀ {T:Type} (kn:AS->Option T) (kx:Exit->AS->Option T),R d kn kx=kn (st d'))\/(∀ {T:Type} (kn:AS->Option T) (kx:Exit->AS->Option T),R d kn kx=kx (ex (add d (F d))).1 (ex (add d (F d))).2))->C
abbrev mP{D X Y:Type}(R: {R:Type}->D->(AS->Option R)->(Exit->AS->Option R)->Option R)(st:D->AS)(fF:D->Prop)(add:D->Y->X)(F:D->Y)(out:X->Out (Exit×AS))(C:Prop):Prop:=∀μ:D->Nat,(∀d,fF d->(∃d',fF d'/\μ d' < μ d/\add d' (F d')=add d (F d)/\∀ {T:Type} (kn:AS->Option T) (kx:Exit->AS->Option T),R d kn kx=kn (st d'))\/(∃r,(out (add d (F d))).eval=some r/\∀ {T:Type} (kn:AS->Option T) (kx:Exit->AS->Option T),R d kn kx=kx r.1 r.2))->C
abbrev aQJ{D X Y:Type}(R: {R:Type}->D->(AS->Option R)->(Exit->AS->Option R)->Option R)(st:D->AS)(fF:D->Prop)(add:D->Y->X)(F:D->Y)(ex:X->Exit×AS)(C:Prop):Prop:=∀μ:D->Nat,(∀d,fF d->(∃(m:Nat) (d':Nat->D),0 < m/\(∀j,j < m->fF (d' j)/\μ (d' j) < μ d/\add (d' j) (F (d' j))=add d (F d))/\∀ {T:Type} (kn:AS->Option T) (kx:Exit->AS->Option T),R d kn kx=aEe m λj=>kn (st (d' j)))\/(∀ {T:Type} (kn:AS->Option T) (kx:Exit->AS->Option T),R d kn kx=kx (ex (add d (F d))).1 (ex (add d (F d))).2))->C
theorem aTc{P:Program}{G:oT}{an:xi}{N:Nat}{fn:Func}{i:Nat}{D X Y:Type}{st:D->AS}{fF:D->Prop}{add:D->Y->X}{F:D->Y}{ex:X->Exit×AS}:aQJ (ee P G an N fn i st) st fF add F ex (kj P G an N fn i st fF add F λx=> .ok (ex x)):=λ μ h=>aF2 (F:=λd=>add d (F d)) (out:=λx=> .ok (ex x)) μ λd hp=>(h d hp).imp id λh=>⟨_,rfl,h⟩
abbrev aM5{D X Y:Type}(R: {R:Type}->D->(AS->Option R)->(Exit->AS->Option R)->Option R)(st:D->AS)(fF:D->Prop)(add:D->Y->X)(Post:D->Y->Prop)(ex:X->Exit×AS)(C:Prop):Prop:=∀μ:D->Nat,(∀d,fF d->(∃(m:Nat) (d':Nat->D),0 < m/\(∀j,j < m->fF (d' j)/\μ (d' j) < μ d/\∀y,Post (d' j) y->∃y',Post d y'/\add (d' j) y=add d y')/\∀ {T:Type} (kn:AS->Option T) (kx:Exit->AS->Option T),R d kn kx=aEe m λj=>kn (st (d' j)))\/(∃y,Post d y/\∀ {T:Type} (kn:AS->Option T) (kx:Exit->AS->Option T),R d kn kx=kx (ex (add d y)).1 (ex (add d y)).2))->C
theorem aQR{P:Program}{G:oT}{an:xi}{N:Nat}{fn:Func}{i:Nat}{D X Y:Type}{st:D->AS}{fF:D->Prop}{add:D->Y->X}{Post:D->Y->Prop}{ex:X->Exit×AS}:aM5 (ee P G an N fn i st) st fF add Post ex (auJ P G an N fn i st fF add Post λx=> .ok (ex x)):=λ μ h=>aF3 (out:=λx=> .ok (ex x)) μ λd hp=>(h d hp).imp (λh=>h) λ⟨y,hy,h⟩=>⟨y,_,hy,rfl,h⟩
theorem aOf{P:Program}{G:oT}{an:xi}{N:Nat}{fn:Func}{i:Nat}{D X Y:Type}{st:D->AS}{fF:D->Prop}{add:D->Y->X}{F:D->Y}{ex:X->Exit×AS}:aB7 (ee P G an N fn i st) st fF add F ex (kj P G an N fn i st fF add F λx=> .ok (ex x)):=λ μ h=>anF (F:=λd=>add d (F d)) μ h
theorem nD{P:Program}{G:oT}{an:xi}{N:Nat}{fn:Func}{i:Nat}{D X Y:Type}{st:D->AS}{fF:D->Prop}{add:D->Y->X}{F:D->Y}{out:X->Out (Exit×AS)}:mP (ee P G an N fn i st) st fF add F out (kj P G an N fn i st fF add F out):=λ μ h=>avM (F:=λd=>add d (F d)) (out:=out) μ h
def nX:List (Nat×oM)->Nat->oM
 |[],_=> {}
 |a::l,r=>bif iJ r a.1 then a.2 else nX l r
def nV:List (Nat×oM×oM)->Nat->Bool->oM
 |[],_,_=> {}
 |a::l,r,b=>bif iJ r a.1 then(bif b then a.2.2 else a.2.1) else nV l r b
def na.{v} {α:Type v}:List (Nat×α)->Nat->Option α
 |[],_=>none
 |a::l,r=>bif iJ r a.1 then some a.2 else na l r
inductive Lf where
 |d (t:Ty)
 |n
@[reducible] def Lf.den:Lf->Type
 | .d t=>t.den
 | .n=>Nat
@[reducible] def Lf.aBu:List Lf->Type
 |[]=>Unit
 |[a]=>a.den
 |a::b::l=>a.den×Lf.aBu (b::l)
abbrev aQN:=List (Sigma Lf.den)
def Lf.mk:(ts:List Lf)->Lf.aBu ts->aQN
 |[],_=> []
 |[a],x=> [⟨a,x⟩]
 |a::b::l,x=>⟨a,x.1⟩::Lf.mk (b::l) x.2
theorem Lf.mk_inj:∀(ts:List Lf) (x y:Lf.aBu ts),Lf.mk ts x=Lf.mk ts y->x=y
 |[],_,_,_=>rfl
 |[a],x,y,h=>by
  injection h with h _
  injection h
 |a::b::l,(x,u),(y,v),h=>by
  injection h with h h2
  injection h with _ h
  have h:x=y:=h;rw[h,Lf.mk_inj (b::l) u v h2]
def aB.leaves:aB->aQN
 | .d .unit _=> []
 | .d (.arr _ t) l=> [⟨.d (.slice t),l⟩]
 | .d t x=> [⟨.d t,x⟩]
 | .dD t x=> [⟨.d t,x⟩]
 | .vec _ t l=> [⟨.d (.slice t),l⟩]
 | .mp k v l=> [⟨.d (.slice (.pair k v)),l⟩]
 | .tx _ _ k v l _=> [⟨.d (.slice (.pair k v)),l⟩]
 | .rN _ f _=>f.leaves
 | .bz _ _ _ _ _ n=> [⟨.n,n⟩]
 | .pr a b=>a.leaves++b.leaves
 | .cons a b=>a.leaves++b.leaves
 | .fn _ c=>c.leaves
 | .bx _ _ c=>c.leaves
 |_=> []
def dE.leaves:dE->aQN
 | .obj _ _ c=>c.leaves
 | .dead=> []
def SA.leaves(s:SA):aQN:=s.1.flatMap aB.leaves++s.2.flatMap dE.leaves
def AS.leaves(s:AS):aQN:=s.cq.flatMap aB.leaves++(s.bZ.flatMap dE.leaves++s.news.flatMap (·.flatMap dE.leaves))
theorem W2(ts:List Lf){st:Lf.aBu ts->SA}(h:∀d,SA.leaves (st d)=Lf.mk ts d)(d d':Lf.aBu ts)(e:st d=st d'):d=d':=Lf.mk_inj ts d d' (by rw[<-h,<-h,e])
theorem jk(ts:List Lf){st:Lf.aBu ts->AS}(h:∀d,AS.leaves (st d)=Lf.mk ts d)(d d':Lf.aBu ts)(e:st d=st d'):d=d':=Lf.mk_inj ts d d' (by rw[<-h,<-h,e])
def Entry.fp{D X Y:Type}(params:List (Option Ty))(st:D->SA)(fF:D->Prop)(add:D->Y->X)(F:D->Y)(out:X->fG):Entry:=Entry.of params st fF (λd=>add d (F d)) out
def aVM{X Y:Type}(x:X⊕Y):Out (X⊕Y):= .br x.isLeft (.get x.getLeft? λa=> .ok (.inl a)) (.get x.getRight? λb=> .ok (.inr b))
theorem aPR{X Y:Type}(x y:X⊕Y)(h:(aVM x).eval=some y):y=x:=by cases x <;> exact(bk h).symm
def Entry.ad6{D X X' Y:Type}(params:List (Option Ty))(st:D->SA)(fF:D->Prop)(add:D->Y->X⊕X')(F:D->Y)(out:X⊕X'->fG):Entry:= {Entry.fp params st fF add F out with sp:=aVM,awk:=aPR}
theorem GL.aNO{P:Program}{y:Nat}{D X X' Y:Type}{params:List (Option Ty)}{st:D->SA}{fF:D->Prop}{add:D->Y->X⊕X'}{F:D->Y}{out:X⊕X'->fG}(h:GL P y (Entry.fp params st fF add F out)):GL P y (Entry.ad6 params st fF add F out):=h
theorem qZ.aNO{P:Program}{f:FuncId}{D X X' Y:Type}{params:List (Option Ty)}{st:D->SA}{fF:D->Prop}{add:D->Y->X⊕X'}{F:D->Y}{out:X⊕X'->fG}(h:qZ P f (Entry.fp params st fF add F out)):qZ P f (Entry.ad6 params st fF add F out):=h
def Entry.W5{D X Y:Type}(params:List (Option Ty))(st:D->SA)(fF:D->Prop)(add:D->Y->X)(Post:D->Y->Prop)(out:X->fG):Entry:= {params,X,run:=λ_ _=>none,out:=λ_ _ x=>out x,rel:=true,set:=λargs bZ x=>∃d,st d=(args,bZ)/\fF d/\∃y,Post d y/\x=add d y}
def aMu{D:Type}(E:Entry)(st:D->SA):D->E.X->Prop:=λd=>E.set (st d).1 (st d).2
theorem aHK{D X Y:Type}{params:List (Option Ty)}{st:D->SA}{fF:D->Prop}{add:D->Y->X}{Post:D->Y->Prop}{out:X->fG}(NP:∀d d',st d=st d'->d=d'):awJ (aMu (Entry.W5 params st fF add Post out) st) fF add Post:=λh h1 h2=>by
 obtain⟨y,hy⟩:=h1;refine avj ⟨_,_,rfl,h,y,hy,rfl⟩ λx hx=> ?_
 obtain⟨d',h3,_,y',h4,rfl⟩:=hx;obtain rfl:=NP _ _ h3;exact h2 y' h4
abbrev auH{D X Y:Type}(A: {R:Type}->D->(fG->Option R)->Option R)(fF:D->Prop)(add:D->Y->X)(Post:D->Y->Prop)(out:X->fG):Prop:=∀d,fF d->∀k:fG->Option Unit,(∀y,Post d y->k (out (add d y))=some ())->A d k=some ()
def dy.fp{D X Y:Type}(st:D->AS)(fF:D->Prop)(add:D->Y->X)(F:D->Y)(out:X->Out (Exit×AS)):dy:=dy.of st fF (λd=>add d (F d)) out
def Lp{D:Type}(E:Entry)(st:D->SA):D->Option E.X:=λd=>E.run (st d).1 (st d).2
def gB{D:Type}(E:dy)(st:D->AS):D->Option E.X:=λd=>E.run (st d)
abbrev iW{D X Y:Type}(call:D->Option X)(fF:D->Prop)(add:D->Y->X)(F:D->Y):Prop:=∀ {d:D},fF d->call d=some (add d (F d))
theorem aR6{D X Y:Type}{params:List (Option Ty)}{st:D->SA}{fF:D->Prop}{add:D->Y->X}{F:D->Y}{out:X->fG}(NP:∀d d',st d=st d'->d=d'):iW (Lp (Entry.fp params st fF add F out) st) fF add F:=λh=>Entry.vK NP h
theorem acf{D X X' Y:Type}{params:List (Option Ty)}{st:D->SA}{fF:D->Prop}{add:D->Y->X⊕X'}{F:D->Y}{out:X⊕X'->fG}(NP:∀d d',st d=st d'->d=d'){d:D}(h:fF d):(Entry.ad6 params st fF add F out).run (st d).1 (st d).2=some (add d (F d)):=aR6 (params:=params) (out:=out) NP h
theorem l6{D X Y:Type}{st:D->AS}{fF:D->Prop}{add:D->Y->X}{F:D->Y}{out:X->Out (Exit×AS)}(NP:∀d d',st d=st d'->d=d'):iW (gB (dy.fp st fF add F out) st) fF add F:=λh=>dy.vK NP h
def ax9(P:Program)(fn:Func):Bool:=P.follows .mixedOrders && fn.body.isSome && !(fn.name== "runtime.NumGoroutine")
def ayh(fn:Func):Nat:=match fn.body with | some c=>(jF c).length | none=>0
theorem qZ.fn{P:Program}{l:List (SG P)}{f:FuncId}{fn:Func}{an:xi}{N:Nat}{D X Y:Type}{params:List (Option Ty)}{st:D->SA}{fF:D->Prop}{add:D->Y->X}{F:D->Y}{out:X->fG}(n:Nat)
  (hc:(P.funcs[f]?,ax9 P fn,ayh fn)=(some fn,true,n))
  (h:ahl (@HD P (jy l) an N fn D st) fF add F out)
  (hL:aB9 P (jy l) an N fn n 0) (aiR:an.mh=none:=by exact rfl):qZ P f (Entry.fp params st fF add F out):=by
 injection hc with h1 h2
 injection h2 with h2 h3
 unfold ax9 at h2;simp only[au,cC]at h2;exact qZ.of h2.1.1 (Sound.jy l) h1 h2.1.2 h2.2 (kN.fn n h3 hL) h aiR
theorem O0.fn{P:Program}{l:List (SG P)}{f:FuncId}{fn:Func}{an:xi}{N:Nat}{D X Y:Type}{params:List (Option Ty)}{st:D->SA}{fF:D->Prop}{add:D->Y->X}{Post:D->Y->Prop}{out:X->fG}(n:Nat)
  (hc:(P.funcs[f]?,ax9 P fn,ayh fn)=(some fn,true,n))
  (h:auH (@HD P (jy l) an N fn D st) fF add Post out)
  (hL:aB9 P (jy l) an N fn n 0) (aiR:an.mh=none:=by exact rfl):O0 P f (Entry.W5 params st fF add Post out):=by
 injection hc with h1 h2
 injection h2 with h2 h3
 unfold ax9 at h2;simp only[au,cC]at h2;refine O0.vK h2.1.1 (Sound.jy l) h1 h2.1.2 h2.2 (kN.fn n h3 hL) (λargs bZ hx=> ?_) aiR;obtain⟨x,d,e,hp,y,hy,rfl⟩:=hx;have:=h d hp (λG=>aPw (∃x,(Entry.W5 params st fF add Post out).set args bZ x/\G=(Entry.W5 params st fF add Post out).out args bZ x)) λy hy=>aGp ⟨_,⟨d,e,hp,y,hy,rfl⟩,rfl⟩
 unfold HD at this;rw[e]at this;exact this
theorem GL.fn{P:Program}{l:List (SG P)}{y:Nat}{an:xi}{N:Nat}{D X Y:Type}{params:List (Option Ty)}{st:D->SA}{fF:D->Prop}{add:D->Y->X}{F:D->Y}{out:X->fG}(n:Nat)
  (hc:(P.follows .mixedOrders,ayh (aM4 P y))=(true,n))
  (h:ahl (@HD P (jy l) an N (aM4 P y) D st) fF add F out)
  (hL:aB9 P (jy l) an N (aM4 P y) n 0) (aiR:an.mh=some y):GL P y (Entry.fp params st fF add F out):=by
 injection hc with h1 h2
 refine GL.vK h1 (Sound.jy l) (fn:=aM4 P y) (kN.fn (fn:=aM4 P y) n h2 hL _ rfl) (λargs bZ x hx=> ?_) aiR;obtain⟨d,e1,e2,rfl⟩:=avV hx;have:=h d e2;unfold HD at this;rw[e1]at this;exact this
theorem auI.fp{P:Program}{Γ:oT}{an:xi}{N:Nat}{fn:Func}{i:Nat}{D X Y:Type}{st:D->AS}{fF:D->Prop}{add:D->Y->X}{F:D->Y}{out:X->Out (Exit×AS)}
  (h:kj P Γ an N fn i st fF add F out) (hle:an.fC (dM (pz fn i))=some (dy.fp st fF add F out):=by kernel_rfl):auI P Γ an N (pz fn i):=auI.of hle h
abbrev K1(R:Type):=fG->Option R
abbrev K2(R:Type):=AS->Option R
abbrev K3(R:Type):=Exit->AS->Option R
@[reducible] def bt{D Y:Type}(_:D)(y:Y):Y:=y
structure Ls{D Y X:Type}(fF:D->Prop)(add:D->Y->X)(F:D->Y) where
 st:D->AS
 ex:X->Exit×AS
noncomputable def rW{D Y X:Type}{fF:D->Prop}{add:D->Y->X}{F:D->Y}(st:D->AS)(ex:X->Exit×AS):Ls fF add F:=⟨st,ex⟩
section
variable {D Y X:Type} {fF:D->Prop} {add:D->Y->X} {F:D->Y} (L:Ls fF add F)
def Ls.out:X->Out (Exit×AS):=λx=> .ok (L.ex x)
def Ls.E:dy:=dy.fp L.st fF add F L.out
def Ls.call:D->Option X:=gB L.E L.st
abbrev Ls.go{R:Type}(kx:K3 R)(x:X):Option R:=kx (L.ex x).1 (L.ex x).2
abbrev Ls.RS:Prop:=iW L.call fF add F
end
theorem rL(ts:List Lf){Y X:Type}{fF:Lf.aBu ts->Prop}{add:Lf.aBu ts->Y->X}{F:Lf.aBu ts->Y}(L:Ls fF add F)(h:∀d,AS.leaves (L.st d)=Lf.mk ts d:=by exact λ_=>bY):iW L.call fF add F:=l6 (jk ts h)
structure Fs(P:Program){D Y X:Type}(fF:D->Prop)(add:D->Y->X)(F:D->Y) where
 i:FuncId
 fn:Func
 st:D->SA
 out:X->fG
 ps:List (Option Ty)
 G:List (SG P)
 an:xi
 N:Nat
noncomputable def eN{P:Program}{D Y X:Type}{fF:D->Prop}{add:D->Y->X}{F:D->Y}(i:FuncId)(fn:Func)(st:D->SA)(out:X->fG)(ps:List (Option Ty))(G:List (SG P):=[])(an:xi:= {})(N:Nat:=0):Fs P fF add F:=⟨i,fn,st,out,ps,G,an,N⟩
section
variable {P:Program} {D Y X:Type} {fF:D->Prop} {add:D->Y->X} {F:D->Y} (f:Fs P fF add F) {D' Y' X':Type} {Pre':D'->Prop} {add':D'->Y'->X'} {F':D'->Y'}
def Fs.A{R:Type}(d:D)(k:K1 R):Option R:=HD P (jy f.G) f.an f.N f.fn f.st d k
def Fs.R(i:Nat)(L:Ls Pre' add' F'){R:Type}(d:D')(kn:K2 R)(kx:K3 R):Option R:=ee P (jy f.G) f.an f.N f.fn i L.st d kn kx
abbrev Fs.Ok:Prop:=∀d,fF d->f.A d some=some (f.out (add d (F d)))
abbrev Fs.kN(i:Nat)(L:Ls Pre' add' F'):Prop:=kj P (jy f.G) f.an f.N f.fn i L.st Pre' add' F' L.out
def Fs.E:Entry:=Entry.fp f.ps f.st fF add F f.out
def Fs.call:D->Option X:=Lp f.E f.st
theorem Fs.mh(i:Nat)(L:Ls Pre' add' F'):aB7 (@Fs.R P D Y X fF add F f D' Y' X' Pre' add' F' i L) L.st Pre' add' F' L.ex (f.kN i L):=λ μ h=>anF (F:=λd=>add' d (F' d)) μ h
theorem Fs.aUE(i:Nat)(L:Ls Pre' add' F'):aQJ (@Fs.R P D Y X fF add F f D' Y' X' Pre' add' F' i L) L.st Pre' add' F' L.ex (f.kN i L):=aTc
abbrev Fs.RS:Prop:=iW f.call fF add F
def Fs.aSW(p:List aB->Bool)(ok:f.Ok)(n:Nat:=0)(hL:aB9 P (jy f.G) f.an f.N f.fn n 0:=by exact trivial)(hc:(P.funcs[f.i]?,ax9 P f.fn,ayh f.fn)=(some f.fn,true,n):=by kernel_rfl)(hy:Nat.blt f.i yB=true:=by exact rfl)(hn:f.an.mh=none:=by exact rfl):SG P:=⟨f.i,p,f.E,.of (qZ.fn n hc ok hL hn) hy⟩
def Fs.aW4(ok:f.Ok)(n:Nat:=0)(hL:aB9 P (jy f.G) f.an f.N f.fn n 0:=by exact trivial)(hc:(P.follows .mixedOrders,ayh (aM4 P f.i))=(true,n):=by kernel_rfl)(hf:f.fn=aM4 P f.i:=by exact rfl)(hy:Nat.ble yB f.i=true:=by exact rfl)(hn:f.an.mh=some f.i:=by exact rfl):SG P:=
 ⟨f.i,ml,f.E,.aVF (GL.fn n hc (by have:=ok;unfold Fs.Ok Fs.A at this;rw[hf]at this;exact this) (by rw[<-hf];exact hL) hn) hy⟩
def Fs.eS(ok:f.Ok)(n:Nat:=0)(hL:aB9 P (jy f.G) f.an f.N f.fn n 0:=by exact trivial)(hc:(P.funcs[f.i]?,ax9 P f.fn,ayh f.fn)=(some f.fn,true,n):=by kernel_rfl)(hy:Nat.blt f.i yB=true:=by exact rfl)(hn:f.an.mh=none:=by exact rfl):SG P:=f.aSW ml ok n hL hc hy hn
end
theorem rE(ts:List Lf){P:Program}{Y X:Type}{fF:Lf.aBu ts->Prop}{add:Lf.aBu ts->Y->X}{F:Lf.aBu ts->Y}(f:Fs P fF add F)(h:∀d,SA.leaves (f.st d)=Lf.mk ts d:=by exact λ_=>bY):iW f.call fF add F:=aR6 (W2 ts h)
abbrev tu:Ty:=(.int .u64)
abbrev ti:Ty:=(.int .i64)
abbrev tb:Ty:=(.int .u8)
abbrev tB:Ty:=(.slice tb)
abbrev Bs:=(List Int)
abbrev tH:Ty:=(.arr 32 tb)
abbrev tU:Ty:=(.slice tu)
abbrev bl:Ty:=(.pair tH (.pair ti .unit))
abbrev bF:=(Bs×(Int×Unit))
abbrev Av:Ty:=(.pair tu (.pair tu .unit))
abbrev Sg:=(Int×(Int×Unit))
abbrev aA1:Ty:=(.pair ti (.pair (.slice Av) (.pair tu .unit)))
abbrev UC:=(Int×((List Sg)×(Int×Unit)))
abbrev fY:Ty:=(.pair bl (.pair aA1 .unit))
abbrev gG:=(bF×(UC×Unit))
abbrev ke:Ty:=(.pair tU (.pair ti (.pair ti (.pair tu .unit))))
abbrev oq:=(Bs×(Int×(Int×(Int×Unit))))
abbrev OZ:Ty:=(.pair (.slice ke) .unit)
abbrev Lk:=((List oq)×Unit)
abbrev gb:Ty:=(.pair ti (.pair OZ .unit))
abbrev gf:=(Int×(Lk×Unit))
abbrev eA:Ty:=(.pair (.slice fY) (.pair (.slice gb) (.pair ti .unit)))
abbrev dv:=((List gG)×((List gf)×(Int×Unit)))
abbrev tW:Ty:=(.pair tB (.pair .bool .unit))
abbrev gI:=(Bs×(Bool×Unit))
abbrev aW9:Ty:=(.pair ti (.pair (.gY Av) (.pair tu .unit)))
abbrev aS4:=(Int×((Option (List Sg))×(Int×Unit)))
abbrev rP:Ty:=(.pair bl (.pair aW9 .unit))
abbrev Ay:=(bF×(aS4×Unit))
end Go.Ab
namespace Go.Ab
theorem uG{n:Int}(h1: -9223372036854775808<=n)(h2:n<=9223372036854775807):IntKind.i64.wrap n=n:=by simp[IntKind.wrap,IntKind.bits,IntKind.signed];split <;> omega
theorem fU{x y:Int}(h1: -9223372036854775808<=x+y)(h2:x+y<=9223372036854775807):bI .i64 x y=x+y:=uG h1 h2
theorem eL{x y:Int}(h1: -9223372036854775808<=x - y)(h2:x - y<=9223372036854775807):cP .i64 x y=x - y:=uG h1 h2
theorem Ii{x y:Int}(h1: -9223372036854775808<=x*y)(h2:x*y<=9223372036854775807):gv .i64 x y=x*y:=uG h1 h2
theorem aLh{x:Int}(h1: -9223372036854775808<=x)(h2:x<=9223372036854775807):dX .i64 x=x:=uG h1 h2
def vw{n:Nat}(w:BitVec n):Int:=(w.toNat:Int)
theorem gX(n:Nat)(x:Int):vw (bf n x)=x%((2^n:Nat):Int):=by unfold vw;rw[sK];have:0<=x%((2^n:Nat):Int):=kQ _ (by have:=Nat.two_pow_pos n;omega);omega
theorem Uu{n:Nat}(w:BitVec n):0<=vw w:=gK _
theorem aIL{n:Nat}(w:BitVec n):vw w < ((2^n:Nat):Int):=by have:=w.isLt;unfold vw;omega
theorem uS{n:Nat}(w:BitVec n):bf n (vw w)=w:=by apply BitVec.eq_of_toNat_eq;have:=gX n (vw w);unfold vw at this ⊢;have h:=w.isLt;rw[fa (gK _) ak]at this;omega
theorem wrap_u32(x:Int):IntKind.u32.wrap x=vw (bf 32 x):=by rw[gX];simp[IntKind.wrap,IntKind.bits,IntKind.signed]
theorem wrap_u64(x:Int):IntKind.u64.wrap x=vw (bf 64 x):=by rw[gX];simp[IntKind.wrap,IntKind.bits,IntKind.signed]
theorem wrap_u8(x:Int):IntKind.u8.wrap x=vw (bf 8 x):=by rw[gX];simp[IntKind.wrap,IntKind.bits,IntKind.signed]
theorem ofInt_add(n:Nat)(x y:Int):bf n (x+y)=bf n x+bf n y:=BitVec.ofInt_add ..
theorem Ek(x y:BitVec 32):bI .u32 (vw x) (vw y)=vw (x+y):=by rw[bI,wrap_u32,BitVec.ofInt_add,uS,uS]
theorem avw(x:Int):dX .u32 x=vw (bf 32 x):=wrap_u32 x
theorem XP(x:Int):dX .u64 x=vw (bf 64 x):=wrap_u64 x
theorem Th(x:Int):dX .u8 x=vw (bf 8 x):=wrap_u8 x
theorem aGg{n:Nat}(x:BitVec n):bf n ((x.toNat:Nat):Int)=x:=uS x
theorem qq(op:BinOp)(x y:BitVec 32):cG op .u32 (vw x) (vw y)=vw (match op with | .and=>x &&& y | .or=>x ||| y | .xor=>x^^^y | _=>x &&& ~~~y):=by unfold cG;split <;> (simp only[IntKind.bits,uS,wrap_u32,aGg];rfl)
theorem awZ(op:BinOp)(x y:BitVec 64):cG op .u64 (vw x) (vw y)=vw (match op with | .and=>x &&& y | .or=>x ||| y | .xor=>x^^^y | _=>x &&& ~~~y):=by unfold cG;split <;> (simp only[IntKind.bits,uS,wrap_u64,aGg];rfl)
theorem aEx(x y:Nat):Int.fdiv (x:Int) (y:Int)=((x / y:Nat):Int):=by rw[kh _ (gK _)];rfl
theorem R0(k:Nat):(2:Int)^k=((2^k:Nat):Int):=by simp
theorem aPL{n:Nat}(w:BitVec n)(k:Nat):Int.fdiv (vw w) (2^(min k n))=vw (w >>> k):=by
 rw[R0];unfold vw;rw[aEx,BitVec.toNat_ushiftRight,Nat.shiftRight_eq_div_pow];congr 1;rcases Nat.le_total k n with hk | hk
 ·rw[dU hk]
 ·rw[Nat.min_eq_right hk,Nat.div_eq_of_lt w.isLt,Nat.div_eq_of_lt];exact Nat.lt_of_lt_of_le w.isLt (Nat.pow_le_pow_right ak hk)
theorem Il(w:BitVec 32)(k:Int):cv .u32 (vw w) k=vw (w >>> k.toNat):=aPL w k.toNat
theorem aPK{n:Nat}(w:BitVec n)(k:Nat):bf n (vw w*2^(min k n))=w <<< k:=by
 apply BitVec.eq_of_toNat_eq;rw[sK,BitVec.toNat_shiftLeft,Nat.shiftLeft_eq];unfold vw;rw[R0];have e:((w.toNat:Int)*((2^min k n:Nat):Int))=((w.toNat*2^min k n:Nat):Int):=by simp
 rw[e];have:(((w.toNat*2^min k n:Nat):Int)%((2^n:Nat):Int)).toNat=(w.toNat*2^min k n)%2^n:=ak;rw[this];rcases Nat.le_total k n with hk | hk
 ·rw[dU hk]
 ·rw[Nat.min_eq_right hk,Nat.mul_mod_left];obtain⟨m,rfl⟩:=Nat.exists_eq_add_of_le hk;rw[oW,<-Nat.mul_assoc,Nat.mul_right_comm,Nat.mul_mod_left]
theorem Qw(w:BitVec 32)(k:Int):mD .u32 (vw w) k=vw (w <<< k.toNat):=by rw[mD,wrap_u32];congr 1;exact aPK w k.toNat
theorem bg{i n:Int}(h1:0<=i)(h2:i < n):eo i n=true:=by simp[eo,h1,h2]
theorem uI{i n:Int}(h1:0<=i)(h2:i<=n):inc i n=true:=by simp[inc,h1,h2]
theorem aU{x y:Int}(h:x < y):gq x y=true:=by simp[gq,h]
theorem aR{x y:Int}(h:¬x < y):gq x y=false:=by simp[gq];omega
theorem oe{x y:Int}(h:x<=y):aiU x y=true:=by simp[aiU,h]
theorem j7{x y:Int}(h:¬x<=y):aiU x y=false:=by simp[aiU];omega
theorem cR{x y:Int}(h:x > y):rz x y=true:=by simp[rz];omega
theorem cn{x y:Int}(h:¬x > y):rz x y=false:=by simp[rz];omega
theorem gr{x y:Int}(h:x>=y):Cm x y=true:=by simp[Cm];omega
theorem eE{x y:Int}(h:¬x>=y):Cm x y=false:=by simp[Cm];omega
theorem du{x y:Int}(h:x=y):qY x y=true:=by simp[qY,h]
theorem eH{x y:Int}(h:¬x=y):qY x y=false:=by simp[qY,h]
theorem fj{x y:Int}(h:¬x=y):BY x y=true:=by simp[BY,h]
theorem dB{x y:Int}(h:x=y):BY x y=false:=by simp[BY,h]
theorem tE{x:Int}(h:0<=x):mF x=true:=by simp[mF,h]
theorem aM{p:Prop} [Decidable p] (h:p):decide p=true:=by simp[h]
theorem aS{p:Prop} [Decidable p] (h:¬p):decide p=false:=by simp[h]
theorem dr{n b:Nat}(h:n*b<=140737488355328)(h2:n<=9223372036854775807):da n b=true:=by simp[da,h,h2]
def from_{α:Type}(f:Nat->α->α)(t:Nat)(l:List α):List α:=l.mapIdx λi x=>if i < t then x else f i x
theorem Kt{α:Type}(f:Nat->α->α)(l:List α)(t:Nat)(h:t < l.length):from_ f (t+1) (l.set t (f t l[t]))=from_ f t l:=by
 unfold from_;apply List.ext_getElem (by simp);intro i h1 h2;simp only[List.getElem_mapIdx,List.getElem_set];by_cases hi:t=i
 ·subst hi;simp
 ·simp only[if_neg hi];by_cases h3:i < t
  ·rw[if_pos ak,if_pos h3]
  ·rw[if_neg ak,if_neg h3]
theorem Qe{α:Type}(f:Nat->α->α)(l:List α)(t:Nat)(h:l.length<=t):from_ f t l=l:=by unfold from_;apply List.ext_getElem (by simp);intro i h1 h2;simp only[List.getElem_mapIdx];rw[if_pos ak]
theorem ZM{α:Type}(f:Nat->α->α)(n:Nat)(x:α):from_ f 0 (ab n x)=(List.range n).map λi=>f i x:=by unfold from_;apply List.ext_getElem (by simp);intro i h1 h2;simp
theorem cg{t:Ty}{l:List t.den}{i:Nat}(h:i < l.length):nth t l i=l[i]:=by simp[nth,h]
end Go.Ab
namespace Go.Ab.N
section
variable {α:Type} {x y:Option α} {a b n:Nat} {i j:Int}
theorem lt:aH (gq i j) x y=if i < j then x else y:=by unfold gq;split <;> rename_i h <;> simp[h]
theorem le:aH (aiU i j) x y=if i<=j then x else y:=by unfold aiU;split <;> rename_i h <;> simp[h]
theorem gt:aH (rz i j) x y=if j < i then x else y:=by unfold rz;split <;> rename_i h <;> simp[h]
theorem ge:aH (Cm i j) x y=if j<=i then x else y:=by unfold Cm;split <;> rename_i h <;> simp[h]
theorem eq:aH (qY i j) x y=if i=j then x else y:=by
 by_cases h:i=j
 ·rw[du h,if_pos h];rfl
 ·rw[eH h,if_neg h];rfl
theorem ne:aH (BY i j) x y=if i=j then y else x:=by
 by_cases h:i=j
 ·rw[dB h,if_pos h];rfl
 ·rw[fj h,if_neg h];rfl
theorem ib:aH (eo i j) x y=if 0<=i/\i < j then x else y:=by unfold eo;split <;> rename_i h <;> simp[h]
theorem ic:aH (inc i j) x y=if 0<=i/\i<=j then x else y:=by unfold inc;split <;> rename_i h <;> simp[h]
theorem nn:aH (mF i) x y=if 0<=i then x else y:=by unfold mF;split <;> rename_i h <;> simp[h]
theorem nz:aH (rX i) x y=if i=0 then y else x:=by unfold rX;split <;> rename_i h <;> simp[h]
theorem dc{p:Prop} [Decidable p]:aH (decide p) x y=if p then x else y:=by split <;> rename_i h <;> simp[h]
theorem rm:aH (da n b) x y=if n*b<=140737488355328/\n<=9223372036854775807 then x else y:=by unfold da;exact dc
theorem an{c d:Bool}:aH (c && d) x y=aH c (aH d x y) y:=by cases c <;> rfl
theorem or{c d:Bool}:aH (c || d) x y=aH c x (aH d x y):=by cases c <;> rfl
theorem no{c:Bool}:aH (!c) x y=aH c y x:=by cases c <;> rfl
theorem aSs(h:a+b<=9223372036854775807):bI .i64 (a:Int) (b:Int)=((a+b:Nat):Int):=by rw[fU ak ak];omega
theorem mO(h:a+OfNat.ofNat n<=9223372036854775807):bI .i64 (a:Int) (no_index (OfNat.ofNat n))=((a+OfNat.ofNat n:Nat):Int):=aSs h
theorem aU4(h:OfNat.ofNat n+a<=9223372036854775807):bI .i64 (no_index (OfNat.ofNat n)) (a:Int)=((OfNat.ofNat n+a:Nat):Int):=aSs h
theorem aSV(h:b<=a)(h2:a<=9223372036854775807):cP .i64 (a:Int) (b:Int)=((a - b:Nat):Int):=by rw[eL ak ak];omega
theorem aVL(h:OfNat.ofNat n<=a)(h2:a<=9223372036854775807):cP .i64 (a:Int) (no_index (OfNat.ofNat n))=((a - OfNat.ofNat n:Nat):Int):=aSV h h2
theorem aVK(h:a<=OfNat.ofNat n)(h2:(OfNat.ofNat n:Nat)<=9223372036854775807):cP .i64 (no_index (OfNat.ofNat n)) (a:Int)=((OfNat.ofNat n - a:Nat):Int):=aSV h h2
theorem aSQ(h:a*b<=9223372036854775807):gv .i64 (a:Int) (b:Int)=((a*b:Nat):Int):=by
 have e:(a:Int)*(b:Int)=((a*b:Nat):Int):=by simp
 rw[Ii ak ak,e]
theorem aVD(h:a*OfNat.ofNat n<=9223372036854775807):gv .i64 (a:Int) (no_index (OfNat.ofNat n))=((a*OfNat.ofNat n:Nat):Int):=aSQ h
theorem aRX(h:OfNat.ofNat n*a<=9223372036854775807):gv .i64 (no_index (OfNat.ofNat n)) (a:Int)=((OfNat.ofNat n*a:Nat):Int):=aSQ h
theorem aUw(h:a<=9223372036854775807):tV .i64 (a:Int) (b:Int)=((a / b:Nat):Int):=by
 have:(a:Int).tdiv (b:Int)=((a / b:Nat):Int):=by rw[ki ak];simp
 have hl:a / b<=a:=Nat.div_le_self a b;unfold tV;rw[this];generalize a / b=c at hl;exact uG ak ak
theorem aUv(h:a<=9223372036854775807):tV .i64 (a:Int) (no_index (OfNat.ofNat n))=((a / OfNat.ofNat n:Nat):Int):=aUw h
theorem aUx:mR (a:Int) (b:Int)=((a%b:Nat):Int):=by unfold mR;rw[hZ ak];simp
theorem aSU:mR (a:Int) (no_index (OfNat.ofNat n))=((a%OfNat.ofNat n:Nat):Int):=aUx
theorem cN(h:a<=9223372036854775807):dX .i64 (a:Int)=(a:Int):=aLh ak ak
theorem cL(h:(OfNat.ofNat n:Nat)<=9223372036854775807):dX .i64 (no_index (OfNat.ofNat n))=OfNat.ofNat n:=cN h
theorem tL:ae (no_index (OfNat.ofNat n))=OfNat.ofNat n:=rfl
end
end Go.Ab.N
namespace Go.Ab
section
variable {P:Program}
theorem aEq{E E':Env}(h1:E'.w=E.w)(h2:E'.g=E.g)(h3:E'.β=E.β)(h4:E'.s=E.s):E'=E:=by obtain⟨a,b,c,d⟩:=E;obtain⟨a',b',c',d'⟩:=E';simp only at h1 h2 h3 h4;subst h1 h2 h3 h4;rfl
theorem tX.same{w:World}{g:Nat->mr}{β:Id->Option Pl}{bZ:List dE}{a:aB}{v:Value}(hv:VS ((fI bZ).env w g β) a v)(ho:iV ((fI bZ).env w g β)):
  tX ((fI bZ).env w g β) ⟨a,bZ,[]⟩ v w:=by
 have hE:(fG.st ⟨a,bZ,[]⟩).env w g β=(fI bZ).env w g β:=by
  refine aEq rfl rfl rfl ?_
  funext id;cases id with
  |bm k=>rfl
  |new i j=>
   show([([]:List dE)].getD i [])[j]? =(([]:List (List dE)).getD i [])[j]?
   cases i <;> rfl
 refine⟨g,β,?_⟩;rw[hE];exact⟨hv,ho,Trans.refl w g,cK.refl _⟩
theorem qZ.extern{f:FuncId}{fn:Func}{e:Array Value->Sem Value}(hf:P.funcs[f]? =some fn)(A4:(fn.name== "runtime.NumGoroutine")=false)(hb:fn.body.isNone=true)(hn:Extern.findNext fn=none)(he:Extern.find fn=some e){en:Entry}
  (h:∀w g β args bZ jd x,yC ((fI bZ).env w g β) args jd->iV ((fI bZ).env w g β)->en.run args bZ=some x->∃v,(e jd.toArray).run P w= .ok v w/\tX ((fI bZ).env w g β) (en.out args bZ x) v w):qZ P f en:=by
 intro w g β args bZ jd x h1 h2 h3;obtain⟨v,h4,h5⟩:=h w g β args bZ jd x h1 h2 h3;refine .inr ⟨v,w,?_,h5⟩;rw[run_callFunc_extern hf A4 hb hn he,h4];rfl
def aNF.E:Entry:= {params:=[none],X:=Unit,run:=λargs _=>match args with | [_]=>some () | _=>none,out:=λargs bZ _=>⟨args.headD .undef,bZ,[]⟩}
theorem aNF.of{f:FuncId}{fn:Func}(hf:P.funcs[f]? =some fn)(A4:(fn.name== "runtime.NumGoroutine")=false)(hb:fn.body.isNone=true)(hn:Extern.findNext fn=none)(he:Extern.find fn=some Extern.AbiNoEscape.same):qZ P f aNF.E:=by
 refine qZ.extern hf A4 hb hn he λw g β args bZ jd x h1 h2 h3=> ?_
 cases args with
 |nil=>cases h3
 |cons a as=>
  cases as with
  |cons _ _=>cases h3
  |nil=>
   cases jd with
   |nil=>exact h1.elim
   |cons v vs=>
    obtain⟨h4,h5⟩:=h1;cases vs with
    |cons _ _=>exact h5.elim
    |nil=>exact⟨v,rfl,tX.same h4 h2⟩
theorem agP{w:World}:∀(xs:List Int) (a:Addr) (acc:ByteArray),(∀j x,xs[j]? =some x->w.cell? (a.add j)=some (.int .u8 x))->
  (Extern.Bytes.loadBytes a xs.length acc).run P w= .ok ⟨acc.data++(xs.map λn=>fi n.toNat).toArray⟩ w
 |[],a,acc,_=>by simp[Extern.Bytes.loadBytes]
 |x::l,a,acc,h=>by
  have h0:w.cell? a=some (.int .u8 x):=by have:=h 0 x rfl;simpa[Addr.add]using this
  have ih:=agP l (a.add 1) (acc.push x.toNat.toUInt8) (λj y hy=>by
   have:=h (j+1) y (by simpa using hy);have e:(a.add 1).add j=a.add (j+1):=by
    unfold Addr.add;by_cases hj:j=0
    ·subst hj;simp
    ·simp[hj];omega
   rw[e];exact this)
  simp only[aA,Extern.Bytes.loadBytes,Sem.run_bind,run_load,h0,Result.andThen];rw[ih];congr 1;apply ByteArray.ext;simp[ByteArray.push]
theorem acg{E:Env}{l:List Int}{y:Value}(h:VS E (.d (.slice (.int .u8)) l) y):(Extern.Bytes.bytesOf y).run P E.w= .ok (fv l) E.w:=by
 obtain⟨a,cap,vs,rfl,_,hs,sV,wu⟩:=uY h;have Vr:=xq (k:= .u8) (vs:=vs) (l:=l) wu;cases a with
 |none=>
  have hl:l=[]:=by
   cases l with
   |nil=>rfl
   |cons _ _=>simp at hs
  subst hl;rfl
 |some ad=>
  have aEY:=agP (P:=P) (w:=E.w) l ad .empty λj x hx=>by
   obtain⟨b,off,e,hh⟩:=sV j (.int .u8 x) (by rw[Vr];simp[hx]);have e:ad=⟨b,off,none⟩:=by simpa using e
   subst e;have h1:=hh.1;unfold Addr.add;by_cases hj:j=0
   ·subst hj;simpa using h1
   ·simpa[hj]using h1
  show(Extern.Bytes.loadBytes ad l.length .empty).run P E.w=_;rw[aEY];congr 1;apply ByteArray.ext;simp[fv]
def adN(a b:List Int):Int:=Extern.BytealgCompare.cmp (fv a) (fv b)
def auP:Entry:=Entry.of (D:=List Int×List Int) (X:=Int) [some (.slice (.int .u8)),some (.slice (.int .u8))] (λd=>([.d (.slice (.int .u8)) d.1,.d (.slice (.int .u8)) d.2],[])) (λ_=>True) (λd=>adN d.1 d.2) (λx=>⟨.d (.int .i64) x,[],[]⟩)
theorem aJO:∀d d':List Int×List Int,(([aB.d (.slice (.int .u8)) d.1,aB.d (.slice (.int .u8)) d.2],([]:List dE)):List aB×List dE)=([.d (.slice (.int .u8)) d'.1,.d (.slice (.int .u8)) d'.2],[])->d=d':=by rintro⟨a,b⟩ ⟨a',b'⟩ h;have e1:a=a':=aM9 (t:= .slice (.int .u8)) (bo (λs:List aB×List dE=>s.1.getD 0 .undef) h);have e2:b=b':=aM9 (t:= .slice (.int .u8)) (bo (λs:List aB×List dE=>s.1.getD 1 .undef) h);rw[e1,e2]
def alm:List Int×List Int->Option Int:=λd=>auP.run [.d (.slice (.int .u8)) d.1,.d (.slice (.int .u8)) d.2] []
theorem auQ(d:List Int×List Int):alm d=some (adN d.1 d.2):=Entry.vK (d:=d) aJO trivial
theorem aN1{f:FuncId}{fn:Func}(hf:P.funcs[f]? =some fn)(A4:(fn.name== "runtime.NumGoroutine")=false)(hb:fn.body.isNone=true)(hn:Extern.findNext fn=none)(he:Extern.find fn=some Extern.BytealgCompare.compare):qZ P f auP:=by
 refine qZ.extern hf A4 hb hn he λw g β args bZ jd x h1 h2 h3=> ?_
 have hx:∃d:List Int×List Int,(([aB.d (.slice (.int .u8)) d.1,aB.d (.slice (.int .u8)) d.2],([]:List dE)):List aB×List dE)=(args,bZ):=by
  by_cases hh:∃d:List Int×List Int,(([aB.d (.slice (.int .u8)) d.1,aB.d (.slice (.int .u8)) d.2],([]:List dE)):List aB×List dE)=(args,bZ)
  ·exact hh
  ·exfalso;have hn:auP.run args bZ=none:=Cg λ⟨d,h,_⟩=>hh ⟨d,h⟩
   rw[hn]at h3;cases h3
 obtain⟨d,hd⟩:=hx;simp only[cE]at hd;obtain⟨rfl,rfl⟩:=hd;have hr:=auQ d;have hx:x=adN d.1 d.2:=bk (h3.symm.trans hr);subst hx
 match jd,h1 with
 |[u,v],⟨h4,h5,_⟩=>
  refine⟨.int .i64 (adN d.1 d.2),?_,tX.same (lW _ _) h2⟩;have e1:=acg (P:=P) h4;have e2:=acg (P:=P) h5;have e1:(Extern.Bytes.bytesOf u).run P w= .ok (fv d.1) w:=e1;have e2:(Extern.Bytes.bytesOf v).run P w= .ok (fv d.2) w:=e2;have aOM:Extern.BytealgCompare.compare [u,v].toArray=(do let a <-Extern.Bytes.bytesOf u;let b <-Extern.Bytes.bytesOf v;pure (goInt (Extern.BytealgCompare.cmp a b))):=rfl;rw[aOM];simp[e1,e2,goInt,adN]
def aS8{X Y:Type} [Inhabited Y] (x:Option X):Option (X×Y):=al x λy=>some (y,default)
def aS9{X Y:Type} [Inhabited X] (x:Option Y):Option (X×Y):=al x λy=>some (default,y)
@[simp] theorem aQb{X Y:Type} [Inhabited Y] (x:X):aS8 (Y:=Y) (some x)=some (x,default):=rfl
@[simp] theorem aQc{X Y:Type} [Inhabited X] (x:Y):aS9 (X:=X) (some x)=some (default,x):=rfl
def Entry.half(params:List (Option Ty)){X Z:Type}(run:List aB->List dE->Option X)(out:List aB->List dE->X->fG)(i:Z->X)(p:X->Option Z):Entry:= {params,X:=Z,run:=λa o=>(run a o).bind p,out:=λa o z=>out a o (i z)}
def jK{X Z:Type}(p:X->Option Z)(x:Option X):Option Z:=x.bind p
theorem oO{X Y:Type}(x:X):jK cT (some (Sum.inl x:X⊕Y))=some x:=rfl
theorem aKY{X Y:Type}(x:Y):jK Sum.getRight? (some (Sum.inr x:X⊕Y))=some x:=rfl
theorem qZ.half{f:FuncId}{params:List (Option Ty)}{X Z:Type}{run:List aB->List dE->Option X}{out:List aB->List dE->X->fG}{i:Z->X}{p:X->Option Z}(hp:∀x z,p x=some z->x=i z)
  (h:qZ P f {params,X,run,out}):qZ P f (Entry.half params run out i p):=by
 intro w g β args bZ jd z h3 h4 h5;have h5:(run args bZ).bind p=some z:=h5;cases hr:run args bZ with
 |none=>rw[hr]at h5;cases h5
 |some x=>
  rw[hr]at h5;obtain rfl:=hp x z h5;exact h w g β args bZ jd (i z) h3 h4 hr
theorem aQ8{X Y:Type}(x:X⊕Y)(z:X)(h:x.getLeft?=some z):x= .inl z:=by cases x <;> cases h;rfl
theorem aQ9{X Y:Type}(x:X⊕Y)(z:Y)(h:x.getRight?=some z):x= .inr z:=by cases x <;> cases h;rfl
end
theorem S1:(type_of% @N.lt)/\(type_of% @N.le)/\(type_of% @N.gt)/\(type_of% @N.ge)/\(type_of% @N.eq)/\(type_of% @N.ne)/\(type_of% @N.ib)/\(type_of% @N.ic)/\(type_of% @N.nn)/\(type_of% @N.nz)/\(type_of% @N.dc)/\(type_of% @N.rm)/\(type_of% @N.an)/\(type_of% @N.or)/\(type_of% @N.no)/\(type_of% @aj)/\(type_of% @ao)/\(type_of% @ah):=⟨@N.lt,@N.le,@N.gt,@N.ge,@N.eq,@N.ne,@N.ib,@N.ic,@N.nn,@N.nz,@N.dc,@N.rm,@N.an,@N.or,@N.no,@aj,@ao,@ah⟩
theorem S2:(type_of% @ah)/\(type_of% @N.aSs)/\(type_of% @N.mO)/\(type_of% @N.aU4)/\(type_of% @N.aSV)/\(type_of% @N.aVL)/\(type_of% @N.aVK)/\(type_of% @N.aSQ)/\(type_of% @N.aVD)/\(type_of% @N.aRX)/\(type_of% @N.aUw)/\(type_of% @N.aUv)/\(type_of% @N.aUx)/\(type_of% @N.aSU)/\(type_of% @N.cN)/\(type_of% @N.cL)/\(type_of% @N.tL)/\(type_of% @aa)/\(type_of% @jh)/\(type_of% @mM)/\(type_of% @iM):=⟨@ah,@N.aSs,@N.mO,@N.aU4,@N.aSV,@N.aVL,@N.aVK,@N.aSQ,@N.aVD,@N.aRX,@N.aUw,@N.aUv,@N.aUx,@N.aSU,@N.cN,@N.cL,@N.tL,@aa,@jh,@mM,@iM⟩
end Go.Ab
namespace Go.Ab
open Go.ChangeShapes Go.WideShapes Go.ChangeAt Go.RowKit Go.Deep
def ae5:(t:Ty)->t.den->Prop
 | .int k,x=>(Lit.int k x).wf=true
 | .bool,_=>True
 | .str,s=>(s:ByteArray).size<=maxLen
 | .slice t,l=>(l:List t.den).length<=maxLen/\∀x∈(l:List t.den),ae5 t x
 | .unit,_=>True
 | .pair a b,x=>ae5 a x.1/\ae5 b x.2
 | .arr n t,l=>(l:List t.den).length=n/\∀x∈(l:List t.den),ae5 t x
 | .gY _,_ | .uE _,_=>False
def A3(P:Program)(rd:TypeId->Ty->Bool):Nat->List Field->Ty->Bool
 |_,[],.unit=>true
 |off,f::fs,.pair a b=>iJ f.offset off && (rd f.type a && (iJ (P.cellsOf f.type) a.size && A3 P rd (off+a.size) fs b))
 |_,_,_=>false
def DI(P:Program):Nat->TypeId->Ty->Bool
 | 0,_,_=>false
 |n+1,T,ty=>
  match P.underlying T,ty with
  |some (.int k),.int k'=>decide (k=k')
  |some .bool,.bool=>true
  |some .string,.str=>true
  |some (.slice e),.slice t=>DI P n e t && iJ (P.cellsOf e) t.size
  |some (.array k e),.arr k' t=>iJ k k' && (DI P n e t && (iJ (P.cellsOf e) t.size && iJ (P.cellsOf T) (k*t.size)))
  |some (.struct fs),ty=>A3 P (DI P n) 0 fs.toList ty && iJ (P.cellsOf T) ty.size
  |_,_=>false
theorem aJV{a b:Nat}:(iJ a b=true)=(a=b):=propext ⟨eU,λh=>by subst h;exact Nat.beq_refl a⟩
theorem anH{α β:Type}{f:α->Option β}:∀ {l:List α} {r:List β},l.mapM f=some r->r.length=l.length/\∀(i:Nat) (x:α),l[i]? =some x->f x=r[i]?
 |[],r,h=>by simp only[List.mapM_nil,Option.pure_def,az]at h;subst h;exact⟨rfl,λi x h=>by simp at h⟩
 |y::l,r,h=>by
  simp only[List.mapM_cons,Option.bind_eq_bind,Option.pure_def,Option.bind_eq_some_iff,az]at h;obtain⟨b,hb,r',hr,rfl⟩:=h;obtain⟨h1,h2⟩:=anH hr;refine⟨by simp[h1],λi x hi=> ?_⟩;cases i with
  |zero=>
   simp only[fM,az]at hi;subst hi;simpa using hb
  |succ i=>
   simp only[mu]at hi ⊢;exact h2 i x hi
theorem axw{w:World}{base:Nat}{a:Addr}{n:Nat}{cs:List Value}(h:w.cells? base a n=some cs):cs.length=n/\∀i,i < n->w.cell? (a.add i)=cs[i]? :=by
 unfold World.cells? at h;split at h
 ·obtain⟨h1,h2⟩:=anH h;exact⟨by simpa using h1,λi hi=>h2 i i (by simp[hi])⟩
 ·cases h
theorem add_add(a:Addr)(x y:Nat):(a.add x).add y=a.add (x+y):=by unfold Addr.add;by_cases hx:x=0 <;> by_cases hy:y=0 <;> simp[hx,hy,eO]
theorem aAW{w:World}{a:Addr}{v:Value}(h:w.cell? a=some v):a.spot=none:=by
 unfold World.cell? at h;split at h
 ·split at h
  ·cases h
  ·rename_i hs;cases hh:a.spot with
   |none=>rfl
   |some _=>simp[hh]at hs
 ·cases h
theorem aPF{E:Env}(hg:∀b,E.g b= .free){a:Addr}{vs:List Value}(h:∀i,i < vs.length->E.w.cell? (a.add i)=vs[i]?):GN E (some a) vs:=by
 intro i v hv;have hi:i < vs.length:=(dF.1 hv).1;have h0:=h 0 ak;rw[bT ak]at h0;have hs:a.spot=none:=aAW (a:=a) (by simpa[Addr.add]using h0);obtain⟨b,off,sp⟩:=a;simp only at hs;subst hs;refine⟨b,off,rfl,?_,?_⟩
 ·have:=h i hi;rw[hv]at this;rw[<-this];unfold Addr.add;split
  ·rename_i h;subst h;rfl
  ·rfl
 ·unfold vh;rw[hg b];trivial
section
variable {H:Type} {enc:TypeId×Value->H} {P:Program} {base:Nat} {spare:Nat->Bool} {held:Bool} {E:Env}
theorem awg{t:Ty}{R:List Value->t.den->Prop}{G:t.den->Prop}{w:World}{a:Addr}{z:Nat}(hR:∀c x,R c x->c.length=z):∀(len:Nat),(∀i,i < len->∃c x,R c x/\G x/\∀j,j < z->w.cell? (a.add (i*z+j))=c[j]?)->
  ∃(vs:List Value) (l:List t.den),vs.length=len*z/\l.length=len/\(∀i,i < vs.length->w.cell? (a.add i)=vs[i]?)/\bC R vs l/\∀x∈l,G x
 | 0,_=>⟨[],[],by simp,rfl,λi h=>by simp at h,rfl,λ_ h=>by cases h⟩
 |len+1,h=>by
  obtain⟨vs,l,h1,h2,h3,h4,h5⟩:=awg hR len λi hi=>h i ak
  obtain⟨c,x,g1,g2,g3⟩:=h len ak;have hc:=hR c x g1;refine⟨vs++c,l++ [x],by rw[ai,h1,hc,eD,iy],by rw[ai,h2];rfl,λi hi=> ?_,bC.append h4 ⟨c,[],by simp,g1,rfl⟩,λy hy=> ?_⟩
  ·rw[ai,h1,hc]at hi;by_cases hl:i < vs.length
   ·rw[h3 i hl,fm hl]
   ·rw[List.getElem?_append_right ak,h1,<-g3 (i - len*z) ak,show len*z+(i - len*z)=i by omega]
  ·rcases bB.1 hy with hy | hy
   ·exact h5 y hy
   ·rw[bh.1 hy];exact g2
theorem afx{t:Ty}{R:List Value->t.den->Prop}{G:t.den->Prop}{z:Nat}:∀(n:Nat) (cs:List Value),cs.length=n*z->(∀i,i < n->∃x,R ((cs.drop (i*z)).take z) x/\G x)->
  ∃l:List t.den,l.length=n/\bC R cs l/\∀x∈l,G x
 | 0,cs,h,_=>⟨[],rfl,bD (by simpa using h),λ_ h=>by cases h⟩
 |n+1,cs,h,hi=>by
  obtain⟨x,g1,g2⟩:=hi 0 ak;obtain⟨l,h1,h2,h3⟩:=afx (R:=R) (G:=G) (z:=z) n (cs.drop z) (by rw[dp,h,eD];omega) λi am2=>by obtain⟨y,k1,k2⟩:=hi (i+1) ak;refine⟨y,?_,k2⟩;rw[fQ,show z+i*z=(i+1)*z by rw[eD];omega];exact k1
  refine⟨x::l,by simp[h1],⟨cs.take z,cs.drop z,(dq z cs).symm,by simpa using g1,h2⟩,λy hy=> ?_⟩;rcases cd.1 hy with rfl | hy
  ·exact g2
  ·exact h3 y hy
theorem Wf{rd:TypeId->Ty->Bool}{cs:List Value}:∀(fs:List Field) (off:Nat) (ty:Ty),A3 P rd off fs ty=true->off+ty.size<=cs.length->
  (∀f∈fs,∀t,rd f.type t=true->P.cellsOf f.type=t.size->∃v,de E t ((cs.drop f.offset).take (P.cellsOf f.type)) v/\ae5 t v)->∃v,de E ty ((cs.drop off).take ty.size) v/\ae5 ty v
 |[],off,ty,h,hl,_=>by
  cases ty <;> simp only[A3]at h <;> first | cases h | skip
  exact⟨(),by simp[de,Ty.size],trivial⟩
 |f::fs,off,ty,h,hl,hf=>by
  cases ty <;> simp only[A3]at h <;> first | cases h | skip
  rename_i a b;simp only[au,aJV]at h;obtain⟨h1,h2,h3,h4⟩:=h;have hl:off+(a.size+b.size)<=cs.length:=hl;obtain⟨v,k1,k2⟩:=hf f (aL ..) a h2 h3;obtain⟨u,k3,k4⟩:=Wf fs (off+a.size) b h4 ak λf' hf'=>hf f' (aI _ hf')
  refine⟨(v,u),⟨(cs.drop off).take a.size,(cs.drop (off+a.size)).take b.size,?_,?_,k3⟩,k2,k4⟩
  ·rw[show Ty.size (.pair a b)=a.size+b.size from rfl,List.take_add,fQ]
  ·rw[h1,h3]at k1;exact k1
theorem Q7(hg:∀b,E.g b= .free):∀(n:Nat) (T:TypeId) (ty:Ty),DI P n T ty=true->∀ {fuel:Nat} {cs:List Value} {x:DataW H×List MemPlace},DataW.trod enc P E.w base spare held fuel T cs=some x->∃v,de E ty cs v/\ae5 ty v
 | 0,_,_,h,_,_,_,_=>by simp[DI]at h
 |n+1,T,ty,h,fuel,cs,x,hx=>by
  unfold DI at h;split at h
  ·rename_i k k' hu;obtain rfl:=of_decide_eq_true h;obtain⟨m,rfl,_,hw⟩:=DataW.trod_int hu hx;exact⟨m,rfl,hw⟩
  ·rename_i hu;obtain⟨b,rfl,_⟩:=DataW.trod_bool hu hx;exact⟨b,rfl,trivial⟩
  ·rename_i hu;obtain⟨s,rfl,_,hs⟩:=DataW.trod_string hu hx;exact⟨s,rfl,hs⟩
  ·rename_i e t hu;simp only[au,aJV]at h;obtain⟨h1,h2⟩:=h;rcases open_slice hu hx with⟨rfl,_⟩ | ⟨a,len,cap,m,f,D,Pl,rfl,_,hl,hm,aTN,_,he⟩
   ·exact⟨([]:List t.den),⟨none,0,[],rfl,ax _,λh=>by simp at h,λi v hv=>by simp at hv,rfl⟩,aJ _,λ_ h=>by cases h⟩
   ·have aSG:len<=m:=by rw[aTN];split <;> omega
    obtain⟨vs,l,k1,k2,k3,k4,k5⟩:=awg (t:=t) (R:=de E t) (G:=ae5 t) (w:=E.w) (a:=a) (z:=t.size) (λc x h=>de.size h) len λi hi=>by obtain⟨cs',g1,g2⟩:=he i ak;obtain⟨v,g3,g4⟩:=Q7 hg n e t h1 g2;obtain⟨g5,g6⟩:=axw g1;refine⟨cs',v,g3,g4,λj hj=> ?_⟩;rw[<-g6 j ak,add_add,h2]
    refine⟨l,⟨some a,cap,vs,by rw[k2],by rw[k2];exact hl,λ_=>rfl,aPF hg k3,k4⟩,by rw[k2];omega,k5⟩
  ·rename_i k e k' t hu;simp only[au,aJV]at h;obtain⟨rfl,h1,h2,h3⟩:=h;obtain⟨xs,m,rfl,_,hl,aJs,he⟩:=DataW.trod_array hu hx;obtain⟨l,k1,k2,k3⟩:=afx (t:=t) (R:=de E t) (G:=ae5 t) (z:=t.size) k cs (by rw[hl,h3]) λi hi=>by have:=he i hi;rw[bT ak,h2]at this;exact Q7 hg n e t h1 this
   exact⟨l,⟨k1,k2⟩,k1,k3⟩
  ·rename_i ty fs hu;simp only[au,aJV]at h;obtain⟨h1,h2⟩:=h;obtain⟨xs,m,rfl,_,hl,aJs,he⟩:=DataW.trod_struct hu hx;obtain⟨v,k1,k2⟩:=Wf (E:=E) (cs:=cs) fs.toList 0 _ h1 (by rw[hl,h2];omega) λf hf t ht hc=>by
    obtain⟨i,hi,aWi⟩:=List.mem_iff_getElem.1 hf;have hi':i < fs.size:=by simpa using hi
    have:=he i f (by rw[<-aWi];simp[hi']);rw[bT ak]at this;exact Q7 hg n f.type t ht this
   refine⟨v,?_,k2⟩;rwa[aD,aY ak]at k1
  ·cases h
end
end Go.Ab
namespace Go.Ab
open Go.ChangeShapes Go.WideShapes Go.ChangeAt Go.RowKit Go.Deep
section
variable {H:Type} {enc:TypeId×Value->H} {P:Program} {base b0:Nat} {spare:Nat->Bool} {held:Bool} {E:Env} {W:World}
theorem ary{rd:TypeId->Ty->Bool}{fs:List Field}{off:Nat}{ty:Ty}(h:A3 P rd off fs ty=true):ty.agg=true:=by cases fs <;> cases ty <;> first | rfl | (simp[A3]at h)
theorem aHa(hw:E.w=W)(hg:∀b,E.g b= .free){n:Nat}{t:TypeId}{ty:Ty}(h:DI P n t ty=true){v:Value}{d:DataW H}{ps:List MemPlace}(A5:Value.okWide P W .any base t v)(hd:DataW.Trod enc P W b0 spare held t v d ps):
  ∃x:ty.den,VS E (.d ty x) v/\ae5 ty x:=by
 subst hw;obtain⟨fuel,hf⟩:=hd;obtain⟨x,h1,h2⟩:=Q7 hg n t ty h hf;refine⟨x,⟨v.cells.toList,h1,?_⟩,h2⟩;cases n with
 |zero=>simp[DI]at h
 |succ n=>
  unfold DI at h;split at h
  ·rename_i k k' hu;obtain⟨m,rfl⟩:=okWide_int hu A5;rfl
  ·rename_i hu;obtain⟨m,rfl⟩:=okWide_bool hu A5;rfl
  ·rename_i hu;obtain⟨m,rfl⟩:=okWide_string hu A5;rfl
  ·rename_i hu;obtain⟨a,len,cap,rfl⟩:=okWide_slice hu A5;rfl
  ·rename_i hu;simp only[Value.okWide,hu]at A5;obtain⟨cs,rfl,_⟩:=A5;show _=_;simp[Value.cells]
  ·rename_i fs hu;simp only[Value.okWide,hu]at A5;obtain⟨cs,rfl,_⟩:=A5;simp only[au]at h;have:=ary h.1;simp only[aB.agg,this,fO,Value.cells,Array.toArray_toList]
  ·cases h
def DV:List Ty->Type
 |[]=>Unit
 |t::ts=>t.den×DV ts
def DV.jd:(ts:List Ty)->DV ts->List aB
 |[],_=> []
 |t::ts,x=> .d t x.1::DV.jd ts x.2
def DV.aUF:(ts:List Ty)->DV ts->Prop
 |[],_=>True
 |t::ts,x=>ae5 t x.1/\DV.aUF ts x.2
def wT(P:Program)(n:Nat):List TypeId->List Ty->Bool
 |[],[]=>true
 |T::Ts,t::ts=>DI P n T t && wT P n Ts ts
 |_,_=>false
theorem agC(hw:E.w=W)(hg:∀b,E.g b= .free){n:Nat}:∀ {Ts:List TypeId} {ts:List Ty} {vs:List Value} {ds:List (DataW H)} {ps:List MemPlace},wT P n Ts ts=true->
  (∀(j:Nat) t v,Ts[j]? =some t->vs[j]? =some v->Value.okWide P W .any base t v)->DataW.TrodAll enc P W b0 spare held Ts vs ds ps->∃x:DV ts,yC E (DV.jd ts x) vs/\DV.aUF ts x
 |[],[],vs,ds,ps,_,_,h=>by obtain⟨rfl,rfl,rfl⟩:=trodAll_nil h;exact⟨(),trivial,trivial⟩
 |T::Ts,[],_,_,_,h,_,_=>by simp[wT]at h
 |[],t::ts,_,_,_,h,_,_=>by simp[wT]at h
 |T::Ts,t::ts,vs,ds,ps,h,A5,hd=>by simp only[wT,au]at h;obtain⟨v,vs',d,ds',p,q,rfl,rfl,rfl,h1,h2⟩:=trodAll_cons hd;obtain⟨x,k1,k2⟩:=aHa hw hg h.1 (A5 0 T v rfl rfl) h1;obtain⟨y,k3,k4⟩:=agC hw hg h.2 (λj t v hj hv=>A5 (j+1) t v (by simpa using hj) (by simpa using hv)) h2;exact⟨(x,y),⟨k1,k3⟩,⟨k2,k4⟩⟩
def xH(P:Program)(Ts:List TypeId):Bool:=Ts.all λt=>P.readableRec t && decide (t < P.types.size)
theorem ML(hl:laidOutB P=true){W':World}(hb:Below W.heap.size W W')(sp:Nat->Bool):∀ {Ts:List TypeId} {vs:List Value} {ds:List (DataW H)} {ps:List MemPlace},xH P Ts=true->(∀p∈ps,p.block < W.heap.size)->(∀p∈ps,sp p.block=true)->
  DataW.TrodAll enc P W 0 (λ_=>true) true Ts vs ds ps->DataW.TrodAll enc P W' 0 sp true Ts vs ds ps
 |[],vs,ds,ps,_,_,_,h=>by obtain⟨rfl,rfl,rfl⟩:=trodAll_nil h;exact trodAll_mk0
 |T::Ts,vs,ds,ps,hr,gJ,hs,h=>by obtain⟨v,vs',d,ds',p,q,rfl,rfl,rfl,h1,h2⟩:=trodAll_cons h;simp only[xH,fb,au,aW]at hr;have h3:=WideElems.Trod_stays hl hr.1.1 hr.1.2 h1 (λx hx=>hb.same (gJ x (bB.2 (.inl hx)))) (λx hx=>hs x (bB.2 (.inl hx)));exact⟨p,q,h3,ML hl hb sp (by simpa[xH]using hr.2) (λx hx=>gJ x (bB.2 (.inr hx))) (λx hx=>hs x (bB.2 (.inr hx))) h2,rfl⟩
end
theorem JW{H:Type}{enc:TypeId×Value->H}{P:Program}{W:World}{b0:Nat}{spare:Nat->Bool}{held:Bool}:∀ {Ts:List TypeId} {vs:List Value} {ds:List (DataW H)} {ps:List MemPlace},DataW.TrodAll enc P W b0 spare held Ts vs ds ps->ds.length=Ts.length
 |[],_,_,_,h=>by obtain⟨_,rfl,_⟩:=trodAll_nil h;rfl
 |_::_,_,_,_,h=>by obtain⟨v,vs',d,ds',p,q,rfl,rfl,rfl,h1,h2⟩:=trodAll_cons h;simp[JW h2]
theorem aod{H:Type}{enc:TypeId×Value->H}{P:Program}{f:Func}{s:ChangeSpec}{W W':World}{args:Array Value}{v:Value}{ds gs:List (DataW H)}{before:List MemPlace}{tb:TypeId}
  (hl:laidOutB P=true) (ap6:xH P f.params.toList=true) (ana:s.vars=[]) (aT8:f.resultTypes= #[tb]) (aUb:P.underlying tb=some .bool)
  (hW:DataW.Whole enc P f.params.toList s.vars false W args.toList ds gs before) (aON:s.fn H (ds++gs)= {results:=[.lit (.bool true)],args:=ds}) (hb:Below W.heap.size W W') (hv:v= .bool true):
  s.post enc P f false true false false W args v W':=by
 subst hv;have hW':=hW;have hold:∀p∈before,(λb=>decide (b < W.heap.size)) p.block=true:=λp hp=>by simpa using hW.lt p hp
 obtain⟨p,q,hA,hV,rfl,hz,_⟩:=hW;rw[ana]at hV;obtain⟨rfl,rfl⟩:=trodVars_none hV;have gJ:∀x∈p,x.block < W.heap.size:=λx hx=>hW'.lt x (bB.2 (.inl hx))
 have LV:∀sp:Nat->Bool,(∀x∈p,sp x.block=true)->DataW.TrodAll enc P W' 0 sp true f.params.toList args.toList (s.fn H (ds++ [])).args p:=λsp hs=>by rw[aON];exact ML hl hb sp ap6 gJ hs hA
 have aT2:∀(b:Nat) (sp:Nat->Bool) (hd:Bool),DataW.TrodAll enc P W' b sp hd f.resultTypes.toList ((Value.bool true).resultList f.resultTypes.size) (s.fn H (ds++ [])).results []:=λb sp hd=>by rw[aON,aT8];exact trodAll_mk1 (shut_bool aUb _)
 have Vr:∀sp:Nat->Bool,DataW.TrodVars enc P W' sp s.vars (s.fn H (ds++ [])).vars []:=λsp=>by rw[aON,ana];rfl
 refine⟨ds,[],p++ [],[],p,[],hW',aT2 _ _ _,LV _ (λx hx=>hold x (bB.2 (.inl hx))),Vr _,hb.frame _,λh=>by cases h⟩
theorem Jg{P:Program}{n:Nat}:∀ {Ts:List TypeId} {ts:List Ty},wT P n Ts ts=true->Ts.length=ts.length
 |[],[],_=>rfl
 |[],_::_,h=>by simp[wT]at h
 |_::_,[],h=>by simp[wT]at h
 |_::_,_::_,h=>by simp only[wT,au]at h;simp[Jg h.2]
theorem ayR{H:Type}{enc:TypeId×Value->H}{P:Program}{f:FuncId}{fn:Func}{en:Entry}{s:ChangeSpec}{tb:TypeId}(n:Nat)(tys:List Ty)(hD:qZ P f en)(hf:P.funcs[f]? =some fn)(aRf:fn.body.isSome=true)(A4:(fn.name== "runtime.NumGoroutine")=false)
  (hl:laidOutB P=true) (aNr:wT P n fn.params.toList tys=true) (ap6:xH P fn.params.toList=true) (ana:s.vars=[]) (aT8:fn.resultTypes= #[tb]) (aUb:P.underlying tb=some .bool)
  (aON:∀ds:List (DataW H),ds.length=tys.length->s.fn H (ds++ [])= {results:=[.lit (.bool true)],args:=ds})
  (iO:∀x:DV tys,DV.aUF tys x->∃r,en.run (DV.jd tys x) []=some r/\en.out (DV.jd tys x) [] r=⟨.d .bool true,[],[]⟩)
  {W:World} {base:Nat} {args:Array Value} {ds gs:List (DataW H)} {before:List MemPlace}
  (A5:∀(j:Nat) t v,fn.params[j]? =some t->args[j]? =some v->Value.okWide P W .any base t v)
  (hW:DataW.Whole enc P fn.params.toList s.vars false W args.toList ds gs before):
  Calls P f args W λe W'=>∃v,e= .returned v/\s.post enc P fn false true false false W args v W':=by
 have hW':=hW;obtain⟨p,q,hA,hV,_,_,_⟩:=hW;rw[ana]at hV;obtain⟨rfl,rfl⟩:=trodVars_none hV;obtain⟨x,aO8,aSM⟩:=agC (E:=(fI []).env W (λ_=> .free) (λ_=>none)) rfl (λ_=>rfl) aNr (λj t v hj hv=>A5 j t v (by simpa using hj) (by simpa using hv)) hA;obtain⟨r,aE3,adT⟩:=iO x aSM;have cO:(callFunc f args).run P W= .ok (.enter f args) W:=by
  unfold callFunc;obtain⟨c,hc⟩:=bN.1 aRf;have hname':¬fn.name= "runtime.NumGoroutine" :=by simpa using A4
  simp[hf,hname',hc]
 have hlen:ds.length=tys.length:=by rw[JW hA,Jg aNr]
 have ho:iV ((fI []).env W (λ_=> .free) (λ_=>none)):=λid ver fr c h=>by
  exfalso;cases id with
  |bm k=>simp[AS.env,AS.bV,fI]at h
  |new i j=>simp[AS.env,AS.bV,fI]at h
 rcases hD W (λ_=> .free) (λ_=>none) (DV.jd tys x) [] args.toList r aO8 ho aE3 with⟨_,hc⟩ | ⟨v,w',hc,_⟩
 ·refine hc.mono λe w' he=> ?_
  obtain⟨v,rfl,g',β',h1,_,h2,_⟩:=he;rw[adT]at h1;refine⟨v,rfl,aod hl ap6 ana aT8 aUb hW' (aON ds hlen) ⟨h2.os,h2.tape,h2.output.1,h2.size,λb hb=>(h2.SE b hb).2⟩ ?_⟩;obtain⟨cs,k1,k2⟩:=h1;have k1:cs=[.bool true]:=k1;subst k1;have k2: [Value.bool true]=[v]:=k2;simpa using k2.symm
 ·rw[show args.toList.toArray=args from Array.toArray_toList ..,cO]at hc;cases hc
end Go.Ab
namespace Go.Ab
abbrev W:=BitVec 32
def vX(w:W)(k:Nat):W:=w <<< (32 - k) ||| w >>> k
def aQQ(a b c d:Int):W:=bf 32 a <<< 24 ||| bf 32 b <<< 16 ||| bf 32 c <<< 8 ||| bf 32 d
def be(l:List Int)(i:Nat):W:=aQQ (l.getD (4*i) 0) (l.getD (4*i+1) 0) (l.getD (4*i+2) 0) (l.getD (4*i+3) 0)
structure St where
 a:W
 b:W
 c:W
 d:W
 e:W
 f:W
 g:W
 h:W
def St.l(s:St):List Int:=[vw s.a,vw s.b,vw s.c,vw s.d,vw s.e,vw s.f,vw s.g,vw s.h]
def aUI(x:W):W:=vX x 7^^^vX x 18^^^x >>> 3
def aUJ(y:W):W:=vX y 17^^^vX y 19^^^y >>> 10
def aNE(l:List W)(i:Nat):W:=l.getD (i - 16) 0+aUI (l.getD (i - 15) 0)+l.getD (i - 7) 0+aUJ (l.getD (i - 2) 0)
def ext(l:List W):List W:=l++ [aNE l l.length]
def aJv(m:List W):Nat->List W
 | 0=>m
 |n+1=>ext (aJv m n)
def words(b:List Int):List W:=(List.range 16).map (be b)
def sched(b:List Int):List W:=aJv (words b) 48
def kl:List Nat:=[0x428a2f98,0x71374491,0xb5c0fbcf,0xe9b5dba5,0x3956c25b,0x59f111f1,0x923f82a4,0xab1c5ed5,0xd807aa98,0x12835b01,0x243185be,0x550c7dc3,0x72be5d74,0x80deb1fe,0x9bdc06a7,0xc19bf174,0xe49b69c1,0xefbe4786,0x0fc19dc6,0x240ca1cc,0x2de92c6f,0x4a7484aa,0x5cb0a9dc,0x76f988da,0x983e5152,0xa831c66d,0xb00327c8,0xbf597fc7,0xc6e00bf3,0xd5a79147,0x06ca6351,0x14292967,0x27b70a85,0x2e1b2138,0x4d2c6dfc,0x53380d13,0x650a7354,0x766a0abb,0x81c2c92e,0x92722c85,0xa2bfe8a1,0xa81a664b,0xc24b8b70,0xc76c51a3,0xd192e819,0xd6990624,0xf40e3585,0x106aa070,0x19a4c116,0x1e376c08,0x2748774c,0x34b0bcb5,0x391c0cb3,0x4ed8aa4a,0x5b9cca4f,0x682e6ff3,0x748f82ee,0x78a5636f,0x84c87814,0x8cc70208,0x90befffa,0xa4506ceb,0xbef9a3f7,0xc67178f2]
def kw(i:Nat):W:=BitVec.ofNat 32 (kl.getD i 0)
def Tr:List Int:=kl.map λ(n:Nat)=>(n:Int)
def mh(s:St)(k w:W):St:=
 let t:=s.h+(vX s.e 6^^^vX s.e 11^^^vX s.e 25)+(s.g^^^s.e &&& (s.f^^^s.g))+k+w
 let r:=vX s.a 2^^^vX s.a 13^^^vX s.a 22
 let most:=s.a &&& s.b ||| s.c &&& (s.a ||| s.b)
 ⟨t+r+most,s.a,s.b,s.c,s.d+t,s.e,s.f,s.g⟩
def rounds(ws:List W)(s:St):Nat->St
 | 0=>s
 |n+1=>mh (rounds ws s n) (kw n) (ws.getD n 0)
def TC(s:St)(b:List Int):St:=
 let v:=rounds (sched b) s 64
 ⟨v.a+s.a,v.b+s.b,v.c+s.c,v.d+s.d,v.e+s.e,v.f+s.f,v.g+s.g,v.h+s.h⟩
def sT:St:=⟨0x6a09e667,0xbb67ae85,0x3c6ef372,0xa54ff53a,0x510e527f,0x9b05688c,0x1f83d9ab,0x5be0cd19⟩
def Cb:Nat->St->List Int->St
 | 0,s,_=>s
 |n+1,s,l=>Cb n (TC s (l.take 64)) (l.drop 64)
def blocks(s:St)(l:List Int):St:=Cb (l.length / 64) s l
def aSu(w:W)(k:Nat):Int:=vw ((w >>> (24 - 8*k)).setWidth 8)
def aJ3(w:W):List Int:=[aSu w 0,aSu w 1,aSu w 2,aSu w 3]
def aLZ(s:St):List Int:=aJ3 s.a++aJ3 s.b++aJ3 s.c++aJ3 s.d++aJ3 s.e++aJ3 s.f++aJ3 s.g++aJ3 s.h
def jo(n:Int):List Int:=[n / 2^56%256,n / 2^48%256,n / 2^40%256,n / 2^32%256,n / 2^24%256,n / 2^16%256,n / 2^8%256,n%256]
def Bm(n:Nat):Nat:=(119 - n%64)%64
def pad(b:List Int):List Int:=b++128::(ab (Bm b.length) 0++jo (8*b.length))
def aPJ(b:List Int):List Int:=aLZ (blocks sT (pad b))
def oR(parts:List (List Int)):List Int:=parts.flatMap λp=>jo p.length++p
def Um(name:List Int)(parts:List (List Int)):List Int:=jo name.length++name++oR parts
def tag(name:List Int)(parts:List (List Int)):List Int:=aPJ (Um name parts)
theorem atM(b:List Int):(aPJ b).length=32:=rfl
theorem cj(n:Int):(jo n).length=8:=rfl
theorem vD(l:List W):(ext l).length=l.length+1:=by simp[ext]
theorem BS(m:List W):∀n,(aJv m n).length=m.length+n
 | 0=>rfl
 |n+1=>by rw[aJv,vD,BS m n];omega
theorem eW(b:List Int):(words b).length=16:=by simp[words]
theorem HO:∀(n:Nat) (s:St) (a b:List Int),a.length=64*n->∀m,Cb (n+m) s (a++b)=Cb m (Cb n s a) b
 | 0,s,a,b,h,m=>by have:a=[]:=bD ak;subst this;simp[Cb]
 |n+1,s,a,b,h,m=>by rw[show n+1+m=(n+m)+1 by omega,Cb,Cb];rw[fh ak,List.drop_append_of_le_length ak];exact HO n _ _ _ (by simp;omega) m
theorem Ll(s:St)(a b:List Int)(h:a.length%64=0):blocks s (a++b)=blocks (blocks s a) b:=by
 unfold blocks;have e:(a++b).length / 64=a.length / 64+b.length / 64:=by simp;omega
 rw[e];exact HO _ _ _ _ ak _
theorem HP(s:St)(l:List Int)(h:64<=l.length):blocks s l=blocks (TC s (l.take 64)) (l.drop 64):=by unfold blocks;rw[show l.length / 64=(l.drop 64).length / 64+1 by simp;omega];rfl
theorem Fb(s:St)(l:List Int)(h:l.length < 64):blocks s l=s:=by unfold blocks;rw[show l.length / 64=0 by omega];rfl
def ahk(x:Int):Prop:=0<=x/\x < 256
def Bytes(l:List Int):Prop:=∀x∈l,ahk x
theorem aJ4(w:BitVec 8):ahk (vw w):=⟨Uu w,aIL w⟩
theorem ahk.vw{x:Int}(h:ahk x):x=vw (bf 8 x):=by rw[gX];obtain⟨h1,h2⟩:=h;omega
theorem aqR(s:St):Bytes (aLZ s):=by intro x hx;simp only[aLZ,aJ3,bB,cd,List.not_mem_nil,or_false]at hx;rcases hx with((((((hx | hx) | hx) | hx) | hx) | hx) | hx) | hx <;> rcases hx with rfl | rfl | rfl | rfl <;> exact aJ4 _
theorem axr(b:List Int):Bytes (aPJ b):=aqR _
theorem D7(n:Int):Bytes (jo n):=by intro x hx;simp only[jo,cd,List.not_mem_nil,or_false]at hx;rcases hx with rfl | rfl | rfl | rfl | rfl | rfl | rfl | rfl <;> exact⟨ak,ak⟩
end Go.Ab
end
