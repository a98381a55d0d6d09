/-
  Made short by a program of mine (wip/tools/mini.py).
-/
import Derived.Test.YtodfaneojnkngaaGreatS26x2
import Derived.Scope
import Derived.Laws.Externs
import Derived.KernelRfl
import Derived.ProofKit
import Derived.OpenShut
import Derived.Deep.Slices
import Derived.Carry
set_option linter.unusedVariables false
set_option linter.unusedSimpArgs false
set_option maxRecDepth 100000
set_option synthInstance.maxSize 5000
open Int renaming toNat->ae
open List renaming replicate->ab
open BitVec renaming ofInt->aZ
open Nat renaming beq->iv
open UInt8 renaming ofNat->eZ
open Sum renaming getLeft?->cP
noncomputable section
namespace Go.Ab
section
variable {P:Program} {Γ:om} {an:wO} {C:Ctx}
open Classical in
def aWy(p:Prop):Option Unit:=if p then some () else none
theorem ap1{p:Prop}(h:aWy p=some ()):p:=by
 unfold aWy at h;split at h
 ·assumption
 ·cases h
theorem aLi{p:Prop}(h:p):aWy p=some ():=by unfold aWy;rw[if_pos h]
theorem ayK{X R:Type}{S:X->Prop}{k:X->Option R}{x:Option R}(hn:∃y,S y)(h:∀y,S y->k y=x):Zt S k=x:=by
 unfold Zt;cases x with
 |none=>exact BH λ⟨r,⟨y,hy⟩,hr⟩=>by have:=h y hy;rw[hr y hy]at this;cases this
 |some r=>
  have hx:∃r,(∃x,S x)/\∀x,S x->k x=some r:=⟨r,hn,h⟩;rw[yD hx];obtain⟨⟨y,hy⟩,h1⟩:=hx.choose_spec;have:=h1 y hy;rw[h y hy]at this;exact this.symm
def axX(P:Program)(Γ:om)(an:wO)(N:Nat)(b:Code):Prop:=∀le,an.fu (dI b)=some le->(le.set=none->∀s x,le.run s=some x->∃n,Vn (norm P (an.loops (dI b))) (λe=>norm P (an.outs (dI b) (apd e))) (ev P Γ an N b) n s (λe s'=>some (e,s'))=(le.out x).eval)/\∀S,le.set=some S->∀s,(∃x,S s x)->∃n,Vn (norm P (an.loops (dI b))) (λe=>norm P (an.outs (dI b) (apd e))) (ev P Γ an N b) n s (λe s'=>aWy (∃x,S s x/\(le.out x).eval=some (e,s')))=some ()
def jP(P:Program)(Γ:om)(an:wO)(N:Nat):List Code->Prop
 |[]=>True
 |b::l=>axX P Γ an N b/\jP P Γ an N l
theorem jP.append{N:Nat}:∀ {l l':List Code},jP P Γ an N (l++l')->jP P Γ an N l/\jP P Γ an N l'
 |[],_,h=>⟨trivial,h⟩
 |_::_,_,⟨h1,h2⟩=>⟨⟨h1,(jP.append h2).1⟩,(jP.append h2).2⟩
theorem sZ{c:Code}{b:Frame}{a:Act}{k:List Item}{cs:List Frame}{w:World}:step P (lone (b.atR a (.code (.scope c)::k)) cs w)= .next (lone (b.atR a (.code c:: .inScope c::k)) cs w):=
 step_lone_go (by simp[stepG,stepG.exec,Frame.atR])
theorem afl{c:Code}{b:Frame}{a:Act}{k:List Item}{cs:List Frame}{w:World}:step P (lone (b.atR a (.inScope c::k)) cs w)= .next (lone (b.atR a k) cs w):=
 step_lone_go (by simp[stepG,stepG.exec,Frame.atR])
theorem Kt{F:Fence}{n:Nat}{Q:Exit->Act->World->Prop}{a:Act}{w:World}{c:Code}(h:c.wpIn F n P (Exit.noGoto Q) a w):(Code.scope c).wpIn F n P Q a w:=by
 intro b k cs bd7 hb hr;have h0:(lone (b.atR a (.code (.scope c)::k)) cs w).fenced P F:=fenced_calm hb hr rfl;obtain⟨e,a1,w1,hq,hx⟩:=h b (.inScope c::k) cs bd7 hb hr;cases e with
 |normal=>exact⟨.normal,a1,w1,hq,.head h0 sZ (StepsIn.trans hx (.one (fenced_calm hb hr rfl) afl))⟩
 |exit i=>
  have e1:exitTo i (.inScope c::k)=exitTo i k:=by simp[exitTo]
  exact⟨.exit i,a1,w1,hq,λk' hk=> .head h0 sZ (hx.1 k' (e1.trans hk)),λh1 hk=>let⟨k2,h2,h3⟩:=hx.2 h1 (e1.trans hk);⟨k2,h2,.head h0 sZ h3⟩⟩
 |goto l=>exact hq.elim
 |ret=>exact⟨_,a1,w1,hq,.of_steps (.one h0 sZ) hx⟩
 |panic ch=>exact⟨_,a1,w1,hq,.of_steps (.one h0 sZ) hx⟩
 |outgrown=>exact⟨_,a1,w1,hq,.of_steps (.one h0 sZ) hx⟩
theorem EZ{rd:Option Nat}{m:Nat}{R:Type}{r:R}{b:Code}{nrm:AS->Out AS}{nrmX:Exit->AS->Out AS}{body:AS->(Exit->AS->Option R)->Option R}
  (hn:∀s s1 a w,ia C s a w->(nrm s).eval=some s1->ia C s1 a w) (hx:∀e s s1 a w,ia C s a w->(nrmX e s).eval=some s1->ia C s1 a w)
  (hb:∀(s:AS) (a:Act) (w:World) (k:Exit->AS->Option R) (Q:Exit->Act->World->Prop),ia C s a w->body s k=some r->(∀e s' a' w',ia C s' a' w'->k e s'=some r->Q e a' w')->b.wpIn (Fr rd) m P Q a w)
  {k:Exit->AS->Option R} {Q:Exit->Act->World->Prop} (hk:∀e s' a' w',ia C s' a' w'->k e s'=some r->Q e a' w'):
  ∀(n:Nat) (s:AS) (a:Act) (w:World),ia C s a w->Vn nrm nrmX body n s k=some r->Code.roundsIn (Fr rd) m P b Q n a w
 | 0,s,a,w,_,h=>by simp[Vn]at h
 |n+1,s,a,w,hs,h=>by
  simp only[Vn]at h;rw[roundsIn_succ];refine hb s a w _ _ hs h λe s' a' w' hs' aYS=> ?_
  have exits:∀e,(nrmX e s').run (k e)=some r->Q e a' w':=λe aYS=>by obtain⟨s1,h1,h2⟩:=hZ.1 aYS;exact hk e s1 a' w' (hx e s' s1 a' w' hs' h1) h2
  cases e with
  |normal=>
   simp only at aYS;obtain⟨s1,h1,h2⟩:=hZ.1 aYS;exact EZ hn hx hb hk n s1 a' w' (hn s' s1 a' w' hs' h1) h2
  |_=>exact exits _ aYS
theorem PT{rd:Option Nat}{n:Nat}(hC:C.ok){j:Option qJ}{run: {R:Type}->(Exit->AS->Option R)->Option R}{c:Code}{a:Act}{w:World}
  (pT:∀ {R:Type} {r:R} (k:Exit->AS->Option R) (Q:Exit->Act->World->Prop),run k=some r->(∀e s' a' w',ia C s' a' w'->k e s'=some r->Q e a' w')->c.wpIn (Fr rd) n P Q a w)
  {R:Type} {r:R} {k:Exit->AS->Option R} {Q:Exit->Act->World->Prop} (h:Ta P j run k=some r) (hk:∀e s' a' w',ia C s' a' w'->k e s'=some r->Q e a' w'):c.wpIn (Fr rd) n P Q a w:=by
 cases j with
 |none=>exact pT k Q h hk
 |some j=>
  simp only[Ta]at h;cases hx:run λe s=>(norm P j.an s).run (j.aCR e) with
  |none=>rw[hx]at h;cases h
  |some x=>
   rw[hx]at h;simp only[ak]at h;obtain⟨y,hy,h⟩:=hZ.1 h;refine pT _ Q hx λe s' a' w' hs' hK=> ?_
   obtain⟨s1,h1,h2⟩:=hZ.1 hK;have he:=j.ok _ _ _ h2;rw[hy,ay]at he;subst he;exact hk e s1 a' w' (oX hC hs' h1) h
theorem Inv.aAD{g:Nat->lS}{β:Id->Option Pl}{s:AS}{a:Act}{w:World}(h:Inv C g β s a w):
  Inv C (ni g w.heap.size (.own .dZ 0)) β s {a with defers:=vf w.heap.size::a.defers} (w.alloc (.deferred (some []))):=by
 have ht:=Trans.alloc w g (.deferred (some [])) (.own .dZ 0);have he:cJ (s.env w g β) (s.env (w.alloc (.deferred (some []))) (ni g w.heap.size (.own .dZ 0)) β):=cJ.same ht;have h1:=h.step rfl ht he (iG.same h.bI he λi ver fr c pl hi hp=>by
  have hl:=((h.bI i ver fr c hi).label (pl:=pl) hp).1;have hl':pl.b < w.heap.size:=hl;exact⟨qM w _ hl',fi _ _ _ (by omega)⟩)
 refine⟨⟨cY.2 ⟨λhm=> ?_,h1.defers.1⟩,λd hd=> ?_⟩,h1.size,h1.cg,h1.bI,h1.trans,h1.le⟩
 ·obtain⟨D,e,_,hh,_⟩:=h.defers.2 _ hm;have e:Deferred.mk (.collected w.heap.size) #[]=Deferred.mk (.collected D) #[]:=e;injection e with e _
  injection e with e
  have:=(bK.1 hh).1;omega
 ·rcases cj.1 hd with rfl | hd
  ·exact⟨w.heap.size,rfl,h.trans.size,tt w _,fv _ _ _⟩
  ·exact h1.defers.2 d hd
theorem MF:∀l:List aA,(lX l).list=l
 |[]=>rfl
 |a::l=>by simp[lX,aA.list,MF l]
theorem DC(aU:List Nat):∀(i:Nat) (l:List aA),(eD aU i l).length=l.length
 |_,[]=>rfl
 |i,_::l=>by simp[eD,DC aU (i+1) l]
theorem Lb(aU:List Nat):∀(l:List aA) (i j:Nat),(eD aU i l).getD j .undef=l.getD j .undef\/(eD aU i l).getD j .undef= .undef
 |[],_,_=> .inl rfl
 |v::l,i,0=>by
  simp only[eD,jh];split
  ·exact .inl rfl
  ·exact .inr rfl
 |v::l,i,j+1=>by simpa[eD]using Lb aU l (i+1) j
theorem Inv.frame{g:Nat->lS}{β:Id->Option Pl}{s:AS}{a:Act}{w:World}(h:Inv C g β s a w)(aU:List Nat):Ed (s.env w g β) (lX (eD aU 0 s.cg)) a.tmps:=by
 refine⟨by rw[MF,DC,h.size],λi=> ?_⟩;rw[MF];rcases Lb aU s.cg 0 i with e | e
 ·rw[e];exact h.cg i
 ·rw[e];exact VS.undef
theorem aR9(a:Act)(q:Nat)(x:Value):(a.put (some q) x).put (some q) (a.tmps.getD q undef)=a:=by
 obtain⟨t,d⟩:=a;simp only[Act.put];congr 1;apply rM;intro i;simp only[dP,Array.size_setIfInBounds];by_cases h:q=i
 ·subst h;by_cases hl:q < t.size
  ·simp[hl]
  ·simp[hl]
 ·simp[h]
theorem QF{g:Nat->lS}{β:Id->Option Pl}{s s':AS}{a:Act}{w:World}{q p:Nat}(h:Inv C g β s a w)(he:s.TA q p=some s'):∃pl r,β (.bh 0)=some pl/\(s.env w g β).cur (.bh 0) 0/\w.heap[pl.b]? =some (.loop r)/\aq6 q r.state r.pending/\
  ∀r':Loop,r'.params=r.params->r'.assign=r.assign->r'.body=r.body->r'.tmps=r.tmps->aq6 p r'.state r'.pending->Inv C g β s' a (w.putObj pl.b (.loop r')):=by
 unfold AS.TA at he;split at he;rotate_left
 ·cases he
 rename_i c f q' cM;split at he;rotate_left
 ·cases he
 rename_i hq;obtain rfl:q=q':=eO hq;obtain rfl:=bk he;obtain⟨pl,r,hp,hb,hg,⟨q1,q2,q3⟩,ayY,ml⟩:=h.bI (.bh 0) 0 false _ cM;have hp:β (.bh 0)=some pl:=hp;have hb:w.heap[pl.b]? =some (.loop r):=hb
 have hg:g pl.b= .own (.id (.bh 0)) 0:=hg;refine⟨pl,r,hp,⟨false,_,cM⟩,hb,ml,λr' e1 e2 e3 e4 hs'=> ?_⟩;have gv:pl.b < w.heap.size:=(bK.1 hb).1;have hother:∀b',b'≠pl.b->(w.putObj pl.b (.loop r')).heap[b']? =w.heap[b']? :=λb' gg=>World.putObj_heap_other gg
 have ht:Trans w (w.putObj pl.b (.loop r')) g g:=by
  refine⟨rfl,rfl,⟨rfl,aw _⟩,by simp,λb' _=> ?_⟩;by_cases he:b'=pl.b
  ·subst he;rw[hg];exact⟨.inr ⟨_,0,rfl,aw _⟩,λ_ _ hh=>by omega⟩
  ·rw[hother b' he];cases WX:g b' with
   |free=>exact⟨rfl,rfl⟩
   |own o' k=>cases o' with
    |dZ=>exact⟨rfl,rfl⟩
    |id i'=>exact⟨.inr ⟨i',k,rfl,aw _⟩,λoff v _ hv=>by simpa only[World.cell?,hother b' he]using hv⟩
 have hle:cJ (s.env w g β) ((s.bg (.bh 0) (.obj 0 false (.qX c f p))).env (w.putObj pl.b (.loop r')) g β):=cJ.bg cM (aw _) ht (λ_ _=>rfl) (λ_=>rfl);refine h.step (da _ _ _) ht hle (iG.bg h.bI (by rw[cM];simp) hle (λ_ _=>rfl) (λi ver fr c pl2 hi ZS agT=>⟨hother _ (h.apart hg hi ZS agT),rfl⟩) ?_ (P4 cM));exact⟨pl,r',hp,World.putObj_heap_same gv,hg,⟨e1.trans q1,e2.trans q2,e3.trans q3⟩,by rw[e4];exact ayY.mono hle,hs'⟩
theorem Xp{n:Nat}(hΓ:Sound P Γ){f:Operand}{ps:Array Tmp}{as b:Code}{R:Type}{r:R}{k:Exit->AS->Option R}{Q:Exit->Act->World->Prop}{s:AS}{a:Act}{w:World}(h:ia C s a w)
  (he:Fi P Γ an s f ps as b k=some r) (hk:∀e s' a' w',ia C s' a' w'->k e s'=some r->Q e a' w'):(Code.rangeFunc f ps as b).wpIn (Fr none) n P Q a w:=by
 obtain⟨g,β,h⟩:=h;unfold Fi at he;split at he;rotate_left
 ·cases he
 rename_i y aU h0 caps bd6 beN hF;split at he;rotate_left
 ·cases he
 rename_i en aYE auK;simp only[aq]at aYE;obtain⟨⟨⟨aCw,aJX⟩,hq⟩,gv⟩:=aYE;have hd:=(hΓ _ _ _ auK).1 gv;have hdR:=(hΓ _ _ _ auK).2.2 gv;generalize bbp:ps.getD 0 0=q at aJX hq he auK;have hq:q < s.cg.length:=dG hq;obtain⟨vs,hy,aXP⟩:=ZE (hF▸h.ev f);refine wpIn_rangeFunc λfn _=> ?_
 have cM:=run_enterLoop_outer (P:=P) (w:=w) fn a.tmps ps as b;have i1:=h.aAD;generalize bee:w.alloc (.deferred (some []))=w1 at i1 cM;have tc:w1.heap.size=w.heap.size+1:=by rw[<-bee];exact World.size_alloc ..
 generalize bbq:({state:= .ready,pending:=none,fn,tmps:=a.tmps,params:=ps,assign:=as,body:=b,defers:=w.heap.size}:Loop)=r0 at cM;have ht:=Trans.alloc w1 (ni g w.heap.size (.own .dZ 0)) (.loop r0) (.own (.id (.new q 0)) 0);obtain⟨i2,e2⟩:=i1.Sr aJX (c:= .qX ⟨y,ps,as,b⟩ (lX (eD aU 0 s.cg)) 0) (p:=some ⟨w1.heap.size,0⟩) ht (λb hb=>⟨qM w1 _ hb,fi _ _ _ (by omega)⟩) (λhe=>
  ⟨⟨w1.heap.size,0⟩,r0,jO _ _ _,tt w1 _,fv _ _ _,by subst bbq;exact⟨rfl,rfl,rfl⟩,by subst bbq;exact(i1.frame aU).mono he,by subst bbq;exact⟨rfl,rfl⟩⟩)
 generalize ni (ni g w.heap.size (.own .dZ 0)) w1.heap.size (.own (.id (.new q 0)) 0)=g2 at i2 e2;generalize hβ2:Jt β (.new q 0) (some ⟨w1.heap.size,0⟩)=β2 at i2 e2;generalize aGp:w1.alloc (.loop r0)=w2 at i2 e2 cM;have bc3:VS ((s.born q [.obj 0 false (.qX ⟨y,ps,as,b⟩ (lX (eD aU 0 s.cg)) 0)]).env w2 g2 β2) (.yl (.new q 0) 0) (.func (.yield w1.heap.size) #[] #[]):=by refine⟨[.func (.yield w1.heap.size) #[] #[]],?_,rfl⟩;simp only[V];exact⟨_,rfl,pS aJX _ _ _ _,λ_=>⟨⟨w1.heap.size,0⟩,by rw[<-hβ2];exact jO _ _ _,rfl⟩⟩
 have i3:=i2.put (some q) bc3;have hF2:(s.born q [.obj 0 false (.qX ⟨y,ps,as,b⟩ (lX (eD aU 0 s.cg)) 0)]).ev f= .fn h0 caps:=by rw[<-hF];cases f <;> rfl
 obtain⟨vs2,aXR,bbD⟩:=ZE (hF2▸i2.ev f);have U9:vs2=vs:=by
  have e:Value.func (.func h0) #[] vs2.toArray= .func (.func h0) #[] vs.toArray:=by rw[<-aXR,<-hy];cases f <;> rfl
  injection e with _ _ e
  simpa using bl Array.toList e
 subst U9;have K6:xQ (((s.born q [.obj 0 false (.qX ⟨y,ps,as,b⟩ (lX (eD aU 0 s.cg)) 0)]).put (some q) (.yl (.new q 0) 0)).env w2 g2 β2) (.yl (.new q 0) 0::caps.list) (.func (.yield w1.heap.size) #[] #[]::vs2):=by rw[ajI];exact⟨bc3,aiC bbD⟩
 have bcH:∀args:Array Value,(callFunc h0 args).run P w2= .ok (.enter h0 args) w2:=λargs=>by
  unfold aq9 at aCw;split at aCw
  ·rename_i fn' aVF;simp only[aq,cr,gf]at aCw;obtain⟨c,hc⟩:=bP.1 aCw.2;unfold callFunc;simp[aVF,aCw.1,hc]
  ·cases aCw
 have post:∀ {s3:AS} {w3:World} {v:Value},ia C s3 ((({a with defers:=vf w.heap.size::a.defers}:Act).put (some q) (.func (.yield w1.heap.size) #[] #[])).put none v) w3->∀ {c:uZ} {fr:aA} {p:Nat},s3.bQ (.new q 0)=some (.obj 0 false (.qX c fr p))->s3.slot q= .yl (.new q 0) 0->p≠1->
   ∃jump w4,(Instr.endLoop w1.heap.size).run P w3= .ok jump w4/\aq6 p (if p=0 then .ready else .done) jump/\ia C ((s3.bg (.new q 0) .dead).put (some q) .undef) {a with defers:=vf w.heap.size::a.defers} w4:=by
  intro s3 w3 v aVU c fr p ZQ aJR aXL;obtain⟨g3,β3,i5⟩:=aVU;obtain⟨pl,r3,hp,hb,hg,_,_,ml⟩:=i5.bI (.new q 0) 0 false _ ZQ;have hp:β3 (.new q 0)=some pl:=hp;have hb:w3.heap[pl.b]? =some (.loop r3):=hb
  have hg:g3 pl.b= .own (.id (.new q 0)) 0:=hg;have aT1:=i5.cg q;rw[aJR]at aT1;obtain⟨cs,hV,hO⟩:=aT1;simp only[V]at hV;obtain⟨l,rfl,_,fk⟩:=hV;obtain⟨pl',hp',rfl⟩:=fk ⟨false,_,ZQ⟩;have hp':β3 (.new q 0)=some pl':=hp';rw[hp]at hp';obtain rfl:pl=pl':=by simpa using hp'
  have hO: [Value.func (.yield pl.b) #[] #[]]=[((({a with defers:=vf w.heap.size::a.defers}:Act).put (some q) (.func (.yield w1.heap.size) #[] #[])).put none v).tmps.getD q undef]:=hO;have SU:q < ({a with defers:=vf w.heap.size::a.defers}:Act).tmps.size:=by show q < a.tmps.size;rw[h.size];exact hq
  have hO2:((({a with defers:=vf w.heap.size::a.defers}:Act).put (some q) (.func (.yield w1.heap.size) #[] #[])).put none v).tmps.getD q undef= .func (.yield w1.heap.size) #[] #[]:=by show((({a with defers:=vf w.heap.size::a.defers}:Act).put (some q) (.func (.yield w1.heap.size) #[] #[]))).tmps.getD q undef=_;rw[ase,if_pos ⟨rfl,SU⟩]
  rw[hO2]at hO;have hl:pl.b=w1.heap.size:=by simpa using hO
  have aYD:r3.state≠ .busy:=by
   match p,ml,aXL with
   | 0,ml,_=>rw[ml.1];simp
   | 1,_,h=>exact absurd rfl h
   | 2,ml,_=>rw[ml.1];simp
   |_+3,ml,_=>rw[ml.1];simp
  have gv:pl.b < w3.heap.size:=(bK.1 hb).1;refine⟨r3.pending,_,by rw[<-hl];exact run_endLoop hb aYD,?_,?_⟩
  ·match p,ml,aXL with
   | 0,ml,_=>exact⟨rfl,ml.2⟩
   | 1,_,h=>exact absurd rfl h
   | 2,ml,_=>exact⟨rfl,ml.2⟩
   |_+3,ml,_=>exact⟨rfl,ml.2⟩
  ·have i6:=i5.kill ZQ hg (w':=w3.putObj pl.b (.loop {r3 with state:= .exhausted})) rfl rfl ⟨rfl,aw _⟩ (by simp) (λb' hb'=>World.putObj_heap_other hb');have i7:=i6.put (some q) (v:= .undef) (x:=({a with defers:=vf w.heap.size::a.defers}:Act).tmps.getD q undef) VS.undef;have e:=aR9 {a with defers:=vf w.heap.size::a.defers} q (.func (.yield w1.heap.size) #[] #[]);refine⟨ni g3 pl.b .free,β3,?_⟩;simp only[Act.put]at e i7;rw[e]at i7;exact i7
 generalize hK:(λs3:AS=>(match s3.bQ (.new q 0),s3.slot q with
   |some (.obj 0 false (.qX _ _ p)),.yl (.new q' 0) 0=>match iv q' q,p with
    |true,0=>k .normal ((s3.bg (.new q 0) .dead).put (some q) .undef)
    |true,2=>k .ret ((s3.bg (.new q 0) .dead).put (some q) .undef)
    |true,i+3=>k (.exit i) ((s3.bg (.new q 0) .dead).put (some q) .undef)
    |_,_=>none
   |_,_=>none))=K at he
 have hc:Calls P h0 (.func (.yield w1.heap.size) #[] #[]::vs2).toArray w2 λe w'=>∃v,e= .returned v/\∃s3,ia C s3 ((({a with defers:=vf w.heap.size::a.defers}:Act).put (some q) (.func (.yield w1.heap.size) #[] #[])).put none v) w'/\K s3=some r:=by
  unfold AS.aTF at he;split at he
  ·exact(UE (o:= {(default:Oper) with dst:=none}) i3 hdR K6 he).2
  ·obtain⟨s3,aTP,he⟩:=hZ.1 he;unfold AS.call at aTP;obtain⟨r2,h1,h2⟩:=av.1 aTP;obtain⟨g',i4,e4,_,f1⟩:=fo r2.2 i3;obtain⟨x,hx,k1,k2,key⟩:=SN (o:= {(default:Oper) with dst:=none}) i4 (BV _ _) (Dr rfl i3.bI e4 _ _ _ r2 K6 h1 f1) h2;rcases hd _ _ _ _ _ _ _ k1 k2 hx with⟨_,hc⟩ | ⟨v,w',bac,_⟩
   ·exact hc.mono λe w' ⟨v,aoS,ha⟩=>⟨v,aoS,s3,key v w' ha,he⟩
   ·rw[bcH]at bac;cases bac
 refine⟨w1.heap.size,[vf w.heap.size],w2,⟨.fn (.func h0) vs2.toArray,#[.func (.yield w1.heap.size) #[] #[]]⟩,w2,h0,(.func (.yield w1.heap.size) #[] #[]::vs2).toArray,w2,?_,?_,λ_ _=>trivial,?_,λh=>(by cases h),?_⟩
 ·rw[tc];exact cM
 ·have e:resolve a.eval (rangeCall f w1.heap.size) 0=Deferred.ofValue (a.eval f) #[.func (.yield w1.heap.size) #[] #[]]:=by simp[resolve,rangeCall,Act.eval]
  rw[e,hy];simp[Deferred.ofValue]
 ·have e:(#[.func (.yield w1.heap.size) #[] #[]]++vs2.toArray:Array Value)=(.func (.yield w1.heap.size) #[] #[]::vs2).toArray:=by simp
  rw[<-bcH,<-e];rfl
 ·have h1:CallsIn (Fr none) (n - 1) P h0 (.func (.yield w1.heap.size) #[] #[]::vs2).toArray w2 _:=callsIn_wide.2 hc;refine h1.mono λe w3 ⟨v,aoS,s3,aVU,he⟩=> ?_
  subst aoS;subst hK;show ∃jump w4,_/\_;simp only at he;split at he;rotate_left
  ·cases he
  rename_i c3 fr3 p3 q' ZQ aJR;split at he
  ·rename_i hq';obtain rfl:q'=q:=eO hq';obtain⟨jump,w4,aJH,ml,aY6⟩:=post aVU ZQ aJR (by decide);obtain⟨_,rfl⟩:=ml;exact⟨none,w4,aJH,hk _ _ _ _ aY6 he⟩
  ·rename_i hq';obtain rfl:q'=q:=eO hq';obtain⟨jump,w4,aJH,ml,aY6⟩:=post aVU ZQ aJR (by decide);obtain⟨_,rfl⟩:=ml;exact⟨_,w4,aJH,wpIn_ret (hk _ _ _ _ aY6 he)⟩
  ·rename_i i hq';obtain rfl:q'=q:=eO hq';obtain⟨jump,w4,aJH,ml,aY6⟩:=post aVU ZQ aJR (by simp);obtain⟨_,rfl⟩:=ml;exact⟨_,w4,aJH,wpIn_exit (hk _ _ _ _ aY6 he)⟩
  ·cases he
theorem nw{rd:Option Nat}{n:Nat}(hm:P.follows .mixedOrders=true)(hΓ:Sound P Γ)(hC:C.ok){N:Nat}(aCD:rd=none\/an.lk.isSome=true):∀(c:Code),jP P Γ an N (jq c)->∀ {R:Type} {r:R} (s:AS) (a:Act) (w:World) (k:Exit->AS->Option R) (Q:Exit->Act->World->Prop),
  ia C s a w->ev P Γ an N c s k=some r->(∀e s' a' w',ia C s' a' w'->k e s'=some r->Q e a' w')->c.wpIn (Fr rd) n P Q a w
 | .skip,hL,_,_,s,a,w,k,Q,hs,h,hk=>wpIn_skip (hk _ _ _ _ hs h)
 | .region id ops draw,hL,_,_,s,a,w,k,Q,hs,h,hk=>by
  simp only[ev]at h;refine PT hC (λk Q h hk=> ?_) h hk;cases draw with
  |true=>
   simp only at h;split at h
   ·rename_i hE;exact aq7 hm hΓ hs hE h λs' a' w' hs' hk'=>hk _ _ _ _ hs' hk'
   ·cases h
  |false=>exact wpIn_region_list (U2 hΓ ops.toList hs h λs' a' w' hs' hk'=>hk _ _ _ _ hs' hk')
 | .seq x y,hL,_,_,s,a,w,k,Q,hs,h,hk=>by
  simp only[ev]at h;refine wpIn_seq (PT hC (λk Q h hk=>nw hm hΓ hC aCD x hL.append.1 s a w k Q hs h hk) h λe s' a' w' hs' hk'=> ?_);cases e with
  |normal=>exact nw hm hΓ hC aCD y hL.append.2 s' a' w' k Q hs' hk' hk
  |_=>exact hk _ s' a' w' hs' hk'
 | .cond c x y,hL,_,_,s,a,w,k,Q,hs,h,hk=>by
  simp only[ev]at h;split at h
  ·rename_i b hb;have hc:a.eval c= .bool b:=by obtain⟨g,β,hi⟩:=hs;have:=hi.ev c;rw[hb]at this;exact Xy this
   refine wpIn_cond hc ?_
   cases b with
   |true=>exact nw hm hΓ hC aCD x hL.append.1 s a w k Q hs h hk
   |false=>exact nw hm hΓ hC aCD y hL.append.2 s a w k Q hs h hk
  ·cases h
 | .block id b,hL,_,_,s,a,w,k,Q,hs,h,hk=>by
  simp only[ev]at h;refine wpIn_block (nw hm hΓ hC aCD b hL s a w _ _ hs h λe s' a' w' hs' hk'=> ?_);cases e with
  |exit i=>
   simp only at hk';simp only[Exit.inBlock];by_cases hi:i=id
   ·rw[if_pos hi];simp only[hi,cn]at hk';exact hk _ s' a' w' hs' hk'
   ·rw[if_neg hi];simp only[hi,decide_false]at hk';exact hk _ s' a' w' hs' hk'
  |_=>exact hk _ s' a' w' hs' hk'
 | .loop b,hL,R,r,s,a,w,k,Q,hs,h,hk=>by
  simp only[ev]at h;obtain⟨s1,h1,h⟩:=hZ.1 h;have R6:=oX hC hs h1;obtain⟨hL1,hL2⟩:=(hL:axX P Γ an N b/\jP P Γ an N (jq b));split at h
  ·rename_i le hle;unfold aOb at h;cases aj5:le.set with
   |some S=>
    rw[aj5]at h;simp only at h;obtain⟨h2,h3⟩:=agA h;obtain⟨n,hn⟩:=(hL1 le hle).2 S aj5 s1 h2;refine wpIn_loop_rounds n (EZ (λs s1 a w hs hn=>oX hC hs hn) (λe s s1 a w hs hn=>oX hC hs hn) (λs a w k Q hs hb hk=>nw hm hΓ hC aCD b hL2 s a w k Q hs hb hk) (λe s' a' w' hs' he=> ?_) n s1 a w R6 hn);obtain⟨x,aV2,bae⟩:=ap1 he;obtain⟨y,hy,h4⟩:=hZ.1 (h3 x aV2);rw[bae,ay]at hy;subst hy;exact hk _ _ _ _ hs' h4
   |none=>
   rw[aj5]at h;simp only at h;cases hr:le.run s1 with
   |none=>rw[hr]at h;cases h
   |some x=>
    rw[hr]at h;simp only[ak]at h;obtain⟨y,hy,h⟩:=hZ.1 h;obtain⟨n,hn⟩:=(hL1 le hle).1 aj5 s1 x hr;rw[hy]at hn;refine wpIn_loop_rounds n (EZ (λs s1 a w hs hn=>oX hC hs hn) (λe s s1 a w hs hn=>oX hC hs hn) (λs a w k Q hs hb hk=>nw hm hΓ hC aCD b hL2 s a w k Q hs hb hk) (λe s' a' w' hs' he=> ?_) n s1 a w R6 hn);simp only[ay]at he;subst he;exact hk e s' a' w' hs' h
  ·exact wpIn_loop_rounds N (EZ (λs s1 a w hs hn=>oX hC hs hn) (λe s s1 a w hs hn=>oX hC hs hn) (λs a w k Q hs hb hk=>nw hm hΓ hC aCD b hL2 s a w k Q hs hb hk) hk N s1 a w R6 h)
 | .exit id,hL,_,_,s,a,w,k,Q,hs,h,hk=>wpIn_exit (hk _ _ _ _ hs h)
 | .ret,hL,_,_,s,a,w,k,Q,hs,h,hk=>wpIn_ret (hk _ _ _ _ hs h)
 | .rangeFunc f ps as b,_,_,_,s,a,w,k,Q,hs,h,hk=>by
  simp only[ev]at h;obtain⟨s1,h1,h⟩:=hZ.1 h;have hs:=lB hC _ hs h1;rcases aCD with rfl | aCD
  ·exact Xp hΓ hs h hk
  ·unfold Fi at h;split at h
   ·rename_i h0 _ _;rw[h0]at aCD;cases aCD
   ·cases h
 | .scope b,hL,_,_,s,a,w,k,Q,hs,h,hk=>by
  simp only[ev]at h;refine Kt (nw hm hΓ hC aCD b hL s a w _ _ hs h λe s' a' w' hs' hk'=> ?_);cases e with
  |goto l=>cases hk'
  |_=>exact hk _ s' a' w' hs' hk'
 | .label _,hL,_,_,s,a,w,k,Q,hs,h,hk=>wpIn_label (hk _ _ _ _ hs h)
 | .goto _,_,_,_,_,_,_,_,_,_,h,_=>by simp[ev]at h
 | .refuse _,_,_,_,_,_,_,_,_,_,h,_=>by simp[ev]at h
variable {g:Nat->lS} {β:Id->Option Pl} {s:AS} {a:Act} {w:World}
def ab9(tmps:Array Value)(r:ResultVar):Sem Value:=
 match r with
 | .tmp t=>pure (tmps.getD t undef)
 | .cell a t=>do loadVar t (<-asAddr (tmps.getD a undef))
theorem QL(h:Inv C g β s a w){r:ResultVar}{v:aA}(he:(acb P s r).eval=some v):∃x,(ab9 a.tmps r).run P w= .ok x w/\VS (s.env w g β) v x:=by
 cases r with
 |tmp t=>
  simp only[acb]at he;obtain rfl:=ax.1 he;exact⟨_,by simp[ab9],h.cg t⟩
 |cell t T=>
  simp only[acb]at he;obtain⟨ad,z,hy,hr,hv⟩:=aaj h (h.cg t) he;exact⟨z,by simp[ab9,hy,asAddr,hr],hv⟩
theorem QK(h:Inv C g β s a w){r:ResultVar}{o:Option Ty}{y:AS×aA}(he:(aca P s r o).eval=some y):
  ∃x g',(ab9 a.tmps r).run P w= .ok x w/\Inv C g' β y.1 a w/\cJ (s.env w g β) (y.1.env w g' β)/\VS (y.1.env w g' β) y.2 x:=by
 cases o with
 |none=>
  simp only[aca]at he;obtain⟨v,h1,h2⟩:=av.1 he;obtain rfl:=ax.1 h2;obtain⟨x,hx,hv⟩:=QL h h1;exact⟨x,g,hx,h,cJ.refl _,hv⟩
 |some t=>
  simp only[aca]at he;obtain⟨v,h1,h2⟩:=av.1 he;obtain⟨d,h3,h4⟩:=av.1 h2;obtain rfl:=ax.1 h4;obtain⟨x,hx,hv⟩:=QL h h1;obtain⟨g',i1,e1,_,cs,hR,hO⟩:=A7 h hv h3;exact⟨x,g',hx,i1,e1,VS.of (a:= .d t d) (cs:=cs) (by simpa only[V]using hR) hO⟩
theorem LI:∀(l:List ResultVar) (ts:List (Option Ty)) {s:AS} {g:Nat->lS} (_:Inv C g β s a w) {y:AS×aA},(QM P s l ts).eval=some y->
  ∃(xs:List Value) (g':Nat->lS),(l.mapM (ab9 a.tmps)).run P w= .ok xs w/\Inv C g' β y.1 a w/\cJ (s.env w g β) (y.1.env w g' β)/\VC (y.1.env w g' β) y.2 xs/\xs.length=l.length
 |[],ts,s,g,h,y,he=>by simp only[QM]at he;obtain rfl:=ax.1 he;exact⟨[],g,by simp,h,cJ.refl _,by simp[VC],rfl⟩
 |r::l,ts,s,g,h,y,he=>by simp only[QM]at he;obtain⟨u,h1,h2⟩:=av.1 he;obtain⟨hc,h2⟩:=aB.1 h2;obtain⟨us,h3,h4⟩:=av.1 h2;obtain rfl:=ax.1 h4;obtain⟨x,g1,hx,i1,e1,hv⟩:=QK h h1;obtain⟨xs,g2,asW,i2,e2,U9,hl⟩:=LI l ts.tail i1 h3;obtain⟨cs,hV,hO⟩:=(hv.mono e2).eL hc;refine⟨x::xs,g2,?_,i2,e1.trans e2,by simp only[VC];exact⟨x,xs,cs,rfl,hV,hO,U9⟩,by simp[hl]⟩;simp only[List.mapM_cons,Sem.run_bind,hx,Result.andThen_ok,asW,Sem.run_pure]
theorem aGE{E:Env}{v:aA}{xs:List Value}(h:VC E v xs):VS E v (.tuple xs.toArray):=by
 cases v <;> first
  | (simp only[VC]at h;done)
  |exact⟨xs,rfl,h⟩
  | (simp only[VC]at h;subst h;rfl)
theorem afa(h:Inv C g β s a w){fn:Func}{ts:List (Option Ty)}{y:AS×aA}(he:(alf P fn ts s).eval=some y):
  ∃x g',(results fn a.tmps).run P w= .ok x w/\Inv C g' β y.1 a w/\VS (y.1.env w g' β) y.2 x:=by
 have key:∀xs:List Value,(fn.results.toList.mapM (ab9 a.tmps)).run P w= .ok xs w->(results fn a.tmps).run P w= .ok (if h:xs.length=1 then xs[0] else .tuple xs.toArray) w:=λxs asW=>by
  have e:results fn a.tmps=(do
   let vs <-fn.results.mapM (ab9 a.tmps)
   pure (if h:vs.size=1 then vs[0] else .tuple vs)):=rfl
  rw[e,Array.mapM_eq_mapM_toList];simp only[map_eq_pure_bind,Sem.run_bind,asW,Result.andThen_ok,Sem.run_pure];congr 1
 unfold alf at he;split at he
 ·rename_i r hr;obtain⟨x,g',hx,hi,_,hv⟩:=QK h he;refine⟨x,g',?_,hi,hv⟩;rw[key [x] (by simp[hr,hx])];simp
 ·rename_i rs gg;obtain⟨xs,g',hx,hi,_,hv,hl⟩:=LI _ _ h he;refine⟨.tuple xs.toArray,g',?_,hi,aGE hv⟩;rw[key xs hx,BH];rw[hl];intro h1;obtain⟨r,hr⟩:=List.length_eq_one_iff.1 h1;exact gg r hr
end
end Go.Ab
namespace Go.Ab
def vc(ids:List Id):lS->lS
 | .own (.id (.new i j)) k=> .own (.id (match idxOf (.new i j) ids with | some m=> .new 0 m | none=> .new 1 0)) k
 |l=>l
def aLG(β:Id->Option Pl)(ids:List Id):Id->Option Pl
 | .bh k=>β (.bh k)
 | .new 0 m=>(ids[m]?).bind β
 | .new (_+1) _=>none
theorem aCX{ids:List Id}{g:Nat->lS}{b off:Nat}(h:uR g b off):uR (λb=>vc ids (g b)) b off:=by
 unfold uR at*;simp only;cases hg:g b with
 |free=>simp[vc]
 |own o k=>
  rw[hg]at h;cases o with
  |dZ=>exact h
  |id i=>cases i <;> exact h
theorem ajQ(s:AS)(v:aA):(s.SO v).Nodup:=(sS s _ _ _ (by simp)).filter _
theorem auB{s:AS}{v:aA}{id:Id}(h:id∈s.SO v):∃i j,id= .new i j:=by
 unfold AS.SO at h;have:=(nq.1 h).2;cases id with
 |bh k=>simp[Id.aT6]at this
 |new i j=>exact⟨i,j,rfl⟩
section
variable {P:Program} {Γ:om} {C:Ctx} {g:Nat->lS} {β:Id->Option Pl} {s:AS} {a:Act} {w:World}
theorem agI(h:Inv C g β s a w)(hC:C.ok){v:aA}{x:Value}(hv:VS (s.env w g β) v x):tg C.E (s.fin v) x w:=by
 unfold AS.fin;have hn:=ajQ s v;have GR:∀id∈s.SO v,∃i j,id= .new i j:=λid cR=>auB cR
 generalize s.SO v=ids at hn GR;generalize hG:s.aTJ ids v=G;have Av:G.val=v.iC (M5 ids):=by rw[<-hG];rfl
 have hold:∀k,G.st.bQ (.bh k)=(s.bQ (.bh k)).map (dB.fin ids):=λk=>by
  rw[<-hG];show(s.bU.map (dB.fin ids))[k]? =_
  rw[dY];rfl
 have bcV:∀m,G.st.bQ (.new 0 m)=(ids[m]?).map λid=>((s.bQ id).getD .dead).fin ids:=λm=>by
  rw[<-hG];show(ids.map λid=>((s.bQ id).getD .dead).fin ids)[m]? =_
  rw[dY]
 have bd0:∀i m,G.st.bQ (.new (i+1) m)=none:=λi m=>by simp[fx.st,AS.bQ]
 let g':Nat->lS:=λb=>vc ids (g b)
 let β':=aLG β ids
 have aCB:∀e ver fr c,dB.fin ids e= .obj ver fr c->∃c0,e= .obj ver fr c0/\c=c0.iC (M5 ids):=λe ver fr c he=>by
  cases e with
  |dead=>cases he
  |obj v0 fr0 c0=>
   simp only[dB.fin,dB.obj.injEq]at he;obtain⟨rfl,rfl,rfl⟩:=he;exact⟨c0,rfl,rfl⟩
 have hle:zU (M5 ids) (s.env w g β) (G.st.env w g' β'):=by
  refine⟨⟨λb off v ⟨h1,h2⟩=>⟨h1,aCX h2⟩,λb ob h1 h2=>⟨by show vc ids (g b)= .free;have h1:g b= .free:=h1;rw[h1];rfl,h2⟩⟩,λid ver r hr hb=> ?_⟩;obtain⟨R5,XG⟩:=hb;have R5:s.bQ id≠none:=R5;have XG:∀v fr c,s.bQ id=some (.obj v fr c)->ver<=v:=XG;cases id with
  |bh k=>
   simp only[M5,ay]at hr;subst hr;refine⟨⟨?_,λv fr c hh=> ?_⟩,λ⟨fr,c,hh⟩=>⟨?_,rfl⟩⟩
   ·show G.st.bQ (.bh k)≠none;rw[hold];simpa using R5
   ·have hh:G.st.bQ (.bh k)=some (.obj v fr c):=hh;rw[hold,cU]at hh;obtain⟨e,he,hh⟩:=hh;obtain⟨c0,rfl,_⟩:=aCB _ _ _ _ hh;exact XG v fr c0 he
   ·have hh:G.st.bQ (.bh k)=some (.obj ver fr c):=hh;rw[hold,cU]at hh;obtain⟨e,he,hh⟩:=hh;obtain⟨c0,rfl,_⟩:=aCB _ _ _ _ hh;exact⟨fr,c0,he⟩
  |new i j=>
   simp only[M5]at hr;split at hr
   ·rename_i m hm;simp only[ay]at hr;subst hr;have cR:=oO hm;obtain⟨e,he⟩:=Option.ne_none_iff_exists'.1 R5;have hg:G.st.bQ (.new 0 m)=some (e.fin ids):=by rw[bcV,cR];simp[he]
    refine⟨⟨?_,λv fr c hh=> ?_⟩,λ⟨fr,c,hh⟩=>⟨?_,?_⟩⟩
    ·show G.st.bQ (.new 0 m)≠none;rw[hg];simp
    ·have hh:G.st.bQ (.new 0 m)=some (.obj v fr c):=hh;rw[hg,ay]at hh;obtain⟨c0,rfl,_⟩:=aCB _ _ _ _ hh;exact XG v fr c0 he
    ·have hh:G.st.bQ (.new 0 m)=some (.obj ver fr c):=hh;rw[hg,ay]at hh;obtain⟨c0,rfl,_⟩:=aCB _ _ _ _ hh;exact⟨fr,c0,he⟩
    ·show(ids[m]?).bind β=β (.new i j);rw[cR];rfl
   ·cases hr
 have auU:Trans C.E.w w C.E.g g':=by
  have h0:=h.trans;refine⟨h0.os,h0.tape,h0.output,h0.size,λb hb=> ?_⟩;have h1:=h0.Sq b hb;show match C.E.g b with | .free=>vc ids (g b)= .free/\_ | .own .dZ k=>vc ids (g b)= .own .dZ k/\_ | .own (.id _) k=>(vc ids (g b)= .free\/∃i k',vc ids (g b)= .own (.id i) k'/\k<=k')/\_
  cases WX:C.E.g b with
  |free=>simp only[WX]at h1 ⊢;rw[h1.1];exact⟨rfl,h1.2⟩
  |own o k=>cases o with
   |dZ=>simp only[WX]at h1 ⊢;rw[h1.1];exact⟨rfl,h1.2⟩
   |id i=>
    simp only[WX]at h1 ⊢;refine⟨?_,h1.2⟩;rcases h1.1 with h2 | ⟨i',k',h2,h3⟩
    ·rw[h2];exact .inl rfl
    ·rw[h2];right;cases i' with
     |bh m=>exact⟨_,k',rfl,h3⟩
     |new i j=>exact⟨_,k',rfl,h3⟩
 have aQS:iG (G.st.env w g' β'):=by
  intro id ver fr c cR;have cR:G.st.bQ id=some (.obj ver fr c):=cR;cases id with
  |bh k=>
   rw[hold,cU]at cR;obtain⟨e,he,cR⟩:=cR;obtain⟨c0,rfl,rfl⟩:=aCB _ _ _ _ cR;refine wR hle (h.bI (.bh k) ver fr c0 he) rfl λpl _=>⟨rfl,λn hg=> ?_,λhg=> ?_⟩
   ·have hg:g pl.b= .own (.id (.bh k)) n:=hg;show vc ids (g pl.b)=_;rw[hg];rfl
   ·have hg:g pl.b= .free:=hg;show vc ids (g pl.b)=_;rw[hg];rfl
  |new i m=>
   cases i with
   |succ i=>rw[bd0]at cR;cases cR
   |zero=>
    rw[bcV,cU]at cR;obtain⟨id0,aVL,cR⟩:=cR;obtain⟨c0,he,rfl⟩:=aCB _ _ _ _ cR;have cM:s.bQ id0=some (.obj ver fr c0):=by
     cases hs:s.bQ id0 with
     |none=>rw[hs]at he;cases he
     |some e=>rw[hs]at he;simp only[dK]at he;rw[he]
    obtain⟨i0,j0,rfl⟩:=GR id0 (cG aVL);refine wR hle (h.bI (.new i0 j0) ver fr c0 cM) (by show(ids[m]?).bind β=_;rw[aVL];rfl) λpl _=>⟨rfl,λn hg=> ?_,λhg=> ?_⟩
    ·have hg:g pl.b= .own (.id (.new i0 j0)) n:=hg;show vc ids (g pl.b)=_;rw[hg];simp only[vc,wZ hn aVL]
    ·have hg:g pl.b= .free:=hg;show vc ids (g pl.b)=_;rw[hg];rfl
 have ho:∀id ver,C.E.F4 id ver->∃k,id= .bh k:=λid ver hb=>by
  cases id with
  |bh k=>exact⟨k,rfl⟩
  |new i j=>exact absurd (hC.1 i j) hb.1
 refine⟨g',β',by rw[Av];exact G4 hle hv,aQS,auU,Trans.mem (E:=C.E) (E':=G.st.env w g' β') auU,λid ver hb=> ?_,λid ver hb hc=> ?_⟩
 ·obtain⟨k,rfl⟩:=ho id ver hb;exact(hle.ref (.bh k) ver (.bh k,ver) rfl (h.le.F4 _ _ hb)).1
 ·obtain⟨k,rfl⟩:=ho id ver hb;obtain⟨h1,h2⟩:=(hle.ref (.bh k) ver (.bh k,ver) rfl (h.le.F4 _ _ hb)).2 hc;obtain⟨h3,h4⟩:=h.le.cur _ _ hb h1;exact⟨h3,h2.trans h4⟩
theorem xQ.len{E:Env}:∀ {as:List aA} {vs:List Value},xQ E as vs->as.length=vs.length
 |[],[],_=>rfl
 |_::_,_::_,⟨_,h⟩=>by simp[xQ.len h]
 |[],_::_,h=>h.elim
 |_::_,[],h=>h.elim
theorem xQ.get{E:Env}:∀ {as:List aA} {vs:List Value},xQ E as vs->∀i,VS E (as.getD i .undef) (vs.getD i undef)
 |[],[],_,i=>by simpa using VS.undef
 |_::_,_::_,⟨h,_⟩,0=>by simpa using h
 |_::_,_::_,⟨_,h⟩,i+1=>by simpa using xQ.get h i
 |[],_::_,h,_=>h.elim
 |_::_,[],h,_=>h.elim
theorem aFl{w:World}{g:Nat->lS}{β:Id->Option Pl}{fn:Func}{args:List aA}{bU:List dB}{iM:List Value}(hv:xQ ((fA bU).env w g β) args iM)(ho:iG ((fA bU).env w g β)):
  Inv ⟨(fA bU).env w g β⟩ g β (start fn args bU) {tmps:=iM.toArray++Array.replicate (fn.ntmps - iM.toArray.size) undef,defers:=[]} w:=by
 have hl:=hv.len;have cM:(start fn args bU).bQ=(fA bU).bQ:=by
  funext id;cases id with
  |bh k=>rfl
  |new i j=>
   simp only[start,fA,AS.bQ,aD,List.getElem?_replicate];split <;> simp
 have auL:(start fn args bU).env w g β=(fA bU).env w g β:=by simp only[AS.env,cM]
 refine⟨⟨gm,λ_ h=>by cases h⟩,by simp[start,hl],λi=> ?_,by rw[auL];exact ho,Trans.refl _ _,by rw[auL];exact cJ.refl _⟩;rw[auL];have h1:(start fn args bU).slot i=args.getD i .undef:=by
  simp only[start,AS.slot,aD,List.getElem?_append,List.getElem?_replicate];split
  ·rfl
  ·rw[dD (l:=args) (by omega)];split <;> rfl
 have h2:(iM.toArray++Array.replicate (fn.ntmps - iM.toArray.size) undef).getD i undef=iM.getD i undef:=by
  simp only[cF,aD,ke,Array.getElem?_replicate];simp only[gX,List.getElem?_toArray];split
  ·rfl
  ·rw[dD (l:=iM) (by omega)];split <;> rfl
 rw[h1,h2];exact hv.get i
theorem Inv.aXg{C:Ctx}{g:Nat->lS}{β:Id->Option Pl}{s:AS}{a:Act}{w:World}(h:Inv C g β s a w){D:Nat}{ds:List Deferred}(hd:a.defers=vf D::ds):
  (Instr.takeDeferred D).run P w= .ok [] (w.putObj D (.deferred none))/\Inv C g β s {a with defers:=ds} (w.putObj D (.deferred none)):=by
 obtain⟨hn,CC⟩:=h.defers;rw[hd]at hn CC;obtain⟨D',e,hD,hh,hg⟩:=CC _ (aN ..);have e:Deferred.mk (.collected D) #[]=Deferred.mk (.collected D') #[]:=e;injection e with e _
 injection e with e
 subst e;have gv:=(bK.1 hh).1;refine⟨run_takeDeferred hh,?_⟩;have other:∀b,b≠D->(w.putObj D (.deferred none)).heap[b]? =w.heap[b]? :=λb hb=>World.putObj_heap_other hb
 have Dw:∀b off v,w.cell? ⟨b,off,none⟩=some v->b≠D:=λb off v hv e=>by subst e;simp[World.cell?,hh]at hv
 have EV:tn (s.env w g β) (s.env (w.putObj D (.deferred none)) g β):=by
  refine⟨λb off v ⟨h1,h2⟩=>⟨?_,h2⟩,λb ob h1 h2=>⟨h1,?_⟩⟩
  ·have h1:w.cell? ⟨b,off,none⟩=some v:=h1;show(w.putObj D (.deferred none)).cell? ⟨b,off,none⟩=some v;rw[World.cell?_of_block (other b (Dw b off v h1))];exact h1
  ·have h1:g b= .free:=h1;have h2:w.heap[b]? =some ob:=h2
   show(w.putObj D (.deferred none)).heap[b]? =some ob
   rw[other b λe=>by rw[e,hg]at h1;cases h1];exact h2
 have hle:cJ (s.env w g β) (s.env (w.putObj D (.deferred none)) g β):=⟨EV,λ_ _ h=>h,λ_ _ _ h=>⟨h,rfl⟩⟩;have gg:∀ {id:Id} {v:Nat} {fr:Bool} {c:aA} {pl:Pl},s.bQ id=some (.obj v fr c)->β id=some pl->pl.b≠D:=λhs hp e=>by
  have:=((h.bI _ _ _ _ hs).label hp).2;have this:(∃k,g _= .own (.id _) k)\/(_/\g _= .free):=this;rw[e,hg]at this;rcases this with⟨k,hk⟩ | ⟨_,hk⟩
  ·cases hk
  ·cases hk
 refine⟨⟨(cY.1 hn).2,λd hd'=> ?_⟩,h.size,λi=>(h.cg i).mono hle,λid ver fr c hs=> ?_,?_,h.le.trans hle⟩
 ·obtain⟨D2,e1,e2,e3,e4⟩:=CC d (aI _ hd');refine⟨D2,e1,e2,?_,e4⟩;rw[other D2 λe=>(cY.1 hn).1 (by rw[<-e,<-e1];exact hd')];exact e3
 ·exact wQ.mono hle (h.bI id ver fr c hs) rfl (λpl hp=>⟨other _ (gg hs hp),rfl⟩) λq vq k v l hq _=>⟨⟨k,v,l,hq⟩,λpl hp=>⟨other _ (gg hq hp),rfl⟩⟩
 ·have ht:=h.trans;refine⟨ht.os,ht.tape,ht.output,?_,λb hb=> ?_⟩
  ·have:=ht.size;simpa[World.putObj]using this
  ·have h1:=ht.Sq b hb;have hbD:b≠D:=by omega
   have hc:∀off v,w.cell? ⟨b,off,none⟩=some v->(w.putObj D (.deferred none)).cell? ⟨b,off,none⟩=some v:=λoff v hv=>by rw[World.cell?_of_block (other b hbD)];exact hv
   rw[other b hbD];split at h1
   ·exact h1
   ·exact h1
   ·exact⟨h1.1,λoff v ho hv=>hc off v (h1.2 off v ho hv)⟩
theorem Vu{C:Ctx}{g:Nat->lS}{β:Id->Option Pl}{s:AS}{fn:Func}{R:Ending->World->Prop}:∀(ds:List Deferred) {a:Act} {w:World},Inv C g β s a w->a.defers=ds->
  (∀a2 w2,Inv C g β s a2 w2->a2.tmps=a.tmps->∃v,(results fn a.tmps).run P w2= .ok v w2/\R (.returned v) w2)->LeavesInM Fence.wide 0 P fn a.tmps R ds .returning w
 |[],a,w,h,hd,hk=>hk a w h rfl
 |d::ds,a,w,h,hd,hk=>by obtain⟨D,e,_⟩:=h.defers.2 d (by rw[hd];exact aN ..);subst e;obtain⟨h1,h2⟩:=h.aXg (P:=P) hd;exact⟨by simp,.inl ⟨D,_,rfl,h1,Vu (fn:=fn) (R:=R) ds (a:= {a with defers:=ds}) h2 rfl hk⟩⟩
theorem aoD{bU:List dB}{w:World}{g:Nat->lS}{β:Id->Option Pl}(h:bU.all dB.first=true){k v:Nat}{fr:Bool}{c:aA}(hk:((fA bU).env w g β).s (.bh k)=some (.obj v fr c)):v=0:=by
 have hk:bU[k]? =some (.obj v fr c):=by simpa[AS.env,fA,AS.bQ]using hk
 have:=dd.1 h _ (cG hk);exact eO this
theorem OP(hm:P.follows .mixedOrders=true)(hΓ:Sound P Γ){f:FuncId}{fn:Func}(hf:P.funcs[f]? =some fn)(hb:fn.body.isSome=true)(Au:(fn.name== "runtime.NumGoroutine")=false){an:wO}{N:Nat}(hL:∀c,fn.body=some c->jP P Γ an N (jq c))
  {args:List aA} {bU:List dB} {R:Type} {k:fx->Option R} {r:R} (hN:amR P Γ an N fn args bU k=some r) (aj4:an.lk=none)
  {iM:List Value} (hv:xQ ((fA bU).env w g β) args iM) (ho:iG ((fA bU).env w g β)):(callFunc f iM.toArray).run P w= .ok (.enter f iM.toArray) w/\
   Calls P f iM.toArray w λe w'=>∃v G,e= .returned v/\k G=some r/\tg ((fA bU).env w g β) G v w':=by
 obtain⟨c,hc⟩:=bP.1 hb;refine⟨?_,?_⟩
 ·unfold callFunc;have hname':¬fn.name= "runtime.NumGoroutine" :=by simpa using Au
  simp[hf,hname',hc]
 ·unfold amR at hN;rw[aj4,hc]at hN;simp only at hN;split at hN
  ·cases hN
  rename_i hF;have hC:(Ctx.mk ((fA bU).env w g β)).ok:=⟨λi j=>by simp[AS.env,fA,AS.bQ],λk v fr c hk=>aoD hF hk⟩;refine callsIn_wide.1 (callsIn_of_wp_marks (F:=Fence.wide) (n:=0) hf hc trivial (nw (rd:=none) (C:=⟨(fA bU).env w g β⟩) hm hΓ hC (.inl rfl) c (hL c hc) _ _ w _ _ ⟨g,β,aFl hv ho⟩ hN λe s' a' w' hs' hk'=> ?_));have fin:(finish P an fn s').run k=some r->LeavesInM Fence.wide 0 P fn a'.tmps (λe w'=>∃v G,e= .returned v/\k G=some r/\tg ((fA bU).env w g β) G v w') a'.defers .returning w':=λhr=>by
   obtain⟨G,h1,h2⟩:=hZ.1 hr;unfold finish at h1;obtain⟨sd,baK,h1⟩:=av.1 h1;obtain⟨s2,h3,h4⟩:=av.1 h1;obtain⟨s3,bdv,h4⟩:=av.1 h4;obtain⟨s4,bdw,h4⟩:=av.1 h4;obtain⟨y,h5,h6⟩:=av.1 h4;obtain⟨g1,β1,aOQ⟩:=hs';refine Vu a'.defers aOQ rfl λa2 w2 aVJ bbx=> ?_
   obtain⟨g0,β0,aJI⟩:=Ao _ ⟨g1,β1,aVJ⟩ baK;obtain⟨g',β',hi⟩:=Ob _ (lB hC _ ⟨g0,β0,aJI.drop _⟩ h3) bdv;have hi:=Eo hC _ hi bdw;obtain⟨z,g2,h7,h8,h9⟩:=afa hi h5;refine⟨z,by rw[<-bbx];exact h7,z,G,rfl,h2,?_⟩;rw[<-ax.1 h6];exact agI h8 hC h9
  cases e with
  |normal=>exact fin hk'
  |ret=>exact fin hk'
  |_=>cases hk'
theorem qw.vi(hm:P.follows .mixedOrders=true)(hΓ:Sound P Γ){f:FuncId}{fn:Func}(hf:P.funcs[f]? =some fn)(hb:fn.body.isSome=true)(Au:(fn.name== "runtime.NumGoroutine")=false){en:Entry}{an:wO}{N:Nat}(hL:∀c,fn.body=some c->jP P Γ an N (jq c))
  (h:∀args bU x,en.run args bU=some x->amR P Γ an N fn args bU some=some (en.out args bU x)) (aj4:an.lk=none):qw P f en:=by
 intro w g β args bU iM x hv ho hx;obtain⟨h1,h2⟩:=OP hm hΓ hf hb Au hL (h args bU x hx) aj4 hv ho;exact .inl ⟨h1,h2.mono λe w' ⟨v,G,e1,e2,e3⟩=>⟨v,e1,by rw[<-bk e2];exact e3⟩⟩
theorem Om.vi(hm:P.follows .mixedOrders=true)(hΓ:Sound P Γ){f:FuncId}{fn:Func}(hf:P.funcs[f]? =some fn)(hb:fn.body.isSome=true)(Au:(fn.name== "runtime.NumGoroutine")=false){en:Entry}{an:wO}{N:Nat}(hL:∀c,fn.body=some c->jP P Γ an N (jq c))
  (h:∀args bU,(∃x,en.set args bU x)->amR P Γ an N fn args bU (λG=>aWy (∃x,en.set args bU x/\G=en.out args bU x))=some ()) (aj4:an.lk=none):Om P f en:=by
 intro w g β args bU iM hv ho hx;obtain⟨h1,h2⟩:=OP hm hΓ hf hb Au hL (h args bU hx) aj4 hv ho;refine⟨h1,h2.mono λe w' ⟨v,G,e1,e2,e3⟩=> ?_⟩;obtain⟨x,hs,rfl⟩:=ap1 e2;exact⟨v,x,e1,hs,e3⟩
theorem LN:∀(l:List (Tmp×Value)) (t:Array Value),(l.foldl (λtmps (x:Tmp×Value)=>tmps.setIfInBounds x.1 x.2) t).size=t.size
 |[],_=>rfl
 |x::l,t=>by rw[bo,LN l];simp
theorem IT:∀(l:List (Tmp×aA)) (fs:List aA),(zl l fs).length=fs.length
 |[],_=>rfl
 |x::l,fs=>by rw[zl,IT l];simp
theorem LO{E:Env}:∀(ps:List Tmp) (vs:List aA) (us:List Value) (fs:List aA) (t:Array Value),xQ E vs us->fs.length=t.size->(∀i,VS E (fs.getD i .undef) (t.getD i undef))->
  ∀i,VS E ((zl (ps.zip vs) fs).getD i .undef) (((ps.zip us).foldl (λtmps (x:Tmp×Value)=>tmps.setIfInBounds x.1 x.2) t).getD i undef)
 |[],_,_,fs,t,_,_,h=>by simpa[zl]using h
 |_::_,[],[],fs,t,_,_,h=>by simpa[zl]using h
 |_::_,[],_::_,_,_,h,_,_=>h.elim
 |_::_,_::_,[],_,_,h,_,_=>h.elim
 |p::ps,v::vs,u::us,fs,t,⟨h1,h2⟩,hl,h=>by
  simp only[List.zip_cons_cons,zl,bo];refine LO ps vs us _ _ h2 (by simpa using hl) λi=> ?_
  simp only[aD,cF,List.getElem?_set,dP,hl];have hi:=h i;simp only[aD,cF]at hi;split
  ·split
   ·simpa using h1
   ·simpa using VS.undef
  ·exact hi
theorem xQ.split{E:Env}:∀(n:Nat) {as:List aA} {us ts:List Value},us.length=n->xQ E as (us++ts)->xQ E (as.take n) us/\xQ E (as.drop n) ts
 | 0,as,[],ts,_,h=>by simpa using⟨trivial,h⟩
 | 0,as,_::_,ts,hn,h=>by simp at hn
 |n+1,as,[],ts,hn,h=>by simp at hn
 |n+1,[],u::us,ts,_,h=>h.elim
 |n+1,a::as,u::us,ts,hn,⟨h1,h2⟩=>by have:=xQ.split n (by simpa using hn) h2;exact⟨⟨h1,this.1⟩,this.2⟩
theorem axc{w:World}{g:Nat->lS}{β:Id->Option Pl}{ps:Array Tmp}{args:List aA}{bU:List dB}{us ts:List Value}(hl:us.length=ps.size)(hv:xQ ((fA bU).env w g β) args (us++ts))(ho:iG ((fA bU).env w g β)):
  Inv ⟨(fA bU).env w g β⟩ g β (acS ps.toList args bU) {tmps:=(ps.zip us.toArray).foldl (λtmps (t,a)=>tmps.setIfInBounds t a) ts.toArray,defers:=[]} w:=by
 obtain⟨h1,h2⟩:=xQ.split ps.toList.length (by simpa using hl) hv;have cM:(acS ps.toList args bU).bQ=(fA bU).bQ:=by
  funext id;cases id with
  |bh k=>rfl
  |new i j=>
   simp only[acS,fA,AS.bQ,aD,List.getElem?_replicate];split <;> simp
 have auL:(acS ps.toList args bU).env w g β=(fA bU).env w g β:=by simp only[AS.env,cM]
 have e:(ps.zip us.toArray).foldl (λtmps (x:Tmp×Value)=>tmps.setIfInBounds x.1 x.2) ts.toArray=(ps.toList.zip us).foldl (λtmps (x:Tmp×Value)=>tmps.setIfInBounds x.1 x.2) ts.toArray:=by rw[<-Array.foldl_toList,Array.toList_zip]
 have e':(ps.zip us.toArray).foldl (λtmps (t,a)=>tmps.setIfInBounds t a) ts.toArray=(ps.toList.zip us).foldl (λtmps (x:Tmp×Value)=>tmps.setIfInBounds x.1 x.2) ts.toArray:=e;rw[e'];refine⟨⟨gm,λ_ h=>by cases h⟩,?_,λi=> ?_,by rw[auL];exact ho,Trans.refl _ _,by rw[auL];exact cJ.refl _⟩
 ·show Array.size _=(zl _ _).length;rw[LN,IT];simpa using h2.len.symm
 ·rw[auL];exact LO ps.toList _ us _ _ h1 (by simpa using h2.len) (λi=>by simpa[cF,aD]using h2.get i) i
theorem FW.vi(hm:P.follows .mixedOrders=true)(hΓ:Sound P Γ){y:Nat}{fn:Func}{en:Entry}{an:wO}{N:Nat}(hL:jP P Γ an N (jq (qE P y).as++jq (qE P y).b))
  (h:∀args bU x,en.run args bU=some x->amR P Γ an N fn args bU some=some (en.out args bU x)) (aj4:an.lk=some y):FW P y en:=by
 intro w g β args bU iM x hv ho hx l us ts f rd n aZb tc;have hN:=h args bU x hx;unfold amR at hN;rw[aj4]at hN;simp only at hN;unfold aMM at hN;split at hN;rotate_left
 ·cases hN
 rename_i args;split at hN
 ·cases hN
 rename_i hF;subst aZb;obtain⟨aVY,U8⟩:=hv;have hC:(Ctx.mk ((fA bU).env w g β)).ok:=⟨λi j=>by simp[AS.env,fA,AS.bQ],λk v fr c hk=>aoD hF hk⟩;obtain⟨cs,hV,hO⟩:=aVY;simp only[V]at hV;obtain⟨l',rfl,aoR,fk⟩:=hV;have hl:l'=l:=by simpa[fH,aA.agg]using hO
 subst hl;have at_l:∀ {s:AS} {g1:Nat->lS} {β1:Id->Option Pl} {a:Act} {w1:World} {pl:Pl},Inv ⟨(fA bU).env w g β⟩ g1 β1 s a w1->(s.env w1 g1 β1).cur (.bh 0) 0->β1 (.bh 0)=some pl->pl.b=l':=by intro s g1 β1 a w1 pl hi hc hp;obtain⟨c1,c2⟩:=hi.le.cur _ _ aoR hc;obtain⟨pl',hp',rfl⟩:=fk c1;have c2:β1 (.bh 0)=β (.bh 0):=c2;have hp':β (.bh 0)=some pl':=hp';rw[c2,hp']at hp;exact(bl Pl.b (bk hp)).symm
 refine roundIn_of_wpIn (F:=Fr rd) trivial ?_
 have aes:some l'=none\/an.lk.isSome=true:= .inr (by rw[aj4];rfl);refine nw (rd:=some l') hm hΓ hC aes _ hL.append.1 _ _ w _ _ ⟨g,β,axc tc U8 ho⟩ hN λe s1 a1 w1 R6 aj0=> ?_
 cases e with
 |normal=>
  simp only at aj0;cases h1:s1.TA 0 1 with
  |none=>rw[h1]at aj0;cases aj0
  |some s2=>
   rw[h1]at aj0;simp only[ak]at aj0;obtain⟨g1,β1,aOQ⟩:=R6;obtain⟨pl,r,hp,hc,hb,ml,aYZ⟩:=QF aOQ h1;have:=at_l aOQ hc hp;subst this;refine⟨_,run_beginRound hb ml.1,?_⟩;have aVJ:=aYZ {r with state:= .busy} rfl rfl rfl rfl rfl;refine nw (rd:=some pl.b) hm hΓ hC aes _ hL.append.2 _ _ _ _ _ ⟨_,_,aVJ⟩ aj0 λe s3 a3 w3 aVU aQN=> ?_
   cases aTS:aTI e with
   |none=>rw[aTS]at aQN;cases aQN
   |some p=>
    rw[aTS]at aQN;simp only[ak]at aQN;cases h4:s3.TA 1 p with
    |none=>rw[h4]at aQN;cases aQN
    |some s4=>
     rw[h4]at aQN;simp only at aQN;obtain⟨g3,β3,bcN⟩:=aVU;obtain⟨pl3,r3,bd2,aJF,bcE,bea,hnext3⟩:=QF bcN h4;have bdT:=at_l bcN aJF bd2;rw[bdT]at bcE hnext3
     have fin:∀(jump:Option Code) (b:Bool),iv p 0=jump.isNone->aq6 p (if jump.isNone then .ready else .done) jump->
       ∃v w',(Instr.endRound pl.b jump).run P w3= .ok v w'/\∃v',Ending.returned v= .returned v'/\tg ((fA bU).env w g β) (en.out (.yl (.bh 0) 0::args) bU x) v' w':=λjump b hb hr=>by
      have bdN:=hnext3 {r3 with state:=if jump.isNone then .ready else .done,pending:=jump} rfl rfl rfl rfl hr;refine⟨_,_,run_endRound jump bcE,_,rfl,?_⟩;obtain⟨G,k1,k2⟩:=hZ.1 aQN;simp only[ay]at k2;subst k2;unfold ayN at k1;obtain⟨sd,m1,k1⟩:=av.1 k1;obtain⟨s5,m2,k1⟩:=av.1 k1;obtain⟨s6,m3,k1⟩:=av.1 k1;obtain⟨s7,m4,k1⟩:=av.1 k1;obtain⟨g0,β0,aJI⟩:=Ao _ ⟨_,_,bdN⟩ m1;obtain⟨g',β',hi⟩:=Ob _ (lB hC _ ⟨g0,β0,aJI.drop _⟩ m2) m3;have hi:=Eo hC _ hi m4;rw[<-ax.1 k1,hb];exact agI hi hC (vM _)
     cases e with
     |normal=>
      obtain rfl:=bk aTS;exact fin none true rfl ⟨rfl,rfl⟩
     |ret=>
      obtain rfl:=bk aTS;exact fin (some .ret) false rfl ⟨rfl,rfl⟩
     |exit i=>
      obtain rfl:=bk aTS;exact fin (some (.exit i)) false rfl ⟨rfl,rfl⟩
     |goto _=>cases aTS
     |panic _=>cases aTS
     |outgrown=>cases aTS
 |_=>cases aj0
end
end Go.Ab
namespace Go.Ab
def dT(k:IntKind)(n:Int):Int:=k.wrap n
def bH(k:IntKind)(x y:Int):Int:=k.wrap (x+y)
def cI(k:IntKind)(x y:Int):Int:=k.wrap (x - y)
def fX(k:IntKind)(x y:Int):Int:=k.wrap (x*y)
def td(k:IntKind)(x y:Int):Int:=k.wrap (x.tdiv y)
def mm(x y:Int):Int:=x.tmod y
def l5(k:IntKind)(x y:Int):Int:=k.wrap (x*2^(min y.toNat k.bits))
def cq(k:IntKind)(x y:Int):Int:=x.fdiv (2^(min y.toNat k.bits))
def aRf(k:IntKind)(x:Int):Int:=cD .xor k (if k.signed then -1 else k.max) x
def qO(x y:Int):Bool:=x==y
def BQ(x y:Int):Bool:=x !=y
def fP(x y:Int):Bool:=decide (x < y)
def amw(x y:Int):Bool:=decide (x<=y)
def w5(x y:Int):Bool:=decide (x > y)
def BP(x y:Int):Bool:=decide (x>=y)
def seq(x y:ByteArray):Bool:=x.toList==y.toList
def arM(a:ByteArray)(i:Int):Int:=((a.data.toList.getD i.toNat 0).toNat:Int)
def ed(i n:Int):Bool:=decide (0<=i/\i < n)
def inc(i n:Int):Bool:=decide (0<=i/\i<=n)
def ma(y:Int):Bool:=decide (0<=y)
def ri(y:Int):Bool:= !(decide (y=0))
open Classical in
def dA.of{D X:Type}(st:D->AS)(fw:D->Prop)(F:D->X)(out:X->Out (Exit×AS)):dA:= {X,run:=λs=>if h:∃d,st d=s/\fw d then some (F h.choose) else none,out}
open Classical in
theorem dA.vi{D X:Type}{st:D->AS}{fw:D->Prop}{F:D->X}{out:X->Out (Exit×AS)}(Nd:∀d d',st d=st d'->d=d'){d:D}(h:fw d):(dA.of st fw F out).run (st d)=some (F d):=by have hex:∃d',st d'=st d/\fw d':=⟨d,rfl,h⟩;show(if h:∃d',st d'=st d/\fw d' then some (F h.choose) else none)=_;rw[yD hex,Nd _ _ hex.choose_spec.1]
open Classical in
def qJ.of{X:Type}(an:nZ)(st:X->AS):qJ:=
 {an,X,aCR:=λe s=>if h:e= .normal/\∃x,st x=s then some h.2.choose else none,out:=λx=> .ok (.normal,st x),
  ok:=λe s x h=>by
   by_cases h1:e= .normal/\∃x,st x=s
   ·rw[yD h1]at h;have h2:=h1.2.choose_spec;rw[bk h]at h2;rw[h1.1,<-h2];rfl
   ·rw[BH h1]at h;cases h}
open Classical in
theorem qJ.H2{X:Type}{an:nZ}{st:X->AS}(Nd:∀d d',st d=st d'->d=d')(x:X):(qJ.of an st).aCR .normal (st x)=some x:=by have hex:Exit.normal= .normal/\∃y,st y=st x:=⟨rfl,x,rfl⟩;show(if h:Exit.normal= .normal/\∃y,st y=st x then some h.2.choose else none)=_;rw[yD hex,Nd _ _ hex.2.choose_spec]
open Classical in
theorem axX.of{P:Program}{Γ:om}{an:wO}{N:Nat}{fn:Func}{i:Nat}{D X:Type}{st:D->AS}{fw:D->Prop}{F:D->X}{out:X->Out (Exit×AS)}
  (hle:an.fu (dI (oM fn i))=some (dA.of st fw F out)) (h:∀d,fw d->∃n,Qb P Γ an N fn i n (st d) (λe s=>some (e,s))=(out (F d)).eval):axX P Γ an N (oM fn i):=by
 intro le hle';rw[hle]at hle';simp only[ay]at hle';subst hle';refine⟨λ_ s x hx=> ?_,λS hS=>by cases hS⟩;change (if h:∃d',st d'=s/\fw d' then some (F h.choose) else none)=some x at hx;split at hx
 ·rename_i hex;obtain rfl:=bk hx;obtain⟨h1,h2⟩:=hex.choose_spec;obtain⟨n,hn⟩:=h _ h2;refine⟨n,?_⟩;show Qb P Γ an N fn i n s _=_;rw[h1]at hn;exact hn
 ·cases hx
theorem zN(P:Program)(Γ:om)(an:wO)(N:Nat)(fn:Func)(i:Nat){R:Type}(n:Nat)(s:AS)(k:Exit->AS->Option R):Qb P Γ an N fn i (n+1) s k=CG P Γ an N fn i s (λs1=>Qb P Γ an N fn i n s1 k) k:=rfl
theorem azi{P:Program}{Γ:om}{an:wO}{N:Nat}{fn:Func}{i:Nat}{D X:Type}{st:D->AS}{fw:D->Prop}{F:D->X}{out:X->Out (Exit×AS)}(μ:D->Nat)
  (h:∀d,fw d->(∃d',fw d'/\μ d' < μ d/\F d'=F d/\∀ {R:Type} (kn:AS->Option R) (kx:Exit->AS->Option R),CG P Γ an N fn i (st d) kn kx=kn (st d'))\/
   (∃r,(out (F d)).eval=some r/\∀ {R:Type} (kn:AS->Option R) (kx:Exit->AS->Option R),CG P Γ an N fn i (st d) kn kx=kx r.1 r.2)):
  ∀d,fw d->∃n,Qb P Γ an N fn i n (st d) (λe s=>some (e,s))=(out (F d)).eval:=by
 have key:∀m d,μ d=m->fw d->∃n,Qb P Γ an N fn i n (st d) (λe s=>some (e,s))=(out (F d)).eval:=by
  intro m
  induction m using Nat.strongRecOn with
  |_ m ih=>
   intro d hm hp;rcases h d hp with⟨d',hp',gv,hF,hr⟩ | ⟨r,hr,hx⟩
   ·obtain⟨n,hn⟩:=ih (μ d') (by omega) d' rfl hp';exact⟨n+1,by rw[zN,hr,hn,hF]⟩
   ·exact⟨1,by rw[zN,hx,hr]⟩
 exact λd hp=>key _ d rfl hp
open Classical in
def dA.W4{D X Y:Type}(st:D->AS)(fw:D->Prop)(add:D->Y->X)(Post:D->Y->Prop)(out:X->Out (Exit×AS)):dA:= {X,run:=λ_=>none,out,set:=some λs x=>∃d,st d=s/\fw d/\∃y,Post d y/\x=add d y}
def aZy{D X Y:Type}(st:D->AS)(fw:D->Prop)(add:D->Y->X)(Post:D->Y->Prop):D->X->Prop:=λd0 x=>∃d,st d=st d0/\fw d/\∃y,Post d y/\x=add d y
abbrev aAC{D X Y:Type}(set:D->X->Prop)(fw:D->Prop)(add:D->Y->X)(Post:D->Y->Prop):Prop:=∀ {d:D} {R:Type} {k:X->Option R} {r:Option R},fw d->(∃y,Post d y)->(∀y,Post d y->k (add d y)=r)->Zt (set d) k=r
theorem bb7{D X Y:Type}{st:D->AS}{fw:D->Prop}{add:D->Y->X}{Post:D->Y->Prop}(Nd:∀d d',st d=st d'->d=d'):aAC (aZy st fw add Post) fw add Post:=λh h1 h2=>by
 obtain⟨y,hy⟩:=h1;refine ayK ⟨_,_,rfl,h,y,hy,rfl⟩ λx hx=> ?_
 obtain⟨d',h3,_,y',h4,rfl⟩:=hx;obtain rfl:=Nd _ _ h3;exact h2 y' h4
abbrev axY(P:Program)(G:om)(an:wO)(N:Nat)(fn:Func)(i:Nat){D X Y:Type}(st:D->AS)(fw:D->Prop)(add:D->Y->X)(Post:D->Y->Prop)(out:X->Out (Exit×AS)):Prop:=∀d,fw d->∃n,∀k:Exit->AS->Option Unit,(∀y e s,Post d y->(out (add d y)).eval=some (e,s)->k e s=some ())->Qb P G an N fn i n (st d) k=some ()
theorem axX.W4{P:Program}{Γ:om}{an:wO}{N:Nat}{fn:Func}{i:Nat}{D X Y:Type}{st:D->AS}{fw:D->Prop}{add:D->Y->X}{Post:D->Y->Prop}{out:X->Out (Exit×AS)}
  (h:axY P Γ an N fn i st fw add Post out) (hle:an.fu (dI (oM fn i))=some (dA.W4 st fw add Post out)):axX P Γ an N (oM fn i):=by
 intro le hle';rw[hle]at hle';simp only[ay]at hle';subst hle';refine⟨λhS=>(by cases hS),λS hS s hs=> ?_⟩;obtain rfl:=bk hS;obtain⟨x,d,rfl,hp,y,hy,rfl⟩:=hs;obtain⟨n,hn⟩:=h d hp;exact⟨n,hn _ λy e s h1 h2=>aLi ⟨add d y,⟨d,rfl,hp,y,h1,rfl⟩,h2⟩⟩
theorem af9{n:Nat}{Q:Nat->Nat->Prop}(h:∀j,j < n->∃N,∀M,N<=M->Q j M):∃N,∀M,N<=M->∀j,j < n->Q j M:=by
 induction n with
 |zero=>exact⟨0,λ_ _ j hj=>by omega⟩
 |succ n ih=>
  obtain⟨N1,h1⟩:=ih λj hj=>h j (by omega)
  obtain⟨N2,h2⟩:=h n (by omega);refine⟨max N1 N2,λM hM j hj=> ?_⟩;by_cases bcQ:j=n
  ·subst bcQ;exact h2 M (by omega)
  ·exact h1 M (by omega) j (by omega)
theorem aKR{P:Program}{Γ:om}{an:wO}{N:Nat}{fn:Func}{i:Nat}{D X:Type}{st:D->AS}{fw:D->Prop}{F:D->X}{out:X->Out (Exit×AS)}(μ:D->Nat)
  (h:∀d,fw d->(∃(m:Nat) (d':Nat->D),0 < m/\(∀j,j < m->fw (d' j)/\μ (d' j) < μ d/\F (d' j)=F d)/\∀ {R:Type} (kn:AS->Option R) (kx:Exit->AS->Option R),CG P Γ an N fn i (st d) kn kx=aIY m λj=>kn (st (d' j)))\/
   (∃r,(out (F d)).eval=some r/\∀ {R:Type} (kn:AS->Option R) (kx:Exit->AS->Option R),CG P Γ an N fn i (st d) kn kx=kx r.1 r.2)):
  ∀d,fw d->∃n,Qb P Γ an N fn i n (st d) (λe s=>some (e,s))=(out (F d)).eval:=by
 have key:∀m d,μ d=m->fw d->∃n,∀M,n<=M->Qb P Γ an N fn i M (st d) (λe s=>some (e,s))=(out (F d)).eval:=by
  intro m
  induction m using Nat.strongRecOn with
  |_ m ih=>
   intro d hm hp;rcases h d hp with⟨c,d',hc,hd,hr⟩ | ⟨r,hr,hx⟩
   ·obtain⟨n,hn⟩:=af9 (n:=c) (Q:=λj M=>Qb P Γ an N fn i M (st (d' j)) (λe s=>some (e,s))=(out (F d)).eval) λj hj=>by obtain⟨h1,h2,h3⟩:=hd j hj;obtain⟨n,hn⟩:=ih (μ (d' j)) (by omega) (d' j) rfl h1;exact⟨n,λM hM=>by rw[hn M hM,h3]⟩
    refine⟨n+1,λM hM=> ?_⟩;obtain⟨M,rfl⟩:∃M',M=M'+1:=⟨M - 1,by omega⟩;rw[zN,hr];exact aIZ hc λj hj=>hn M (by omega) j hj
   ·refine⟨1,λM hM=> ?_⟩;obtain⟨M,rfl⟩:∃M',M=M'+1:=⟨M - 1,by omega⟩;rw[zN,hx,hr]
 exact λd hp=>let⟨n,hn⟩:=key _ d rfl hp;⟨n,hn n (aw _)⟩
theorem aKS{P:Program}{Γ:om}{an:wO}{N:Nat}{fn:Func}{i:Nat}{D X Y:Type}{st:D->AS}{fw:D->Prop}{add:D->Y->X}{Post:D->Y->Prop}{out:X->Out (Exit×AS)}(μ:D->Nat)
  (h:∀d,fw d->(∃(m:Nat) (d':Nat->D),0 < m/\(∀j,j < m->fw (d' j)/\μ (d' j) < μ d/\∀y,Post (d' j) y->∃y',Post d y'/\add (d' j) y=add d y')/\∀ {R:Type} (kn:AS->Option R) (kx:Exit->AS->Option R),CG P Γ an N fn i (st d) kn kx=aIY m λj=>kn (st (d' j)))\/
   (∃y r,Post d y/\(out (add d y)).eval=some r/\∀ {R:Type} (kn:AS->Option R) (kx:Exit->AS->Option R),CG P Γ an N fn i (st d) kn kx=kx r.1 r.2)):axY P Γ an N fn i st fw add Post out:=by
 have key:∀m d,μ d=m->fw d->∃n,∀M,n<=M->∀k:Exit->AS->Option Unit,(∀y e s,Post d y->(out (add d y)).eval=some (e,s)->k e s=some ())->Qb P Γ an N fn i M (st d) k=some ():=by
  intro m
  induction m using Nat.strongRecOn with
  |_ m ih=>
   intro d hm hp;rcases h d hp with⟨c,d',hc,hd,hr⟩ | ⟨y,r,hy,hr,hx⟩
   ·obtain⟨n,hn⟩:=af9 (n:=c) (Q:=λj M=>∀k:Exit->AS->Option Unit,(∀y e s,Post (d' j) y->(out (add (d' j) y)).eval=some (e,s)->k e s=some ())->Qb P Γ an N fn i M (st (d' j)) k=some ()) λj hj=>by obtain⟨h1,h2,h3⟩:=hd j hj;exact ih (μ (d' j)) (by omega) (d' j) rfl h1
    refine⟨n+1,λM hM k hk=> ?_⟩;obtain⟨M,rfl⟩:∃M',M=M'+1:=⟨M - 1,by omega⟩;rw[zN,hr];refine aIZ hc λj hj=>hn M (by omega) j hj k λy e s h1 h2=> ?_
    obtain⟨y',h3,h4⟩:=(hd j hj).2.2 y h1;rw[h4]at h2;exact hk y' e s h3 h2
   ·refine⟨1,λM hM k hk=> ?_⟩;obtain⟨M,rfl⟩:∃M',M=M'+1:=⟨M - 1,by omega⟩;rw[zN,hx];exact hk y r.1 r.2 hy hr
 exact λd hp=>let⟨n,hn⟩:=key _ d rfl hp;⟨n,hn n (aw _)⟩
theorem apD{P:Program}{Γ:om}{an:wO}{N:Nat}{fn:Func}{i:Nat}{D X:Type}{st:D->AS}{fw:D->Prop}{F:D->X}{ex:X->Exit×AS}(μ:D->Nat)(h:∀d,fw d->(∃d',fw d'/\μ d' < μ d/\F d'=F d/\∀ {R:Type} (kn:AS->Option R) (kx:Exit->AS->Option R),CG P Γ an N fn i (st d) kn kx=kn (st d'))\/(∀ {R:Type} (kn:AS->Option R) (kx:Exit->AS->Option R),CG P Γ an N fn i (st d) kn kx=kx (ex (F d)).1 (ex (F d)).2)):∀d,fw d->∃n,Qb P Γ an N fn i n (st d) (λe s=>some (e,s))=(Out.ok (ex (F d))).eval:=azi (out:=λx=> .ok (ex x)) μ λd hp=>(h d hp).imp id λh=>⟨_,rfl,h⟩
open Classical in
def Entry.of{D X:Type}(params:List (Option Ty))(st:D->List aA×List dB)(fw:D->Prop)(F:D->X)(out:X->fx):Entry:= {params,X,run:=λargs bU=>if h:∃d,st d=(args,bU)/\fw d then some (F h.choose) else none,out:=λ_ _=>out}
open Classical in
theorem Entry.vi{D X:Type}{params:List (Option Ty)}{st:D->List aA×List dB}{fw:D->Prop}{F:D->X}{out:X->fx}(Nd:∀d d',st d=st d'->d=d'){d:D}(h:fw d):
  (Entry.of params st fw F out).run (st d).1 (st d).2=some (F d):=by
 have hex:∃d',st d'=((st d).1,(st d).2)/\fw d':=⟨d,rfl,h⟩;show(if h:∃d',st d'=((st d).1,(st d).2)/\fw d' then some (F h.choose) else none)=_;rw[yD hex,Nd _ _ hex.choose_spec.1]
open Classical in
theorem azr{D X:Type}{params:List (Option Ty)}{st:D->List aA×List dB}{fw:D->Prop}{F:D->X}{out:X->fx}{args:List aA}{bU:List dB}{x:X}(hx:(Entry.of params st fw F out).run args bU=some x):∃d,st d=(args,bU)/\fw d/\x=F d:=by
 change (if h:∃d',st d'=(args,bU)/\fw d' then some (F h.choose) else none)=some x at hx;split at hx
 ·rename_i hex;obtain rfl:=bk hx;exact⟨_,hex.choose_spec.1,hex.choose_spec.2,rfl⟩
 ·cases hx
theorem qw.of{P:Program}{Γ:om}(hm:P.follows .mixedOrders=true)(hΓ:Sound P Γ){f:FuncId}{fn:Func}(hf:P.funcs[f]? =some fn)(hb:fn.body.isSome=true)(Au:(fn.name== "runtime.NumGoroutine")=false){an:wO}{N:Nat}
  (hL:∀c,fn.body=some c->jP P Γ an N (jq c)) {D X:Type} {params:List (Option Ty)} {st:D->List aA×List dB} {fw:D->Prop} {F:D->X} {out:X->fx}
  (h:∀d,fw d->amR P Γ an N fn (st d).1 (st d).2 some=some (out (F d))) (aj4:an.lk=none:=by exact rfl):qw P f (Entry.of params st fw F out):=by
 refine qw.vi hm hΓ hf hb Au hL (λargs bU x hx=> ?_) aj4;obtain⟨d,e1,e2,rfl⟩:=azr hx;have:=h d e2;rw[e1]at this;exact this
def aGy(P:Program)(Γ:om)(an:wO)(N:Nat)(fn:Func):Nat->Nat->Prop
 | 0,_=>True
 |n+1,i=>axX P Γ an N (oM fn i)/\aGy P Γ an N fn n (i+1)
theorem aGy.get{P:Program}{Γ:om}{an:wO}{N:Nat}{fn:Func}:∀ {n i:Nat},aGy P Γ an N fn n i->∀j,j < n->axX P Γ an N (oM fn (i+j))
 | 0,_,_,j,hj=>by omega
 |n+1,i,h,0,_=>h.1
 |n+1,i,h,j+1,hj=>by have:=aGy.get h.2 j (by omega);rwa[show i+1+j=i+(j+1) by omega]at this
theorem jP.aLh{P:Program}{Γ:om}{an:wO}{N:Nat}:∀(l:List Code),(∀j,j < l.length->axX P Γ an N (l.getD j .skip))->jP P Γ an N l
 |[],_=>trivial
 |b::l,h=>⟨h 0 (by simp),jP.aLh l λj hj=>by have:=h (j+1) (by simpa using hj);simpa using this⟩
theorem jP.fn{P:Program}{Γ:om}{an:wO}{N:Nat}{fn:Func}(n:Nat)(hn:(match fn.body with | some c=>(jq c).length | none=>0)=n)(h:aGy P Γ an N fn n 0):∀c,fn.body=some c->jP P Γ an N (jq c):=by
 intro c hc;refine jP.aLh _ λj hj=> ?_
 rw[hc]at hn;simp only at hn;have:=h.get j (by omega);unfold oM at this;rw[hc]at this;simpa using this
theorem axX.none{P:Program}{Γ:om}{an:wO}{N:Nat}{fn:Func}{i:Nat}(h:an.fu (dI (oM fn i))=none):axX P Γ an N (oM fn i):=λle hle=>by
 rw[h]at hle;cases hle
def aVx:om:=λ_ _=>none
theorem Sound.nil(P:Program):Sound P aVx:=λ_ _ _ h=>by cases h
def ayU(f:FuncId)(p:List aA->Bool)(en:Entry)(Γ:om):om:=λg vs=>match iv g f with | true=>(match p vs with | true=>some en | false=>Γ g vs) | false=>Γ g vs
theorem Sound.cons{P:Program}{f:FuncId}{p:List aA->Bool}{en:Entry}{Γ:om}(h:uS P f en)(hΓ:Sound P Γ):Sound P (ayU f p en Γ):=λg vs e hg=>by
 unfold ayU at hg;split at hg
 ·rename_i he;have:g=f:=eO he;split at hg
  ·simp only[ay]at hg;subst hg this;exact h
  ·exact hΓ g vs e hg
 ·exact hΓ g vs e hg
theorem aTH{t:Ty}{x y:t.den}(h:aA.d t x=aA.d t y):x=y:=by injection h with _ h
theorem aTh{e:TypeId}{t:Ty}{x y:List t.den}(h:aA.vec e t x=aA.vec e t y):x=y:=by injection h with _ _ h
def lO:List aA->Bool:=λ_=>true
def aDu:List aA->Bool | .cV::_=>true | _=>false
def aia:List aA->Bool | .bu .. ::_=>true | _=>false
@[simp] theorem aj{α:Type}(x y:Option α):aG true x y=x:=rfl
@[simp] theorem al{α:Type}(x y:Option α):aG false x y=y:=rfl
@[simp] theorem ah{α β:Type}(x:α)(f:α->Option β):ak (some x) f=f x:=rfl
@[simp] theorem TV{α:Type}(c:uZ)(x:Option α):same c c x=x:=by simp[same]
@[simp] theorem yZ{α:Type}(x:Option α):nd x x=x:=by simp[nd]
structure SG(P:Program) where
 f:FuncId
 p:List aA->Bool
 e:Entry
 h:uS P f e
def kh{P:Program}:List (SG P)->om
 |[]=>aVx
 |a::l=>ayU a.f a.p a.e (kh l)
theorem Sound.kh{P:Program}:∀l:List (SG P),Sound P (kh l)
 |[]=>Sound.nil P
 |a::l=>Sound.cons a.h (Sound.kh l)
abbrev SA:=List aA×List dB
def G2(P:Program)(G:om)(an:wO)(N:Nat)(fn:Func){D:Type}(st:D->SA){R:Type}(d:D)(k:fx->Option R):Option R:=amR P G an N fn (st d).1 (st d).2 k
def eE(P:Program)(G:om)(an:wO)(N:Nat)(fn:Func)(i:Nat){D:Type}(st:D->AS){R:Type}(d:D)(kn:AS->Option R)(kx:Exit->AS->Option R):Option R:=CG P G an N fn i (st d) kn kx
abbrev aiz{D X Y:Type}(A: {R:Type}->D->(fx->Option R)->Option R)(fw:D->Prop)(add:D->Y->X)(F:D->Y)(out:X->fx):Prop:=∀d,fw d->A d some=some (out (add d (F d)))
abbrev lu(P:Program)(G:om)(an:wO)(N:Nat)(fn:Func)(i:Nat){D X Y:Type}(st:D->AS)(fw:D->Prop)(add:D->Y->X)(F:D->Y)(out:X->Out (Exit×AS)):Prop:=∀d,fw d->∃n,Qb P G an N fn i n (st d) (λe s=>some (e,s))=(out (add d (F d))).eval
abbrev aGw{D X Y:Type}(R: {R:Type}->D->(AS->Option R)->(Exit->AS->Option R)->Option R)(st:D->AS)(fw:D->Prop)(add:D->Y->X)(F:D->Y)(ex:X->Exit×AS)(C:Prop):Prop:=∀μ:D->Nat,(∀d,fw d->(∃d',fw d'/\μ d' < μ d/\add d' (F d')=add d (F d)/\∀ {T:Type} (kn:AS->Option T) (kx:Exit->AS->Option T),R d kn kx=kn (st d'))\/(∀ {T:Type} (kn:AS->Option T) (kx:Exit->AS->Option T),R d kn kx=kx (ex (add d (F d))).1 (ex (add d (F d))).2))->C
abbrev oe{D X Y:Type}(R: {R:Type}->D->(AS->Option R)->(Exit->AS->Option R)->Option R)(st:D->AS)(fw:D->Prop)(add:D->Y->X)(F:D->Y)(out:X->Out (Exit×AS))(C:Prop):Prop:=∀μ:D->Nat,(∀d,fw d->(∃d',fw d'/\μ d' < μ d/\add d' (F d')=add d (F d)/\∀ {T:Type} (kn:AS->Option T) (kx:Exit->AS->Option T),R d kn kx=kn (st d'))\/(∃r,(out (add d (F d))).eval=some r/\∀ {T:Type} (kn:AS->Option T) (kx:Exit->AS->Option T),R d kn kx=kx r.1 r.2))->C
abbrev aX5{D X Y:Type}(R: {R:Type}->D->(AS->Option R)->(Exit->AS->Option R)->Option R)(st:D->AS)(fw:D->Prop)(add:D->Y->X)(F:D->Y)(ex:X->Exit×AS)(C:Prop):Prop:=∀μ:D->Nat,(∀d,fw d->(∃(m:Nat) (d':Nat->D),0 < m/\(∀j,j < m->fw (d' j)/\μ (d' j) < μ d/\add (d' j) (F (d' j))=add d (F d))/\∀ {T:Type} (kn:AS->Option T) (kx:Exit->AS->Option T),R d kn kx=aIY m λj=>kn (st (d' j)))\/(∀ {T:Type} (kn:AS->Option T) (kx:Exit->AS->Option T),R d kn kx=kx (ex (add d (F d))).1 (ex (add d (F d))).2))->C
theorem baD{P:Program}{G:om}{an:wO}{N:Nat}{fn:Func}{i:Nat}{D X Y:Type}{st:D->AS}{fw:D->Prop}{add:D->Y->X}{F:D->Y}{ex:X->Exit×AS}:aX5 (eE P G an N fn i st) st fw add F ex (lu P G an N fn i st fw add F λx=> .ok (ex x)):=λ μ h=>aKR (F:=λd=>add d (F d)) (out:=λx=> .ok (ex x)) μ λd hp=>(h d hp).imp id λh=>⟨_,rfl,h⟩
abbrev aTB{D X Y:Type}(R: {R:Type}->D->(AS->Option R)->(Exit->AS->Option R)->Option R)(st:D->AS)(fw:D->Prop)(add:D->Y->X)(Post:D->Y->Prop)(ex:X->Exit×AS)(C:Prop):Prop:=∀μ:D->Nat,(∀d,fw d->(∃(m:Nat) (d':Nat->D),0 < m/\(∀j,j < m->fw (d' j)/\μ (d' j) < μ d/\∀y,Post (d' j) y->∃y',Post d y'/\add (d' j) y=add d y')/\∀ {T:Type} (kn:AS->Option T) (kx:Exit->AS->Option T),R d kn kx=aIY m λj=>kn (st (d' j)))\/(∃y,Post d y/\∀ {T:Type} (kn:AS->Option T) (kx:Exit->AS->Option T),R d kn kx=kx (ex (add d y)).1 (ex (add d y)).2))->C
theorem aYc{P:Program}{G:om}{an:wO}{N:Nat}{fn:Func}{i:Nat}{D X Y:Type}{st:D->AS}{fw:D->Prop}{add:D->Y->X}{Post:D->Y->Prop}{ex:X->Exit×AS}:aTB (eE P G an N fn i st) st fw add Post ex (axY P G an N fn i st fw add Post λx=> .ok (ex x)):=λ μ h=>aKS (out:=λx=> .ok (ex x)) μ λd hp=>(h d hp).imp (λh=>h) λ⟨y,hy,h⟩=>⟨y,_,hy,rfl,h⟩
theorem aUW{P:Program}{G:om}{an:wO}{N:Nat}{fn:Func}{i:Nat}{D X Y:Type}{st:D->AS}{fw:D->Prop}{add:D->Y->X}{F:D->Y}{ex:X->Exit×AS}:aGw (eE P G an N fn i st) st fw add F ex (lu P G an N fn i st fw add F λx=> .ok (ex x)):=λ μ h=>apD (F:=λd=>add d (F d)) μ h
theorem oB{P:Program}{G:om}{an:wO}{N:Nat}{fn:Func}{i:Nat}{D X Y:Type}{st:D->AS}{fw:D->Prop}{add:D->Y->X}{F:D->Y}{out:X->Out (Exit×AS)}:oe (eE P G an N fn i st) st fw add F out (lu P G an N fn i st fw add F out):=λ μ h=>azi (F:=λd=>add d (F d)) (out:=out) μ h
def nD:List (Nat×nZ)->Nat->nZ
 |[],_=> {}
 |a::l,r=>bif iv r a.1 then a.2 else nD l r
def nC:List (Nat×nZ×nZ)->Nat->Bool->nZ
 |[],_,_=> {}
 |a::l,r,b=>bif iv r a.1 then(bif b then a.2.2 else a.2.1) else nC l r b
def np.{v} {α:Type v}:List (Nat×α)->Nat->Option α
 |[],_=>none
 |a::l,r=>bif iv r a.1 then some a.2 else np l r
inductive Lf where
 |d (t:Ty)
 |n
@[reducible] def Lf.den:Lf->Type
 | .d t=>t.den
 | .n=>Nat
@[reducible] def Lf.aFT:List Lf->Type
 |[]=>Unit
 |[a]=>a.den
 |a::b::l=>a.den×Lf.aFT (b::l)
abbrev aX7:=List (Sigma Lf.den)
def Lf.mk:(ts:List Lf)->Lf.aFT ts->aX7
 |[],_=> []
 |[a],x=> [⟨a,x⟩]
 |a::b::l,x=>⟨a,x.1⟩::Lf.mk (b::l) x.2
theorem Lf.mk_inj:∀(ts:List Lf) (x y:Lf.aFT ts),Lf.mk ts x=Lf.mk ts y->x=y
 |[],_,_,_=>rfl
 |[a],x,y,h=>by
  injection h with h _
  injection h
 |a::b::l,(x,u),(y,v),h=>by
  injection h with h h2
  injection h with _ h
  have h:x=y:=h;rw[h,Lf.mk_inj (b::l) u v h2]
def aA.leaves:aA->aX7
 | .d .unit _=> []
 | .d (.arr _ t) l=> [⟨.d (.slice t),l⟩]
 | .d t x=> [⟨.d t,x⟩]
 | .dL t x=> [⟨.d t,x⟩]
 | .vec _ t l=> [⟨.d (.slice t),l⟩]
 | .mp k v l=> [⟨.d (.slice (.pair k v)),l⟩]
 | .sH _ _ k v l _=> [⟨.d (.slice (.pair k v)),l⟩]
 | .qX _ f _=>f.leaves
 | .bu _ _ _ _ _ n=> [⟨.n,n⟩]
 | .pr a b=>a.leaves++b.leaves
 | .cons a b=>a.leaves++b.leaves
 | .fn _ c=>c.leaves
 | .bx _ _ c=>c.leaves
 |_=> []
def dB.leaves:dB->aX7
 | .obj _ _ c=>c.leaves
 | .dead=> []
def SA.leaves(s:SA):aX7:=s.1.flatMap aA.leaves++s.2.flatMap dB.leaves
def AS.leaves(s:AS):aX7:=s.cg.flatMap aA.leaves++(s.bU.flatMap dB.leaves++s.news.flatMap (·.flatMap dB.leaves))
theorem W0(ts:List Lf){st:Lf.aFT ts->SA}(h:∀d,SA.leaves (st d)=Lf.mk ts d)(d d':Lf.aFT ts)(e:st d=st d'):d=d':=Lf.mk_inj ts d d' (by rw[<-h,<-h,e])
theorem jK(ts:List Lf){st:Lf.aFT ts->AS}(h:∀d,AS.leaves (st d)=Lf.mk ts d)(d d':Lf.aFT ts)(e:st d=st d'):d=d':=Lf.mk_inj ts d d' (by rw[<-h,<-h,e])
def Entry.fm{D X Y:Type}(params:List (Option Ty))(st:D->SA)(fw:D->Prop)(add:D->Y->X)(F:D->Y)(out:X->fx):Entry:=Entry.of params st fw (λd=>add d (F d)) out
def bdd{X Y:Type}(x:X⊕Y):Out (X⊕Y):= .br x.isLeft (.get x.getLeft? λa=> .ok (.inl a)) (.get x.getRight? λb=> .ok (.inr b))
theorem aW4{X Y:Type}(x y:X⊕Y)(h:(bdd x).eval=some y):y=x:=by cases x <;> exact(bk h).symm
def Entry.aeF{D X X' Y:Type}(params:List (Option Ty))(st:D->SA)(fw:D->Prop)(add:D->Y->X⊕X')(F:D->Y)(out:X⊕X'->fx):Entry:= {Entry.fm params st fw add F out with sp:=bdd,az6:=aW4}
theorem FW.aUp{P:Program}{y:Nat}{D X X' Y:Type}{params:List (Option Ty)}{st:D->SA}{fw:D->Prop}{add:D->Y->X⊕X'}{F:D->Y}{out:X⊕X'->fx}(h:FW P y (Entry.fm params st fw add F out)):FW P y (Entry.aeF params st fw add F out):=h
theorem qw.aUp{P:Program}{f:FuncId}{D X X' Y:Type}{params:List (Option Ty)}{st:D->SA}{fw:D->Prop}{add:D->Y->X⊕X'}{F:D->Y}{out:X⊕X'->fx}(h:qw P f (Entry.fm params st fw add F out)):qw P f (Entry.aeF params st fw add F out):=h
def Entry.W4{D X Y:Type}(params:List (Option Ty))(st:D->SA)(fw:D->Prop)(add:D->Y->X)(Post:D->Y->Prop)(out:X->fx):Entry:= {params,X,run:=λ_ _=>none,out:=λ_ _ x=>out x,rel:=true,set:=λargs bU x=>∃d,st d=(args,bU)/\fw d/\∃y,Post d y/\x=add d y}
def aSL{D:Type}(E:Entry)(st:D->SA):D->E.X->Prop:=λd=>E.set (st d).1 (st d).2
theorem aM0{D X Y:Type}{params:List (Option Ty)}{st:D->SA}{fw:D->Prop}{add:D->Y->X}{Post:D->Y->Prop}{out:X->fx}(Nd:∀d d',st d=st d'->d=d'):aAC (aSL (Entry.W4 params st fw add Post out) st) fw add Post:=λh h1 h2=>by
 obtain⟨y,hy⟩:=h1;refine ayK ⟨_,_,rfl,h,y,hy,rfl⟩ λx hx=> ?_
 obtain⟨d',h3,_,y',h4,rfl⟩:=hx;obtain rfl:=Nd _ _ h3;exact h2 y' h4
abbrev axW{D X Y:Type}(A: {R:Type}->D->(fx->Option R)->Option R)(fw:D->Prop)(add:D->Y->X)(Post:D->Y->Prop)(out:X->fx):Prop:=∀d,fw d->∀k:fx->Option Unit,(∀y,Post d y->k (out (add d y))=some ())->A d k=some ()
def dA.fm{D X Y:Type}(st:D->AS)(fw:D->Prop)(add:D->Y->X)(F:D->Y)(out:X->Out (Exit×AS)):dA:=dA.of st fw (λd=>add d (F d)) out
def KB{D:Type}(E:Entry)(st:D->SA):D->Option E.X:=λd=>E.run (st d).1 (st d).2
def gN{D:Type}(E:dA)(st:D->AS):D->Option E.X:=λd=>E.run (st d)
abbrev jd{D X Y:Type}(call:D->Option X)(fw:D->Prop)(add:D->Y->X)(F:D->Y):Prop:=∀ {d:D},fw d->call d=some (add d (F d))
theorem aZv{D X Y:Type}{params:List (Option Ty)}{st:D->SA}{fw:D->Prop}{add:D->Y->X}{F:D->Y}{out:X->fx}(Nd:∀d d',st d=st d'->d=d'):jd (KB (Entry.fm params st fw add F out) st) fw add F:=λh=>Entry.vi Nd h
theorem acu{D X X' Y:Type}{params:List (Option Ty)}{st:D->SA}{fw:D->Prop}{add:D->Y->X⊕X'}{F:D->Y}{out:X⊕X'->fx}(Nd:∀d d',st d=st d'->d=d'){d:D}(h:fw d):(Entry.aeF params st fw add F out).run (st d).1 (st d).2=some (add d (F d)):=aZv (params:=params) (out:=out) Nd h
theorem na{D X Y:Type}{st:D->AS}{fw:D->Prop}{add:D->Y->X}{F:D->Y}{out:X->Out (Exit×AS)}(Nd:∀d d',st d=st d'->d=d'):jd (gN (dA.fm st fw add F out) st) fw add F:=λh=>dA.vi Nd h
def aCb(P:Program)(fn:Func):Bool:=P.follows .mixedOrders && fn.body.isSome && !(fn.name== "runtime.NumGoroutine")
def aCf(fn:Func):Nat:=match fn.body with | some c=>(jq c).length | none=>0
theorem qw.fn{P:Program}{l:List (SG P)}{f:FuncId}{fn:Func}{an:wO}{N:Nat}{D X Y:Type}{params:List (Option Ty)}{st:D->SA}{fw:D->Prop}{add:D->Y->X}{F:D->Y}{out:X->fx}(n:Nat)
  (hc:(P.funcs[f]?,aCb P fn,aCf fn)=(some fn,true,n))
  (h:aiz (@G2 P (kh l) an N fn D st) fw add F out)
  (hL:aGy P (kh l) an N fn n 0) (aj4:an.lk=none:=by exact rfl):qw P f (Entry.fm params st fw add F out):=by
 injection hc with h1 h2
 injection h2 with h2 h3
 unfold aCb at h2;simp only[aq,cr]at h2;exact qw.of h2.1.1 (Sound.kh l) h1 h2.1.2 h2.2 (jP.fn n h3 hL) h aj4
theorem Om.fn{P:Program}{l:List (SG P)}{f:FuncId}{fn:Func}{an:wO}{N:Nat}{D X Y:Type}{params:List (Option Ty)}{st:D->SA}{fw:D->Prop}{add:D->Y->X}{Post:D->Y->Prop}{out:X->fx}(n:Nat)
  (hc:(P.funcs[f]?,aCb P fn,aCf fn)=(some fn,true,n))
  (h:axW (@G2 P (kh l) an N fn D st) fw add Post out)
  (hL:aGy P (kh l) an N fn n 0) (aj4:an.lk=none:=by exact rfl):Om P f (Entry.W4 params st fw add Post out):=by
 injection hc with h1 h2
 injection h2 with h2 h3
 unfold aCb at h2;simp only[aq,cr]at h2;refine Om.vi h2.1.1 (Sound.kh l) h1 h2.1.2 h2.2 (jP.fn n h3 hL) (λargs bU hx=> ?_) aj4;obtain⟨x,d,e,hp,y,hy,rfl⟩:=hx;have:=h d hp (λG=>aWy (∃x,(Entry.W4 params st fw add Post out).set args bU x/\G=(Entry.W4 params st fw add Post out).out args bU x)) λy hy=>aLi ⟨_,⟨d,e,hp,y,hy,rfl⟩,rfl⟩
 unfold G2 at this;rw[e]at this;exact this
theorem FW.fn{P:Program}{l:List (SG P)}{y:Nat}{an:wO}{N:Nat}{D X Y:Type}{params:List (Option Ty)}{st:D->SA}{fw:D->Prop}{add:D->Y->X}{F:D->Y}{out:X->fx}(n:Nat)
  (hc:(P.follows .mixedOrders,aCf (aTA P y))=(true,n))
  (h:aiz (@G2 P (kh l) an N (aTA P y) D st) fw add F out)
  (hL:aGy P (kh l) an N (aTA P y) n 0) (aj4:an.lk=some y):FW P y (Entry.fm params st fw add F out):=by
 injection hc with h1 h2
 refine FW.vi h1 (Sound.kh l) (fn:=aTA P y) (jP.fn (fn:=aTA P y) n h2 hL _ rfl) (λargs bU x hx=> ?_) aj4;obtain⟨d,e1,e2,rfl⟩:=azr hx;have:=h d e2;unfold G2 at this;rw[e1]at this;exact this
theorem axX.fm{P:Program}{Γ:om}{an:wO}{N:Nat}{fn:Func}{i:Nat}{D X Y:Type}{st:D->AS}{fw:D->Prop}{add:D->Y->X}{F:D->Y}{out:X->Out (Exit×AS)}
  (h:lu P Γ an N fn i st fw add F out) (hle:an.fu (dI (oM fn i))=some (dA.fm st fw add F out):=by kernel_rfl):axX P Γ an N (oM fn i):=axX.of hle h
abbrev K1(R:Type):=fx->Option R
abbrev K2(R:Type):=AS->Option R
abbrev K3(R:Type):=Exit->AS->Option R
@[reducible] def bm{D Y:Type}(_:D)(y:Y):Y:=y
structure Ls{D Y X:Type}(fw:D->Prop)(add:D->Y->X)(F:D->Y) where
 st:D->AS
 ex:X->Exit×AS
noncomputable def qv{D Y X:Type}{fw:D->Prop}{add:D->Y->X}{F:D->Y}(st:D->AS)(ex:X->Exit×AS):Ls fw add F:=⟨st,ex⟩
section
variable {D Y X:Type} {fw:D->Prop} {add:D->Y->X} {F:D->Y} (L:Ls fw add F)
def Ls.out:X->Out (Exit×AS):=λx=> .ok (L.ex x)
def Ls.E:dA:=dA.fm L.st fw add F L.out
def Ls.call:D->Option X:=gN L.E L.st
abbrev Ls.go{R:Type}(kx:K3 R)(x:X):Option R:=kx (L.ex x).1 (L.ex x).2
abbrev Ls.RS:Prop:=jd L.call fw add F
end
theorem rL(ts:List Lf){Y X:Type}{fw:Lf.aFT ts->Prop}{add:Lf.aFT ts->Y->X}{F:Lf.aFT ts->Y}(L:Ls fw add F)(h:∀d,AS.leaves (L.st d)=Lf.mk ts d:=by exact λ_=>by kernel_rfl):jd L.call fw add F:=na (jK ts h)
structure Fs(P:Program){D Y X:Type}(fw:D->Prop)(add:D->Y->X)(F:D->Y) where
 i:FuncId
 fn:Func
 st:D->SA
 out:X->fx
 ps:List (Option Ty)
 G:List (SG P)
 an:wO
 N:Nat
noncomputable def eI{P:Program}{D Y X:Type}{fw:D->Prop}{add:D->Y->X}{F:D->Y}(i:FuncId)(fn:Func)(st:D->SA)(out:X->fx)(ps:List (Option Ty))(G:List (SG P):=[])(an:wO:= {})(N:Nat:=0):Fs P fw add F:=⟨i,fn,st,out,ps,G,an,N⟩
section
variable {P:Program} {D Y X:Type} {fw:D->Prop} {add:D->Y->X} {F:D->Y} (f:Fs P fw add F) {D' Y' X':Type} {Pre':D'->Prop} {add':D'->Y'->X'} {F':D'->Y'}
def Fs.A{R:Type}(d:D)(k:K1 R):Option R:=G2 P (kh f.G) f.an f.N f.fn f.st d k
def Fs.R(i:Nat)(L:Ls Pre' add' F'){R:Type}(d:D')(kn:K2 R)(kx:K3 R):Option R:=eE P (kh f.G) f.an f.N f.fn i L.st d kn kx
abbrev Fs.Ok:Prop:=∀d,fw d->f.A d some=some (f.out (add d (F d)))
abbrev Fs.jP(i:Nat)(L:Ls Pre' add' F'):Prop:=lu P (kh f.G) f.an f.N f.fn i L.st Pre' add' F' L.out
def Fs.E:Entry:=Entry.fm f.ps f.st fw add F f.out
def Fs.call:D->Option X:=KB f.E f.st
theorem Fs.lk(i:Nat)(L:Ls Pre' add' F'):aGw (@Fs.R P D Y X fw add F f D' Y' X' Pre' add' F' i L) L.st Pre' add' F' L.ex (f.jP i L):=λ μ h=>apD (F:=λd=>add' d (F' d)) μ h
theorem Fs.bb5(i:Nat)(L:Ls Pre' add' F'):aX5 (@Fs.R P D Y X fw add F f D' Y' X' Pre' add' F' i L) L.st Pre' add' F' L.ex (f.jP i L):=baD
abbrev Fs.RS:Prop:=jd f.call fw add F
def Fs.ban(p:List aA->Bool)(ok:f.Ok)(n:Nat:=0)(hL:aGy P (kh f.G) f.an f.N f.fn n 0:=by exact trivial)(hc:(P.funcs[f.i]?,aCb P f.fn,aCf f.fn)=(some f.fn,true,n):=by kernel_rfl)(hy:Nat.blt f.i yB=true:=by exact rfl)(hn:f.an.lk=none:=by exact rfl):SG P:=⟨f.i,p,f.E,.of (qw.fn n hc ok hL hn) hy⟩
def Fs.bet(ok:f.Ok)(n:Nat:=0)(hL:aGy P (kh f.G) f.an f.N f.fn n 0:=by exact trivial)(hc:(P.follows .mixedOrders,aCf (aTA P f.i))=(true,n):=by kernel_rfl)(hf:f.fn=aTA P f.i:=by exact rfl)(hy:Nat.ble yB f.i=true:=by exact rfl)(hn:f.an.lk=some f.i:=by exact rfl):SG P:=
 ⟨f.i,lO,f.E,.bc6 (FW.fn n hc (by have:=ok;unfold Fs.Ok Fs.A at this;rw[hf]at this;exact this) (by rw[<-hf];exact hL) hn) hy⟩
def Fs.eN(ok:f.Ok)(n:Nat:=0)(hL:aGy P (kh f.G) f.an f.N f.fn n 0:=by exact trivial)(hc:(P.funcs[f.i]?,aCb P f.fn,aCf f.fn)=(some f.fn,true,n):=by kernel_rfl)(hy:Nat.blt f.i yB=true:=by exact rfl)(hn:f.an.lk=none:=by exact rfl):SG P:=f.ban lO ok n hL hc hy hn
end
theorem rE(ts:List Lf){P:Program}{Y X:Type}{fw:Lf.aFT ts->Prop}{add:Lf.aFT ts->Y->X}{F:Lf.aFT ts->Y}(f:Fs P fw add F)(h:∀d,SA.leaves (f.st d)=Lf.mk ts d:=by exact λ_=>by kernel_rfl):jd f.call fw add F:=aZv (W0 ts h)
abbrev tu:Ty:=(.int .u64)
abbrev ti:Ty:=(.int .i64)
abbrev tb:Ty:=(.int .u8)
abbrev tB:Ty:=(.slice tb)
abbrev Bs:=(List Int)
abbrev tH:Ty:=(.arr 32 tb)
abbrev tU:Ty:=(.slice tu)
abbrev aV:Ty:=(.pair tH (.pair ti .unit))
abbrev bw:=(Bs×(Int×Unit))
abbrev zP:Ty:=(.pair tu (.pair tu .unit))
abbrev Sg:=(Int×(Int×Unit))
abbrev aFo:Ty:=(.pair ti (.pair (.slice zP) (.pair tu .unit)))
abbrev ad6:=(Int×((List Sg)×(Int×Unit)))
abbrev fV:Ty:=(.pair aV (.pair aFo .unit))
abbrev gC:=(bw×(ad6×Unit))
abbrev kj:Ty:=(.pair tU (.pair ti (.pair ti (.pair tu .unit))))
abbrev pC:=(Bs×(Int×(Int×(Int×Unit))))
abbrev Oj:Ty:=(.pair (.slice kj) .unit)
abbrev Lk:=((List pC)×Unit)
abbrev iV:Ty:=(.pair ti (.pair Oj .unit))
abbrev gR:=(Int×(Lk×Unit))
abbrev eH:Ty:=(.pair (.slice fV) (.pair (.slice iV) (.pair ti .unit)))
abbrev dM:=((List gC)×((List gR)×(Int×Unit)))
abbrev tf:Ty:=(.pair tB (.pair .bool .unit))
abbrev ig:=(Bs×(Bool×Unit))
abbrev bey:Ty:=(.pair ti (.pair (.gM zP) (.pair tu .unit)))
abbrev bav:=(Int×((Option (List Sg))×(Int×Unit)))
abbrev qZ:Ty:=(.pair aV (.pair bey .unit))
abbrev zT:=(bw×(bav×Unit))
end Go.Ab
namespace Go.Ab
theorem tT{n:Int}(h1: -9223372036854775808<=n)(h2:n<=9223372036854775807):IntKind.i64.wrap n=n:=by simp[IntKind.wrap,IntKind.bits,IntKind.signed];split <;> omega
theorem fE{x y:Int}(h1: -9223372036854775808<=x+y)(h2:x+y<=9223372036854775807):bH .i64 x y=x+y:=tT h1 h2
theorem ez{x y:Int}(h1: -9223372036854775808<=x - y)(h2:x - y<=9223372036854775807):cI .i64 x y=x - y:=tT h1 h2
theorem HG{x y:Int}(h1: -9223372036854775808<=x*y)(h2:x*y<=9223372036854775807):fX .i64 x y=x*y:=tT h1 h2
theorem aQ3{x:Int}(h1: -9223372036854775808<=x)(h2:x<=9223372036854775807):dT .i64 x=x:=tT h1 h2
def vw{n:Nat}(w:BitVec n):Int:=(w.toNat:Int)
theorem gK(n:Nat)(x:Int):vw (aZ n x)=x%((2^n:Nat):Int):=by unfold vw;rw[rN];have:0<=x%((2^n:Nat):Int):=ko _ (by have:=Nat.two_pow_pos n;omega);omega
theorem Ue{n:Nat}(w:BitVec n):0<=vw w:=gA _
theorem aOc{n:Nat}(w:BitVec n):vw w < ((2^n:Nat):Int):=by have:=w.isLt;unfold vw;omega
theorem uh{n:Nat}(w:BitVec n):aZ n (vw w)=w:=by apply BitVec.eq_of_toNat_eq;have:=gK n (vw w);unfold vw at this ⊢;have h:=w.isLt;rw[eU (gA _) (by omega)]at this;omega
theorem wrap_u32(x:Int):IntKind.u32.wrap x=vw (aZ 32 x):=by rw[gK];simp[IntKind.wrap,IntKind.bits,IntKind.signed]
theorem wrap_u64(x:Int):IntKind.u64.wrap x=vw (aZ 64 x):=by rw[gK];simp[IntKind.wrap,IntKind.bits,IntKind.signed]
theorem wrap_u8(x:Int):IntKind.u8.wrap x=vw (aZ 8 x):=by rw[gK];simp[IntKind.wrap,IntKind.bits,IntKind.signed]
theorem ofInt_add(n:Nat)(x y:Int):aZ n (x+y)=aZ n x+aZ n y:=BitVec.ofInt_add ..
theorem Dz(x y:BitVec 32):bH .u32 (vw x) (vw y)=vw (x+y):=by rw[bH,wrap_u32,BitVec.ofInt_add,uh,uh]
theorem ayZ(x:Int):dT .u32 x=vw (aZ 32 x):=wrap_u32 x
theorem XK(x:Int):dT .u64 x=vw (aZ 64 x):=wrap_u64 x
theorem S4(x:Int):dT .u8 x=vw (aZ 8 x):=wrap_u8 x
theorem aK9{n:Nat}(x:BitVec n):aZ n ((x.toNat:Nat):Int)=x:=uh x
theorem pP(op:BinOp)(x y:BitVec 32):cD op .u32 (vw x) (vw y)=vw (match op with | .and=>x &&& y | .or=>x ||| y | .xor=>x^^^y | _=>x &&& ~~~y):=by unfold cD;split <;> (simp only[IntKind.bits,uh,wrap_u32,aK9];rfl)
theorem aAT(op:BinOp)(x y:BitVec 64):cD op .u64 (vw x) (vw y)=vw (match op with | .and=>x &&& y | .or=>x ||| y | .xor=>x^^^y | _=>x &&& ~~~y):=by unfold cD;split <;> (simp only[IntKind.bits,uh,wrap_u64,aK9];rfl)
theorem aJi(x y:Nat):Int.fdiv (x:Int) (y:Int)=((x / y:Nat):Int):=by rw[jS _ (gA _)];rfl
theorem RD(k:Nat):(2:Int)^k=((2^k:Nat):Int):=by simp
theorem aWY{n:Nat}(w:BitVec n)(k:Nat):Int.fdiv (vw w) (2^(min k n))=vw (w >>> k):=by
 rw[RD];unfold vw;rw[aJi,BitVec.toNat_ushiftRight,Nat.shiftRight_eq_div_pow];congr 1;rcases Nat.le_total k n with hk | hk
 ·rw[fM hk]
 ·rw[Nat.min_eq_right hk,Nat.div_eq_of_lt w.isLt,Nat.div_eq_of_lt];exact Nat.lt_of_lt_of_le w.isLt (Nat.pow_le_pow_right (by omega) hk)
theorem HJ(w:BitVec 32)(k:Int):cq .u32 (vw w) k=vw (w >>> k.toNat):=aWY w k.toNat
theorem aWX{n:Nat}(w:BitVec n)(k:Nat):aZ n (vw w*2^(min k n))=w <<< k:=by
 apply BitVec.eq_of_toNat_eq;rw[rN,BitVec.toNat_shiftLeft,Nat.shiftLeft_eq];unfold vw;rw[RD];have e:((w.toNat:Int)*((2^min k n:Nat):Int))=((w.toNat*2^min k n:Nat):Int):=by simp
 rw[e];have:(((w.toNat*2^min k n:Nat):Int)%((2^n:Nat):Int)).toNat=(w.toNat*2^min k n)%2^n:=by omega
 rw[this];rcases Nat.le_total k n with hk | hk
 ·rw[fM hk]
 ·rw[Nat.min_eq_right hk,Nat.mul_mod_left];obtain⟨m,rfl⟩:=Nat.exists_eq_add_of_le hk;rw[oq,<-Nat.mul_assoc,Nat.mul_right_comm,Nat.mul_mod_left]
theorem PS(w:BitVec 32)(k:Int):l5 .u32 (vw w) k=vw (w <<< k.toNat):=by rw[l5,wrap_u32];congr 1;exact aWX w k.toNat
theorem bf{i n:Int}(h1:0<=i)(h2:i < n):ed i n=true:=by simp[ed,h1,h2]
theorem tW{i n:Int}(h1:0<=i)(h2:i<=n):inc i n=true:=by simp[inc,h1,h2]
theorem aT{x y:Int}(h:x < y):fP x y=true:=by simp[fP,h]
theorem aO{x y:Int}(h:¬x < y):fP x y=false:=by simp[fP];omega
theorem oP{x y:Int}(h:x<=y):amw x y=true:=by simp[amw,h]
theorem lY{x y:Int}(h:¬x<=y):amw x y=false:=by simp[amw];omega
theorem df{x y:Int}(h:x > y):w5 x y=true:=by simp[w5];omega
theorem cE{x y:Int}(h:¬x > y):w5 x y=false:=by simp[w5];omega
theorem fW{x y:Int}(h:x>=y):BP x y=true:=by simp[BP];omega
theorem eo{x y:Int}(h:¬x>=y):BP x y=false:=by simp[BP];omega
theorem dj{x y:Int}(h:x=y):qO x y=true:=by simp[qO,h]
theorem eM{x y:Int}(h:¬x=y):qO x y=false:=by simp[qO,h]
theorem fa{x y:Int}(h:¬x=y):BQ x y=true:=by simp[BQ,h]
theorem dx{x y:Int}(h:x=y):BQ x y=false:=by simp[BQ,h]
theorem sO{x:Int}(h:0<=x):ma x=true:=by simp[ma,h]
theorem aH{p:Prop} [Decidable p] (h:p):decide p=true:=by simp[h]
theorem aS{p:Prop} [Decidable p] (h:¬p):decide p=false:=by simp[h]
theorem de{n b:Nat}(h:n*b<=140737488355328)(h2:n<=9223372036854775807):cT n b=true:=by simp[cT,h,h2]
def from_{α:Type}(f:Nat->α->α)(t:Nat)(l:List α):List α:=l.mapIdx λi x=>if i < t then x else f i x
theorem JL{α:Type}(f:Nat->α->α)(l:List α)(t:Nat)(h:t < l.length):from_ f (t+1) (l.set t (f t l[t]))=from_ f t l:=by
 unfold from_;apply List.ext_getElem (by simp);intro i h1 h2;simp only[List.getElem_mapIdx,List.getElem_set];by_cases hi:t=i
 ·subst hi;simp
 ·simp only[if_neg hi];by_cases h3:i < t
  ·rw[if_pos (by omega),if_pos h3]
  ·rw[if_neg (by omega),if_neg h3]
theorem PA{α:Type}(f:Nat->α->α)(l:List α)(t:Nat)(h:l.length<=t):from_ f t l=l:=by unfold from_;apply List.ext_getElem (by simp);intro i h1 h2;simp only[List.getElem_mapIdx];rw[if_pos (by omega)]
theorem ZI{α:Type}(f:Nat->α->α)(n:Nat)(x:α):from_ f 0 (ab n x)=(List.range n).map λi=>f i x:=by unfold from_;apply List.ext_getElem (by simp);intro i h1 h2;simp
theorem bV{t:Ty}{l:List t.den}{i:Nat}(h:i < l.length):nth t l i=l[i]:=by simp[nth,h]
end Go.Ab
namespace Go.Ab.N
section
variable {α:Type} {x y:Option α} {a b n:Nat} {i j:Int}
theorem lt:aG (fP i j) x y=if i < j then x else y:=by unfold fP;split <;> rename_i h <;> simp[h]
theorem le:aG (amw i j) x y=if i<=j then x else y:=by unfold amw;split <;> rename_i h <;> simp[h]
theorem gt:aG (w5 i j) x y=if j < i then x else y:=by unfold w5;split <;> rename_i h <;> simp[h]
theorem ge:aG (BP i j) x y=if j<=i then x else y:=by unfold BP;split <;> rename_i h <;> simp[h]
theorem eq:aG (qO i j) x y=if i=j then x else y:=by
 by_cases h:i=j
 ·rw[dj h,if_pos h];rfl
 ·rw[eM h,if_neg h];rfl
theorem ne:aG (BQ i j) x y=if i=j then y else x:=by
 by_cases h:i=j
 ·rw[dx h,if_pos h];rfl
 ·rw[fa h,if_neg h];rfl
theorem ib:aG (ed i j) x y=if 0<=i/\i < j then x else y:=by unfold ed;split <;> rename_i h <;> simp[h]
theorem ic:aG (inc i j) x y=if 0<=i/\i<=j then x else y:=by unfold inc;split <;> rename_i h <;> simp[h]
theorem nn:aG (ma i) x y=if 0<=i then x else y:=by unfold ma;split <;> rename_i h <;> simp[h]
theorem nz:aG (ri i) x y=if i=0 then y else x:=by unfold ri;split <;> rename_i h <;> simp[h]
theorem dc{p:Prop} [Decidable p]:aG (decide p) x y=if p then x else y:=by split <;> rename_i h <;> simp[h]
theorem rm:aG (cT n b) x y=if n*b<=140737488355328/\n<=9223372036854775807 then x else y:=by unfold cT;exact dc
theorem an{c d:Bool}:aG (c && d) x y=aG c (aG d x y) y:=by cases c <;> rfl
theorem or{c d:Bool}:aG (c || d) x y=aG c x (aG d x y):=by cases c <;> rfl
theorem no{c:Bool}:aG (!c) x y=aG c y x:=by cases c <;> rfl
theorem aZT(h:a+b<=9223372036854775807):bH .i64 (a:Int) (b:Int)=((a+b:Nat):Int):=by rw[fE (by omega) (by omega)];omega
theorem mq(h:a+OfNat.ofNat n<=9223372036854775807):bH .i64 (a:Int) (no_index (OfNat.ofNat n))=((a+OfNat.ofNat n:Nat):Int):=aZT h
theorem bcv(h:OfNat.ofNat n+a<=9223372036854775807):bH .i64 (no_index (OfNat.ofNat n)) (a:Int)=((OfNat.ofNat n+a:Nat):Int):=aZT h
theorem bam(h:b<=a)(h2:a<=9223372036854775807):cI .i64 (a:Int) (b:Int)=((a - b:Nat):Int):=by rw[ez (by omega) (by omega)];omega
theorem bdc(h:OfNat.ofNat n<=a)(h2:a<=9223372036854775807):cI .i64 (a:Int) (no_index (OfNat.ofNat n))=((a - OfNat.ofNat n:Nat):Int):=bam h h2
theorem bdb(h:a<=OfNat.ofNat n)(h2:(OfNat.ofNat n:Nat)<=9223372036854775807):cI .i64 (no_index (OfNat.ofNat n)) (a:Int)=((OfNat.ofNat n - a:Nat):Int):=bam h h2
theorem baj(h:a*b<=9223372036854775807):fX .i64 (a:Int) (b:Int)=((a*b:Nat):Int):=by
 have e:(a:Int)*(b:Int)=((a*b:Nat):Int):=by simp
 rw[HG (by omega) (by omega),e]
theorem bc4(h:a*OfNat.ofNat n<=9223372036854775807):fX .i64 (a:Int) (no_index (OfNat.ofNat n))=((a*OfNat.ofNat n:Nat):Int):=baj h
theorem aZj(h:OfNat.ofNat n*a<=9223372036854775807):fX .i64 (no_index (OfNat.ofNat n)) (a:Int)=((OfNat.ofNat n*a:Nat):Int):=baj h
theorem bbX(h:a<=9223372036854775807):td .i64 (a:Int) (b:Int)=((a / b:Nat):Int):=by
 have:(a:Int).tdiv (b:Int)=((a / b:Nat):Int):=by rw[jT (by omega)];simp
 have hl:a / b<=a:=Nat.div_le_self a b;unfold td;rw[this];generalize a / b=c at hl;exact tT (by omega) (by omega)
theorem bbW(h:a<=9223372036854775807):td .i64 (a:Int) (no_index (OfNat.ofNat n))=((a / OfNat.ofNat n:Nat):Int):=bbX h
theorem bbY:mm (a:Int) (b:Int)=((a%b:Nat):Int):=by unfold mm;rw[gT (by omega)];simp
theorem bal:mm (a:Int) (no_index (OfNat.ofNat n))=((a%OfNat.ofNat n:Nat):Int):=bbY
theorem cN(h:a<=9223372036854775807):dT .i64 (a:Int)=(a:Int):=aQ3 (by omega) (by omega)
theorem cL(h:(OfNat.ofNat n:Nat)<=9223372036854775807):dT .i64 (no_index (OfNat.ofNat n))=OfNat.ofNat n:=cN h
theorem tL:ae (no_index (OfNat.ofNat n))=OfNat.ofNat n:=rfl
end
end Go.Ab.N
namespace Go.Ab
section
variable {P:Program}
theorem aJb{E E':Env}(h1:E'.w=E.w)(h2:E'.g=E.g)(h3:E'.β=E.β)(h4:E'.s=E.s):E'=E:=by obtain⟨a,b,c,d⟩:=E;obtain⟨a',b',c',d'⟩:=E';simp only at h1 h2 h3 h4;subst h1 h2 h3 h4;rfl
theorem tg.same{w:World}{g:Nat->lS}{β:Id->Option Pl}{bU:List dB}{a:aA}{v:Value}(hv:VS ((fA bU).env w g β) a v)(ho:iG ((fA bU).env w g β)):
  tg ((fA bU).env w g β) ⟨a,bU,[]⟩ v w:=by
 have hE:(fx.st ⟨a,bU,[]⟩).env w g β=(fA bU).env w g β:=by
  refine aJb rfl rfl rfl ?_
  funext id;cases id with
  |bh k=>rfl
  |new i j=>
   show([([]:List dB)].getD i [])[j]? =(([]:List (List dB)).getD i [])[j]?
   cases i <;> rfl
 refine⟨g,β,?_⟩;rw[hE];exact⟨hv,ho,Trans.refl w g,cJ.refl _⟩
theorem qw.extern{f:FuncId}{fn:Func}{e:Array Value->Sem Value}(hf:P.funcs[f]? =some fn)(Au:(fn.name== "runtime.NumGoroutine")=false)(hb:fn.body.isNone=true)(hn:Extern.findNext fn=none)(he:Extern.find fn=some e){en:Entry}
  (h:∀w g β args bU iM x,xQ ((fA bU).env w g β) args iM->iG ((fA bU).env w g β)->en.run args bU=some x->∃v,(e iM.toArray).run P w= .ok v w/\tg ((fA bU).env w g β) (en.out args bU x) v w):qw P f en:=by
 intro w g β args bU iM x h1 h2 h3;obtain⟨v,h4,h5⟩:=h w g β args bU iM x h1 h2 h3;refine .inr ⟨v,w,?_,h5⟩;rw[run_callFunc_extern hf Au hb hn he,h4];rfl
def aUf.E:Entry:= {params:=[none],X:=Unit,run:=λargs _=>match args with | [_]=>some () | _=>none,out:=λargs bU _=>⟨args.headD .undef,bU,[]⟩}
theorem aUf.of{f:FuncId}{fn:Func}(hf:P.funcs[f]? =some fn)(Au:(fn.name== "runtime.NumGoroutine")=false)(hb:fn.body.isNone=true)(hn:Extern.findNext fn=none)(he:Extern.find fn=some Extern.AbiNoEscape.same):qw P f aUf.E:=by
 refine qw.extern hf Au hb hn he λw g β args bU iM x h1 h2 h3=> ?_
 cases args with
 |nil=>cases h3
 |cons a as=>
  cases as with
  |cons _ _=>cases h3
  |nil=>
   cases iM with
   |nil=>exact h1.elim
   |cons v vs=>
    obtain⟨h4,h5⟩:=h1;cases vs with
    |cons _ _=>exact h5.elim
    |nil=>exact⟨v,rfl,tg.same h4 h2⟩
theorem ah0{w:World}:∀(xs:List Int) (a:Addr) (acc:ByteArray),(∀j x,xs[j]? =some x->w.cell? (a.add j)=some (.int .u8 x))->
  (Extern.Bytes.loadBytes a xs.length acc).run P w= .ok ⟨acc.data++(xs.map λn=>eZ n.toNat).toArray⟩ w
 |[],a,acc,_=>by simp[Extern.Bytes.loadBytes]
 |x::l,a,acc,h=>by
  have h0:w.cell? a=some (.int .u8 x):=by have:=h 0 x rfl;simpa[Addr.add]using this
  have ih:=ah0 l (a.add 1) (acc.push x.toNat.toUInt8) (λj y hy=>by
   have:=h (j+1) y (by simpa using hy);have e:(a.add 1).add j=a.add (j+1):=by
    unfold Addr.add;by_cases hj:j=0
    ·subst hj;simp
    ·simp[hj];omega
   rw[e];exact this)
  simp only[az,Extern.Bytes.loadBytes,Sem.run_bind,run_load,h0,Result.andThen];rw[ih];congr 1;apply ByteArray.ext;simp[ByteArray.push]
theorem acv{E:Env}{l:List Int}{y:Value}(h:VS E (.d (.slice (.int .u8)) l) y):(Extern.Bytes.bytesOf y).run P E.w= .ok (fh l) E.w:=by
 obtain⟨a,cap,vs,rfl,_,hs,rY,vY⟩:=uq h;have U9:=wW (k:= .u8) (vs:=vs) (l:=l) vY;cases a with
 |none=>
  have hl:l=[]:=by
   cases l with
   |nil=>rfl
   |cons _ _=>simp at hs
  subst hl;rfl
 |some ad=>
  have aJK:=ah0 (P:=P) (w:=E.w) l ad .empty λj x hx=>by
   obtain⟨b,off,e,hh⟩:=rY j (.int .u8 x) (by rw[U9];simp[hx]);have e:ad=⟨b,off,none⟩:=by simpa using e
   subst e;have h1:=hh.1;unfold Addr.add;by_cases hj:j=0
   ·subst hj;simpa using h1
   ·simpa[hj]using h1
  show(Extern.Bytes.loadBytes ad l.length .empty).run P E.w=_;rw[aJK];congr 1;apply ByteArray.ext;simp[fh]
def aem(a b:List Int):Int:=Extern.BytealgCompare.cmp (fh a) (fh b)
def ax5:Entry:=Entry.of (D:=List Int×List Int) (X:=Int) [some (.slice (.int .u8)),some (.slice (.int .u8))] (λd=>([.d (.slice (.int .u8)) d.1,.d (.slice (.int .u8)) d.2],[])) (λ_=>True) (λd=>aem d.1 d.2) (λx=>⟨.d (.int .i64) x,[],[]⟩)
theorem aPg:∀d d':List Int×List Int,(([aA.d (.slice (.int .u8)) d.1,aA.d (.slice (.int .u8)) d.2],([]:List dB)):List aA×List dB)=([.d (.slice (.int .u8)) d'.1,.d (.slice (.int .u8)) d'.2],[])->d=d':=by rintro⟨a,b⟩ ⟨a',b'⟩ h;have e1:a=a':=aTH (t:= .slice (.int .u8)) (bl (λs:List aA×List dB=>s.1.getD 0 .undef) h);have e2:b=b':=aTH (t:= .slice (.int .u8)) (bl (λs:List aA×List dB=>s.1.getD 1 .undef) h);rw[e1,e2]
def amU:List Int×List Int->Option Int:=λd=>ax5.run [.d (.slice (.int .u8)) d.1,.d (.slice (.int .u8)) d.2] []
theorem ax6(d:List Int×List Int):amU d=some (aem d.1 d.2):=Entry.vi (d:=d) aPg trivial
theorem aUE{f:FuncId}{fn:Func}(hf:P.funcs[f]? =some fn)(Au:(fn.name== "runtime.NumGoroutine")=false)(hb:fn.body.isNone=true)(hn:Extern.findNext fn=none)(he:Extern.find fn=some Extern.BytealgCompare.compare):qw P f ax5:=by
 refine qw.extern hf Au hb hn he λw g β args bU iM x h1 h2 h3=> ?_
 have hx:∃d:List Int×List Int,(([aA.d (.slice (.int .u8)) d.1,aA.d (.slice (.int .u8)) d.2],([]:List dB)):List aA×List dB)=(args,bU):=by
  by_cases hh:∃d:List Int×List Int,(([aA.d (.slice (.int .u8)) d.1,aA.d (.slice (.int .u8)) d.2],([]:List dB)):List aA×List dB)=(args,bU)
  ·exact hh
  ·exfalso;have hn:ax5.run args bU=none:=BH λ⟨d,h,_⟩=>hh ⟨d,h⟩
   rw[hn]at h3;cases h3
 obtain⟨d,hd⟩:=hx;simp only[cv]at hd;obtain⟨rfl,rfl⟩:=hd;have hr:=ax6 d;have hx:x=aem d.1 d.2:=bk (h3.symm.trans hr);subst hx
 match iM,h1 with
 |[u,v],⟨h4,h5,_⟩=>
  refine⟨.int .i64 (aem d.1 d.2),?_,tg.same (lz _ _) h2⟩;have e1:=acv (P:=P) h4;have e2:=acv (P:=P) h5;have e1:(Extern.Bytes.bytesOf u).run P w= .ok (fh d.1) w:=e1;have e2:(Extern.Bytes.bytesOf v).run P w= .ok (fh d.2) w:=e2;have aVE:Extern.BytealgCompare.compare [u,v].toArray=(do let a <-Extern.Bytes.bytesOf u;let b <-Extern.Bytes.bytesOf v;pure (goInt (Extern.BytealgCompare.cmp a b))):=rfl;rw[aVE];simp[e1,e2,goInt,aem]
def baz{X Y:Type} [Inhabited Y] (x:Option X):Option (X×Y):=ak x λy=>some (y,default)
def baA{X Y:Type} [Inhabited X] (x:Option Y):Option (X×Y):=ak x λy=>some (default,y)
@[simp] theorem aXs{X Y:Type} [Inhabited Y] (x:X):baz (Y:=Y) (some x)=some (x,default):=rfl
@[simp] theorem aXt{X Y:Type} [Inhabited X] (x:Y):baA (X:=X) (some x)=some (default,x):=rfl
def Entry.half(params:List (Option Ty)){X Z:Type}(run:List aA->List dB->Option X)(out:List aA->List dB->X->fx)(i:Z->X)(p:X->Option Z):Entry:= {params,X:=Z,run:=λa o=>(run a o).bind p,out:=λa o z=>out a o (i z)}
def jv{X Z:Type}(p:X->Option Z)(x:Option X):Option Z:=x.bind p
theorem oc{X Y:Type}(x:X):jv cP (some (Sum.inl x:X⊕Y))=some x:=rfl
theorem aQM{X Y:Type}(x:Y):jv Sum.getRight? (some (Sum.inr x:X⊕Y))=some x:=rfl
theorem qw.half{f:FuncId}{params:List (Option Ty)}{X Z:Type}{run:List aA->List dB->Option X}{out:List aA->List dB->X->fx}{i:Z->X}{p:X->Option Z}(hp:∀x z,p x=some z->x=i z)
  (h:qw P f {params,X,run,out}):qw P f (Entry.half params run out i p):=by
 intro w g β args bU iM z h3 h4 h5;have h5:(run args bU).bind p=some z:=h5;cases hr:run args bU with
 |none=>rw[hr]at h5;cases h5
 |some x=>
  rw[hr]at h5;obtain rfl:=hp x z h5;exact h w g β args bU iM (i z) h3 h4 hr
theorem aYv{X Y:Type}(x:X⊕Y)(z:X)(h:x.getLeft?=some z):x= .inl z:=by cases x <;> cases h;rfl
theorem aYw{X Y:Type}(x:X⊕Y)(z:Y)(h:x.getRight?=some z):x= .inr z:=by cases x <;> cases h;rfl
end
theorem S1:(type_of% @N.lt)/\(type_of% @N.le)/\(type_of% @N.gt)/\(type_of% @N.ge)/\(type_of% @N.eq)/\(type_of% @N.ne)/\(type_of% @N.ib)/\(type_of% @N.ic)/\(type_of% @N.nn)/\(type_of% @N.nz)/\(type_of% @N.dc)/\(type_of% @N.rm)/\(type_of% @N.an)/\(type_of% @N.or)/\(type_of% @N.no)/\(type_of% @aj)/\(type_of% @al)/\(type_of% @ah):=⟨@N.lt,@N.le,@N.gt,@N.ge,@N.eq,@N.ne,@N.ib,@N.ic,@N.nn,@N.nz,@N.dc,@N.rm,@N.an,@N.or,@N.no,@aj,@al,@ah⟩
theorem S2:(type_of% @ah)/\(type_of% @N.aZT)/\(type_of% @N.mq)/\(type_of% @N.bcv)/\(type_of% @N.bam)/\(type_of% @N.bdc)/\(type_of% @N.bdb)/\(type_of% @N.baj)/\(type_of% @N.bc4)/\(type_of% @N.aZj)/\(type_of% @N.bbX)/\(type_of% @N.bbW)/\(type_of% @N.bbY)/\(type_of% @N.bal)/\(type_of% @N.cN)/\(type_of% @N.cL)/\(type_of% @N.tL)/\(type_of% @aa)/\(type_of% @iR)/\(type_of% @mi)/\(type_of% @ix):=⟨@ah,@N.aZT,@N.mq,@N.bcv,@N.bam,@N.bdc,@N.bdb,@N.baj,@N.bc4,@N.aZj,@N.bbX,@N.bbW,@N.bbY,@N.bal,@N.cN,@N.cL,@N.tL,@aa,@iR,@mi,@ix⟩
end Go.Ab
namespace Go.Ab
open Go.ChangeShapes Go.WideShapes Go.ChangeAt Go.RowKit Go.Deep
def aAB:(t:Ty)->t.den->Prop
 | .int k,x=>(Lit.int k x).wf=true
 | .bool,_=>True
 | .str,s=>(s:ByteArray).size<=maxLen
 | .slice t,l=>(l:List t.den).length<=maxLen/\∀x∈(l:List t.den),aAB t x
 | .unit,_=>True
 | .pair a b,x=>aAB a x.1/\aAB b x.2
 | .arr n t,l=>(l:List t.den).length=n/\∀x∈(l:List t.den),aAB t x
 | .gM _,_ | .tR _,_=>False
def As(P:Program)(rd:TypeId->Ty->Bool):Nat->List Field->Ty->Bool
 |_,[],.unit=>true
 |off,f::fs,.pair a b=>iv f.offset off && (rd f.type a && (iv (P.cellsOf f.type) a.size && As P rd (off+a.size) fs b))
 |_,_,_=>false
def C0(P:Program):Nat->TypeId->Ty->Bool
 | 0,_,_=>false
 |n+1,T,ty=>
  match P.underlying T,ty with
  |some (.int k),.int k'=>decide (k=k')
  |some .bool,.bool=>true
  |some .string,.str=>true
  |some (.slice e),.slice t=>C0 P n e t && iv (P.cellsOf e) t.size
  |some (.array k e),.arr k' t=>iv k k' && (C0 P n e t && (iv (P.cellsOf e) t.size && iv (P.cellsOf T) (k*t.size)))
  |some (.struct fs),ty=>As P (C0 P n) 0 fs.toList ty && iv (P.cellsOf T) ty.size
  |_,_=>false
theorem aPn{a b:Nat}:(iv a b=true)=(a=b):=propext ⟨eO,λh=>by subst h;exact Nat.beq_refl a⟩
theorem apF{α β:Type}{f:α->Option β}:∀ {l:List α} {r:List β},l.mapM f=some r->r.length=l.length/\∀(i:Nat) (x:α),l[i]? =some x->f x=r[i]?
 |[],r,h=>by simp only[List.mapM_nil,Option.pure_def,ay]at h;subst h;exact⟨rfl,λi x h=>by simp at h⟩
 |y::l,r,h=>by
  simp only[List.mapM_cons,Option.bind_eq_bind,Option.pure_def,Option.bind_eq_some_iff,ay]at h;obtain⟨b,hb,r',hr,rfl⟩:=h;obtain⟨h1,h2⟩:=apF hr;refine⟨by simp[h1],λi x hi=> ?_⟩;cases i with
  |zero=>
   simp only[fF,ay]at hi;subst hi;simpa using hb
  |succ i=>
   simp only[lT]at hi ⊢;exact h2 i x hi
theorem aBs{w:World}{base:Nat}{a:Addr}{n:Nat}{cs:List Value}(h:w.cells? base a n=some cs):cs.length=n/\∀i,i < n->w.cell? (a.add i)=cs[i]? :=by
 unfold World.cells? at h;split at h
 ·obtain⟨h1,h2⟩:=apF h;exact⟨by simpa using h1,λi hi=>h2 i i (by simp[hi])⟩
 ·cases h
theorem add_add(a:Addr)(x y:Nat):(a.add x).add y=a.add (x+y):=by unfold Addr.add;by_cases hx:x=0 <;> by_cases hy:y=0 <;> simp[hx,hy,eK]
theorem aFi{w:World}{a:Addr}{v:Value}(h:w.cell? a=some v):a.spot=none:=by
 unfold World.cell? at h;split at h
 ·split at h
  ·cases h
  ·rename_i hs;cases hh:a.spot with
   |none=>rfl
   |some _=>simp[hh]at hs
 ·cases h
theorem aWO{E:Env}(hg:∀b,E.g b= .free){a:Addr}{vs:List Value}(h:∀i,i < vs.length->E.w.cell? (a.add i)=vs[i]?):FY E (some a) vs:=by
 intro i v hv;have hi:i < vs.length:=(dC.1 hv).1;have h0:=h 0 (by omega);rw[bO (by omega)]at h0;have hs:a.spot=none:=aFi (a:=a) (by simpa[Addr.add]using h0);obtain⟨b,off,sp⟩:=a;simp only at hs;subst hs;refine⟨b,off,rfl,?_,?_⟩
 ·have:=h i hi;rw[hv]at this;rw[<-this];unfold Addr.add;split
  ·rename_i h;subst h;rfl
  ·rfl
 ·unfold uR;rw[hg b];trivial
section
variable {H:Type} {enc:TypeId×Value->H} {P:Program} {base:Nat} {spare:Nat->Bool} {held:Bool} {E:Env}
theorem azZ{t:Ty}{R:List Value->t.den->Prop}{G:t.den->Prop}{w:World}{a:Addr}{z:Nat}(hR:∀c x,R c x->c.length=z):∀(len:Nat),(∀i,i < len->∃c x,R c x/\G x/\∀j,j < z->w.cell? (a.add (i*z+j))=c[j]?)->
  ∃(vs:List Value) (l:List t.den),vs.length=len*z/\l.length=len/\(∀i,i < vs.length->w.cell? (a.add i)=vs[i]?)/\bz R vs l/\∀x∈l,G x
 | 0,_=>⟨[],[],by simp,rfl,λi h=>by simp at h,rfl,λ_ h=>by cases h⟩
 |len+1,h=>by
  obtain⟨vs,l,h1,h2,h3,h4,h5⟩:=azZ hR len λi hi=>h i (by omega)
  obtain⟨c,x,g1,g2,g3⟩:=h len (by omega);have hc:=hR c x g1;refine⟨vs++c,l++ [x],by rw[ai,h1,hc,eg,ij],by rw[ai,h2];rfl,λi hi=> ?_,bz.append h4 ⟨c,[],by simp,g1,rfl⟩,λy hy=> ?_⟩
  ·rw[ai,h1,hc]at hi;by_cases hl:i < vs.length
   ·rw[h3 i hl,fe hl]
   ·rw[List.getElem?_append_right (by omega),h1,<-g3 (i - len*z) (by omega),show len*z+(i - len*z)=i by omega]
  ·rcases bD.1 hy with hy | hy
   ·exact h5 y hy
   ·rw[bn.1 hy];exact g2
theorem agn{t:Ty}{R:List Value->t.den->Prop}{G:t.den->Prop}{z:Nat}:∀(n:Nat) (cs:List Value),cs.length=n*z->(∀i,i < n->∃x,R ((cs.drop (i*z)).take z) x/\G x)->
  ∃l:List t.den,l.length=n/\bz R cs l/\∀x∈l,G x
 | 0,cs,h,_=>⟨[],rfl,bB (by simpa using h),λ_ h=>by cases h⟩
 |n+1,cs,h,hi=>by
  obtain⟨x,g1,g2⟩:=hi 0 (by omega);obtain⟨l,h1,h2,h3⟩:=agn (R:=R) (G:=G) (z:=z) n (cs.drop z) (by rw[di,h,eg];omega) λi aoT=>by obtain⟨y,k1,k2⟩:=hi (i+1) (by omega);refine⟨y,?_,k2⟩;rw[fI,show z+i*z=(i+1)*z by rw[eg];omega];exact k1
  refine⟨x::l,by simp[h1],⟨cs.take z,cs.drop z,(dE z cs).symm,by simpa using g1,h2⟩,λy hy=> ?_⟩;rcases cj.1 hy with rfl | hy
  ·exact g2
  ·exact h3 y hy
theorem We{rd:TypeId->Ty->Bool}{cs:List Value}:∀(fs:List Field) (off:Nat) (ty:Ty),As P rd off fs ty=true->off+ty.size<=cs.length->
  (∀f∈fs,∀t,rd f.type t=true->P.cellsOf f.type=t.size->∃v,cW E t ((cs.drop f.offset).take (P.cellsOf f.type)) v/\aAB t v)->∃v,cW E ty ((cs.drop off).take ty.size) v/\aAB ty v
 |[],off,ty,h,hl,_=>by
  cases ty <;> simp only[As]at h <;> first | cases h | skip
  exact⟨(),by simp[cW,Ty.size],trivial⟩
 |f::fs,off,ty,h,hl,hf=>by
  cases ty <;> simp only[As]at h <;> first | cases h | skip
  rename_i a b;simp only[aq,aPn]at h;obtain⟨h1,h2,h3,h4⟩:=h;have hl:off+(a.size+b.size)<=cs.length:=hl;obtain⟨v,k1,k2⟩:=hf f (aN ..) a h2 h3;obtain⟨u,k3,k4⟩:=We fs (off+a.size) b h4 (by omega) λf' hf'=>hf f' (aI _ hf')
  refine⟨(v,u),⟨(cs.drop off).take a.size,(cs.drop (off+a.size)).take b.size,?_,?_,k3⟩,k2,k4⟩
  ·rw[show Ty.size (.pair a b)=a.size+b.size from rfl,List.take_add,fI]
  ·rw[h1,h3]at k1;exact k1
theorem QE(hg:∀b,E.g b= .free):∀(n:Nat) (T:TypeId) (ty:Ty),C0 P n T ty=true->∀ {fuel:Nat} {cs:List Value} {x:DataW H×List MemPlace},DataW.trod enc P E.w base spare held fuel T cs=some x->∃v,cW E ty cs v/\aAB ty v
 | 0,_,_,h,_,_,_,_=>by simp[C0]at h
 |n+1,T,ty,h,fuel,cs,x,hx=>by
  unfold C0 at h;split at h
  ·rename_i k k' hu;obtain rfl:=of_decide_eq_true h;obtain⟨m,rfl,_,hw⟩:=DataW.trod_int hu hx;exact⟨m,rfl,hw⟩
  ·rename_i hu;obtain⟨b,rfl,_⟩:=DataW.trod_bool hu hx;exact⟨b,rfl,trivial⟩
  ·rename_i hu;obtain⟨s,rfl,_,hs⟩:=DataW.trod_string hu hx;exact⟨s,rfl,hs⟩
  ·rename_i e t hu;simp only[aq,aPn]at h;obtain⟨h1,h2⟩:=h;rcases open_slice hu hx with⟨rfl,_⟩ | ⟨a,len,cap,m,f,D,Pl,rfl,_,hl,hm,bbd,_,he⟩
   ·exact⟨([]:List t.den),⟨none,0,[],rfl,aw _,λh=>by simp at h,λi v hv=>by simp at hv,rfl⟩,aL _,λ_ h=>by cases h⟩
   ·have aZ8:len<=m:=by rw[bbd];split <;> omega
    obtain⟨vs,l,k1,k2,k3,k4,k5⟩:=azZ (t:=t) (R:=cW E t) (G:=aAB t) (w:=E.w) (a:=a) (z:=t.size) (λc x h=>cW.size h) len λi hi=>by obtain⟨cs',g1,g2⟩:=he i (by omega);obtain⟨v,g3,g4⟩:=QE hg n e t h1 g2;obtain⟨g5,g6⟩:=aBs g1;refine⟨cs',v,g3,g4,λj hj=> ?_⟩;rw[<-g6 j (by omega),add_add,h2]
    refine⟨l,⟨some a,cap,vs,by rw[k2],by rw[k2];exact hl,λ_=>rfl,aWO hg k3,k4⟩,by rw[k2];omega,k5⟩
  ·rename_i k e k' t hu;simp only[aq,aPn]at h;obtain⟨rfl,h1,h2,h3⟩:=h;obtain⟨xs,m,rfl,_,hl,aOU,he⟩:=DataW.trod_array hu hx;obtain⟨l,k1,k2,k3⟩:=agn (t:=t) (R:=cW E t) (G:=aAB t) (z:=t.size) k cs (by rw[hl,h3]) λi hi=>by have:=he i hi;rw[bO (by omega),h2]at this;exact QE hg n e t h1 this
   exact⟨l,⟨k1,k2⟩,k1,k3⟩
  ·rename_i ty fs hu;simp only[aq,aPn]at h;obtain⟨h1,h2⟩:=h;obtain⟨xs,m,rfl,_,hl,aOU,he⟩:=DataW.trod_struct hu hx;obtain⟨v,k1,k2⟩:=We (E:=E) (cs:=cs) fs.toList 0 _ h1 (by rw[hl,h2];omega) λf hf t ht hc=>by
    obtain⟨i,hi,bdI⟩:=List.mem_iff_getElem.1 hf;have hi':i < fs.size:=by simpa using hi
    have:=he i f (by rw[<-bdI];simp[hi']);rw[bO (by omega)]at this;exact QE hg n f.type t ht this
   refine⟨v,?_,k2⟩;rwa[aF,aW (by omega)]at k1
  ·cases h
end
end Go.Ab
namespace Go.Ab
open Go.ChangeShapes Go.WideShapes Go.ChangeAt Go.RowKit Go.Deep
section
variable {H:Type} {enc:TypeId×Value->H} {P:Program} {base b0:Nat} {spare:Nat->Bool} {held:Bool} {E:Env} {W:World}
theorem auA{rd:TypeId->Ty->Bool}{fs:List Field}{off:Nat}{ty:Ty}(h:As P rd off fs ty=true):ty.agg=true:=by cases fs <;> cases ty <;> first | rfl | (simp[As]at h)
theorem aMm(hw:E.w=W)(hg:∀b,E.g b= .free){n:Nat}{t:TypeId}{ty:Ty}(h:C0 P n t ty=true){v:Value}{d:DataW H}{ps:List MemPlace}(Av:Value.okWide P W .any base t v)(hd:DataW.Trod enc P W b0 spare held t v d ps):
  ∃x:ty.den,VS E (.d ty x) v/\aAB ty x:=by
 subst hw;obtain⟨fuel,hf⟩:=hd;obtain⟨x,h1,h2⟩:=QE hg n t ty h hf;refine⟨x,⟨v.cells.toList,h1,?_⟩,h2⟩;cases n with
 |zero=>simp[C0]at h
 |succ n=>
  unfold C0 at h;split at h
  ·rename_i k k' hu;obtain⟨m,rfl⟩:=okWide_int hu Av;rfl
  ·rename_i hu;obtain⟨m,rfl⟩:=okWide_bool hu Av;rfl
  ·rename_i hu;obtain⟨m,rfl⟩:=okWide_string hu Av;rfl
  ·rename_i hu;obtain⟨a,len,cap,rfl⟩:=okWide_slice hu Av;rfl
  ·rename_i hu;simp only[Value.okWide,hu]at Av;obtain⟨cs,rfl,_⟩:=Av;show _=_;simp[Value.cells]
  ·rename_i fs hu;simp only[Value.okWide,hu]at Av;obtain⟨cs,rfl,_⟩:=Av;simp only[aq]at h;have:=auA h.1;simp only[aA.agg,this,fH,Value.cells,Array.toArray_toList]
  ·cases h
def DV:List Ty->Type
 |[]=>Unit
 |t::ts=>t.den×DV ts
def DV.iM:(ts:List Ty)->DV ts->List aA
 |[],_=> []
 |t::ts,x=> .d t x.1::DV.iM ts x.2
def DV.bb6:(ts:List Ty)->DV ts->Prop
 |[],_=>True
 |t::ts,x=>aAB t x.1/\DV.bb6 ts x.2
def wA(P:Program)(n:Nat):List TypeId->List Ty->Bool
 |[],[]=>true
 |T::Ts,t::ts=>C0 P n T t && wA P n Ts ts
 |_,_=>false
theorem ahI(hw:E.w=W)(hg:∀b,E.g b= .free){n:Nat}:∀ {Ts:List TypeId} {ts:List Ty} {vs:List Value} {ds:List (DataW H)} {ps:List MemPlace},wA P n Ts ts=true->
  (∀(j:Nat) t v,Ts[j]? =some t->vs[j]? =some v->Value.okWide P W .any base t v)->DataW.TrodAll enc P W b0 spare held Ts vs ds ps->∃x:DV ts,xQ E (DV.iM ts x) vs/\DV.bb6 ts x
 |[],[],vs,ds,ps,_,_,h=>by obtain⟨rfl,rfl,rfl⟩:=trodAll_nil h;exact⟨(),trivial,trivial⟩
 |T::Ts,[],_,_,_,h,_,_=>by simp[wA]at h
 |[],t::ts,_,_,_,h,_,_=>by simp[wA]at h
 |T::Ts,t::ts,vs,ds,ps,h,Av,hd=>by simp only[wA,aq]at h;obtain⟨v,vs',d,ds',p,q,rfl,rfl,rfl,h1,h2⟩:=trodAll_cons hd;obtain⟨x,k1,k2⟩:=aMm hw hg h.1 (Av 0 T v rfl rfl) h1;obtain⟨y,k3,k4⟩:=ahI hw hg h.2 (λj t v hj hv=>Av (j+1) t v (by simpa using hj) (by simpa using hv)) h2;exact⟨(x,y),⟨k1,k3⟩,⟨k2,k4⟩⟩
def xh(P:Program)(Ts:List TypeId):Bool:=Ts.all λt=>P.readableRec t && decide (t < P.types.size)
theorem LZ(hl:laidOutB P=true){W':World}(hb:Below W.heap.size W W')(sp:Nat->Bool):∀ {Ts:List TypeId} {vs:List Value} {ds:List (DataW H)} {ps:List MemPlace},xh P Ts=true->(∀p∈ps,p.block < W.heap.size)->(∀p∈ps,sp p.block=true)->
  DataW.TrodAll enc P W 0 (λ_=>true) true Ts vs ds ps->DataW.TrodAll enc P W' 0 sp true Ts vs ds ps
 |[],vs,ds,ps,_,_,_,h=>by obtain⟨rfl,rfl,rfl⟩:=trodAll_nil h;exact trodAll_mk0
 |T::Ts,vs,ds,ps,hr,gv,hs,h=>by obtain⟨v,vs',d,ds',p,q,rfl,rfl,rfl,h1,h2⟩:=trodAll_cons h;simp only[xh,iK,aq,ba]at hr;have h3:=WideElems.Trod_stays hl hr.1.1 hr.1.2 h1 (λx hx=>hb.same (gv x (bD.2 (.inl hx)))) (λx hx=>hs x (bD.2 (.inl hx)));exact⟨p,q,h3,LZ hl hb sp (by simpa[xh]using hr.2) (λx hx=>gv x (bD.2 (.inr hx))) (λx hx=>hs x (bD.2 (.inr hx))) h2,rfl⟩
end
theorem Jo{H:Type}{enc:TypeId×Value->H}{P:Program}{W:World}{b0:Nat}{spare:Nat->Bool}{held:Bool}:∀ {Ts:List TypeId} {vs:List Value} {ds:List (DataW H)} {ps:List MemPlace},DataW.TrodAll enc P W b0 spare held Ts vs ds ps->ds.length=Ts.length
 |[],_,_,_,h=>by obtain⟨_,rfl,_⟩:=trodAll_nil h;rfl
 |_::_,_,_,_,h=>by obtain⟨v,vs',d,ds',p,q,rfl,rfl,rfl,h1,h2⟩:=trodAll_cons h;simp[Jo h2]
theorem aqo{H:Type}{enc:TypeId×Value->H}{P:Program}{f:Func}{s:ChangeSpec}{W W':World}{args:Array Value}{v:Value}{ds gs:List (DataW H)}{before:List MemPlace}{tb:TypeId}
  (hl:laidOutB P=true) (asU:xh P f.params.toList=true) (ao1:s.vars=[]) (bby:f.resultTypes= #[tb]) (bbB:P.underlying tb=some .bool)
  (hW:DataW.Whole enc P f.params.toList s.vars false W args.toList ds gs before) (aVF:s.fn H (ds++gs)= {results:=[.lit (.bool true)],args:=ds}) (hb:Below W.heap.size W W') (hv:v= .bool true):
  s.post enc P f false true false false W args v W':=by
 subst hv;have hW':=hW;have hold:∀p∈before,(λb=>decide (b < W.heap.size)) p.block=true:=λp hp=>by simpa using hW.lt p hp
 obtain⟨p,q,hA,hV,rfl,hz,_⟩:=hW;rw[ao1]at hV;obtain⟨rfl,rfl⟩:=trodVars_none hV;have gv:∀x∈p,x.block < W.heap.size:=λx hx=>hW'.lt x (bD.2 (.inl hx))
 have K6:∀sp:Nat->Bool,(∀x∈p,sp x.block=true)->DataW.TrodAll enc P W' 0 sp true f.params.toList args.toList (s.fn H (ds++ [])).args p:=λsp hs=>by rw[aVF];exact LZ hl hb sp asU gv hs hA
 have bbs:∀(b:Nat) (sp:Nat->Bool) (hd:Bool),DataW.TrodAll enc P W' b sp hd f.resultTypes.toList ((Value.bool true).resultList f.resultTypes.size) (s.fn H (ds++ [])).results []:=λb sp hd=>by rw[aVF,bby];exact trodAll_mk1 (shut_bool bbB _)
 have U9:∀sp:Nat->Bool,DataW.TrodVars enc P W' sp s.vars (s.fn H (ds++ [])).vars []:=λsp=>by rw[aVF,ao1];rfl
 refine⟨ds,[],p++ [],[],p,[],hW',bbs _ _ _,K6 _ (λx hx=>hold x (bD.2 (.inl hx))),U9 _,hb.frame _,λh=>by cases h⟩
theorem IG{P:Program}{n:Nat}:∀ {Ts:List TypeId} {ts:List Ty},wA P n Ts ts=true->Ts.length=ts.length
 |[],[],_=>rfl
 |[],_::_,h=>by simp[wA]at h
 |_::_,[],h=>by simp[wA]at h
 |_::_,_::_,h=>by simp only[wA,aq]at h;simp[IG h.2]
theorem aCY{H:Type}{enc:TypeId×Value->H}{P:Program}{f:FuncId}{fn:Func}{en:Entry}{s:ChangeSpec}{tb:TypeId}(n:Nat)(tys:List Ty)(hD:qw P f en)(hf:P.funcs[f]? =some fn)(aYC:fn.body.isSome=true)(Au:(fn.name== "runtime.NumGoroutine")=false)
  (hl:laidOutB P=true) (aT0:wA P n fn.params.toList tys=true) (asU:xh P fn.params.toList=true) (ao1:s.vars=[]) (bby:fn.resultTypes= #[tb]) (bbB:P.underlying tb=some .bool)
  (aVF:∀ds:List (DataW H),ds.length=tys.length->s.fn H (ds++ [])= {results:=[.lit (.bool true)],args:=ds})
  (pT:∀x:DV tys,DV.bb6 tys x->∃r,en.run (DV.iM tys x) []=some r/\en.out (DV.iM tys x) [] r=⟨.d .bool true,[],[]⟩)
  {W:World} {base:Nat} {args:Array Value} {ds gs:List (DataW H)} {before:List MemPlace}
  (Av:∀(j:Nat) t v,fn.params[j]? =some t->args[j]? =some v->Value.okWide P W .any base t v)
  (hW:DataW.Whole enc P fn.params.toList s.vars false W args.toList ds gs before):
  Calls P f args W λe W'=>∃v,e= .returned v/\s.post enc P fn false true false false W args v W':=by
 have hW':=hW;obtain⟨p,q,hA,hV,_,_,_⟩:=hW;rw[ao1]at hV;obtain⟨rfl,rfl⟩:=trodVars_none hV;obtain⟨x,aV2,bae⟩:=ahI (E:=(fA []).env W (λ_=> .free) (λ_=>none)) rfl (λ_=>rfl) aT0 (λj t v hj hv=>Av j t v (by simpa using hj) (by simpa using hv)) hA;obtain⟨r,aJN,aes⟩:=pT x bae;have cM:(callFunc f args).run P W= .ok (.enter f args) W:=by
  unfold callFunc;obtain⟨c,hc⟩:=bP.1 aYC;have hname':¬fn.name= "runtime.NumGoroutine" :=by simpa using Au
  simp[hf,hname',hc]
 have hlen:ds.length=tys.length:=by rw[Jo hA,IG aT0]
 have ho:iG ((fA []).env W (λ_=> .free) (λ_=>none)):=λid ver fr c h=>by
  exfalso;cases id with
  |bh k=>simp[AS.env,AS.bQ,fA]at h
  |new i j=>simp[AS.env,AS.bQ,fA]at h
 rcases hD W (λ_=> .free) (λ_=>none) (DV.iM tys x) [] args.toList r aV2 ho aJN with⟨_,hc⟩ | ⟨v,w',hc,_⟩
 ·refine hc.mono λe w' he=> ?_
  obtain⟨v,rfl,g',β',h1,_,h2,_⟩:=he;rw[aes]at h1;refine⟨v,rfl,aqo hl asU ao1 bby bbB hW' (aVF ds hlen) ⟨h2.os,h2.tape,h2.output.1,h2.size,λb hb=>(h2.Sq b hb).2⟩ ?_⟩;obtain⟨cs,k1,k2⟩:=h1;have k1:cs=[.bool true]:=k1;subst k1;have k2: [Value.bool true]=[v]:=k2;simpa using k2.symm
 ·rw[show args.toList.toArray=args from Array.toArray_toList ..,cM]at hc;cases hc
end Go.Ab
namespace Go.Ab
abbrev W:=BitVec 32
def vC(w:W)(k:Nat):W:=w <<< (32 - k) ||| w >>> k
def aYa(a b c d:Int):W:=aZ 32 a <<< 24 ||| aZ 32 b <<< 16 ||| aZ 32 c <<< 8 ||| aZ 32 d
def be(l:List Int)(i:Nat):W:=aYa (l.getD (4*i) 0) (l.getD (4*i+1) 0) (l.getD (4*i+2) 0) (l.getD (4*i+3) 0)
structure St where
 a:W
 b:W
 c:W
 d:W
 e:W
 f:W
 g:W
 h:W
def St.l(s:St):List Int:=[vw s.a,vw s.b,vw s.c,vw s.d,vw s.e,vw s.f,vw s.g,vw s.h]
def bb9(x:W):W:=vC x 7^^^vC x 18^^^x >>> 3
def bca(y:W):W:=vC y 17^^^vC y 19^^^y >>> 10
def aUe(l:List W)(i:Nat):W:=l.getD (i - 16) 0+bb9 (l.getD (i - 15) 0)+l.getD (i - 7) 0+bca (l.getD (i - 2) 0)
def ext(l:List W):List W:=l++ [aUe l l.length]
def aOZ(m:List W):Nat->List W
 | 0=>m
 |n+1=>ext (aOZ m n)
def words(b:List Int):List W:=(List.range 16).map (be b)
def sched(b:List Int):List W:=aOZ (words b) 48
def kl:List Nat:=[0x428a2f98,0x71374491,0xb5c0fbcf,0xe9b5dba5,0x3956c25b,0x59f111f1,0x923f82a4,0xab1c5ed5,0xd807aa98,0x12835b01,0x243185be,0x550c7dc3,0x72be5d74,0x80deb1fe,0x9bdc06a7,0xc19bf174,0xe49b69c1,0xefbe4786,0x0fc19dc6,0x240ca1cc,0x2de92c6f,0x4a7484aa,0x5cb0a9dc,0x76f988da,0x983e5152,0xa831c66d,0xb00327c8,0xbf597fc7,0xc6e00bf3,0xd5a79147,0x06ca6351,0x14292967,0x27b70a85,0x2e1b2138,0x4d2c6dfc,0x53380d13,0x650a7354,0x766a0abb,0x81c2c92e,0x92722c85,0xa2bfe8a1,0xa81a664b,0xc24b8b70,0xc76c51a3,0xd192e819,0xd6990624,0xf40e3585,0x106aa070,0x19a4c116,0x1e376c08,0x2748774c,0x34b0bcb5,0x391c0cb3,0x4ed8aa4a,0x5b9cca4f,0x682e6ff3,0x748f82ee,0x78a5636f,0x84c87814,0x8cc70208,0x90befffa,0xa4506ceb,0xbef9a3f7,0xc67178f2]
def kw(i:Nat):W:=BitVec.ofNat 32 (kl.getD i 0)
def Te:List Int:=kl.map λ(n:Nat)=>(n:Int)
def lk(s:St)(k w:W):St:=
 let t:=s.h+(vC s.e 6^^^vC s.e 11^^^vC s.e 25)+(s.g^^^s.e &&& (s.f^^^s.g))+k+w
 let r:=vC s.a 2^^^vC s.a 13^^^vC s.a 22
 let most:=s.a &&& s.b ||| s.c &&& (s.a ||| s.b)
 ⟨t+r+most,s.a,s.b,s.c,s.d+t,s.e,s.f,s.g⟩
def rounds(ws:List W)(s:St):Nat->St
 | 0=>s
 |n+1=>lk (rounds ws s n) (kw n) (ws.getD n 0)
def Tl(s:St)(b:List Int):St:=
 let v:=rounds (sched b) s 64
 ⟨v.a+s.a,v.b+s.b,v.c+s.c,v.d+s.d,v.e+s.e,v.f+s.f,v.g+s.g,v.h+s.h⟩
def rW:St:=⟨0x6a09e667,0xbb67ae85,0x3c6ef372,0xa54ff53a,0x510e527f,0x9b05688c,0x1f83d9ab,0x5be0cd19⟩
def BC:Nat->St->List Int->St
 | 0,s,_=>s
 |n+1,s,l=>BC n (Tl s (l.take 64)) (l.drop 64)
def blocks(s:St)(l:List Int):St:=BC (l.length / 64) s l
def aZV(w:W)(k:Nat):Int:=vw ((w >>> (24 - 8*k)).setWidth 8)
def aPB(w:W):List Int:=[aZV w 0,aZV w 1,aZV w 2,aZV w 3]
def aRU(s:St):List Int:=aPB s.a++aPB s.b++aPB s.c++aPB s.d++aPB s.e++aPB s.f++aPB s.g++aPB s.h
def iX(n:Int):List Int:=[n / 2^56%256,n / 2^48%256,n / 2^40%256,n / 2^32%256,n / 2^24%256,n / 2^16%256,n / 2^8%256,n%256]
def AL(n:Nat):Nat:=(119 - n%64)%64
def pad(b:List Int):List Int:=b++128::(ab (AL b.length) 0++iX (8*b.length))
def aWW(b:List Int):List Int:=aRU (blocks rW (pad b))
def og(parts:List (List Int)):List Int:=parts.flatMap λp=>iX p.length++p
def T8(name:List Int)(parts:List (List Int)):List Int:=iX name.length++name++og parts
def tag(name:List Int)(parts:List (List Int)):List Int:=aWW (T8 name parts)
theorem awY(b:List Int):(aWW b).length=32:=rfl
theorem bY(n:Int):(iX n).length=8:=rfl
theorem va(l:List W):(ext l).length=l.length+1:=by simp[ext]
theorem Bl(m:List W):∀n,(aOZ m n).length=m.length+n
 | 0=>rfl
 |n+1=>by rw[aOZ,va,Bl m n];omega
theorem eQ(b:List Int):(words b).length=16:=by simp[words]
theorem Hd:∀(n:Nat) (s:St) (a b:List Int),a.length=64*n->∀m,BC (n+m) s (a++b)=BC m (BC n s a) b
 | 0,s,a,b,h,m=>by have:a=[]:=bB (by omega);subst this;simp[BC]
 |n+1,s,a,b,h,m=>by rw[show n+1+m=(n+m)+1 by omega,BC,BC];rw[iP (by omega),List.drop_append_of_le_length (by omega)];exact Hd n _ _ _ (by simp;omega) m
theorem Kx(s:St)(a b:List Int)(h:a.length%64=0):blocks s (a++b)=blocks (blocks s a) b:=by
 unfold blocks;have e:(a++b).length / 64=a.length / 64+b.length / 64:=by simp;omega
 rw[e];exact Hd _ _ _ _ (by omega) _
theorem He(s:St)(l:List Int)(h:64<=l.length):blocks s l=blocks (Tl s (l.take 64)) (l.drop 64):=by unfold blocks;rw[show l.length / 64=(l.drop 64).length / 64+1 by simp;omega];rfl
theorem Em(s:St)(l:List Int)(h:l.length < 64):blocks s l=s:=by unfold blocks;rw[show l.length / 64=0 by omega];rfl
def aiy(x:Int):Prop:=0<=x/\x < 256
def Bytes(l:List Int):Prop:=∀x∈l,aiy x
theorem aPC(w:BitVec 8):aiy (vw w):=⟨Ue w,aOc w⟩
theorem aiy.vw{x:Int}(h:aiy x):x=vw (aZ 8 x):=by rw[gK];obtain⟨h1,h2⟩:=h;omega
theorem atN(s:St):Bytes (aRU s):=by intro x hx;simp only[aRU,aPB,bD,cj,List.not_mem_nil,or_false]at hx;rcases hx with((((((hx | hx) | hx) | hx) | hx) | hx) | hx) | hx <;> rcases hx with rfl | rfl | rfl | rfl <;> exact aPC _
theorem aBn(b:List Int):Bytes (aWW b):=atN _
theorem Dn(n:Int):Bytes (iX n):=by intro x hx;simp only[iX,cj,List.not_mem_nil,or_false]at hx;rcases hx with rfl | rfl | rfl | rfl | rfl | rfl | rfl | rfl <;> exact⟨by omega,by omega⟩
end Go.Ab
end
