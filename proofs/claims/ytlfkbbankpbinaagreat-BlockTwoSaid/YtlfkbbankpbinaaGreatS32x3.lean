/-
  Made short by a program of mine (wip/tools/mini.py).
-/
import Derived.Test.YtlfkbbankpbinaaGreatS32x2
import Derived.Scope
import Derived.Laws.Externs
import Derived.KernelRfl
import Derived.ProofKit
import Derived.OpenShut
import Derived.Deep.Slices
import Derived.Carry
set_option linter.unusedVariables false
set_option linter.unusedSimpArgs false
set_option maxRecDepth 100000
set_option synthInstance.maxSize 5000
open Go renaming IntKind->kF,FuncId->fR,Operand->bJ,Program->aN,World->bU
open List renaming replicate->ai
open BitVec renaming ofInt->bh
open UInt8 renaming ofNat->fy
open Nat renaming beq->iG
open Go.World renaming cell?->eP
open Go.Sem renaming run_bind->cd,run_pure->dY
open Go.Result renaming andThen_ok->bH
open OfNat renaming ofNat->dA
open Int renaming toNat->ab
open Option renaming some->al,none->aJ
open Bool renaming true->aT,false->aR
noncomputable section
namespace Go.Ab
section
variable {P:aN} {Γ:pZ} {an:wK} {C:Ctx}
open Classical in
def aDF(p:Prop):Option Unit:=if p then al () else aJ
theorem aft{p:Prop}(h:aDF p=al ()):p:=by
 unfold aDF at h;split at h
 ·assumption
 ·cases h
theorem avl{p:Prop}(h:p):aDF p=al ():=by unfold aDF;rw[if_pos h]
theorem aag{X R:Type}{S:X->Prop}{k:X->Option R}{x:Option R}(hn:∃y,S y)(h:∀y,S y->k y=x):QP S k=x:=by
 unfold QP;cases x with
 |none=>exact Ai λ⟨r,⟨y,hy⟩,hr⟩=>by have:=h y hy;rw[hr y hy]at this;cases this
 |some r=>
  have hx:∃r,(∃x,S x)/\∀x,S x->k x=al r:=⟨r,hn,h⟩;rw[xq hx];obtain⟨⟨y,hy⟩,h1⟩:=hx.choose_spec;have:=h1 y hy;rw[h y hy]at this;exact this.symm
def akO(P:aN)(Γ:pZ)(an:wK)(N:Nat)(b:Code):Prop:=∀le,an.gV (dU b)=al le->(le.set=aJ->∀s x,le.run s=al x->∃n,PG (norm P (an.loops (dU b))) (λe=>norm P (an.outs (dU b) (aeT e))) (ev P Γ an N b) n s (λe s'=>al (e,s'))=(le.out x).eval)/\∀S,le.set=al S->∀s,(∃x,S s x)->∃n,PG (norm P (an.loops (dU b))) (λe=>norm P (an.outs (dU b) (aeT e))) (ev P Γ an N b) n s (λe s'=>aDF (∃x,S s x/\(le.out x).eval=al (e,s')))=al ()
def mw(P:aN)(Γ:pZ)(an:wK)(N:Nat):List Code->Prop
 |[]=>True
 |b::l=>akO P Γ an N b/\mw P Γ an N l
theorem mw.append{N:Nat}:∀ {l l':List Code},mw P Γ an N (l++l')->mw P Γ an N l/\mw P Γ an N l'
 |[],_,h=>⟨trivial,h⟩
 |_::_,_,⟨h1,h2⟩=>⟨⟨h1,(mw.append h2).1⟩,(mw.append h2).2⟩
theorem rZ{c:Code}{b:Frame}{a:Act}{k:List Item}{cs:List Frame}{w:bU}:step P (lone (b.atR a (.code (.scope c)::k)) cs w)= .next (lone (b.atR a (.code c:: .inScope c::k)) cs w):=
 step_lone_go (by simp[stepG,stepG.exec,Frame.atR])
theorem Xa{c:Code}{b:Frame}{a:Act}{k:List Item}{cs:List Frame}{w:bU}:step P (lone (b.atR a (.inScope c::k)) cs w)= .next (lone (b.atR a k) cs w):=
 step_lone_go (by simp[stepG,stepG.exec,Frame.atR])
theorem Hb{F:Fence}{n:Nat}{Q:Exit->Act->bU->Prop}{a:Act}{w:bU}{c:Code}(h:c.wpIn F n P (Exit.noGoto Q) a w):(Code.scope c).wpIn F n P Q a w:=by
 intro b k cs aED hb hr;have h0:(lone (b.atR a (.code (.scope c)::k)) cs w).fenced P F:=fenced_calm hb hr rfl;obtain⟨e,a1,w1,hq,hx⟩:=h b (.inScope c::k) cs aED hb hr;cases e with
 |normal=>exact⟨.normal,a1,w1,hq,.head h0 rZ (StepsIn.trans hx (.one (fenced_calm hb hr rfl) Xa))⟩
 |exit i=>
  have e1:exitTo i (.inScope c::k)=exitTo i k:=by simp[exitTo]
  exact⟨.exit i,a1,w1,hq,λk' hk=> .head h0 rZ (hx.1 k' (e1.trans hk)),λh1 hk=>let⟨k2,h2,h3⟩:=hx.2 h1 (e1.trans hk);⟨k2,h2,.head h0 rZ h3⟩⟩
 |goto l=>exact hq.elim
 |ret=>exact⟨_,a1,w1,hq,.of_steps (.one h0 rZ) hx⟩
 |panic ch=>exact⟨_,a1,w1,hq,.of_steps (.one h0 rZ) hx⟩
 |outgrown=>exact⟨_,a1,w1,hq,.of_steps (.one h0 rZ) hx⟩
theorem C4{rd:Option Nat}{m:Nat}{R:Type}{r:R}{b:Code}{nrm:AS->Out AS}{nrmX:Exit->AS->Out AS}{body:AS->(Exit->AS->Option R)->Option R}
  (hn:∀s s1 a w,gT C s a w->(nrm s).eval=al s1->gT C s1 a w) (hx:∀e s s1 a w,gT C s a w->(nrmX e s).eval=al s1->gT C s1 a w)
  (hb:∀(s:AS) (a:Act) (w:bU) (k:Exit->AS->Option R) (Q:Exit->Act->bU->Prop),gT C s a w->body s k=al r->(∀e s' a' w',gT C s' a' w'->k e s'=al r->Q e a' w')->b.wpIn (Fr rd) m P Q a w)
  {k:Exit->AS->Option R} {Q:Exit->Act->bU->Prop} (hk:∀e s' a' w',gT C s' a' w'->k e s'=al r->Q e a' w'):
  ∀(n:Nat) (s:AS) (a:Act) (w:bU),gT C s a w->PG nrm nrmX body n s k=al r->Code.roundsIn (Fr rd) m P b Q n a w
 | 0,s,a,w,_,h=>by simp[PG]at h
 |n+1,s,a,w,hs,h=>by
  simp only[PG]at h;rw[roundsIn_succ];refine hb s a w _ _ hs h λe s' a' w' hs' aFC=> ?_
  have exits:∀e,(nrmX e s').run (k e)=al r->Q e a' w':=λe aFC=>by obtain⟨s1,h1,h2⟩:=gS.1 aFC;exact hk e s1 a' w' (hx e s' s1 a' w' hs' h1) h2
  cases e with
  |normal=>
   simp only at aFC;obtain⟨s1,h1,h2⟩:=gS.1 aFC;exact C4 hn hx hb hk n s1 a' w' (hn s' s1 a' w' hs' h1) h2
  |_=>exact exits _ aFC
theorem Lh{rd:Option Nat}{n:Nat}(hC:C.ok){j:Option RK}{run: {R:Type}->(Exit->AS->Option R)->Option R}{c:Code}{a:Act}{w:bU}
  (pz:∀ {R:Type} {r:R} (k:Exit->AS->Option R) (Q:Exit->Act->bU->Prop),run k=al r->(∀e s' a' w',gT C s' a' w'->k e s'=al r->Q e a' w')->c.wpIn (Fr rd) n P Q a w)
  {R:Type} {r:R} {k:Exit->AS->Option R} {Q:Exit->Act->bU->Prop} (h:NQ P j run k=al r) (hk:∀e s' a' w',gT C s' a' w'->k e s'=al r->Q e a' w'):c.wpIn (Fr rd) n P Q a w:=by
 cases j with
 |none=>exact pz k Q h hk
 |some j=>
  simp only[NQ]at h;cases hx:run λe s=>(norm P j.an s).run (j.aEJ e) with
  |none=>rw[hx]at h;cases h
  |some x=>
   rw[hx]at h;simp only[aq]at h;obtain⟨y,hy,h⟩:=gS.1 h;refine pz _ Q hx λe s' a' w' hs' hK=> ?_
   obtain⟨s1,h1,h2⟩:=gS.1 hK;have he:=j.ok _ _ _ h2;rw[hy,az]at he;subst he;exact hk e s1 a' w' (oK hC hs' h1) h
theorem Inv.am6{g:Nat->lQ}{β:Id->Option Pl}{s:AS}{a:Act}{w:bU}(h:Inv C g β s a w):
  Inv C (na g w.heap.size (.own .eM 0)) β s {a with defers:=tZ w.heap.size::a.defers} (w.alloc (.deferred (al []))):=by
 have ht:=Trans.alloc w g (.deferred (al [])) (.own .eM 0);have he:cU (s.env w g β) (s.env (w.alloc (.deferred (al []))) (na g w.heap.size (.own .eM 0)) β):=cU.same ht;have h1:=h.step rfl ht he (iP.same h.bM he λi ver fr c pl hi hp=>by
  have hl:=((h.bM i ver fr c hi).label (pl:=pl) hp).1;have hl':pl.b < w.heap.size:=hl;exact⟨ql w _ hl',fG _ _ _ au⟩)
 refine⟨⟨dr.2 ⟨λhm=> ?_,h1.defers.1⟩,λd hd=> ?_⟩,h1.size,h1.cr,h1.bM,h1.trans,h1.le⟩
 ·obtain⟨D,e,_,hh,_⟩:=h.defers.2 _ hm;have e:Deferred.mk (.collected w.heap.size) #[]=Deferred.mk (.collected D) #[]:=e;injection e with e _
  injection e with e
  have:=(bN.1 hh).1;omega
 ·rcases cg.1 hd with rfl | hd
  ·exact⟨w.heap.size,rfl,h.trans.size,sE w _,fP _ _ _⟩
  ·exact h1.defers.2 d hd
theorem Ix:∀l:List aD,(Kr l).list=l
 |[]=>rfl
 |a::l=>by simp[Kr,aD.list,Ix l]
theorem B2(bu:List Nat):∀(i:Nat) (l:List aD),(eV bu i l).length=l.length
 |_,[]=>rfl
 |i,_::l=>by simp[eV,B2 bu (i+1) l]
theorem HD(bu:List Nat):∀(l:List aD) (i j:Nat),(eV bu i l).getD j .undef=l.getD j .undef\/(eV bu i l).getD j .undef= .undef
 |[],_,_=> .inl rfl
 |v::l,i,0=>by
  simp only[eV,lO];split
  ·exact .inl rfl
  ·exact .inr rfl
 |v::l,i,j+1=>by simpa[eV]using HD bu l (i+1) j
theorem Inv.frame{g:Nat->lQ}{β:Id->Option Pl}{s:AS}{a:Act}{w:bU}(h:Inv C g β s a w)(bu:List Nat):Ct (s.env w g β) (Kr (eV bu 0 s.cr)) a.tmps:=by
 refine⟨by rw[Ix,B2,h.size],λi=> ?_⟩;rw[Ix];rcases HD bu s.cr 0 i with e | e
 ·rw[e];exact h.cr i
 ·rw[e];exact VS.undef
theorem aAr(a:Act)(q:Nat)(x:Value):(a.put (al q) x).put (al q) (a.tmps.getD q undef)=a:=by
 obtain⟨t,d⟩:=a;simp only[Act.put];congr 1;apply qR;intro i;simp only[ek,Array.size_setIfInBounds];by_cases h:q=i
 ·subst h;by_cases hl:q < t.size
  ·simp[hl]
  ·simp[hl]
 ·simp[h]
theorem Mh{g:Nat->lQ}{β:Id->Option Pl}{s s':AS}{a:Act}{w:bU}{q p:Nat}(h:Inv C g β s a w)(he:s.Oj q p=al s'):∃pl r,β (.bG 0)=al pl/\(s.env w g β).cur (.bG 0) 0/\w.heap[pl.b]? =al (.loop r)/\af6 q r.state r.pending/\
  ∀r':Loop,r'.params=r.params->r'.assign=r.assign->r'.body=r.body->r'.tmps=r.tmps->af6 p r'.state r'.pending->Inv C g β s' a (w.putObj pl.b (.loop r')):=by
 unfold AS.Oj at he;split at he;rotate_left
 ·cases he
 rename_i c f q' cO;split at he;rotate_left
 ·cases he
 rename_i hq;obtain rfl:q=q':=fh hq;obtain rfl:=aO he;obtain⟨pl,r,hp,hb,hg,⟨q1,q2,q3⟩,ary,nG⟩:=h.bM (.bG 0) 0 aR _ cO;have hp:β (.bG 0)=al pl:=hp;have hb:w.heap[pl.b]? =al (.loop r):=hb
 have hg:g pl.b= .own (.id (.bG 0)) 0:=hg;refine⟨pl,r,hp,⟨aR,_,cO⟩,hb,nG,λr' e1 e2 e3 e4 hs'=> ?_⟩;have jb:pl.b < w.heap.size:=(bN.1 hb).1;have hother:∀b',b'≠pl.b->(w.putObj pl.b (.loop r')).heap[b']? =w.heap[b']? :=λb' gJ=>World.putObj_heap_other gJ
 have ht:Trans w (w.putObj pl.b (.loop r')) g g:=by
  refine⟨rfl,rfl,⟨rfl,aF _⟩,by simp,λb' _=> ?_⟩;by_cases he:b'=pl.b
  ·subst he;rw[hg];exact⟨.inr ⟨_,0,rfl,aF _⟩,λ_ _ hh=>au⟩
  ·rw[hother b' he];cases QR:g b' with
   |free=>exact⟨rfl,rfl⟩
   |own o' k=>cases o' with
    |eM=>exact⟨rfl,rfl⟩
    |id i'=>exact⟨.inr ⟨i',k,rfl,aF _⟩,λoff v _ hv=>by simpa only[eP,hother b' he]using hv⟩
 have hle:cU (s.env w g β) ((s.aZ (.bG 0) (.obj 0 aR (.yH c f p))).env (w.putObj pl.b (.loop r')) g β):=cU.aZ cO (aF _) ht (λ_ _=>rfl) (λ_=>rfl);refine h.step (dv _ _ _) ht hle (iP.aZ h.bM (by rw[cO];simp) hle (λ_ _=>rfl) (λi ver fr c pl2 hi S0 QT=>⟨hother _ (h.apart hg hi S0 QT),rfl⟩) ?_ (Lo cO));exact⟨pl,r',hp,World.putObj_heap_same jb,hg,⟨e1.trans q1,e2.trans q2,e3.trans q3⟩,by rw[e4];exact ary.mono hle,hs'⟩
theorem Q6{n:Nat}(hΓ:Sound P Γ){f:bJ}{ps:Array Tmp}{as b:Code}{R:Type}{r:R}{k:Exit->AS->Option R}{Q:Exit->Act->bU->Prop}{s:AS}{a:Act}{w:bU}(h:gT C s a w)
  (he:Dn P Γ an s f ps as b k=al r) (hk:∀e s' a' w',gT C s' a' w'->k e s'=al r->Q e a' w'):(Code.rangeFunc f ps as b).wpIn (Fr aJ) n P Q a w:=by
 obtain⟨g,β,h⟩:=h;unfold Dn at he;split at he;rotate_left
 ·cases he
 rename_i y bu h0 caps aKL aLw hF;split at he;rotate_left
 ·cases he
 rename_i en aFo aix;simp only[av]at aFo;obtain⟨⟨⟨aoG,auj⟩,hq⟩,jb⟩:=aFo;have hd:=(hΓ _ _ _ aix).1 jb;have hdR:=(hΓ _ _ _ aix).2.2 jb;generalize aIp:ps.getD 0 0=q at auj hq he aix;have hq:q < s.cr.length:=dG hq;obtain⟨vs,hy,aEF⟩:=SM (hF▸h.ev f);refine wpIn_rangeFunc λfn _=> ?_
 have cO:=run_enterLoop_outer (P:=P) (w:=w) fn a.tmps ps as b;have i1:=h.am6;generalize aKT:w.alloc (.deferred (al []))=w1 at i1 cO;have rM:w1.heap.size=w.heap.size+1:=by rw[<-aKT];exact World.size_alloc ..
 generalize aIq:({state:= .ready,pending:=aJ,fn,tmps:=a.tmps,params:=ps,assign:=as,body:=b,defers:=w.heap.size}:Loop)=r0 at cO;have ht:=Trans.alloc w1 (na g w.heap.size (.own .eM 0)) (.loop r0) (.own (.id (.new q 0)) 0);obtain⟨i2,e2⟩:=i1.Nl auj (c:= .yH ⟨y,ps,as,b⟩ (Kr (eV bu 0 s.cr)) 0) (p:=al ⟨w1.heap.size,0⟩) ht (λb hb=>⟨ql w1 _ hb,fG _ _ _ au⟩) (λhe=>
  ⟨⟨w1.heap.size,0⟩,r0,jX _ _ _,sE w1 _,fP _ _ _,by subst aIq;exact⟨rfl,rfl,rfl⟩,by subst aIq;exact(i1.frame bu).mono he,by subst aIq;exact⟨rfl,rfl⟩⟩)
 generalize na (na g w.heap.size (.own .eM 0)) w1.heap.size (.own (.id (.new q 0)) 0)=g2 at i2 e2;generalize hβ2:Ge β (.new q 0) (al ⟨w1.heap.size,0⟩)=β2 at i2 e2;generalize arA:w1.alloc (.loop r0)=w2 at i2 e2 cO;have aJW:VS ((s.born q [.obj 0 aR (.yH ⟨y,ps,as,b⟩ (Kr (eV bu 0 s.cr)) 0)]).env w2 g2 β2) (.yl (.new q 0) 0) (.func (.yield w1.heap.size) #[] #[]):=by refine⟨[.func (.yield w1.heap.size) #[] #[]],?_,rfl⟩;simp only[V];exact⟨_,rfl,px auj _ _ _ _,λ_=>⟨⟨w1.heap.size,0⟩,by rw[<-hβ2];exact jX _ _ _,rfl⟩⟩
 have i3:=i2.put (al q) aJW;have hF2:(s.born q [.obj 0 aR (.yH ⟨y,ps,as,b⟩ (Kr (eV bu 0 s.cr)) 0)]).ev f= .fn h0 caps:=by rw[<-hF];cases f <;> rfl
 obtain⟨vs2,aEH,aIC⟩:=SM (hF2▸i2.ev f);have Pz:vs2=vs:=by
  have e:Value.func (.func h0) #[] vs2.toArray= .func (.func h0) #[] vs.toArray:=by rw[<-aEH,<-hy];cases f <;> rfl
  injection e with _ _ e
  simpa using bE Array.toList e
 subst Pz;have Hx:wL (((s.born q [.obj 0 aR (.yH ⟨y,ps,as,b⟩ (Kr (eV bu 0 s.cr)) 0)]).put (al q) (.yl (.new q 0) 0)).env w2 g2 β2) (.yl (.new q 0) 0::caps.list) (.func (.yield w1.heap.size) #[] #[]::vs2):=by rw[aam];exact⟨aJW,Zv aIC⟩
 have aJA:∀args:Array Value,(callFunc h0 args).run P w2= .ok (.enter h0 args) w2:=λargs=>by
  unfold af8 at aoG;split at aoG
  ·rename_i fn' aCW;simp only[av,ct,gv]at aoG;obtain⟨c,hc⟩:=bA.1 aoG.2;unfold callFunc;simp[aCW,aoG.1,hc]
  ·cases aoG
 have post:∀ {s3:AS} {w3:bU} {v:Value},gT C s3 ((({a with defers:=tZ w.heap.size::a.defers}:Act).put (al q) (.func (.yield w1.heap.size) #[] #[])).put aJ v) w3->∀ {c:tQ} {fr:aD} {p:Nat},s3.bS (.new q 0)=al (.obj 0 aR (.yH c fr p))->s3.slot q= .yl (.new q 0) 0->p≠1->
   ∃jump w4,(Instr.endLoop w1.heap.size).run P w3= .ok jump w4/\af6 p (if p=0 then .ready else .done) jump/\gT C ((s3.aZ (.new q 0) .dead).put (al q) .undef) {a with defers:=tZ w.heap.size::a.defers} w4:=by
  intro s3 w3 v aDc c fr p SY aue aEz;obtain⟨g3,β3,i5⟩:=aDc;obtain⟨pl,r3,hp,hb,hg,_,_,nG⟩:=i5.bM (.new q 0) 0 aR _ SY;have hp:β3 (.new q 0)=al pl:=hp;have hb:w3.heap[pl.b]? =al (.loop r3):=hb
  have hg:g3 pl.b= .own (.id (.new q 0)) 0:=hg;have aBB:=i5.cr q;rw[aue]at aBB;obtain⟨cs,hV,hO⟩:=aBB;simp only[V]at hV;obtain⟨l,rfl,_,fH⟩:=hV;obtain⟨pl',hp',rfl⟩:=fH ⟨aR,_,SY⟩;have hp':β3 (.new q 0)=al pl':=hp';rw[hp]at hp';obtain rfl:pl=pl':=by simpa using hp'
  have hO: [Value.func (.yield pl.b) #[] #[]]=[((({a with defers:=tZ w.heap.size::a.defers}:Act).put (al q) (.func (.yield w1.heap.size) #[] #[])).put aJ v).tmps.getD q undef]:=hO;have NI:q < ({a with defers:=tZ w.heap.size::a.defers}:Act).tmps.size:=by show q < a.tmps.size;rw[h.size];exact hq
  have hO2:((({a with defers:=tZ w.heap.size::a.defers}:Act).put (al q) (.func (.yield w1.heap.size) #[] #[])).put aJ v).tmps.getD q undef= .func (.yield w1.heap.size) #[] #[]:=by show((({a with defers:=tZ w.heap.size::a.defers}:Act).put (al q) (.func (.yield w1.heap.size) #[] #[]))).tmps.getD q undef=_;rw[agO,if_pos ⟨rfl,NI⟩]
  rw[hO2]at hO;have hl:pl.b=w1.heap.size:=by simpa using hO
  have aFm:r3.state≠ .busy:=by
   match p,nG,aEz with
   | 0,nG,_=>rw[nG.1];simp
   | 1,_,h=>exact absurd rfl h
   | 2,nG,_=>rw[nG.1];simp
   |_+3,nG,_=>rw[nG.1];simp
  have jb:pl.b < w3.heap.size:=(bN.1 hb).1;refine⟨r3.pending,_,by rw[<-hl];exact run_endLoop hb aFm,?_,?_⟩
  ·match p,nG,aEz with
   | 0,nG,_=>exact⟨rfl,nG.2⟩
   | 1,_,h=>exact absurd rfl h
   | 2,nG,_=>exact⟨rfl,nG.2⟩
   |_+3,nG,_=>exact⟨rfl,nG.2⟩
  ·have i6:=i5.kill SY hg (w':=w3.putObj pl.b (.loop {r3 with state:= .exhausted})) rfl rfl ⟨rfl,aF _⟩ (by simp) (λb' hb'=>World.putObj_heap_other hb');have i7:=i6.put (al q) (v:= .undef) (x:=({a with defers:=tZ w.heap.size::a.defers}:Act).tmps.getD q undef) VS.undef;have e:=aAr {a with defers:=tZ w.heap.size::a.defers} q (.func (.yield w1.heap.size) #[] #[]);refine⟨na g3 pl.b .free,β3,?_⟩;simp only[Act.put]at e i7;rw[e]at i7;exact i7
 generalize hK:(λs3:AS=>(match s3.bS (.new q 0),s3.slot q with
   |some (.obj 0 aR (.yH _ _ p)),.yl (.new q' 0) 0=>match iG q' q,p with
    |true,0=>k .normal ((s3.aZ (.new q 0) .dead).put (al q) .undef)
    |true,2=>k .ret ((s3.aZ (.new q 0) .dead).put (al q) .undef)
    |true,i+3=>k (.exit i) ((s3.aZ (.new q 0) .dead).put (al q) .undef)
    |_,_=>aJ
   |_,_=>aJ))=K at he
 have hc:Calls P h0 (.func (.yield w1.heap.size) #[] #[]::vs2).toArray w2 λe w'=>∃v,e= .returned v/\∃s3,gT C s3 ((({a with defers:=tZ w.heap.size::a.defers}:Act).put (al q) (.func (.yield w1.heap.size) #[] #[])).put aJ v) w'/\K s3=al r:=by
  unfold AS.aBg at he;split at he
  ·exact(O4 (o:= {(default:Oper) with dst:=aJ}) i3 hdR Hx he).2
  ·obtain⟨s3,aBo,he⟩:=gS.1 he;unfold AS.call at aBo;obtain⟨r2,h1,h2⟩:=ax.1 aBo;obtain⟨g',i4,e4,_,f1⟩:=fi r2.2 i3;obtain⟨x,hx,k1,k2,key⟩:=NA (o:= {(default:Oper) with dst:=aJ}) i4 (As _ _) (BU rfl i3.bM e4 _ _ _ r2 Hx h1 f1) h2;rcases hd _ _ _ _ _ _ _ k1 k2 hx with⟨_,hc⟩ | ⟨v,w',aG8,_⟩
   ·exact hc.mono λe w' ⟨v,aeA,ha⟩=>⟨v,aeA,s3,key v w' ha,he⟩
   ·rw[aJA]at aG8;cases aG8
 refine⟨w1.heap.size,[tZ w.heap.size],w2,⟨.fn (.func h0) vs2.toArray,#[.func (.yield w1.heap.size) #[] #[]]⟩,w2,h0,(.func (.yield w1.heap.size) #[] #[]::vs2).toArray,w2,?_,?_,λ_ _=>trivial,?_,λh=>(by cases h),?_⟩
 ·rw[rM];exact cO
 ·have e:resolve a.eval (rangeCall f w1.heap.size) 0=Deferred.ofValue (a.eval f) #[.func (.yield w1.heap.size) #[] #[]]:=by simp[resolve,rangeCall,Act.eval]
  rw[e,hy];simp[Deferred.ofValue]
 ·have e:(#[.func (.yield w1.heap.size) #[] #[]]++vs2.toArray:Array Value)=(.func (.yield w1.heap.size) #[] #[]::vs2).toArray:=by simp
  rw[<-aJA,<-e];rfl
 ·have h1:CallsIn (Fr aJ) (n - 1) P h0 (.func (.yield w1.heap.size) #[] #[]::vs2).toArray w2 _:=callsIn_wide.2 hc;refine h1.mono λe w3 ⟨v,aeA,s3,aDc,he⟩=> ?_
  subst aeA;subst hK;show ∃jump w4,_/\_;simp only at he;split at he;rotate_left
  ·cases he
  rename_i c3 fr3 p3 q' SY aue;split at he
  ·rename_i hq';obtain rfl:q'=q:=fh hq';obtain⟨jump,w4,at6,nG,aFT⟩:=post aDc SY aue fb;obtain⟨_,rfl⟩:=nG;exact⟨aJ,w4,at6,hk _ _ _ _ aFT he⟩
  ·rename_i hq';obtain rfl:q'=q:=fh hq';obtain⟨jump,w4,at6,nG,aFT⟩:=post aDc SY aue fb;obtain⟨_,rfl⟩:=nG;exact⟨_,w4,at6,wpIn_ret (hk _ _ _ _ aFT he)⟩
  ·rename_i i hq';obtain rfl:q'=q:=fh hq';obtain⟨jump,w4,at6,nG,aFT⟩:=post aDc SY aue (by simp);obtain⟨_,rfl⟩:=nG;exact⟨_,w4,at6,wpIn_exit (hk _ _ _ _ aFT he)⟩
  ·cases he
theorem ng{rd:Option Nat}{n:Nat}(hm:P.follows .mixedOrders=aT)(hΓ:Sound P Γ)(hC:C.ok){N:Nat}(aoL:rd=aJ\/an.qz.isSome=aT):∀(c:Code),mw P Γ an N (jC c)->∀ {R:Type} {r:R} (s:AS) (a:Act) (w:bU) (k:Exit->AS->Option R) (Q:Exit->Act->bU->Prop),
  gT C s a w->ev P Γ an N c s k=al r->(∀e s' a' w',gT C s' a' w'->k e s'=al r->Q e a' w')->c.wpIn (Fr rd) n P Q a w
 | .skip,hL,_,_,s,a,w,k,Q,hs,h,hk=>wpIn_skip (hk _ _ _ _ hs h)
 | .region id ops draw,hL,_,_,s,a,w,k,Q,hs,h,hk=>by
  simp only[ev]at h;obtain⟨s,hs,h⟩:=PY _ hs h;refine Lh hC (λk Q h hk=> ?_) h hk;cases draw with
  |true=>
   simp only at h;split at h
   ·rename_i hE;exact af7 hm hΓ hs hE h λs' a' w' hs' hk'=>hk _ _ _ _ hs' hk'
   ·cases h
  |false=>exact wpIn_region_list (Ps hΓ ops.toList hs h λs' a' w' hs' hk'=>hk _ _ _ _ hs' hk')
 | .seq x y,hL,_,_,s,a,w,k,Q,hs,h,hk=>by
  simp only[ev]at h;refine wpIn_seq (Lh hC (λk Q h hk=>ng hm hΓ hC aoL x hL.append.1 s a w k Q hs h hk) h λe s' a' w' hs' hk'=> ?_);cases e with
  |normal=>exact ng hm hΓ hC aoL y hL.append.2 s' a' w' k Q hs' hk' hk
  |_=>exact hk _ s' a' w' hs' hk'
 | .cond c x y,hL,_,_,s,a,w,k,Q,hs,h,hk=>by
  simp only[ev]at h;split at h
  ·rename_i b hb;have hc:a.eval c= .bool b:=by obtain⟨g,β,hi⟩:=hs;have:=hi.ev c;rw[hb]at this;exact Rg this
   refine wpIn_cond hc ?_
   cases b with
   |true=>exact ng hm hΓ hC aoL x hL.append.1 s a w k Q hs h hk
   |false=>exact ng hm hΓ hC aoL y hL.append.2 s a w k Q hs h hk
  ·cases h
 | .block id b,hL,_,_,s,a,w,k,Q,hs,h,hk=>by
  simp only[ev]at h;refine wpIn_block (ng hm hΓ hC aoL b hL s a w _ _ hs h λe s' a' w' hs' hk'=> ?_);cases e with
  |exit i=>
   simp only at hk';simp only[Exit.inBlock];by_cases hi:i=id
   ·rw[if_pos hi];simp only[hi,cR]at hk';exact hk _ s' a' w' hs' hk'
   ·rw[if_neg hi];simp only[hi,decide_false]at hk';exact hk _ s' a' w' hs' hk'
  |_=>exact hk _ s' a' w' hs' hk'
 | .loop b,hL,R,r,s,a,w,k,Q,hs,h,hk=>by
  simp only[ev]at h;obtain⟨s1,h1,h⟩:=gS.1 h;have M6:=oK hC hs h1;obtain⟨hL1,hL2⟩:=(hL:akO P Γ an N b/\mw P Γ an N (jC b));split at h
  ·rename_i le hle;unfold axF at h;cases aaI:le.set with
   |some S=>
    rw[aaI]at h;simp only at h;obtain⟨h2,h3⟩:=Ny h;obtain⟨n,hn⟩:=(hL1 le hle).2 S aaI s1 h2;refine wpIn_loop_rounds n (C4 (λs s1 a w hs hn=>oK hC hs hn) (λe s s1 a w hs hn=>oK hC hs hn) (λs a w k Q hs hb hk=>ng hm hΓ hC aoL b hL2 s a w k Q hs hb hk) (λe s' a' w' hs' he=> ?_) n s1 a w M6 hn);obtain⟨x,aG9,aHa⟩:=aft he;obtain⟨y,hy,h4⟩:=gS.1 (h3 x aG9);rw[aHa,az]at hy;subst hy;exact hk _ _ _ _ hs' h4
   |none=>
   rw[aaI]at h;simp only at h;cases hr:le.run s1 with
   |none=>rw[hr]at h;cases h
   |some x=>
    rw[hr]at h;simp only[aq]at h;obtain⟨y,hy,h⟩:=gS.1 h;obtain⟨n,hn⟩:=(hL1 le hle).1 aaI s1 x hr;rw[hy]at hn;refine wpIn_loop_rounds n (C4 (λs s1 a w hs hn=>oK hC hs hn) (λe s s1 a w hs hn=>oK hC hs hn) (λs a w k Q hs hb hk=>ng hm hΓ hC aoL b hL2 s a w k Q hs hb hk) (λe s' a' w' hs' he=> ?_) n s1 a w M6 hn);simp only[az]at he;subst he;exact hk e s' a' w' hs' h
  ·exact wpIn_loop_rounds N (C4 (λs s1 a w hs hn=>oK hC hs hn) (λe s s1 a w hs hn=>oK hC hs hn) (λs a w k Q hs hb hk=>ng hm hΓ hC aoL b hL2 s a w k Q hs hb hk) hk N s1 a w M6 h)
 | .exit id,hL,_,_,s,a,w,k,Q,hs,h,hk=>wpIn_exit (hk _ _ _ _ hs h)
 | .ret,hL,_,_,s,a,w,k,Q,hs,h,hk=>wpIn_ret (hk _ _ _ _ hs h)
 | .rangeFunc f ps as b,_,_,_,s,a,w,k,Q,hs,h,hk=>by
  simp only[ev]at h;obtain⟨s1,h1,h⟩:=gS.1 h;have hs:=lC hC _ hs h1;rcases aoL with rfl | aoL
  ·exact Q6 hΓ hs h hk
  ·unfold Dn at h;split at h
   ·rename_i h0 _ _;rw[h0]at aoL;cases aoL
   ·cases h
 | .scope b,hL,_,_,s,a,w,k,Q,hs,h,hk=>by
  simp only[ev]at h;refine Hb (ng hm hΓ hC aoL b hL s a w _ _ hs h λe s' a' w' hs' hk'=> ?_);cases e with
  |goto l=>cases hk'
  |_=>exact hk _ s' a' w' hs' hk'
 | .label _,hL,_,_,s,a,w,k,Q,hs,h,hk=>wpIn_label (hk _ _ _ _ hs h)
 | .goto _,_,_,_,_,_,_,_,_,_,h,_=>by simp[ev]at h
 | .refuse _,_,_,_,_,_,_,_,_,_,h,_=>by simp[ev]at h
variable {g:Nat->lQ} {β:Id->Option Pl} {s:AS} {a:Act} {w:bU}
def U6(tmps:Array Value)(r:ResultVar):Sem Value:=
 match r with
 | .tmp t=>pure (tmps.getD t undef)
 | .cell a t=>do loadVar t (<-asAddr (tmps.getD a undef))
theorem Mo(h:Inv C g β s a w){r:ResultVar}{v:aD}(he:(U8 P s r).eval=al v):∃x,(U6 a.tmps r).run P w= .ok x w/\VS (s.env w g β) v x:=by
 cases r with
 |tmp t=>
  simp only[U8]at he;obtain rfl:=ay.1 he;exact⟨_,by simp[U6],h.cr t⟩
 |cell t T=>
  simp only[U8]at he;obtain⟨ad,z,hy,hr,hv⟩:=Tu h (h.cr t) he;exact⟨z,by simp[U6,hy,asAddr,hr],hv⟩
theorem Mn(h:Inv C g β s a w){r:ResultVar}{o:Option Ty}{y:AS×aD}(he:(U7 P s r o).eval=al y):
  ∃x g',(U6 a.tmps r).run P w= .ok x w/\Inv C g' β y.1 a w/\cU (s.env w g β) (y.1.env w g' β)/\VS (y.1.env w g' β) y.2 x:=by
 cases o with
 |none=>
  simp only[U7]at he;obtain⟨v,h1,h2⟩:=ax.1 he;obtain rfl:=ay.1 h2;obtain⟨x,hx,hv⟩:=Mo h h1;exact⟨x,g,hx,h,cU.refl _,hv⟩
 |some t=>
  simp only[U7]at he;obtain⟨v,h1,h2⟩:=ax.1 he;obtain⟨d,h3,h4⟩:=ax.1 h2;obtain rfl:=ay.1 h4;obtain⟨x,hx,hv⟩:=Mo h h1;obtain⟨g',i1,e1,_,cs,hR,hO⟩:=zL h hv h3;exact⟨x,g',hx,i1,e1,VS.of (a:= .d t d) (cs:=cs) (by simpa only[V]using hR) hO⟩
theorem H0:∀(l:List ResultVar) (ts:List (Option Ty)) {s:AS} {g:Nat->lQ} (_:Inv C g β s a w) {y:AS×aD},(Mp P s l ts).eval=al y->
  ∃(xs:List Value) (g':Nat->lQ),(l.mapM (U6 a.tmps)).run P w= .ok xs w/\Inv C g' β y.1 a w/\cU (s.env w g β) (y.1.env w g' β)/\VC (y.1.env w g' β) y.2 xs/\xs.length=l.length
 |[],ts,s,g,h,y,he=>by simp only[Mp]at he;obtain rfl:=ay.1 he;exact⟨[],g,by simp,h,cU.refl _,by simp[VC],rfl⟩
 |r::l,ts,s,g,h,y,he=>by simp only[Mp]at he;obtain⟨u,h1,h2⟩:=ax.1 he;obtain⟨hc,h2⟩:=aG.1 h2;obtain⟨us,h3,h4⟩:=ax.1 h2;obtain rfl:=ay.1 h4;obtain⟨x,g1,hx,i1,e1,hv⟩:=Mn h h1;obtain⟨xs,g2,ahc,i2,e2,Pz,hl⟩:=H0 l ts.tail i1 h3;obtain⟨cs,hV,hO⟩:=(hv.mono e2).eQ hc;refine⟨x::xs,g2,?_,i2,e1.trans e2,by simp only[VC];exact⟨x,xs,cs,rfl,hV,hO,Pz⟩,by simp[hl]⟩;simp only[List.mapM_cons,cd,hx,bH,ahc,dY]
theorem arN{E:Env}{v:aD}{xs:List Value}(h:VC E v xs):VS E v (.tuple xs.toArray):=by
 cases v <;> first
  | (simp only[VC]at h;done)
  |exact⟨xs,rfl,h⟩
  | (simp only[VC]at h;subst h;rfl)
theorem W4(h:Inv C g β s a w){fn:Func}{ts:List (Option Ty)}{y:AS×aD}(he:(abR P fn ts s).eval=al y):
  ∃x g',(results fn a.tmps).run P w= .ok x w/\Inv C g' β y.1 a w/\VS (y.1.env w g' β) y.2 x:=by
 have key:∀xs:List Value,(fn.results.toList.mapM (U6 a.tmps)).run P w= .ok xs w->(results fn a.tmps).run P w= .ok (if h:xs.length=1 then xs[0] else .tuple xs.toArray) w:=λxs ahc=>by
  have e:results fn a.tmps=(do
   let vs <-fn.results.mapM (U6 a.tmps)
   pure (if h:vs.size=1 then vs[0] else .tuple vs)):=rfl
  rw[e,Array.mapM_eq_mapM_toList];simp only[map_eq_pure_bind,cd,ahc,bH,dY];congr 1
 unfold abR at he;split at he
 ·rename_i r hr;obtain⟨x,g',hx,hi,_,hv⟩:=Mn h he;refine⟨x,g',?_,hi,hv⟩;rw[key [x] (by simp[hr,hx])];simp
 ·rename_i rs gJ;obtain⟨xs,g',hx,hi,_,hv,hl⟩:=H0 _ _ h he;refine⟨.tuple xs.toArray,g',?_,hi,arN hv⟩;rw[key xs hx,Ai];rw[hl];intro h1;obtain⟨r,hr⟩:=List.length_eq_one_iff.1 h1;exact gJ r hr
end
end Go.Ab
namespace Go.Ab
def tX(ids:List Id):lQ->lQ
 | .own (.id (.new i j)) k=> .own (.id (match idxOf (.new i j) ids with | some m=> .new 0 m | none=> .new 1 0)) k
 |l=>l
def av2(β:Id->Option Pl)(ids:List Id):Id->Option Pl
 | .bG k=>β (.bG k)
 | .new 0 m=>(ids[m]?).bind β
 | .new (_+1) _=>aJ
theorem ao1{ids:List Id}{g:Nat->lQ}{b off:Nat}(h:so g b off):so (λb=>tX ids (g b)) b off:=by
 unfold so at*;simp only;cases hg:g b with
 |free=>simp[tX]
 |own o k=>
  rw[hg]at h;cases o with
  |eM=>exact h
  |id i=>cases i <;> exact h
theorem aay(s:AS)(v:aD):(s.NB v).Nodup:=(rV s _ _ _ (by simp)).filter _
theorem ain{s:AS}{v:aD}{id:Id}(h:id∈s.NB v):∃i j,id= .new i j:=by
 unfold AS.NB at h;have:=(nb.1 h).2;cases id with
 |bG k=>simp[Id.aBF]at this
 |new i j=>exact⟨i,j,rfl⟩
section
variable {P:aN} {Γ:pZ} {C:Ctx} {g:Nat->lQ} {β:Id->Option Pl} {s:AS} {a:Act} {w:bU}
theorem X9(h:Inv C g β s a w)(hC:C.ok){v:aD}{x:Value}(hv:VS (s.env w g β) v x):sw C.E (s.fin v) x w:=by
 unfold AS.fin;have hn:=aay s v;have B1:∀id∈s.NB v,∃i j,id= .new i j:=λid dg=>ain dg
 generalize s.NB v=ids at hn B1;generalize hG:s.aBj ids v=G;have zd:G.val=v.iK (IW ids):=by rw[<-hG];rfl
 have hold:∀k,G.st.bS (.bG k)=(s.bS (.bG k)).map (dR.fin ids):=λk=>by
  rw[<-hG];show(s.cj.map (dR.fin ids))[k]? =_
  rw[eK];rfl
 have aJO:∀m,G.st.bS (.new 0 m)=(ids[m]?).map λid=>((s.bS id).getD .dead).fin ids:=λm=>by
  rw[<-hG];show(ids.map λid=>((s.bS id).getD .dead).fin ids)[m]? =_
  rw[eK]
 have aKF:∀i m,G.st.bS (.new (i+1) m)=aJ:=λi m=>by simp[im.st,AS.bS]
 let g':Nat->lQ:=λb=>tX ids (g b)
 let β':=av2 β ids
 have aoI:∀e ver fr c,dR.fin ids e= .obj ver fr c->∃c0,e= .obj ver fr c0/\c=c0.iK (IW ids):=λe ver fr c he=>by
  cases e with
  |dead=>cases he
  |obj v0 fr0 c0=>
   simp only[dR.fin,dR.obj.injEq]at he;obtain⟨rfl,rfl,rfl⟩:=he;exact⟨c0,rfl,rfl⟩
 have hle:yK (IW ids) (s.env w g β) (G.st.env w g' β'):=by
  refine⟨⟨λb off v ⟨h1,h2⟩=>⟨h1,ao1 h2⟩,λb ob h1 h2=>⟨by show tX ids (g b)= .free;have h1:g b= .free:=h1;rw[h1];rfl,h2⟩⟩,λid ver r hr hb=> ?_⟩;obtain⟨M5,Ro⟩:=hb;have M5:s.bS id≠aJ:=M5;have Ro:∀v fr c,s.bS id=al (.obj v fr c)->ver<=v:=Ro;cases id with
  |bG k=>
   simp only[IW,az]at hr;subst hr;refine⟨⟨?_,λv fr c hh=> ?_⟩,λ⟨fr,c,hh⟩=>⟨?_,rfl⟩⟩
   ·show G.st.bS (.bG k)≠aJ;rw[hold];simpa using M5
   ·have hh:G.st.bS (.bG k)=al (.obj v fr c):=hh;rw[hold,dz]at hh;obtain⟨e,he,hh⟩:=hh;obtain⟨c0,rfl,_⟩:=aoI _ _ _ _ hh;exact Ro v fr c0 he
   ·have hh:G.st.bS (.bG k)=al (.obj ver fr c):=hh;rw[hold,dz]at hh;obtain⟨e,he,hh⟩:=hh;obtain⟨c0,rfl,_⟩:=aoI _ _ _ _ hh;exact⟨fr,c0,he⟩
  |new i j=>
   simp only[IW]at hr;split at hr
   ·rename_i m hm;simp only[az]at hr;subst hr;have dg:=oB hm;obtain⟨e,he⟩:=Option.ne_none_iff_exists'.1 M5;have hg:G.st.bS (.new 0 m)=al (e.fin ids):=by rw[aJO,dg];simp[he]
    refine⟨⟨?_,λv fr c hh=> ?_⟩,λ⟨fr,c,hh⟩=>⟨?_,?_⟩⟩
    ·show G.st.bS (.new 0 m)≠aJ;rw[hg];simp
    ·have hh:G.st.bS (.new 0 m)=al (.obj v fr c):=hh;rw[hg,az]at hh;obtain⟨c0,rfl,_⟩:=aoI _ _ _ _ hh;exact Ro v fr c0 he
    ·have hh:G.st.bS (.new 0 m)=al (.obj ver fr c):=hh;rw[hg,az]at hh;obtain⟨c0,rfl,_⟩:=aoI _ _ _ _ hh;exact⟨fr,c0,he⟩
    ·show(ids[m]?).bind β=β (.new i j);rw[dg];rfl
   ·cases hr
 have aiI:Trans C.E.w w C.E.g g':=by
  have h0:=h.trans;refine⟨h0.os,h0.tape,h0.output,h0.size,λb hb=> ?_⟩;have h1:=h0.wZ b hb;show match C.E.g b with | .free=>tX ids (g b)= .free/\_ | .own .eM k=>tX ids (g b)= .own .eM k/\_ | .own (.id _) k=>(tX ids (g b)= .free\/∃i k',tX ids (g b)= .own (.id i) k'/\k<=k')/\_
  cases QR:C.E.g b with
  |free=>simp only[QR]at h1 ⊢;rw[h1.1];exact⟨rfl,h1.2⟩
  |own o k=>cases o with
   |eM=>simp only[QR]at h1 ⊢;rw[h1.1];exact⟨rfl,h1.2⟩
   |id i=>
    simp only[QR]at h1 ⊢;refine⟨?_,h1.2⟩;rcases h1.1 with h2 | ⟨i',k',h2,h3⟩
    ·rw[h2];exact .inl rfl
    ·rw[h2];right;cases i' with
     |bG m=>exact⟨_,k',rfl,h3⟩
     |new i j=>exact⟨_,k',rfl,h3⟩
 have azc:iP (G.st.env w g' β'):=by
  intro id ver fr c dg;have dg:G.st.bS id=al (.obj ver fr c):=dg;cases id with
  |bG k=>
   rw[hold,dz]at dg;obtain⟨e,he,dg⟩:=dg;obtain⟨c0,rfl,rfl⟩:=aoI _ _ _ _ dg;refine vj hle (h.bM (.bG k) ver fr c0 he) rfl λpl _=>⟨rfl,λn hg=> ?_,λhg=> ?_⟩
   ·have hg:g pl.b= .own (.id (.bG k)) n:=hg;show tX ids (g pl.b)=_;rw[hg];rfl
   ·have hg:g pl.b= .free:=hg;show tX ids (g pl.b)=_;rw[hg];rfl
  |new i m=>
   cases i with
   |succ i=>rw[aKF]at dg;cases dg
   |zero=>
    rw[aJO,dz]at dg;obtain⟨id0,aC1,dg⟩:=dg;obtain⟨c0,he,rfl⟩:=aoI _ _ _ _ dg;have cO:s.bS id0=al (.obj ver fr c0):=by
     cases hs:s.bS id0 with
     |none=>rw[hs]at he;cases he
     |some e=>rw[hs]at he;simp only[dB]at he;rw[he]
    obtain⟨i0,j0,rfl⟩:=B1 id0 (c8 aC1);refine vj hle (h.bM (.new i0 j0) ver fr c0 cO) (by show(ids[m]?).bind β=_;rw[aC1];rfl) λpl _=>⟨rfl,λn hg=> ?_,λhg=> ?_⟩
    ·have hg:g pl.b= .own (.id (.new i0 j0)) n:=hg;show tX ids (g pl.b)=_;rw[hg];simp only[tX,vz hn aC1]
    ·have hg:g pl.b= .free:=hg;show tX ids (g pl.b)=_;rw[hg];rfl
 have ho:∀id ver,C.E.DL id ver->∃k,id= .bG k:=λid ver hb=>by
  cases id with
  |bG k=>exact⟨k,rfl⟩
  |new i j=>exact absurd (hC.1 i j) hb.1
 refine⟨g',β',by rw[zd];exact Em hle hv,azc,aiI,Trans.mem (E:=C.E) (E':=G.st.env w g' β') aiI,λid ver hb=> ?_,λid ver hb hc=> ?_⟩
 ·obtain⟨k,rfl⟩:=ho id ver hb;exact(hle.ref (.bG k) ver (.bG k,ver) rfl (h.le.DL _ _ hb)).1
 ·obtain⟨k,rfl⟩:=ho id ver hb;obtain⟨h1,h2⟩:=(hle.ref (.bG k) ver (.bG k,ver) rfl (h.le.DL _ _ hb)).2 hc;obtain⟨h3,h4⟩:=h.le.cur _ _ hb h1;exact⟨h3,h2.trans h4⟩
theorem wL.len{E:Env}:∀ {as:List aD} {vs:List Value},wL E as vs->as.length=vs.length
 |[],[],_=>rfl
 |_::_,_::_,⟨_,h⟩=>by simp[wL.len h]
 |[],_::_,h=>h.elim
 |_::_,[],h=>h.elim
theorem wL.get{E:Env}:∀ {as:List aD} {vs:List Value},wL E as vs->∀i,VS E (as.getD i .undef) (vs.getD i undef)
 |[],[],_,i=>by simpa using VS.undef
 |_::_,_::_,⟨h,_⟩,0=>by simpa using h
 |_::_,_::_,⟨_,h⟩,i+1=>by simpa using wL.get h i
 |[],_::_,h,_=>h.elim
 |_::_,[],h,_=>h.elim
theorem aqV{w:bU}{g:Nat->lQ}{β:Id->Option Pl}{fn:Func}{args:List aD}{cj:List dR}{jf:List Value}(hv:wL ((fT cj).env w g β) args jf)(ho:iP ((fT cj).env w g β)):
  Inv ⟨(fT cj).env w g β⟩ g β (start fn args cj) {tmps:=jf.toArray++Array.replicate (fn.ntmps - jf.toArray.size) undef,defers:=[]} w:=by
 have hl:=hv.len;have cO:(start fn args cj).bS=(fT cj).bS:=by
  funext id;cases id with
  |bG k=>rfl
  |new i j=>
   simp only[start,fT,AS.bS,aI,List.getElem?_replicate];split <;> simp
 have aiy:(start fn args cj).env w g β=(fT cj).env w g β:=by simp only[AS.env,cO]
 refine⟨⟨gZ,λ_ h=>by cases h⟩,by simp[start,hl],λi=> ?_,by rw[aiy];exact ho,Trans.refl _ _,by rw[aiy];exact cU.refl _⟩;rw[aiy];have h1:(start fn args cj).slot i=args.getD i .undef:=by
  simp only[start,AS.slot,aI,List.getElem?_append,List.getElem?_replicate];split
  ·rfl
  ·rw[dP (l:=args) au];split <;> rfl
 have h2:(jf.toArray++Array.replicate (fn.ntmps - jf.toArray.size) undef).getD i undef=jf.getD i undef:=by
  simp only[cQ,aI,kf,Array.getElem?_replicate];simp only[hJ,List.getElem?_toArray];split
  ·rfl
  ·rw[dP (l:=jf) au];split <;> rfl
 rw[h1,h2];exact hv.get i
theorem Inv.aD9{C:Ctx}{g:Nat->lQ}{β:Id->Option Pl}{s:AS}{a:Act}{w:bU}(h:Inv C g β s a w){D:Nat}{ds:List Deferred}(hd:a.defers=tZ D::ds):
  (Instr.takeDeferred D).run P w= .ok [] (w.putObj D (.deferred aJ))/\Inv C g β s {a with defers:=ds} (w.putObj D (.deferred aJ)):=by
 obtain⟨hn,vy⟩:=h.defers;rw[hd]at hn vy;obtain⟨D',e,hD,hh,hg⟩:=vy _ (aL ..);have e:Deferred.mk (.collected D) #[]=Deferred.mk (.collected D') #[]:=e;injection e with e _
 injection e with e
 subst e;have jb:=(bN.1 hh).1;refine⟨run_takeDeferred hh,?_⟩;have other:∀b,b≠D->(w.putObj D (.deferred aJ)).heap[b]? =w.heap[b]? :=λb hb=>World.putObj_heap_other hb
 have BZ:∀b off v,w.cell? ⟨b,off,aJ⟩=al v->b≠D:=λb off v hv e=>by subst e;simp[eP,hh]at hv
 have sS:sC (s.env w g β) (s.env (w.putObj D (.deferred aJ)) g β):=by
  refine⟨λb off v ⟨h1,h2⟩=>⟨?_,h2⟩,λb ob h1 h2=>⟨h1,?_⟩⟩
  ·have h1:w.cell? ⟨b,off,aJ⟩=al v:=h1;show(w.putObj D (.deferred aJ)).cell? ⟨b,off,aJ⟩=al v;rw[World.cell?_of_block (other b (BZ b off v h1))];exact h1
  ·have h1:g b= .free:=h1;have h2:w.heap[b]? =al ob:=h2
   show(w.putObj D (.deferred aJ)).heap[b]? =al ob
   rw[other b λe=>by rw[e,hg]at h1;cases h1];exact h2
 have hle:cU (s.env w g β) (s.env (w.putObj D (.deferred aJ)) g β):=⟨sS,λ_ _ h=>h,λ_ _ _ h=>⟨h,rfl⟩⟩;have gJ:∀ {id:Id} {v:Nat} {fr:Bool} {c:aD} {pl:Pl},s.bS id=al (.obj v fr c)->β id=al pl->pl.b≠D:=λhs hp e=>by
  have:=((h.bM _ _ _ _ hs).label hp).2;have this:(∃k,g _= .own (.id _) k)\/(_/\g _= .free):=this;rw[e,hg]at this;rcases this with⟨k,hk⟩ | ⟨_,hk⟩
  ·cases hk
  ·cases hk
 refine⟨⟨(dr.1 hn).2,λd hd'=> ?_⟩,h.size,λi=>(h.cr i).mono hle,λid ver fr c hs=> ?_,?_,h.le.trans hle⟩
 ·obtain⟨D2,e1,e2,e3,e4⟩:=vy d (aK _ hd');refine⟨D2,e1,e2,?_,e4⟩;rw[other D2 λe=>(dr.1 hn).1 (by rw[<-e,<-e1];exact hd')];exact e3
 ·exact vi.mono hle (h.bM id ver fr c hs) rfl (λpl hp=>⟨other _ (gJ hs hp),rfl⟩) λq vq k v l hq _=>⟨⟨k,v,l,hq⟩,λpl hp=>⟨other _ (gJ hq hp),rfl⟩⟩
 ·have ht:=h.trans;refine⟨ht.os,ht.tape,ht.output,?_,λb hb=> ?_⟩
  ·have:=ht.size;simpa[World.putObj]using this
  ·have h1:=ht.wZ b hb;have hbD:b≠D:=au;have hc:∀off v,w.cell? ⟨b,off,aJ⟩=al v->(w.putObj D (.deferred aJ)).cell? ⟨b,off,aJ⟩=al v:=λoff v hv=>by rw[World.cell?_of_block (other b hbD)];exact hv
   rw[other b hbD];split at h1
   ·exact h1
   ·exact h1
   ·exact⟨h1.1,λoff v ho hv=>hc off v (h1.2 off v ho hv)⟩
theorem PK{C:Ctx}{g:Nat->lQ}{β:Id->Option Pl}{s:AS}{fn:Func}{R:Ending->bU->Prop}:∀(ds:List Deferred) {a:Act} {w:bU},Inv C g β s a w->a.defers=ds->
  (∀a2 w2,Inv C g β s a2 w2->a2.tmps=a.tmps->∃v,(results fn a.tmps).run P w2= .ok v w2/\R (.returned v) w2)->LeavesInM Fence.wide 0 P fn a.tmps R ds .returning w
 |[],a,w,h,hd,hk=>hk a w h rfl
 |d::ds,a,w,h,hd,hk=>by obtain⟨D,e,_⟩:=h.defers.2 d (by rw[hd];exact aL ..);subst e;obtain⟨h1,h2⟩:=h.aD9 (P:=P) hd;exact⟨by simp,.inl ⟨D,_,rfl,h1,PK (fn:=fn) (R:=R) ds (a:= {a with defers:=ds}) h2 rfl hk⟩⟩
theorem ael{cj:List dR}{w:bU}{g:Nat->lQ}{β:Id->Option Pl}(h:cj.all dR.first=aT){k v:Nat}{fr:Bool}{c:aD}(hk:((fT cj).env w g β).s (.bG k)=al (.obj v fr c)):v=0:=by
 have hk:cj[k]? =al (.obj v fr c):=by simpa[AS.env,fT,AS.bS]using hk
 have:=c7.1 h _ (c8 hk);exact fh this
theorem Kk(hm:P.follows .mixedOrders=aT)(hΓ:Sound P Γ){f:fR}{fn:Func}(hf:P.funcs[f]? =al fn)(hb:fn.body.isSome=aT)(zb:(fn.name== "runtime.NumGoroutine")=aR){an:wK}{N:Nat}(hL:∀c,fn.body=al c->mw P Γ an N (jC c))
  {args:List aD} {cj:List dR} {R:Type} {k:im->Option R} {r:R} (hN:acZ P Γ an N fn args cj k=al r) (aaH:an.qz=aJ)
  {jf:List Value} (hv:wL ((fT cj).env w g β) args jf) (ho:iP ((fT cj).env w g β)):(callFunc f jf.toArray).run P w= .ok (.enter f jf.toArray) w/\
   Calls P f jf.toArray w λe w'=>∃v G,e= .returned v/\k G=al r/\sw ((fT cj).env w g β) G v w':=by
 obtain⟨c,hc⟩:=bA.1 hb;refine⟨?_,?_⟩
 ·unfold callFunc;have hname':¬fn.name= "runtime.NumGoroutine" :=by simpa using zb
  simp[hf,hname',hc]
 ·unfold acZ at hN;rw[aaH,hc]at hN;simp only at hN;split at hN
  ·cases hN
  rename_i hF;have hC:(Ctx.mk ((fT cj).env w g β)).ok:=⟨λi j=>by simp[AS.env,fT,AS.bS],λk v fr c hk=>ael hF hk⟩;refine callsIn_wide.1 (callsIn_of_wp_marks (F:=Fence.wide) (n:=0) hf hc trivial (ng (rd:=aJ) (C:=⟨(fT cj).env w g β⟩) hm hΓ hC (.inl rfl) c (hL c hc) _ _ w _ _ ⟨g,β,aqV hv ho⟩ hN λe s' a' w' hs' hk'=> ?_));have fin:(finish P an fn s').run k=al r->LeavesInM Fence.wide 0 P fn a'.tmps (λe w'=>∃v G,e= .returned v/\k G=al r/\sw ((fT cj).env w g β) G v w') a'.defers .returning w':=λhr=>by
   obtain⟨G,h1,h2⟩:=gS.1 hr;unfold finish at h1;obtain⟨sd,aHJ,h1⟩:=ax.1 h1;obtain⟨s2,h3,h4⟩:=ax.1 h1;obtain⟨s3,aKg,h4⟩:=ax.1 h4;obtain⟨s4,aKh,h4⟩:=ax.1 h4;obtain⟨y,h5,h6⟩:=ax.1 h4;obtain⟨g1,β1,aBu⟩:=hs';refine PK a'.defers aBu rfl λa2 w2 aH1 aIw=> ?_
   obtain⟨g0,β0,ay7⟩:=y6 _ ⟨g1,β1,aH1⟩ aHJ;obtain⟨g',β',hi⟩:=JN _ (lC hC _ ⟨g0,β0,ay7.drop _⟩ h3) aKg;have hi:=CA hC _ hi aKh;obtain⟨z,g2,h7,h8,h9⟩:=W4 hi h5;refine⟨z,by rw[<-aIw];exact h7,z,G,rfl,h2,?_⟩;rw[<-ay.1 h6];exact X9 h8 hC h9
  cases e with
  |normal=>exact fin hk'
  |ret=>exact fin hk'
  |_=>cases hk'
theorem qU.ru(hm:P.follows .mixedOrders=aT)(hΓ:Sound P Γ){f:fR}{fn:Func}(hf:P.funcs[f]? =al fn)(hb:fn.body.isSome=aT)(zb:(fn.name== "runtime.NumGoroutine")=aR){en:Entry}{an:wK}{N:Nat}(hL:∀c,fn.body=al c->mw P Γ an N (jC c))
  (h:∀args cj x,en.run args cj=al x->acZ P Γ an N fn args cj al=al (en.out args cj x)) (aaH:an.qz=aJ):qU P f en:=by
 intro w g β args cj jf x hv ho hx;obtain⟨h1,h2⟩:=Kk hm hΓ hf hb zb hL (h args cj x hx) aaH hv ho;exact .inl ⟨h1,h2.mono λe w' ⟨v,G,e1,e2,e3⟩=>⟨v,e1,by rw[<-aO e2];exact e3⟩⟩
theorem JU.ru(hm:P.follows .mixedOrders=aT)(hΓ:Sound P Γ){f:fR}{fn:Func}(hf:P.funcs[f]? =al fn)(hb:fn.body.isSome=aT)(zb:(fn.name== "runtime.NumGoroutine")=aR){en:Entry}{an:wK}{N:Nat}(hL:∀c,fn.body=al c->mw P Γ an N (jC c))
  (h:∀args cj,(∃x,en.set args cj x)->acZ P Γ an N fn args cj (λG=>aDF (∃x,en.set args cj x/\G=en.out args cj x))=al ()) (aaH:an.qz=aJ):JU P f en:=by
 intro w g β args cj jf hv ho hx;obtain⟨h1,h2⟩:=Kk hm hΓ hf hb zb hL (h args cj hx) aaH hv ho;refine⟨h1,h2.mono λe w' ⟨v,G,e1,e2,e3⟩=> ?_⟩;obtain⟨x,hs,rfl⟩:=aft e2;exact⟨v,x,e1,hs,e3⟩
theorem H3:∀(l:List (Tmp×Value)) (t:Array Value),(l.foldl (λtmps (x:Tmp×Value)=>tmps.setIfInBounds x.1 x.2) t).size=t.size
 |[],_=>rfl
 |x::l,t=>by rw[aY,H3 l];simp
theorem FK:∀(l:List (Tmp×aD)) (fs:List aD),(yk l fs).length=fs.length
 |[],_=>rfl
 |x::l,fs=>by rw[yk,FK l];simp
theorem H4{E:Env}:∀(ps:List Tmp) (vs:List aD) (us:List Value) (fs:List aD) (t:Array Value),wL E vs us->fs.length=t.size->(∀i,VS E (fs.getD i .undef) (t.getD i undef))->
  ∀i,VS E ((yk (ps.zip vs) fs).getD i .undef) (((ps.zip us).foldl (λtmps (x:Tmp×Value)=>tmps.setIfInBounds x.1 x.2) t).getD i undef)
 |[],_,_,fs,t,_,_,h=>by simpa[yk]using h
 |_::_,[],[],fs,t,_,_,h=>by simpa[yk]using h
 |_::_,[],_::_,_,_,h,_,_=>h.elim
 |_::_,_::_,[],_,_,h,_,_=>h.elim
 |p::ps,v::vs,u::us,fs,t,⟨h1,h2⟩,hl,h=>by
  simp only[List.zip_cons_cons,yk,aY];refine H4 ps vs us _ _ h2 (by simpa using hl) λi=> ?_
  simp only[aI,cQ,List.getElem?_set,ek,hl];have hi:=h i;simp only[aI,cQ]at hi;split
  ·split
   ·simpa using h1
   ·simpa using VS.undef
  ·exact hi
theorem wL.split{E:Env}:∀(n:Nat) {as:List aD} {us ts:List Value},us.length=n->wL E as (us++ts)->wL E (as.take n) us/\wL E (as.drop n) ts
 | 0,as,[],ts,_,h=>by simpa using⟨trivial,h⟩
 | 0,as,_::_,ts,hn,h=>by simp at hn
 |n+1,as,[],ts,hn,h=>by simp at hn
 |n+1,[],u::us,ts,_,h=>h.elim
 |n+1,a::as,u::us,ts,hn,⟨h1,h2⟩=>by have:=wL.split n (by simpa using hn) h2;exact⟨⟨h1,this.1⟩,this.2⟩
theorem akm{w:bU}{g:Nat->lQ}{β:Id->Option Pl}{ps:Array Tmp}{args:List aD}{cj:List dR}{us ts:List Value}(hl:us.length=ps.size)(hv:wL ((fT cj).env w g β) args (us++ts))(ho:iP ((fT cj).env w g β)):
  Inv ⟨(fT cj).env w g β⟩ g β (Vx ps.toList args cj) {tmps:=(ps.zip us.toArray).foldl (λtmps (t,a)=>tmps.setIfInBounds t a) ts.toArray,defers:=[]} w:=by
 obtain⟨h1,h2⟩:=wL.split ps.toList.length (by simpa using hl) hv;have cO:(Vx ps.toList args cj).bS=(fT cj).bS:=by
  funext id;cases id with
  |bG k=>rfl
  |new i j=>
   simp only[Vx,fT,AS.bS,aI,List.getElem?_replicate];split <;> simp
 have aiy:(Vx ps.toList args cj).env w g β=(fT cj).env w g β:=by simp only[AS.env,cO]
 have e:(ps.zip us.toArray).foldl (λtmps (x:Tmp×Value)=>tmps.setIfInBounds x.1 x.2) ts.toArray=(ps.toList.zip us).foldl (λtmps (x:Tmp×Value)=>tmps.setIfInBounds x.1 x.2) ts.toArray:=by rw[<-Array.foldl_toList,Array.toList_zip]
 have e':(ps.zip us.toArray).foldl (λtmps (t,a)=>tmps.setIfInBounds t a) ts.toArray=(ps.toList.zip us).foldl (λtmps (x:Tmp×Value)=>tmps.setIfInBounds x.1 x.2) ts.toArray:=e;rw[e'];refine⟨⟨gZ,λ_ h=>by cases h⟩,?_,λi=> ?_,by rw[aiy];exact ho,Trans.refl _ _,by rw[aiy];exact cU.refl _⟩
 ·show Array.size _=(yk _ _).length;rw[H3,FK];simpa using h2.len.symm
 ·rw[aiy];exact H4 ps.toList _ us _ _ h1 (by simpa using h2.len) (λi=>by simpa[cQ,aI]using h2.get i) i
theorem JV.ru(hm:P.follows .mixedOrders=aT)(hΓ:Sound P Γ){y:Nat}{fn:Func}{en:Entry}{an:wK}{N:Nat}(hL:mw P Γ an N (jC (U9 P y).as++jC (U9 P y).b))
  (h:∀args cj x,en.run args cj=al x->acZ P Γ an N fn args cj al=al (en.out args cj x)) (aaH:an.qz=al y):JV P y en:=by
 intro w g β args cj jf x hv ho hx l us ts f rd n aFY rM;have hN:=h args cj x hx;unfold acZ at hN;rw[aaH]at hN;simp only at hN;unfold awQ at hN;split at hN;rotate_left
 ·cases hN
 rename_i args;split at hN
 ·cases hN
 rename_i hF;subst aFY;obtain⟨axS,M7⟩:=hv;have hC:(Ctx.mk ((fT cj).env w g β)).ok:=⟨λi j=>by simp[AS.env,fT,AS.bS],λk v fr c hk=>ael hF hk⟩;obtain⟨cs,hV,hO⟩:=axS;simp only[V]at hV;obtain⟨l',rfl,aez,fH⟩:=hV;have hl:l'=l:=by simpa[fY,aD.agg]using hO
 subst hl;have at_l:∀ {s:AS} {g1:Nat->lQ} {β1:Id->Option Pl} {a:Act} {w1:bU} {pl:Pl},Inv ⟨(fT cj).env w g β⟩ g1 β1 s a w1->(s.env w1 g1 β1).cur (.bG 0) 0->β1 (.bG 0)=al pl->pl.b=l':=by intro s g1 β1 a w1 pl hi hc hp;obtain⟨c1,c2⟩:=hi.le.cur _ _ aez hc;obtain⟨pl',hp',rfl⟩:=fH c1;have c2:β1 (.bG 0)=β (.bG 0):=c2;have hp':β (.bG 0)=al pl':=hp';rw[c2,hp']at hp;exact(bE Pl.b (aO hp)).symm
 refine roundIn_of_wpIn (F:=Fr rd) trivial ?_
 have aeD:al l'=aJ\/an.qz.isSome=aT:= .inr (by rw[aaH];rfl);refine ng (rd:=al l') hm hΓ hC aeD _ hL.append.1 _ _ w _ _ ⟨g,β,akm rM M7 ho⟩ hN λe s1 a1 w1 M6 alF=> ?_
 cases e with
 |normal=>
  simp only at alF;cases h1:s1.Oj 0 1 with
  |none=>rw[h1]at alF;cases alF
  |some s2=>
   rw[h1]at alF;simp only[aq]at alF;obtain⟨g1,β1,aBu⟩:=M6;obtain⟨pl,r,hp,hc,hb,nG,aFK⟩:=Mh aBu h1;have:=at_l aBu hc hp;subst this;refine⟨_,run_beginRound hb nG.1,?_⟩;have aH1:=aFK {r with state:= .busy} rfl rfl rfl rfl rfl;refine ng (rd:=al pl.b) hm hΓ hC aeD _ hL.append.2 _ _ _ _ _ ⟨_,_,aH1⟩ alF λe s3 a3 w3 aDc ay8=> ?_
   cases aBq:aBi e with
   |none=>rw[aBq]at ay8;cases ay8
   |some p=>
    rw[aBq]at ay8;simp only[aq]at ay8;cases h4:s3.Oj 1 p with
    |none=>rw[h4]at ay8;cases ay8
    |some s4=>
     rw[h4]at ay8;simp only at ay8;obtain⟨g3,β3,aJH⟩:=aDc;obtain⟨pl3,r3,aKH,aBn,aJx,aKO,hnext3⟩:=Mh aJH h4;have aKz:=at_l aJH aBn aKH;rw[aKz]at aJx hnext3
     have fin:∀(jump:Option Code) (b:Bool),iG p 0=jump.isNone->af6 p (if jump.isNone then .ready else .done) jump->
       ∃v w',(Instr.endRound pl.b jump).run P w3= .ok v w'/\∃v',Ending.returned v= .returned v'/\sw ((fT cj).env w g β) (en.out (.yl (.bG 0) 0::args) cj x) v' w':=λjump b hb hr=>by
      have aKu:=hnext3 {r3 with state:=if jump.isNone then .ready else .done,pending:=jump} rfl rfl rfl rfl hr;refine⟨_,_,run_endRound jump aJx,_,rfl,?_⟩;obtain⟨G,k1,k2⟩:=gS.1 ay8;simp only[az]at k2;subst k2;unfold alw at k1;obtain⟨sd,m1,k1⟩:=ax.1 k1;obtain⟨s5,m2,k1⟩:=ax.1 k1;obtain⟨s6,m3,k1⟩:=ax.1 k1;obtain⟨s7,m4,k1⟩:=ax.1 k1;obtain⟨g0,β0,ay7⟩:=y6 _ ⟨_,_,aKu⟩ m1;obtain⟨g',β',hi⟩:=JN _ (lC hC _ ⟨g0,β0,ay7.drop _⟩ m2) m3;have hi:=CA hC _ hi m4;rw[<-ay.1 k1,hb];exact X9 hi hC (uv _)
     cases e with
     |normal=>
      obtain rfl:=aO aBq;exact fin aJ aT rfl ⟨rfl,rfl⟩
     |ret=>
      obtain rfl:=aO aBq;exact fin (al .ret) aR rfl ⟨rfl,rfl⟩
     |exit i=>
      obtain rfl:=aO aBq;exact fin (al (.exit i)) aR rfl ⟨rfl,rfl⟩
     |goto _=>cases aBq
     |panic _=>cases aBq
     |outgrown=>cases aBq
 |_=>cases alF
end
end Go.Ab
namespace Go.Ab
def eD(k:kF)(n:Int):Int:=k.wrap n
def bV(k:kF)(x y:Int):Int:=k.wrap (x+y)
def dM(k:kF)(x y:Int):Int:=k.wrap (x - y)
def je(k:kF)(x y:Int):Int:=k.wrap (x*y)
def A7(k:kF)(x y:Int):Int:=k.wrap (x.tdiv y)
def tW(x y:Int):Int:=x.tmod y
def nQ(k:kF)(x y:Int):Int:=k.wrap (x*2^(min y.toNat k.bits))
def cV(k:kF)(x y:Int):Int:=x.fdiv (2^(min y.toNat k.bits))
def HA(x y:Int):Bool:=x==y
def G5(x y:Int):Bool:=x !=y
def iE(x y:Int):Bool:=decide (x < y)
def ahg(x y:Int):Bool:=decide (x<=y)
def Ap(x y:Int):Bool:=decide (x > y)
def BI(x y:Int):Bool:=decide (x>=y)
def seq(x y:ByteArray):Bool:=x.toList==y.toList
def ags(a:ByteArray)(i:Int):Int:=((a.data.toList.getD i.toNat 0).toNat:Int)
def imax(x y:Int):Int:=if x < y then y else x
def gU(i n:Int):Bool:=decide (0<=i/\i < n)
def inc(i n:Int):Bool:=decide (0<=i/\i<=n)
def rr(y:Int):Bool:=decide (0<=y)
def qE(y:Int):Bool:= !(decide (y=0))
open Classical in
def ee.of{D X:Type}(st:D->AS)(fQ:D->Prop)(F:D->X)(out:X->Out (Exit×AS)):ee:= {X,run:=λs=>if h:∃d,st d=s/\fQ d then al (F h.choose) else aJ,out}
open Classical in
theorem ee.ru{D X:Type}{st:D->AS}{fQ:D->Prop}{F:D->X}{out:X->Out (Exit×AS)}(I2:∀d d',st d=st d'->d=d'){d:D}(h:fQ d):(ee.of st fQ F out).run (st d)=al (F d):=by have hex:∃d',st d'=st d/\fQ d':=⟨d,rfl,h⟩;show(if h:∃d',st d'=st d/\fQ d' then al (F h.choose) else aJ)=_;rw[xq hex,I2 _ _ hex.choose_spec.1]
open Classical in
def RK.of{X:Type}(an:nJ)(st:X->AS):RK:=
 {an,X,aEJ:=λe s=>if h:e= .normal/\∃x,st x=s then al h.2.choose else aJ,out:=λx=> .ok (.normal,st x),
  ok:=λe s x h=>by
   by_cases h1:e= .normal/\∃x,st x=s
   ·rw[xq h1]at h;have h2:=h1.2.choose_spec;rw[aO h]at h2;rw[h1.1,<-h2];rfl
   ·rw[Ai h1]at h;cases h}
open Classical in
theorem RK.aDE{X:Type}{an:nJ}{st:X->AS}(I2:∀d d',st d=st d'->d=d')(x:X):(RK.of an st).aEJ .normal (st x)=al x:=by have hex:Exit.normal= .normal/\∃y,st y=st x:=⟨rfl,x,rfl⟩;show(if h:Exit.normal= .normal/\∃y,st y=st x then al h.2.choose else aJ)=_;rw[xq hex,I2 _ _ hex.2.choose_spec]
open Classical in
theorem akO.of{P:aN}{Γ:pZ}{an:wK}{N:Nat}{fn:Func}{i:Nat}{D X:Type}{st:D->AS}{fQ:D->Prop}{F:D->X}{out:X->Out (Exit×AS)}
  (hle:an.gV (dU (oz fn i))=al (ee.of st fQ F out)) (h:∀d,fQ d->∃n,Lt P Γ an N fn i n (st d) (λe s=>al (e,s))=(out (F d)).eval):akO P Γ an N (oz fn i):=by
 intro le hle';rw[hle]at hle';simp only[az]at hle';subst hle';refine⟨λ_ s x hx=> ?_,λS hS=>by cases hS⟩;change (if h:∃d',st d'=s/\fQ d' then al (F h.choose) else aJ)=al x at hx;split at hx
 ·rename_i hex;obtain rfl:=aO hx;obtain⟨h1,h2⟩:=hex.choose_spec;obtain⟨n,hn⟩:=h _ h2;refine⟨n,?_⟩;show Lt P Γ an N fn i n s _=_;rw[h1]at hn;exact hn
 ·cases hx
theorem yF(P:aN)(Γ:pZ)(an:wK)(N:Nat)(fn:Func)(i:Nat){R:Type}(n:Nat)(s:AS)(k:Exit->AS->Option R):Lt P Γ an N fn i (n+1) s k=Bb P Γ an N fn i s (λs1=>Lt P Γ an N fn i n s1 k) k:=rfl
theorem alW{P:aN}{Γ:pZ}{an:wK}{N:Nat}{fn:Func}{i:Nat}{D X:Type}{st:D->AS}{fQ:D->Prop}{F:D->X}{out:X->Out (Exit×AS)}(μ:D->Nat)
  (h:∀d,fQ d->(∃d',fQ d'/\μ d' < μ d/\F d'=F d/\∀ {R:Type} (kn:AS->Option R) (kx:Exit->AS->Option R),Bb P Γ an N fn i (st d) kn kx=kn (st d'))\/
   (∃r,(out (F d)).eval=al r/\∀ {R:Type} (kn:AS->Option R) (kx:Exit->AS->Option R),Bb P Γ an N fn i (st d) kn kx=kx r.1 r.2)):
  ∀d,fQ d->∃n,Lt P Γ an N fn i n (st d) (λe s=>al (e,s))=(out (F d)).eval:=by
 have key:∀m d,μ d=m->fQ d->∃n,Lt P Γ an N fn i n (st d) (λe s=>al (e,s))=(out (F d)).eval:=by
  intro m
  induction m using Nat.strongRecOn with
  |_ m ih=>
   intro d hm hp;rcases h d hp with⟨d',hp',jb,hF,hr⟩ | ⟨r,hr,hx⟩
   ·obtain⟨n,hn⟩:=ih (μ d') au d' rfl hp';exact⟨n+1,by rw[yF,hr,hn,hF]⟩
   ·exact⟨1,by rw[yF,hx,hr]⟩
 exact λd hp=>key _ d rfl hp
open Classical in
def ee.WJ{D X Y:Type}(st:D->AS)(fQ:D->Prop)(add:D->Y->X)(Post:D->Y->Prop)(out:X->Out (Exit×AS)):ee:= {X,run:=λ_=>aJ,out,set:=al λs x=>∃d,st d=s/\fQ d/\∃y,Post d y/\x=add d y}
def aGt{D X Y:Type}(st:D->AS)(fQ:D->Prop)(add:D->Y->X)(Post:D->Y->Prop):D->X->Prop:=λd0 x=>∃d,st d=st d0/\fQ d/\∃y,Post d y/\x=add d y
abbrev ax0{D X Y:Type}(set:D->X->Prop)(fQ:D->Prop)(add:D->Y->X)(Post:D->Y->Prop):Prop:=∀ {d:D} {R:Type} {k:X->Option R} {r:Option R},fQ d->(∃y,Post d y)->(∀y,Post d y->k (add d y)=r)->QP (set d) k=r
theorem aI1{D X Y:Type}{st:D->AS}{fQ:D->Prop}{add:D->Y->X}{Post:D->Y->Prop}(I2:∀d d',st d=st d'->d=d'):ax0 (aGt st fQ add Post) fQ add Post:=λh h1 h2=>by
 obtain⟨y,hy⟩:=h1;refine aag ⟨_,_,rfl,h,y,hy,rfl⟩ λx hx=> ?_
 obtain⟨d',h3,_,y',h4,rfl⟩:=hx;obtain rfl:=I2 _ _ h3;exact h2 y' h4
abbrev akQ(P:aN)(G:pZ)(an:wK)(N:Nat)(fn:Func)(i:Nat){D X Y:Type}(st:D->AS)(fQ:D->Prop)(add:D->Y->X)(Post:D->Y->Prop)(out:X->Out (Exit×AS)):Prop:=∀d,fQ d->∃n,∀k:Exit->AS->Option Unit,(∀y e s,Post d y->(out (add d y)).eval=al (e,s)->k e s=al ())->Lt P G an N fn i n (st d) k=al ()
theorem akO.WJ{P:aN}{Γ:pZ}{an:wK}{N:Nat}{fn:Func}{i:Nat}{D X Y:Type}{st:D->AS}{fQ:D->Prop}{add:D->Y->X}{Post:D->Y->Prop}{out:X->Out (Exit×AS)}
  (h:akQ P Γ an N fn i st fQ add Post out) (hle:an.gV (dU (oz fn i))=al (ee.WJ st fQ add Post out)):akO P Γ an N (oz fn i):=by
 intro le hle';rw[hle]at hle';simp only[az]at hle';subst hle';refine⟨λhS=>(by cases hS),λS hS s hs=> ?_⟩;obtain rfl:=aO hS;obtain⟨x,d,rfl,hp,y,hy,rfl⟩:=hs;obtain⟨n,hn⟩:=h d hp;exact⟨n,hn _ λy e s h1 h2=>avl ⟨add d y,⟨d,rfl,hp,y,h1,rfl⟩,h2⟩⟩
theorem XM{n:Nat}{Q:Nat->Nat->Prop}(h:∀j,j < n->∃N,∀M,N<=M->Q j M):∃N,∀M,N<=M->∀j,j < n->Q j M:=by
 induction n with
 |zero=>exact⟨0,λ_ _ j hj=>au⟩
 |succ n ih=>
  obtain⟨N1,h1⟩:=ih λj hj=>h j au
  obtain⟨N2,h2⟩:=h n au;refine⟨max N1 N2,λM hM j hj=> ?_⟩;by_cases aJK:j=n
  ·subst aJK;exact h2 M au
  ·exact h1 M au j au
theorem auY{P:aN}{Γ:pZ}{an:wK}{N:Nat}{fn:Func}{i:Nat}{D X:Type}{st:D->AS}{fQ:D->Prop}{F:D->X}{out:X->Out (Exit×AS)}(μ:D->Nat)
  (h:∀d,fQ d->(∃(m:Nat) (d':Nat->D),0 < m/\(∀j,j < m->fQ (d' j)/\μ (d' j) < μ d/\F (d' j)=F d)/\∀ {R:Type} (kn:AS->Option R) (kx:Exit->AS->Option R),Bb P Γ an N fn i (st d) kn kx=acF m λj=>kn (st (d' j)))\/
   (∃r,(out (F d)).eval=al r/\∀ {R:Type} (kn:AS->Option R) (kx:Exit->AS->Option R),Bb P Γ an N fn i (st d) kn kx=kx r.1 r.2)):
  ∀d,fQ d->∃n,Lt P Γ an N fn i n (st d) (λe s=>al (e,s))=(out (F d)).eval:=by
 have key:∀m d,μ d=m->fQ d->∃n,∀M,n<=M->Lt P Γ an N fn i M (st d) (λe s=>al (e,s))=(out (F d)).eval:=by
  intro m
  induction m using Nat.strongRecOn with
  |_ m ih=>
   intro d hm hp;rcases h d hp with⟨c,d',hc,hd,hr⟩ | ⟨r,hr,hx⟩
   ·obtain⟨n,hn⟩:=XM (n:=c) (Q:=λj M=>Lt P Γ an N fn i M (st (d' j)) (λe s=>al (e,s))=(out (F d)).eval) λj hj=>by obtain⟨h1,h2,h3⟩:=hd j hj;obtain⟨n,hn⟩:=ih (μ (d' j)) au (d' j) rfl h1;exact⟨n,λM hM=>by rw[hn M hM,h3]⟩
    refine⟨n+1,λM hM=> ?_⟩;obtain⟨M,rfl⟩:∃M',M=M'+1:=⟨M - 1,au⟩;rw[yF,hr];exact aic hc λj hj=>hn M au j hj
   ·refine⟨1,λM hM=> ?_⟩;obtain⟨M,rfl⟩:∃M',M=M'+1:=⟨M - 1,au⟩;rw[yF,hx,hr]
 exact λd hp=>let⟨n,hn⟩:=key _ d rfl hp;⟨n,hn n (aF _)⟩
theorem auZ{P:aN}{Γ:pZ}{an:wK}{N:Nat}{fn:Func}{i:Nat}{D X Y:Type}{st:D->AS}{fQ:D->Prop}{add:D->Y->X}{Post:D->Y->Prop}{out:X->Out (Exit×AS)}(μ:D->Nat)
  (h:∀d,fQ d->(∃(m:Nat) (d':Nat->D),0 < m/\(∀j,j < m->fQ (d' j)/\μ (d' j) < μ d/\∀y,Post (d' j) y->∃y',Post d y'/\add (d' j) y=add d y')/\∀ {R:Type} (kn:AS->Option R) (kx:Exit->AS->Option R),Bb P Γ an N fn i (st d) kn kx=acF m λj=>kn (st (d' j)))\/
   (∃y r,Post d y/\(out (add d y)).eval=al r/\∀ {R:Type} (kn:AS->Option R) (kx:Exit->AS->Option R),Bb P Γ an N fn i (st d) kn kx=kx r.1 r.2)):akQ P Γ an N fn i st fQ add Post out:=by
 have key:∀m d,μ d=m->fQ d->∃n,∀M,n<=M->∀k:Exit->AS->Option Unit,(∀y e s,Post d y->(out (add d y)).eval=al (e,s)->k e s=al ())->Lt P Γ an N fn i M (st d) k=al ():=by
  intro m
  induction m using Nat.strongRecOn with
  |_ m ih=>
   intro d hm hp;rcases h d hp with⟨c,d',hc,hd,hr⟩ | ⟨y,r,hy,hr,hx⟩
   ·obtain⟨n,hn⟩:=XM (n:=c) (Q:=λj M=>∀k:Exit->AS->Option Unit,(∀y e s,Post (d' j) y->(out (add (d' j) y)).eval=al (e,s)->k e s=al ())->Lt P Γ an N fn i M (st (d' j)) k=al ()) λj hj=>by obtain⟨h1,h2,h3⟩:=hd j hj;exact ih (μ (d' j)) au (d' j) rfl h1
    refine⟨n+1,λM hM k hk=> ?_⟩;obtain⟨M,rfl⟩:∃M',M=M'+1:=⟨M - 1,au⟩;rw[yF,hr];refine aic hc λj hj=>hn M au j hj k λy e s h1 h2=> ?_
    obtain⟨y',h3,h4⟩:=(hd j hj).2.2 y h1;rw[h4]at h2;exact hk y' e s h3 h2
   ·refine⟨1,λM hM k hk=> ?_⟩;obtain⟨M,rfl⟩:∃M',M=M'+1:=⟨M - 1,au⟩;rw[yF,hx];exact hk y r.1 r.2 hy hr
 exact λd hp=>let⟨n,hn⟩:=key _ d rfl hp;⟨n,hn n (aF _)⟩
theorem ae9{P:aN}{Γ:pZ}{an:wK}{N:Nat}{fn:Func}{i:Nat}{D X:Type}{st:D->AS}{fQ:D->Prop}{F:D->X}{ex:X->Exit×AS}(μ:D->Nat)(h:∀d,fQ d->(∃d',fQ d'/\μ d' < μ d/\F d'=F d/\∀ {R:Type} (kn:AS->Option R) (kx:Exit->AS->Option R),Bb P Γ an N fn i (st d) kn kx=kn (st d'))\/(∀ {R:Type} (kn:AS->Option R) (kx:Exit->AS->Option R),Bb P Γ an N fn i (st d) kn kx=kx (ex (F d)).1 (ex (F d)).2)):∀d,fQ d->∃n,Lt P Γ an N fn i n (st d) (λe s=>al (e,s))=(Out.ok (ex (F d))).eval:=alW (out:=λx=> .ok (ex x)) μ λd hp=>(h d hp).imp id λh=>⟨_,rfl,h⟩
open Classical in
def Entry.of{D X:Type}(params:List (Option Ty))(st:D->List aD×List dR)(fQ:D->Prop)(F:D->X)(out:X->im):Entry:= {params,X,run:=λargs cj=>if h:∃d,st d=(args,cj)/\fQ d then al (F h.choose) else aJ,out:=λ_ _=>out}
open Classical in
theorem Entry.ru{D X:Type}{params:List (Option Ty)}{st:D->List aD×List dR}{fQ:D->Prop}{F:D->X}{out:X->im}(I2:∀d d',st d=st d'->d=d'){d:D}(h:fQ d):
  (Entry.of params st fQ F out).run (st d).1 (st d).2=al (F d):=by
 have hex:∃d',st d'=((st d).1,(st d).2)/\fQ d':=⟨d,rfl,h⟩;show(if h:∃d',st d'=((st d).1,(st d).2)/\fQ d' then al (F h.choose) else aJ)=_;rw[xq hex,I2 _ _ hex.choose_spec.1]
open Classical in
theorem al6{D X:Type}{params:List (Option Ty)}{st:D->List aD×List dR}{fQ:D->Prop}{F:D->X}{out:X->im}{args:List aD}{cj:List dR}{x:X}(hx:(Entry.of params st fQ F out).run args cj=al x):∃d,st d=(args,cj)/\fQ d/\x=F d:=by
 change (if h:∃d',st d'=(args,cj)/\fQ d' then al (F h.choose) else aJ)=al x at hx;split at hx
 ·rename_i hex;obtain rfl:=aO hx;exact⟨_,hex.choose_spec.1,hex.choose_spec.2,rfl⟩
 ·cases hx
theorem qU.of{P:aN}{Γ:pZ}(hm:P.follows .mixedOrders=aT)(hΓ:Sound P Γ){f:fR}{fn:Func}(hf:P.funcs[f]? =al fn)(hb:fn.body.isSome=aT)(zb:(fn.name== "runtime.NumGoroutine")=aR){an:wK}{N:Nat}
  (hL:∀c,fn.body=al c->mw P Γ an N (jC c)) {D X:Type} {params:List (Option Ty)} {st:D->List aD×List dR} {fQ:D->Prop} {F:D->X} {out:X->im}
  (h:∀d,fQ d->acZ P Γ an N fn (st d).1 (st d).2 al=al (out (F d))) (aaH:an.qz=aJ:=by exact rfl):qU P f (Entry.of params st fQ F out):=by
 refine qU.ru hm hΓ hf hb zb hL (λargs cj x hx=> ?_) aaH;obtain⟨d,e1,e2,rfl⟩:=al6 hx;have:=h d e2;rw[e1]at this;exact this
def axM(P:aN)(Γ:pZ)(an:wK)(N:Nat)(fn:Func):Nat->Nat->Prop
 | 0,_=>True
 |n+1,i=>akO P Γ an N (oz fn i)/\axM P Γ an N fn n (i+1)
theorem axM.get{P:aN}{Γ:pZ}{an:wK}{N:Nat}{fn:Func}:∀ {n i:Nat},axM P Γ an N fn n i->∀j,j < n->akO P Γ an N (oz fn (i+j))
 | 0,_,_,j,hj=>au
 |n+1,i,h,0,_=>h.1
 |n+1,i,h,j+1,hj=>by have:=axM.get h.2 j au;rwa[show i+1+j=i+(j+1) by omega]at this
theorem mw.avk{P:aN}{Γ:pZ}{an:wK}{N:Nat}:∀(l:List Code),(∀j,j < l.length->akO P Γ an N (l.getD j .skip))->mw P Γ an N l
 |[],_=>trivial
 |b::l,h=>⟨h 0 (by simp),mw.avk l λj hj=>by have:=h (j+1) (by simpa using hj);simpa using this⟩
theorem mw.fn{P:aN}{Γ:pZ}{an:wK}{N:Nat}{fn:Func}(n:Nat)(hn:(match fn.body with | some c=>(jC c).length | none=>0)=n)(h:axM P Γ an N fn n 0):∀c,fn.body=al c->mw P Γ an N (jC c):=by
 intro c hc;refine mw.avk _ λj hj=> ?_
 rw[hc]at hn;simp only at hn;have:=h.get j au;unfold oz at this;rw[hc]at this;simpa using this
theorem akO.none{P:aN}{Γ:pZ}{an:wK}{N:Nat}{fn:Func}{i:Nat}(h:an.gV (dU (oz fn i))=aJ):akO P Γ an N (oz fn i):=λle hle=>by
 rw[h]at hle;cases hle
def ay0:pZ:=λ_ _=>aJ
theorem Sound.nil(P:aN):Sound P ay0:=λ_ _ _ h=>by cases h
def aes(f:fR)(p:List aD->Bool)(en:Entry)(Γ:pZ):pZ:=λg vs=>match iG g f with | true=>(match p vs with | true=>al en | false=>Γ g vs) | false=>Γ g vs
theorem Sound.cons{P:aN}{f:fR}{p:List aD->Bool}{en:Entry}{Γ:pZ}(h:BK P f en)(hΓ:Sound P Γ):Sound P (aes f p en Γ):=λg vs e hg=>by
 unfold aes at hg;split at hg
 ·rename_i he;have:g=f:=fh he;split at hg
  ·simp only[az]at hg;subst hg this;exact h
  ·exact hΓ g vs e hg
 ·exact hΓ g vs e hg
theorem aBh{t:Ty}{x y:t.den}(h:aD.d t x=aD.d t y):x=y:=by injection h with _ h
theorem aA1{e:TypeId}{t:Ty}{x y:List t.den}(h:aD.vec e t x=aD.vec e t y):x=y:=by injection h with _ _ h
def qD:List aD->Bool:=λ_=>aT
def apy:List aD->Bool | .dI::_=>aT | _=>aR
def Zb:List aD->Bool | .b8 .. ::_=>aT | _=>aR
@[simp] theorem ak{α:Type}(x y:Option α):aS aT x y=x:=rfl
@[simp] theorem ao{α:Type}(x y:Option α):aS aR x y=y:=rfl
@[simp] theorem ae{α β:Type}(x:α)(f:α->Option β):aq (al x) f=f x:=rfl
@[simp] theorem aEM{α:Type}(c:tQ)(x:Option α):same c c x=x:=by simp[same]
@[simp] theorem Ax{α:Type}(x:Option α):nd x x=x:=by simp[nd]
structure SG(P:aN) where
 f:fR
 p:List aD->Bool
 e:Entry
 h:BK P f e
def mN{P:aN}:List (SG P)->pZ
 |[]=>ay0
 |a::l=>aes a.f a.p a.e (mN l)
theorem Sound.mN{P:aN}:∀l:List (SG P),Sound P (mN l)
 |[]=>Sound.nil P
 |a::l=>Sound.cons a.h (Sound.mN l)
abbrev SA:=List aD×List dR
def M9(P:aN)(G:pZ)(an:wK)(N:Nat)(fn:Func){D:Type}(st:D->SA){R:Type}(d:D)(k:im->Option R):Option R:=acZ P G an N fn (st d).1 (st d).2 k
def fK(P:aN)(G:pZ)(an:wK)(N:Nat)(fn:Func)(i:Nat){D:Type}(st:D->AS){R:Type}(d:D)(kn:AS->Option R)(kx:Exit->AS->Option R):Option R:=Bb P G an N fn i (st d) kn kx
abbrev am0{D X Y:Type}(A: {R:Type}->D->(im->Option R)->Option R)(fQ:D->Prop)(add:D->Y->X)(F:D->Y)(out:X->im):Prop:=∀d,fQ d->A d al=al (out (add d (F d)))
abbrev nE(P:aN)(G:pZ)(an:wK)(N:Nat)(fn:Func)(i:Nat){D X Y:Type}(st:D->AS)(fQ:D->Prop)(add:D->Y->X)(F:D->Y)(out:X->Out (Exit×AS)):Prop:=∀d,fQ d->∃n,Lt P G an N fn i n (st d) (λe s=>al (e,s))=(out (add d (F d))).eval
abbrev arF{D X Y:Type}(R: {R:Type}->D->(AS->Option R)->(Exit->AS->Option R)->Option R)(st:D->AS)(fQ:D->Prop)(add:D->Y->X)(F:D->Y)(ex:X->Exit×AS)(C:Prop):Prop:=∀μ:D->Nat,(∀d,fQ d->(∃d',fQ d'/\μ d' < μ d/\add d' (F d')=add d (F d)/\∀ {T:Type} (kn:AS->Option T) (kx:Exit->AS->Option T),R d kn kx=kn (st d'))\/(∀ {T:Type} (kn:AS->Option T) (kx:Exit->AS->Option T),R d kn kx=kx (ex (add d (F d))).1 (ex (add d (F d))).2))->C
abbrev sx{D X Y:Type}(R: {R:Type}->D->(AS->Option R)->(Exit->AS->Option R)->Option R)(st:D->AS)(fQ:D->Prop)(add:D->Y->X)(F:D->Y)(out:X->Out (Exit×AS))(C:Prop):Prop:=∀μ:D->Nat,(∀d,fQ d->(∃d',fQ d'/\μ d' < μ d/\add d' (F d')=add d (F d)/\∀ {T:Type} (kn:AS->Option T) (kx:Exit->AS->Option T),R d kn kx=kn (st d'))\/(∃r,(out (add d (F d))).eval=al r/\∀ {T:Type} (kn:AS->Option T) (kx:Exit->AS->Option T),R d kn kx=kx r.1 r.2))->C
abbrev aB5{D X Y:Type}(R: {R:Type}->D->(AS->Option R)->(Exit->AS->Option R)->Option R)(st:D->AS)(fQ:D->Prop)(add:D->Y->X)(F:D->Y)(ex:X->Exit×AS)(C:Prop):Prop:=∀μ:D->Nat,(∀d,fQ d->(∃(m:Nat) (d':Nat->D),0 < m/\(∀j,j < m->fQ (d' j)/\μ (d' j) < μ d/\add (d' j) (F (d' j))=add d (F d))/\∀ {T:Type} (kn:AS->Option T) (kx:Exit->AS->Option T),R d kn kx=acF m λj=>kn (st (d' j)))\/(∀ {T:Type} (kn:AS->Option T) (kx:Exit->AS->Option T),R d kn kx=kx (ex (add d (F d))).1 (ex (add d (F d))).2))->C
theorem aE0{P:aN}{G:pZ}{an:wK}{N:Nat}{fn:Func}{i:Nat}{D X Y:Type}{st:D->AS}{fQ:D->Prop}{add:D->Y->X}{F:D->Y}{ex:X->Exit×AS}:aB5 (fK P G an N fn i st) st fQ add F ex (nE P G an N fn i st fQ add F λx=> .ok (ex x)):=λ μ h=>auY (F:=λd=>add d (F d)) (out:=λx=> .ok (ex x)) μ λd hp=>(h d hp).imp id λh=>⟨_,rfl,h⟩
abbrev aBa{D X Y:Type}(R: {R:Type}->D->(AS->Option R)->(Exit->AS->Option R)->Option R)(st:D->AS)(fQ:D->Prop)(add:D->Y->X)(Post:D->Y->Prop)(ex:X->Exit×AS)(C:Prop):Prop:=∀μ:D->Nat,(∀d,fQ d->(∃(m:Nat) (d':Nat->D),0 < m/\(∀j,j < m->fQ (d' j)/\μ (d' j) < μ d/\∀y,Post (d' j) y->∃y',Post d y'/\add (d' j) y=add d y')/\∀ {T:Type} (kn:AS->Option T) (kx:Exit->AS->Option T),R d kn kx=acF m λj=>kn (st (d' j)))\/(∃y,Post d y/\∀ {T:Type} (kn:AS->Option T) (kx:Exit->AS->Option T),R d kn kx=kx (ex (add d y)).1 (ex (add d y)).2))->C
theorem aE1{P:aN}{G:pZ}{an:wK}{N:Nat}{fn:Func}{i:Nat}{D X Y:Type}{st:D->AS}{fQ:D->Prop}{add:D->Y->X}{Post:D->Y->Prop}{ex:X->Exit×AS}:aBa (fK P G an N fn i st) st fQ add Post ex (akQ P G an N fn i st fQ add Post λx=> .ok (ex x)):=λ μ h=>auZ (out:=λx=> .ok (ex x)) μ λd hp=>(h d hp).imp (λh=>h) λ⟨y,hy,h⟩=>⟨y,_,hy,rfl,h⟩
theorem aCp{P:aN}{G:pZ}{an:wK}{N:Nat}{fn:Func}{i:Nat}{D X Y:Type}{st:D->AS}{fQ:D->Prop}{add:D->Y->X}{F:D->Y}{ex:X->Exit×AS}:arF (fK P G an N fn i st) st fQ add F ex (nE P G an N fn i st fQ add F λx=> .ok (ex x)):=λ μ h=>ae9 (F:=λd=>add d (F d)) μ h
theorem tI{P:aN}{G:pZ}{an:wK}{N:Nat}{fn:Func}{i:Nat}{D X Y:Type}{st:D->AS}{fQ:D->Prop}{add:D->Y->X}{F:D->Y}{out:X->Out (Exit×AS)}:sx (fK P G an N fn i st) st fQ add F out (nE P G an N fn i st fQ add F out):=λ μ h=>alW (F:=λd=>add d (F d)) (out:=out) μ h
def sk:List (Nat×nJ)->Nat->nJ
 |[],_=> {}
 |a::l,r=>bif iG r a.1 then a.2 else sk l r
def sj:List (Nat×nJ×nJ)->Nat->Bool->nJ
 |[],_,_=> {}
 |a::l,r,b=>bif iG r a.1 then(bif b then a.2.2 else a.2.1) else sj l r b
def tK.{v} {α:Type v}:List (Nat×α)->Nat->Option α
 |[],_=>aJ
 |a::l,r=>bif iG r a.1 then al a.2 else tK l r
inductive Lf where
 |d (t:Ty)
 |n
@[reducible] def Lf.den:Lf->Type
 | .d t=>t.den
 | .n=>Nat
@[reducible] def Lf.arl:List Lf->Type
 |[]=>Unit
 |[a]=>a.den
 |a::b::l=>a.den×Lf.arl (b::l)
abbrev aEU:=List (Sigma Lf.den)
def Lf.mk:(ts:List Lf)->Lf.arl ts->aEU
 |[],_=> []
 |[a],x=> [⟨a,x⟩]
 |a::b::l,x=>⟨a,x.1⟩::Lf.mk (b::l) x.2
theorem Lf.mk_inj:∀(ts:List Lf) (x y:Lf.arl ts),Lf.mk ts x=Lf.mk ts y->x=y
 |[],_,_,_=>rfl
 |[a],x,y,h=>by
  injection h with h _
  injection h
 |a::b::l,(x,u),(y,v),h=>by
  injection h with h h2
  injection h with _ h
  have h:x=y:=h;rw[h,Lf.mk_inj (b::l) u v h2]
def aD.leaves:aD->aEU
 | .d .unit _=> []
 | .d (.arr _ t) l=> [⟨.d (.slice t),l⟩]
 | .d t x=> [⟨.d t,x⟩]
 | .eN t x=> [⟨.d t,x⟩]
 | .vec _ t l=> [⟨.d (.slice t),l⟩]
 | .mp k v l=> [⟨.d (.slice (.pair k v)),l⟩]
 | .qh _ _ k v l _=> [⟨.d (.slice (.pair k v)),l⟩]
 | .yH _ f _=>f.leaves
 | .b8 _ _ _ _ _ n=> [⟨.n,n⟩]
 | .pr a b=>a.leaves++b.leaves
 | .cons a b=>a.leaves++b.leaves
 | .fn _ c=>c.leaves
 | .bx _ _ c=>c.leaves
 |_=> []
def dR.leaves:dR->aEU
 | .obj _ _ c=>c.leaves
 | .dead=> []
def SA.leaves(s:SA):aEU:=s.1.flatMap aD.leaves++s.2.flatMap dR.leaves
def AS.leaves(s:AS):aEU:=s.cr.flatMap aD.leaves++(s.cj.flatMap dR.leaves++s.news.flatMap (·.flatMap dR.leaves))
theorem aeQ(ts:List Lf){st:Lf.arl ts->SA}(h:∀d,SA.leaves (st d)=Lf.mk ts d)(d d':Lf.arl ts)(e:st d=st d'):d=d':=Lf.mk_inj ts d d' (by rw[<-h,<-h,e])
theorem oE(ts:List Lf){st:Lf.arl ts->AS}(h:∀d,AS.leaves (st d)=Lf.mk ts d)(d d':Lf.arl ts)(e:st d=st d'):d=d':=Lf.mk_inj ts d d' (by rw[<-h,<-h,e])
def Entry.gQ{D X Y:Type}(params:List (Option Ty))(st:D->SA)(fQ:D->Prop)(add:D->Y->X)(F:D->Y)(out:X->im):Entry:=Entry.of params st fQ (λd=>add d (F d)) out
def aJ4{X Y:Type}(x:X⊕Y):Out (X⊕Y):= .br x.isLeft (.get x.getLeft? λa=> .ok (.inl a)) (.get x.getRight? λb=> .ok (.inr b))
theorem aD0{X Y:Type}(x y:X⊕Y)(h:(aJ4 x).eval=al y):y=x:=by cases x <;> exact(aO h).symm
def Entry.ai4{D X X' Y:Type}(params:List (Option Ty))(st:D->SA)(fQ:D->Prop)(add:D->Y->X⊕X')(F:D->Y)(out:X⊕X'->im):Entry:= {Entry.gQ params st fQ add F out with sp:=aJ4,amJ:=aD0}
theorem JV.aGx{P:aN}{y:Nat}{D X X' Y:Type}{params:List (Option Ty)}{st:D->SA}{fQ:D->Prop}{add:D->Y->X⊕X'}{F:D->Y}{out:X⊕X'->im}(h:JV P y (Entry.gQ params st fQ add F out)):JV P y (Entry.ai4 params st fQ add F out):=h
theorem qU.aGx{P:aN}{f:fR}{D X X' Y:Type}{params:List (Option Ty)}{st:D->SA}{fQ:D->Prop}{add:D->Y->X⊕X'}{F:D->Y}{out:X⊕X'->im}(h:qU P f (Entry.gQ params st fQ add F out)):qU P f (Entry.ai4 params st fQ add F out):=h
def Entry.WJ{D X Y:Type}(params:List (Option Ty))(st:D->SA)(fQ:D->Prop)(add:D->Y->X)(Post:D->Y->Prop)(out:X->im):Entry:= {params,X,run:=λ_ _=>aJ,out:=λ_ _ x=>out x,rel:=aT,set:=λargs cj x=>∃d,st d=(args,cj)/\fQ d/\∃y,Post d y/\x=add d y}
def aGr{D:Type}(E:Entry)(st:D->SA):D->E.X->Prop:=λd=>E.set (st d).1 (st d).2
theorem aGp{D X Y:Type}{params:List (Option Ty)}{st:D->SA}{fQ:D->Prop}{add:D->Y->X}{Post:D->Y->Prop}{out:X->im}(I2:∀d d',st d=st d'->d=d'):ax0 (aGr (Entry.WJ params st fQ add Post out) st) fQ add Post:=λh h1 h2=>by
 obtain⟨y,hy⟩:=h1;refine aag ⟨_,_,rfl,h,y,hy,rfl⟩ λx hx=> ?_
 obtain⟨d',h3,_,y',h4,rfl⟩:=hx;obtain rfl:=I2 _ _ h3;exact h2 y' h4
abbrev aBb{D X Y:Type}(A: {R:Type}->D->(im->Option R)->Option R)(fQ:D->Prop)(add:D->Y->X)(Post:D->Y->Prop)(out:X->im):Prop:=∀d,fQ d->∀k:im->Option Unit,(∀y,Post d y->k (out (add d y))=al ())->A d k=al ()
def ee.gQ{D X Y:Type}(st:D->AS)(fQ:D->Prop)(add:D->Y->X)(F:D->Y)(out:X->Out (Exit×AS)):ee:=ee.of st fQ (λd=>add d (F d)) out
def O3{D:Type}(E:Entry)(st:D->SA):D->Option E.X:=λd=>E.run (st d).1 (st d).2
def ji{D:Type}(E:ee)(st:D->AS):D->Option E.X:=λd=>E.run (st d)
abbrev lN{D X Y:Type}(call:D->Option X)(fQ:D->Prop)(add:D->Y->X)(F:D->Y):Prop:=∀ {d:D},fQ d->call d=al (add d (F d))
theorem aGq{D X Y:Type}{params:List (Option Ty)}{st:D->SA}{fQ:D->Prop}{add:D->Y->X}{F:D->Y}{out:X->im}(I2:∀d d',st d=st d'->d=d'):lN (O3 (Entry.gQ params st fQ add F out) st) fQ add F:=λh=>Entry.ru I2 h
theorem amH{D X X' Y:Type}{params:List (Option Ty)}{st:D->SA}{fQ:D->Prop}{add:D->Y->X⊕X'}{F:D->Y}{out:X⊕X'->im}(I2:∀d d',st d=st d'->d=d'){d:D}(h:fQ d):(Entry.ai4 params st fQ add F out).run (st d).1 (st d).2=al (add d (F d)):=aGq (params:=params) (out:=out) I2 h
theorem qe{D X Y:Type}{st:D->AS}{fQ:D->Prop}{add:D->Y->X}{F:D->Y}{out:X->Out (Exit×AS)}(I2:∀d d',st d=st d'->d=d'):lN (ji (ee.gQ st fQ add F out) st) fQ add F:=λh=>ee.ru I2 h
def aol(P:aN)(fn:Func):Bool:=P.follows .mixedOrders && fn.body.isSome && !(fn.name== "runtime.NumGoroutine")
def atU(fn:Func):Nat:=match fn.body with | some c=>(jC c).length | none=>0
theorem qU.fn{P:aN}{l:List (SG P)}{f:fR}{fn:Func}{an:wK}{N:Nat}{D X Y:Type}{params:List (Option Ty)}{st:D->SA}{fQ:D->Prop}{add:D->Y->X}{F:D->Y}{out:X->im}(n:Nat)
  (hc:(P.funcs[f]?,aol P fn,atU fn)=(al fn,aT,n))
  (h:am0 (@M9 P (mN l) an N fn D st) fQ add F out)
  (hL:axM P (mN l) an N fn n 0) (aaH:an.qz=aJ:=by exact rfl):qU P f (Entry.gQ params st fQ add F out):=by
 injection hc with h1 h2
 injection h2 with h2 h3
 unfold aol at h2;simp only[av,ct]at h2;exact qU.of h2.1.1 (Sound.mN l) h1 h2.1.2 h2.2 (mw.fn n h3 hL) h aaH
theorem JU.fn{P:aN}{l:List (SG P)}{f:fR}{fn:Func}{an:wK}{N:Nat}{D X Y:Type}{params:List (Option Ty)}{st:D->SA}{fQ:D->Prop}{add:D->Y->X}{Post:D->Y->Prop}{out:X->im}(n:Nat)
  (hc:(P.funcs[f]?,aol P fn,atU fn)=(al fn,aT,n))
  (h:aBb (@M9 P (mN l) an N fn D st) fQ add Post out)
  (hL:axM P (mN l) an N fn n 0) (aaH:an.qz=aJ:=by exact rfl):JU P f (Entry.WJ params st fQ add Post out):=by
 injection hc with h1 h2
 injection h2 with h2 h3
 unfold aol at h2;simp only[av,ct]at h2;refine JU.ru h2.1.1 (Sound.mN l) h1 h2.1.2 h2.2 (mw.fn n h3 hL) (λargs cj hx=> ?_) aaH;obtain⟨x,d,e,hp,y,hy,rfl⟩:=hx;have:=h d hp (λG=>aDF (∃x,(Entry.WJ params st fQ add Post out).set args cj x/\G=(Entry.WJ params st fQ add Post out).out args cj x)) λy hy=>avl ⟨_,⟨d,e,hp,y,hy,rfl⟩,rfl⟩
 unfold M9 at this;rw[e]at this;exact this
theorem JV.fn{P:aN}{l:List (SG P)}{y:Nat}{an:wK}{N:Nat}{D X Y:Type}{params:List (Option Ty)}{st:D->SA}{fQ:D->Prop}{add:D->Y->X}{F:D->Y}{out:X->im}(n:Nat)
  (hc:(P.follows .mixedOrders,atU (aGK P y))=(aT,n))
  (h:am0 (@M9 P (mN l) an N (aGK P y) D st) fQ add F out)
  (hL:axM P (mN l) an N (aGK P y) n 0) (aaH:an.qz=al y):JV P y (Entry.gQ params st fQ add F out):=by
 injection hc with h1 h2
 refine JV.ru h1 (Sound.mN l) (fn:=aGK P y) (mw.fn (fn:=aGK P y) n h2 hL _ rfl) (λargs cj x hx=> ?_) aaH;obtain⟨d,e1,e2,rfl⟩:=al6 hx;have:=h d e2;unfold M9 at this;rw[e1]at this;exact this
theorem akO.gQ{P:aN}{Γ:pZ}{an:wK}{N:Nat}{fn:Func}{i:Nat}{D X Y:Type}{st:D->AS}{fQ:D->Prop}{add:D->Y->X}{F:D->Y}{out:X->Out (Exit×AS)}
  (h:nE P Γ an N fn i st fQ add F out) (hle:an.gV (dU (oz fn i))=al (ee.gQ st fQ add F out):=by kernel_rfl):akO P Γ an N (oz fn i):=akO.of hle h
abbrev K1(R:Type):=im->Option R
abbrev K2(R:Type):=AS->Option R
abbrev K3(R:Type):=Exit->AS->Option R
@[reducible] def bF{D Y:Type}(_:D)(y:Y):Y:=y
structure Ls{D Y X:Type}(fQ:D->Prop)(add:D->Y->X)(F:D->Y) where
 st:D->AS
 ex:X->Exit×AS
noncomputable def xM{D Y X:Type}{fQ:D->Prop}{add:D->Y->X}{F:D->Y}(st:D->AS)(ex:X->Exit×AS):Ls fQ add F:=⟨st,ex⟩
section
variable {D Y X:Type} {fQ:D->Prop} {add:D->Y->X} {F:D->Y} (L:Ls fQ add F)
def Ls.out:X->Out (Exit×AS):=λx=> .ok (L.ex x)
def Ls.E:ee:=ee.gQ L.st fQ add F L.out
def Ls.call:D->Option X:=ji L.E L.st
abbrev Ls.go{R:Type}(kx:K3 R)(x:X):Option R:=kx (L.ex x).1 (L.ex x).2
abbrev Ls.RS:Prop:=lN L.call fQ add F
end
theorem rL(ts:List Lf){Y X:Type}{fQ:Lf.arl ts->Prop}{add:Lf.arl ts->Y->X}{F:Lf.arl ts->Y}(L:Ls fQ add F)(h:∀d,AS.leaves (L.st d)=Lf.mk ts d:=by exact λ_=>cT):lN L.call fQ add F:=qe (oE ts h)
structure Fs(P:aN){D Y X:Type}(fQ:D->Prop)(add:D->Y->X)(F:D->Y) where
 i:fR
 fn:Func
 st:D->SA
 out:X->im
 ps:List (Option Ty)
 G:List (SG P)
 an:wK
 N:Nat
noncomputable def gg{P:aN}{D Y X:Type}{fQ:D->Prop}{add:D->Y->X}{F:D->Y}(i:fR)(fn:Func)(st:D->SA)(out:X->im)(ps:List (Option Ty))(G:List (SG P):=[])(an:wK:= {})(N:Nat:=0):Fs P fQ add F:=⟨i,fn,st,out,ps,G,an,N⟩
section
variable {P:aN} {D Y X:Type} {fQ:D->Prop} {add:D->Y->X} {F:D->Y} (f:Fs P fQ add F) {D' Y' X':Type} {Pre':D'->Prop} {add':D'->Y'->X'} {F':D'->Y'}
def Fs.A{R:Type}(d:D)(k:K1 R):Option R:=M9 P (mN f.G) f.an f.N f.fn f.st d k
def Fs.R(i:Nat)(L:Ls Pre' add' F'){R:Type}(d:D')(kn:K2 R)(kx:K3 R):Option R:=fK P (mN f.G) f.an f.N f.fn i L.st d kn kx
abbrev Fs.Ok:Prop:=∀d,fQ d->f.A d al=al (f.out (add d (F d)))
abbrev Fs.mw(i:Nat)(L:Ls Pre' add' F'):Prop:=nE P (mN f.G) f.an f.N f.fn i L.st Pre' add' F' L.out
def Fs.E:Entry:=Entry.gQ f.ps f.st fQ add F f.out
def Fs.call:D->Option X:=O3 f.E f.st
theorem Fs.qz(i:Nat)(L:Ls Pre' add' F'):arF (@Fs.R P D Y X fQ add F f D' Y' X' Pre' add' F' i L) L.st Pre' add' F' L.ex (f.mw i L):=λ μ h=>ae9 (F:=λd=>add' d (F' d)) μ h
theorem Fs.aGo(i:Nat)(L:Ls Pre' add' F'):aB5 (@Fs.R P D Y X fQ add F f D' Y' X' Pre' add' F' i L) L.st Pre' add' F' L.ex (f.mw i L):=aE0
abbrev Fs.RS:Prop:=lN f.call fQ add F
def Fs.aHk(p:List aD->Bool)(ok:f.Ok)(n:Nat:=0)(hL:axM P (mN f.G) f.an f.N f.fn n 0:=by exact trivial)(hc:(P.funcs[f.i]?,aol P f.fn,atU f.fn)=(al f.fn,aT,n):=by kernel_rfl)(hy:Nat.blt f.i yB=aT:=by exact rfl)(hn:f.an.qz=aJ:=by exact rfl):SG P:=⟨f.i,p,f.E,.of (qU.fn n hc ok hL hn) hy⟩
def Fs.gm(ok:f.Ok)(n:Nat:=0)(hL:axM P (mN f.G) f.an f.N f.fn n 0:=by exact trivial)(hc:(P.funcs[f.i]?,aol P f.fn,atU f.fn)=(al f.fn,aT,n):=by kernel_rfl)(hy:Nat.blt f.i yB=aT:=by exact rfl)(hn:f.an.qz=aJ:=by exact rfl):SG P:=f.aHk qD ok n hL hc hy hn
end
theorem rE(ts:List Lf){P:aN}{Y X:Type}{fQ:Lf.arl ts->Prop}{add:Lf.arl ts->Y->X}{F:Lf.arl ts->Y}(f:Fs P fQ add F)(h:∀d,SA.leaves (f.st d)=Lf.mk ts d:=by exact λ_=>cT):lN f.call fQ add F:=aGq (aeQ ts h)
abbrev tu:Ty:=(.int .u64)
abbrev ti:Ty:=(.int .i64)
abbrev tb:Ty:=(.int .u8)
abbrev tB:Ty:=(.slice tb)
abbrev Bs:=(List Int)
abbrev tH:Ty:=(.arr 32 tb)
abbrev tU:Ty:=(.slice tu)
abbrev bP:Ty:=(.pair tH (.pair ti .unit))
abbrev cC:=(Bs×(Int×Unit))
abbrev MM:Ty:=(.pair tu (.pair tu .unit))
abbrev Sg:=(Int×(Int×Unit))
abbrev axX:Ty:=(.pair ti (.pair (.slice MM) (.pair tu .unit)))
abbrev Re:=(Int×((List Sg)×(Int×Unit)))
abbrev gK:Ty:=(.pair bP (.pair axX .unit))
abbrev kj:=(cC×(Re×Unit))
abbrev sa:Ty:=(.pair tU (.pair ti (.pair ti (.pair tu .unit))))
abbrev tG:=(Bs×(Int×(Int×(Int×Unit))))
abbrev ahh:Ty:=(.pair (.slice sa) .unit)
abbrev Lk:=((List tG)×Unit)
abbrev jv:Ty:=(.pair ti (.pair ahh .unit))
abbrev lM:=(Int×(Lk×Unit))
abbrev fg:Ty:=(.pair (.slice gK) (.pair (.slice jv) (.pair ti .unit)))
abbrev dS:=((List kj)×((List lM)×(Int×Unit)))
abbrev sr:Ty:=(.pair tB (.pair .bool .unit))
abbrev gI:=(Bs×(Bool×Unit))
abbrev aK6:Ty:=(.pair ti (.pair (.fZ MM) (.pair tu .unit)))
abbrev aHz:=(Int×((Option (List Sg))×(Int×Unit)))
abbrev qB:Ty:=(.pair bP (.pair aK6 .unit))
abbrev AU:=(cC×(aHz×Unit))
end Go.Ab
namespace Go.Ab
theorem sT{n:Int}(h1: -9223372036854775808<=n)(h2:n<=9223372036854775807):IntKind.i64.wrap n=n:=by simp[IntKind.wrap,IntKind.bits,IntKind.signed];split <;> omega
theorem hZ{x y:Int}(h1: -9223372036854775808<=x+y)(h2:x+y<=9223372036854775807):bV .i64 x y=x+y:=sT h1 h2
theorem gE{x y:Int}(h1: -9223372036854775808<=x - y)(h2:x - y<=9223372036854775807):dM .i64 x y=x - y:=sT h1 h2
theorem Lc{x y:Int}(h1: -9223372036854775808<=x*y)(h2:x*y<=9223372036854775807):je .i64 x y=x*y:=sT h1 h2
theorem azp{x:Int}(h1: -9223372036854775808<=x)(h2:x<=9223372036854775807):eD .i64 x=x:=sT h1 h2
def vw{n:Nat}(w:BitVec n):Int:=(w.toNat:Int)
theorem l5(n:Nat)(x:Int):vw (bh n x)=x%((2^n:Nat):Int):=by unfold vw;rw[qS];have:0<=x%((2^n:Nat):Int):=kr _ (by have:=Nat.two_pow_pos n;omega);omega
theorem Zn{n:Nat}(w:BitVec n):0<=vw w:=gH _
theorem aBY{n:Nat}(w:BitVec n):vw w < ((2^n:Nat):Int):=by have:=w.isLt;unfold vw;omega
theorem vH{n:Nat}(w:BitVec n):bh n (vw w)=w:=by apply BitVec.eq_of_toNat_eq;have:=l5 n (vw w);unfold vw at this ⊢;have h:=w.isLt;rw[fo (gH _) au]at this;omega
theorem wrap_u32(x:Int):IntKind.u32.wrap x=vw (bh 32 x):=by rw[l5];simp[IntKind.wrap,IntKind.bits,IntKind.signed]
theorem wrap_u64(x:Int):IntKind.u64.wrap x=vw (bh 64 x):=by rw[l5];simp[IntKind.wrap,IntKind.bits,IntKind.signed]
theorem wrap_u8(x:Int):IntKind.u8.wrap x=vw (bh 8 x):=by rw[l5];simp[IntKind.wrap,IntKind.bits,IntKind.signed]
theorem ofInt_add(n:Nat)(x y:Int):bh n (x+y)=bh n x+bh n y:=BitVec.ofInt_add ..
theorem S6(x y:BitVec 32):bV .u32 (vw x) (vw y)=vw (x+y):=by rw[bV,wrap_u32,BitVec.ofInt_add,vH,vH]
theorem azq(x:Int):eD .u32 x=vw (bh 32 x):=wrap_u32 x
theorem alI(x:Int):eD .u64 x=vw (bh 64 x):=wrap_u64 x
theorem aaK(x:Int):eD .u8 x=vw (bh 8 x):=wrap_u8 x
theorem ava{n:Nat}(x:BitVec n):bh n ((x.toNat:Nat):Int)=x:=vH x
theorem Gi(op:BinOp)(x y:BitVec 32):eh op .u32 (vw x) (vw y)=vw (match op with | .and=>x &&& y | .or=>x ||| y | .xor=>x^^^y | _=>x &&& ~~~y):=by unfold eh;split <;> (simp only[IntKind.bits,vH,wrap_u32,ava];rfl)
theorem anl(op:BinOp)(x y:BitVec 64):eh op .u64 (vw x) (vw y)=vw (match op with | .and=>x &&& y | .or=>x ||| y | .xor=>x^^^y | _=>x &&& ~~~y):=by unfold eh;split <;> (simp only[IntKind.bits,vH,wrap_u64,ava];rfl)
theorem atH(x y:Nat):Int.fdiv (x:Int) (y:Int)=((x / y:Nat):Int):=by rw[Int.fdiv_eq_ediv_of_nonneg _ (gH _)];rfl
theorem MZ(k:Nat):(2:Int)^k=((2^k:Nat):Int):=by simp
theorem aDU{n:Nat}(w:BitVec n)(k:Nat):Int.fdiv (vw w) (2^(min k n))=vw (w >>> k):=by
 rw[MZ];unfold vw;rw[atH,BitVec.toNat_ushiftRight,Nat.shiftRight_eq_div_pow];congr 1;rcases Nat.le_total k n with hk | hk
 ·rw[gF hk]
 ·rw[Nat.min_eq_right hk,Nat.div_eq_of_lt w.isLt,Nat.div_eq_of_lt];exact Nat.lt_of_lt_of_le w.isLt (Nat.pow_le_pow_right au hk)
theorem Tm(w:BitVec 32)(k:Int):cV .u32 (vw w) k=vw (w >>> k.toNat):=aDU w k.toNat
theorem aDT{n:Nat}(w:BitVec n)(k:Nat):bh n (vw w*2^(min k n))=w <<< k:=by
 apply BitVec.eq_of_toNat_eq;rw[qS,BitVec.toNat_shiftLeft,Nat.shiftLeft_eq];unfold vw;rw[MZ];have e:((w.toNat:Int)*((2^min k n:Nat):Int))=((w.toNat*2^min k n:Nat):Int):=by simp
 rw[e];have:(((w.toNat*2^min k n:Nat):Int)%((2^n:Nat):Int)).toNat=(w.toNat*2^min k n)%2^n:=au;rw[this];rcases Nat.le_total k n with hk | hk
 ·rw[gF hk]
 ·rw[Nat.min_eq_right hk,Nat.mul_mod_left];obtain⟨m,rfl⟩:=Nat.exists_eq_add_of_le hk;rw[nX,<-Nat.mul_assoc,Nat.mul_right_comm,Nat.mul_mod_left]
theorem aeU(w:BitVec 32)(k:Int):nQ .u32 (vw w) k=vw (w <<< k.toNat):=by rw[nQ,wrap_u32];congr 1;exact aDT w k.toNat
theorem bz{i n:Int}(h1:0<=i)(h2:i < n):gU i n=aT:=by simp[gU,h1,h2]
theorem qp{i n:Int}(h1:0<=i)(h2:i<=n):inc i n=aT:=by simp[inc,h1,h2]
theorem bm{x y:Int}(h:x < y):iE x y=aT:=by simp[iE,h]
theorem bn{x y:Int}(h:¬x < y):iE x y=aR:=by simp[iE];omega
theorem vA{x y:Int}(h:x<=y):ahg x y=aT:=by simp[ahg,h]
theorem pA{x y:Int}(h:¬x<=y):ahg x y=aR:=by simp[ahg];omega
theorem dX{x y:Int}(h:x > y):Ap x y=aT:=by simp[Ap];omega
theorem dx{x y:Int}(h:¬x > y):Ap x y=aR:=by simp[Ap];omega
theorem ig{x y:Int}(h:x>=y):BI x y=aT:=by simp[BI];omega
theorem fa{x y:Int}(h:¬x>=y):BI x y=aR:=by simp[BI];omega
theorem qo{x y:Int}(h:x=y):HA x y=aT:=by simp[HA,h]
theorem nu{x y:Int}(h:¬x=y):HA x y=aR:=by simp[HA,h]
theorem iJ{x y:Int}(h:¬x=y):G5 x y=aT:=by simp[G5,h]
theorem eJ{x y:Int}(h:x=y):G5 x y=aR:=by simp[G5,h]
theorem vG{x:Int}(h:0<=x):rr x=aT:=by simp[rr,h]
theorem bf{p:Prop} [Decidable p] (h:p):decide p=aT:=by simp[h]
theorem bI{p:Prop} [Decidable p] (h:¬p):decide p=aR:=by simp[h]
theorem eW{n b:Nat}(h:n*b<=140737488355328)(h2:n<=9223372036854775807):ea n b=aT:=by simp[ea,h,h2]
def from_{α:Type}(f:Nat->α->α)(t:Nat)(l:List α):List α:=l.mapIdx λi x=>if i < t then x else f i x
theorem Yb{α:Type}(f:Nat->α->α)(l:List α)(t:Nat)(h:t < l.length):from_ f (t+1) (l.set t (f t l[t]))=from_ f t l:=by
 unfold from_;apply pb (by simp);intro i h1 h2;simp only[List.getElem_mapIdx,List.getElem_set];by_cases hi:t=i
 ·subst hi;simp
 ·simp only[if_neg hi];by_cases h3:i < t
  ·rw[if_pos au,if_pos h3]
  ·rw[if_neg au,if_neg h3]
theorem aeq{α:Type}(f:Nat->α->α)(l:List α)(t:Nat)(h:l.length<=t):from_ f t l=l:=by unfold from_;apply pb (by simp);intro i h1 h2;simp only[List.getElem_mapIdx];rw[if_pos au]
theorem SQ{α:Type}(f:Nat->α->α)(n:Nat)(x:α):from_ f 0 (ai n x)=(List.range n).map λi=>f i x:=by unfold from_;apply pb (by simp);intro i h1 h2;simp
theorem dj{t:Ty}{l:List t.den}{i:Nat}(h:i < l.length):nth t l i=l[i]:=by simp[nth,h]
end Go.Ab
namespace Go.Ab.N
section
variable {α:Type} {x y:Option α} {a b n:Nat} {i j:Int}
theorem lt:aS (iE i j) x y=if i < j then x else y:=by unfold iE;split <;> rename_i h <;> simp[h]
theorem le:aS (ahg i j) x y=if i<=j then x else y:=by unfold ahg;split <;> rename_i h <;> simp[h]
theorem gt:aS (Ap i j) x y=if j < i then x else y:=by unfold Ap;split <;> rename_i h <;> simp[h]
theorem ge:aS (BI i j) x y=if j<=i then x else y:=by unfold BI;split <;> rename_i h <;> simp[h]
theorem eq:aS (HA i j) x y=if i=j then x else y:=by
 by_cases h:i=j
 ·rw[qo h,if_pos h];rfl
 ·rw[nu h,if_neg h];rfl
theorem ne:aS (G5 i j) x y=if i=j then y else x:=by
 by_cases h:i=j
 ·rw[eJ h,if_pos h];rfl
 ·rw[iJ h,if_neg h];rfl
theorem ib:aS (gU i j) x y=if 0<=i/\i < j then x else y:=by unfold gU;split <;> rename_i h <;> simp[h]
theorem ic:aS (inc i j) x y=if 0<=i/\i<=j then x else y:=by unfold inc;split <;> rename_i h <;> simp[h]
theorem nn:aS (rr i) x y=if 0<=i then x else y:=by unfold rr;split <;> rename_i h <;> simp[h]
theorem nz:aS (qE i) x y=if i=0 then y else x:=by unfold qE;split <;> rename_i h <;> simp[h]
theorem dc{p:Prop} [Decidable p]:aS (decide p) x y=if p then x else y:=by split <;> rename_i h <;> simp[h]
theorem rm:aS (ea n b) x y=if n*b<=140737488355328/\n<=9223372036854775807 then x else y:=by unfold ea;exact dc
theorem an{c d:Bool}:aS (c && d) x y=aS c (aS d x y) y:=by cases c <;> rfl
theorem or{c d:Bool}:aS (c || d) x y=aS c x (aS d x y):=by cases c <;> rfl
theorem no{c:Bool}:aS (!c) x y=aS c y x:=by cases c <;> rfl
theorem aGO(h:a+b<=9223372036854775807):bV .i64 (a:Int) (b:Int)=((a+b:Nat):Int):=by rw[hZ au au];omega
theorem pn(h:a+dA n<=9223372036854775807):bV .i64 (a:Int) (no_index (dA n))=((a+dA n:Nat):Int):=aGO h
theorem aJn(h:dA n+a<=9223372036854775807):bV .i64 (no_index (dA n)) (a:Int)=((dA n+a:Nat):Int):=aGO h
theorem aHj(h:b<=a)(h2:a<=9223372036854775807):dM .i64 (a:Int) (b:Int)=((a - b:Nat):Int):=by rw[gE au au];omega
theorem aJ3(h:dA n<=a)(h2:a<=9223372036854775807):dM .i64 (a:Int) (no_index (dA n))=((a - dA n:Nat):Int):=aHj h h2
theorem aJ2(h:a<=dA n)(h2:(dA n:Nat)<=9223372036854775807):dM .i64 (no_index (dA n)) (a:Int)=((dA n - a:Nat):Int):=aHj h h2
theorem aHf(h:a*b<=9223372036854775807):je .i64 (a:Int) (b:Int)=((a*b:Nat):Int):=by
 have e:(a:Int)*(b:Int)=((a*b:Nat):Int):=by simp
 rw[Lc au au,e]
theorem aJX(h:a*dA n<=9223372036854775807):je .i64 (a:Int) (no_index (dA n))=((a*dA n:Nat):Int):=aHf h
theorem aF9(h:dA n*a<=9223372036854775807):je .i64 (no_index (dA n)) (a:Int)=((dA n*a:Nat):Int):=aHf h
theorem aIQ(h:a<=9223372036854775807):A7 .i64 (a:Int) (b:Int)=((a / b:Nat):Int):=by
 have:(a:Int).tdiv (b:Int)=((a / b:Nat):Int):=by rw[j3 au];simp
 have hl:a / b<=a:=Nat.div_le_self a b;unfold A7;rw[this];generalize a / b=c at hl;exact sT au au
theorem aJ1(h:a<=9223372036854775807):A7 .i64 (a:Int) (no_index (dA n))=((a / dA n:Nat):Int):=aIQ h
theorem aIS:tW (a:Int) (b:Int)=((a%b:Nat):Int):=by unfold tW;rw[gW au];simp
theorem aIR:tW (a:Int) (no_index (dA n))=((a%dA n:Nat):Int):=aIS
theorem cN(h:a<=9223372036854775807):eD .i64 (a:Int)=(a:Int):=azp au au
theorem cL(h:(dA n:Nat)<=9223372036854775807):eD .i64 (no_index (dA n))=dA n:=cN h
theorem tL:ab (no_index (dA n))=dA n:=rfl
end
end Go.Ab.N
namespace Go.Ab
section
variable {P:aN}
theorem atA{E E':Env}(h1:E'.w=E.w)(h2:E'.g=E.g)(h3:E'.β=E.β)(h4:E'.s=E.s):E'=E:=by obtain⟨a,b,c,d⟩:=E;obtain⟨a',b',c',d'⟩:=E';simp only at h1 h2 h3 h4;subst h1 h2 h3 h4;rfl
theorem sw.same{w:bU}{g:Nat->lQ}{β:Id->Option Pl}{cj:List dR}{a:aD}{v:Value}(hv:VS ((fT cj).env w g β) a v)(ho:iP ((fT cj).env w g β)):
  sw ((fT cj).env w g β) ⟨a,cj,[]⟩ v w:=by
 have hE:(im.st ⟨a,cj,[]⟩).env w g β=(fT cj).env w g β:=by
  refine atA rfl rfl rfl ?_
  funext id;cases id with
  |bG k=>rfl
  |new i j=>
   show([([]:List dR)].getD i [])[j]? =(([]:List (List dR)).getD i [])[j]?
   cases i <;> rfl
 refine⟨g,β,?_⟩;rw[hE];exact⟨hv,ho,Trans.refl w g,cU.refl _⟩
theorem qU.extern{f:fR}{fn:Func}{e:Array Value->Sem Value}(hf:P.funcs[f]? =al fn)(zb:(fn.name== "runtime.NumGoroutine")=aR)(hb:fn.body.isNone=aT)(hn:Extern.findNext fn=aJ)(he:Extern.find fn=al e){en:Entry}
  (h:∀w g β args cj jf x,wL ((fT cj).env w g β) args jf->iP ((fT cj).env w g β)->en.run args cj=al x->∃v,(e jf.toArray).run P w= .ok v w/\sw ((fT cj).env w g β) (en.out args cj x) v w):qU P f en:=by
 intro w g β args cj jf x h1 h2 h3;obtain⟨v,h4,h5⟩:=h w g β args cj jf x h1 h2 h3;refine .inr ⟨v,w,?_,h5⟩;rw[run_callFunc_extern hf zb hb hn he,h4];rfl
def aBP.E:Entry:= {params:=[aJ],X:=Unit,run:=λargs _=>match args with | [_]=>al () | _=>aJ,out:=λargs cj _=>⟨args.headD .undef,cj,[]⟩}
theorem aBP.of{f:fR}{fn:Func}(hf:P.funcs[f]? =al fn)(zb:(fn.name== "runtime.NumGoroutine")=aR)(hb:fn.body.isNone=aT)(hn:Extern.findNext fn=aJ)(he:Extern.find fn=al Extern.AbiNoEscape.same):qU P f aBP.E:=by
 refine qU.extern hf zb hb hn he λw g β args cj jf x h1 h2 h3=> ?_
 cases args with
 |nil=>cases h3
 |cons a as=>
  cases as with
  |cons _ _=>cases h3
  |nil=>
   cases jf with
   |nil=>exact h1.elim
   |cons v vs=>
    obtain⟨h4,h5⟩:=h1;cases vs with
    |cons _ _=>exact h5.elim
    |nil=>exact⟨v,rfl,sw.same h4 h2⟩
theorem Y5{w:bU}:∀(xs:List Int) (a:Addr) (acc:ByteArray),(∀j x,xs[j]? =al x->w.cell? (a.add j)=al (.int .u8 x))->
  (Extern.Bytes.loadBytes a xs.length acc).run P w= .ok ⟨acc.data++(xs.map λn=>fy n.toNat).toArray⟩ w
 |[],a,acc,_=>by simp[Extern.Bytes.loadBytes]
 |x::l,a,acc,h=>by
  have h0:w.cell? a=al (.int .u8 x):=by have:=h 0 x rfl;simpa[Addr.add]using this
  have ih:=Y5 l (a.add 1) (acc.push x.toNat.toUInt8) (λj y hy=>by
   have:=h (j+1) y (by simpa using hy);have e:(a.add 1).add j=a.add (j+1):=by
    unfold Addr.add;by_cases hj:j=0
    ·subst hj;simp
    ·simp[hj];omega
   rw[e];exact this)
  simp only[aH,Extern.Bytes.loadBytes,cd,run_load,h0,Result.andThen];rw[ih];congr 1;apply ByteArray.ext;simp[ByteArray.push]
theorem Vi{E:Env}{l:List Int}{y:Value}(h:VS E (.d (.slice (.int .u8)) l) y):(Extern.Bytes.bytesOf y).run P E.w= .ok (fF l) E.w:=by
 obtain⟨a,cap,vs,rfl,_,hs,si,uG⟩:=tq h;have Pz:=vn (k:= .u8) (vs:=vs) (l:=l) uG;cases a with
 |none=>
  have hl:l=[]:=by
   cases l with
   |nil=>rfl
   |cons _ _=>simp at hs
  subst hl;rfl
 |some ad=>
  have at7:=Y5 (P:=P) (w:=E.w) l ad .empty λj x hx=>by
   obtain⟨b,off,e,hh⟩:=si j (.int .u8 x) (by rw[Pz];simp[hx]);have e:ad=⟨b,off,aJ⟩:=by simpa using e
   subst e;have h1:=hh.1;unfold Addr.add;by_cases hj:j=0
   ·subst hj;simpa using h1
   ·simpa[hj]using h1
  show(Extern.Bytes.loadBytes ad l.length .empty).run P E.w=_;rw[at7];congr 1;apply ByteArray.ext;simp[fF]
def Sb(a b:List Int):Int:=Extern.BytealgCompare.cmp (fF a) (fF b)
def akY:Entry:=Entry.of (D:=List Int×List Int) (X:=Int) [al (.slice (.int .u8)),al (.slice (.int .u8))] (λd=>([.d (.slice (.int .u8)) d.1,.d (.slice (.int .u8)) d.2],[])) (λ_=>True) (λd=>Sb d.1 d.2) (λx=>⟨.d (.int .i64) x,[],[]⟩)
theorem ax5:∀d d':List Int×List Int,(([aD.d (.slice (.int .u8)) d.1,aD.d (.slice (.int .u8)) d.2],([]:List dR)):List aD×List dR)=([.d (.slice (.int .u8)) d'.1,.d (.slice (.int .u8)) d'.2],[])->d=d':=by rintro⟨a,b⟩ ⟨a',b'⟩ h;have e1:a=a':=aBh (t:= .slice (.int .u8)) (bE (λs:List aD×List dR=>s.1.getD 0 .undef) h);have e2:b=b':=aBh (t:= .slice (.int .u8)) (bE (λs:List aD×List dR=>s.1.getD 1 .undef) h);rw[e1,e2]
def ac1:List Int×List Int->Option Int:=λd=>akY.run [.d (.slice (.int .u8)) d.1,.d (.slice (.int .u8)) d.2] []
theorem akZ(d:List Int×List Int):ac1 d=al (Sb d.1 d.2):=Entry.ru (d:=d) ax5 trivial
theorem aCc{f:fR}{fn:Func}(hf:P.funcs[f]? =al fn)(zb:(fn.name== "runtime.NumGoroutine")=aR)(hb:fn.body.isNone=aT)(hn:Extern.findNext fn=aJ)(he:Extern.find fn=al Extern.BytealgCompare.compare):qU P f akY:=by
 refine qU.extern hf zb hb hn he λw g β args cj jf x h1 h2 h3=> ?_
 have hx:∃d:List Int×List Int,(([aD.d (.slice (.int .u8)) d.1,aD.d (.slice (.int .u8)) d.2],([]:List dR)):List aD×List dR)=(args,cj):=by
  by_cases hh:∃d:List Int×List Int,(([aD.d (.slice (.int .u8)) d.1,aD.d (.slice (.int .u8)) d.2],([]:List dR)):List aD×List dR)=(args,cj)
  ·exact hh
  ·exfalso;have hn:akY.run args cj=aJ:=Ai λ⟨d,h,_⟩=>hh ⟨d,h⟩
   rw[hn]at h3;cases h3
 obtain⟨d,hd⟩:=hx;simp only[cM]at hd;obtain⟨rfl,rfl⟩:=hd;have hr:=akZ d;have hx:x=Sb d.1 d.2:=aO (h3.symm.trans hr);subst hx
 match jf,h1 with
 |[u,v],⟨h4,h5,_⟩=>
  refine⟨.int .i64 (Sb d.1 d.2),?_,sw.same (lu _ _) h2⟩;have e1:=Vi (P:=P) h4;have e2:=Vi (P:=P) h5;have e1:(Extern.Bytes.bytesOf u).run P w= .ok (fF d.1) w:=e1;have e2:(Extern.Bytes.bytesOf v).run P w= .ok (fF d.2) w:=e2;have aCT:Extern.BytealgCompare.compare [u,v].toArray=(do let a <-Extern.Bytes.bytesOf u;let b <-Extern.Bytes.bytesOf v;pure (goInt (Extern.BytealgCompare.cmp a b))):=rfl;rw[aCT];simp[e1,e2,goInt,Sb]
def aHD{X Y:Type} [Inhabited Y] (x:Option X):Option (X×Y):=aq x λy=>al (y,default)
def aHE{X Y:Type} [Inhabited X] (x:Option Y):Option (X×Y):=aq x λy=>al (default,y)
@[simp] theorem aEn{X Y:Type} [Inhabited Y] (x:X):aHD (Y:=Y) (al x)=al (x,default):=rfl
@[simp] theorem aEo{X Y:Type} [Inhabited X] (x:Y):aHE (X:=X) (al x)=al (default,x):=rfl
end
theorem S1:(type_of% @N.lt)/\(type_of% @N.le)/\(type_of% @N.gt)/\(type_of% @N.ge)/\(type_of% @N.eq)/\(type_of% @N.ne)/\(type_of% @N.ib)/\(type_of% @N.ic)/\(type_of% @N.nn)/\(type_of% @N.nz)/\(type_of% @N.dc)/\(type_of% @N.rm)/\(type_of% @N.an)/\(type_of% @N.or)/\(type_of% @N.no)/\(type_of% @ak)/\(type_of% @ao)/\(type_of% @ae):=⟨@N.lt,@N.le,@N.gt,@N.ge,@N.eq,@N.ne,@N.ib,@N.ic,@N.nn,@N.nz,@N.dc,@N.rm,@N.an,@N.or,@N.no,@ak,@ao,@ae⟩
theorem S2:(type_of% @ae)/\(type_of% @N.aGO)/\(type_of% @N.pn)/\(type_of% @N.aJn)/\(type_of% @N.aHj)/\(type_of% @N.aJ3)/\(type_of% @N.aJ2)/\(type_of% @N.aHf)/\(type_of% @N.aJX)/\(type_of% @N.aF9)/\(type_of% @N.aIQ)/\(type_of% @N.aJ1)/\(type_of% @N.aIS)/\(type_of% @N.aIR)/\(type_of% @N.cN)/\(type_of% @N.cL)/\(type_of% @N.tL)/\(type_of% @aa)/\(type_of% @j4)/\(type_of% @zP)/\(type_of% @eG):=⟨@ae,@N.aGO,@N.pn,@N.aJn,@N.aHj,@N.aJ3,@N.aJ2,@N.aHf,@N.aJX,@N.aF9,@N.aIQ,@N.aJ1,@N.aIS,@N.aIR,@N.cN,@N.cL,@N.tL,@aa,@j4,@zP,@eG⟩
end Go.Ab
namespace Go.Ab
open Go.ChangeShapes Go.WideShapes Go.ChangeAt Go.RowKit Go.Deep
def Xy:(t:Ty)->t.den->Prop
 | .int k,x=>(Lit.int k x).wf=aT
 | .bool,_=>True
 | .str,s=>(s:ByteArray).size<=maxLen
 | .slice t,l=>(l:List t.den).length<=maxLen/\∀x∈(l:List t.den),Xy t x
 | .unit,_=>True
 | .pair a b,x=>Xy a x.1/\Xy b x.2
 | .arr n t,l=>(l:List t.den).length=n/\∀x∈(l:List t.den),Xy t x
 | .fZ _,_ | .nP _,_ | .gO _,_=>False
def y9(P:aN)(rd:TypeId->Ty->Bool):Nat->List Field->Ty->Bool
 |_,[],.unit=>aT
 |off,f::fs,.pair a b=>iG f.offset off && (rd f.type a && (iG (P.cellsOf f.type) a.size && y9 P rd (off+a.size) fs b))
 |_,_,_=>aR
def Bv(P:aN):Nat->TypeId->Ty->Bool
 | 0,_,_=>aR
 |n+1,T,ty=>
  match P.underlying T,ty with
  |some (.int k),.int k'=>decide (k=k')
  |some .bool,.bool=>aT
  |some .string,.str=>aT
  |some (.slice e),.slice t=>Bv P n e t && iG (P.cellsOf e) t.size
  |some (.array k e),.arr k' t=>iG k k' && (Bv P n e t && (iG (P.cellsOf e) t.size && iG (P.cellsOf T) (k*t.size)))
  |some (.struct fs),ty=>y9 P (Bv P n) 0 fs.toList ty && iG (P.cellsOf T) ty.size
  |_,_=>aR
theorem ayb{a b:Nat}:(iG a b=aT)=(a=b):=propext ⟨fh,λh=>by subst h;exact Nat.beq_refl a⟩
theorem afb{α β:Type}{f:α->Option β}:∀ {l:List α} {r:List β},l.mapM f=al r->r.length=l.length/\∀(i:Nat) (x:α),l[i]? =al x->f x=r[i]?
 |[],r,h=>by simp only[List.mapM_nil,Option.pure_def,az]at h;subst h;exact⟨rfl,λi x h=>by simp at h⟩
 |y::l,r,h=>by
  simp only[List.mapM_cons,Option.bind_eq_bind,Option.pure_def,Option.bind_eq_some_iff,az]at h;obtain⟨b,hb,r',hr,rfl⟩:=h;obtain⟨h1,h2⟩:=afb hr;refine⟨by simp[h1],λi x hi=> ?_⟩;cases i with
  |zero=>
   simp only[fX,az]at hi;subst hi;simpa using hb
  |succ i=>
   simp only[lR]at hi ⊢;exact h2 i x hi
theorem anQ{w:bU}{base:Nat}{a:Addr}{n:Nat}{cs:List Value}(h:w.cells? base a n=al cs):cs.length=n/\∀i,i < n->w.cell? (a.add i)=cs[i]? :=by
 unfold World.cells? at h;split at h
 ·obtain⟨h1,h2⟩:=afb h;exact⟨by simpa using h1,λi hi=>h2 i i (by simp[hi])⟩
 ·cases h
theorem add_add(a:Addr)(x y:Nat):(a.add x).add y=a.add (x+y):=by unfold Addr.add;by_cases hx:x=0 <;> by_cases hy:y=0 <;> simp[hx,hy,fN]
theorem aqS{w:bU}{a:Addr}{v:Value}(h:w.cell? a=al v):a.spot=aJ:=by
 unfold eP at h;split at h
 ·split at h
  ·cases h
  ·rename_i hs;cases hh:a.spot with
   |none=>rfl
   |some _=>simp[hh]at hs
 ·cases h
theorem aDR{E:Env}(hg:∀b,E.g b= .free){a:Addr}{vs:List Value}(h:∀i,i < vs.length->E.w.cell? (a.add i)=vs[i]?):wz E (al a) vs:=by
 intro i v hv;have hi:i < vs.length:=(dN.1 hv).1;have h0:=h 0 au;rw[bQ au]at h0;have hs:a.spot=aJ:=aqS (a:=a) (by simpa[Addr.add]using h0);obtain⟨b,off,sp⟩:=a;simp only at hs;subst hs;refine⟨b,off,rfl,?_,?_⟩
 ·have:=h i hi;rw[hv]at this;rw[<-this];unfold Addr.add;split
  ·rename_i h;subst h;rfl
  ·rfl
 ·unfold so;rw[hg b];trivial
section
variable {H:Type} {enc:TypeId×Value->H} {P:aN} {base:Nat} {spare:Nat->Bool} {held:Bool} {E:Env}
theorem amF{t:Ty}{R:List Value->t.den->Prop}{G:t.den->Prop}{w:bU}{a:Addr}{z:Nat}(hR:∀c x,R c x->c.length=z):∀(len:Nat),(∀i,i < len->∃c x,R c x/\G x/\∀j,j < z->w.cell? (a.add (i*z+j))=c[j]?)->
  ∃(vs:List Value) (l:List t.den),vs.length=len*z/\l.length=len/\(∀i,i < vs.length->w.cell? (a.add i)=vs[i]?)/\bo R vs l/\∀x∈l,G x
 | 0,_=>⟨[],[],by simp,rfl,λi h=>by simp at h,rfl,λ_ h=>by cases h⟩
 |len+1,h=>by
  obtain⟨vs,l,h1,h2,h3,h4,h5⟩:=amF hR len λi hi=>h i au
  obtain⟨c,x,g1,g2,g3⟩:=h len au;have hc:=hR c x g1;refine⟨vs++c,l++ [x],by rw[aj,h1,hc,eO,ir],by rw[aj,h2];rfl,λi hi=> ?_,bo.append h4 ⟨c,[],by simp,g1,rfl⟩,λy hy=> ?_⟩
  ·rw[aj,h1,hc]at hi;by_cases hl:i < vs.length
   ·rw[h3 i hl,fB hl]
   ·rw[List.getElem?_append_right au,h1,<-g3 (i - len*z) au,show len*z+(i - len*z)=i by omega]
  ·rcases bD.1 hy with hy | hy
   ·exact h5 y hy
   ·rw[bq.1 hy];exact g2
theorem XP{t:Ty}{R:List Value->t.den->Prop}{G:t.den->Prop}{z:Nat}:∀(n:Nat) (cs:List Value),cs.length=n*z->(∀i,i < n->∃x,R ((cs.drop (i*z)).take z) x/\G x)->
  ∃l:List t.den,l.length=n/\bo R cs l/\∀x∈l,G x
 | 0,cs,h,_=>⟨[],rfl,bw (by simpa using h),λ_ h=>by cases h⟩
 |n+1,cs,h,hi=>by
  obtain⟨x,g1,g2⟩:=hi 0 au;obtain⟨l,h1,h2,h3⟩:=XP (R:=R) (G:=G) (z:=z) n (cs.drop z) (by rw[de,h,eO];omega) λi aeB=>by obtain⟨y,k1,k2⟩:=hi (i+1) au;refine⟨y,?_,k2⟩;rw[gA,show z+i*z=(i+1)*z by rw[eO];omega];exact k1
  refine⟨x::l,by simp[h1],⟨cs.take z,cs.drop z,(dw z cs).symm,by simpa using g1,h2⟩,λy hy=> ?_⟩;rcases cg.1 hy with rfl | hy
  ·exact g2
  ·exact h3 y hy
theorem Qq{rd:TypeId->Ty->Bool}{cs:List Value}:∀(fs:List Field) (off:Nat) (ty:Ty),y9 P rd off fs ty=aT->off+ty.size<=cs.length->
  (∀f∈fs,∀t,rd f.type t=aT->P.cellsOf f.type=t.size->∃v,cI E t ((cs.drop f.offset).take (P.cellsOf f.type)) v/\Xy t v)->∃v,cI E ty ((cs.drop off).take ty.size) v/\Xy ty v
 |[],off,ty,h,hl,_=>by
  cases ty <;> simp only[y9]at h <;> first | cases h | skip
  exact⟨(),by simp[cI,Ty.size],trivial⟩
 |f::fs,off,ty,h,hl,hf=>by
  cases ty <;> simp only[y9]at h <;> first | cases h | skip
  rename_i a b;simp only[av,ayb]at h;obtain⟨h1,h2,h3,h4⟩:=h;have hl:off+(a.size+b.size)<=cs.length:=hl;obtain⟨v,k1,k2⟩:=hf f (aL ..) a h2 h3;obtain⟨u,k3,k4⟩:=Qq fs (off+a.size) b h4 au λf' hf'=>hf f' (aK _ hf')
  refine⟨(v,u),⟨(cs.drop off).take a.size,(cs.drop (off+a.size)).take b.size,?_,?_,k3⟩,k2,k4⟩
  ·rw[show Ty.size (.pair a b)=a.size+b.size from rfl,List.take_add,gA]
  ·rw[h1,h3]at k1;exact k1
theorem Mg(hg:∀b,E.g b= .free):∀(n:Nat) (T:TypeId) (ty:Ty),Bv P n T ty=aT->∀ {fuel:Nat} {cs:List Value} {x:DataW H×List MemPlace},DataW.trod enc P E.w base spare held fuel T cs=al x->∃v,cI E ty cs v/\Xy ty v
 | 0,_,_,h,_,_,_,_=>by simp[Bv]at h
 |n+1,T,ty,h,fuel,cs,x,hx=>by
  unfold Bv at h;split at h
  ·rename_i k k' hu;obtain rfl:=of_decide_eq_true h;obtain⟨m,rfl,_,hw⟩:=DataW.trod_int hu hx;exact⟨m,rfl,hw⟩
  ·rename_i hu;obtain⟨b,rfl,_⟩:=DataW.trod_bool hu hx;exact⟨b,rfl,trivial⟩
  ·rename_i hu;obtain⟨s,rfl,_,hs⟩:=DataW.trod_string hu hx;exact⟨s,rfl,hs⟩
  ·rename_i e t hu;simp only[av,ayb]at h;obtain⟨h1,h2⟩:=h;rcases open_slice hu hx with⟨rfl,_⟩ | ⟨a,len,cap,m,f,D,Pl,rfl,_,hl,hm,aFJ,_,he⟩
   ·exact⟨([]:List t.den),⟨aJ,0,[],rfl,aF _,λh=>by simp at h,λi v hv=>by simp at hv,rfl⟩,aP _,λ_ h=>by cases h⟩
   ·have aG5:len<=m:=by rw[aFJ];split <;> omega
    obtain⟨vs,l,k1,k2,k3,k4,k5⟩:=amF (t:=t) (R:=cI E t) (G:=Xy t) (w:=E.w) (a:=a) (z:=t.size) (λc x h=>cI.size h) len λi hi=>by obtain⟨cs',g1,g2⟩:=he i au;obtain⟨v,g3,g4⟩:=Mg hg n e t h1 g2;obtain⟨g5,g6⟩:=anQ g1;refine⟨cs',v,g3,g4,λj hj=> ?_⟩;rw[<-g6 j au,add_add,h2]
    refine⟨l,⟨al a,cap,vs,by rw[k2],by rw[k2];exact hl,λ_=>rfl,aDR hg k3,k4⟩,by rw[k2];omega,k5⟩
  ·rename_i k e k' t hu;simp only[av,ayb]at h;obtain⟨rfl,h1,h2,h3⟩:=h;obtain⟨xs,m,rfl,_,hl,axU,he⟩:=DataW.trod_array hu hx;obtain⟨l,k1,k2,k3⟩:=XP (t:=t) (R:=cI E t) (G:=Xy t) (z:=t.size) k cs (by rw[hl,h3]) λi hi=>by have:=he i hi;rw[bQ au,h2]at this;exact Mg hg n e t h1 this
   exact⟨l,⟨k1,k2⟩,k1,k3⟩
  ·rename_i ty fs hu;simp only[av,ayb]at h;obtain⟨h1,h2⟩:=h;obtain⟨xs,m,rfl,_,hl,axU,he⟩:=DataW.trod_struct hu hx;obtain⟨v,k1,k2⟩:=Qq (E:=E) (cs:=cs) fs.toList 0 _ h1 (by rw[hl,h2];omega) λf hf t ht hc=>by
    obtain⟨i,hi,aKq⟩:=List.mem_iff_getElem.1 hf;have hi':i < fs.size:=by simpa using hi
    have:=he i f (by rw[<-aKq];simp[hi']);rw[bQ au]at this;exact Mg hg n f.type t ht this
   refine⟨v,?_,k2⟩;rwa[aQ,bC au]at k1
  ·cases h
end
end Go.Ab
namespace Go.Ab
open Go.ChangeShapes Go.WideShapes Go.ChangeAt Go.RowKit Go.Deep
section
variable {H:Type} {enc:TypeId×Value->H} {P:aN} {base b0:Nat} {spare:Nat->Bool} {held:Bool} {E:Env} {W:bU}
theorem aim{rd:TypeId->Ty->Bool}{fs:List Field}{off:Nat}{ty:Ty}(h:y9 P rd off fs ty=aT):ty.agg=aT:=by cases fs <;> cases ty <;> first | rfl | (simp[y9]at h)
theorem aww(hw:E.w=W)(hg:∀b,E.g b= .free){n:Nat}{t:TypeId}{ty:Ty}(h:Bv P n t ty=aT){v:Value}{d:DataW H}{ps:List MemPlace}(zd:Value.okWide P W .any base t v)(hd:DataW.Trod enc P W b0 spare held t v d ps):
  ∃x:ty.den,VS E (.d ty x) v/\Xy ty x:=by
 subst hw;obtain⟨fuel,hf⟩:=hd;obtain⟨x,h1,h2⟩:=Mg hg n t ty h hf;refine⟨x,⟨v.cells.toList,h1,?_⟩,h2⟩;cases n with
 |zero=>simp[Bv]at h
 |succ n=>
  unfold Bv at h;split at h
  ·rename_i k k' hu;obtain⟨m,rfl⟩:=okWide_int hu zd;rfl
  ·rename_i hu;obtain⟨m,rfl⟩:=okWide_bool hu zd;rfl
  ·rename_i hu;obtain⟨m,rfl⟩:=okWide_string hu zd;rfl
  ·rename_i hu;obtain⟨a,len,cap,rfl⟩:=okWide_slice hu zd;rfl
  ·rename_i hu;simp only[Value.okWide,hu]at zd;obtain⟨cs,rfl,_⟩:=zd;show _=_;simp[Value.cells]
  ·rename_i fs hu;simp only[Value.okWide,hu]at zd;obtain⟨cs,rfl,_⟩:=zd;simp only[av]at h;have:=aim h.1;simp only[aD.agg,this,fY,Value.cells,Array.toArray_toList]
  ·cases h
def DV:List Ty->Type
 |[]=>Unit
 |t::ts=>t.den×DV ts
def DV.jf:(ts:List Ty)->DV ts->List aD
 |[],_=> []
 |t::ts,x=> .d t x.1::DV.jf ts x.2
def DV.aIY:(ts:List Ty)->DV ts->Prop
 |[],_=>True
 |t::ts,x=>Xy t x.1/\DV.aIY ts x.2
def uV(P:aN)(n:Nat):List TypeId->List Ty->Bool
 |[],[]=>aT
 |T::Ts,t::ts=>Bv P n T t && uV P n Ts ts
 |_,_=>aR
theorem YW(hw:E.w=W)(hg:∀b,E.g b= .free){n:Nat}:∀ {Ts:List TypeId} {ts:List Ty} {vs:List Value} {ds:List (DataW H)} {ps:List MemPlace},uV P n Ts ts=aT->
  (∀(j:Nat) t v,Ts[j]? =al t->vs[j]? =al v->Value.okWide P W .any base t v)->DataW.TrodAll enc P W b0 spare held Ts vs ds ps->∃x:DV ts,wL E (DV.jf ts x) vs/\DV.aIY ts x
 |[],[],vs,ds,ps,_,_,h=>by obtain⟨rfl,rfl,rfl⟩:=trodAll_nil h;exact⟨(),trivial,trivial⟩
 |T::Ts,[],_,_,_,h,_,_=>by simp[uV]at h
 |[],t::ts,_,_,_,h,_,_=>by simp[uV]at h
 |T::Ts,t::ts,vs,ds,ps,h,zd,hd=>by simp only[uV,av]at h;obtain⟨v,vs',d,ds',p,q,rfl,rfl,rfl,h1,h2⟩:=trodAll_cons hd;obtain⟨x,k1,k2⟩:=aww hw hg h.1 (zd 0 T v rfl rfl) h1;obtain⟨y,k3,k4⟩:=YW hw hg h.2 (λj t v hj hv=>zd (j+1) t v (by simpa using hj) (by simpa using hv)) h2;exact⟨(x,y),⟨k1,k3⟩,⟨k2,k4⟩⟩
def vM(P:aN)(Ts:List TypeId):Bool:=Ts.all λt=>P.readableRec t && decide (t < P.types.size)
theorem Ic(hl:laidOutB P=aT){W':bU}(hb:Below W.heap.size W W')(sp:Nat->Bool):∀ {Ts:List TypeId} {vs:List Value} {ds:List (DataW H)} {ps:List MemPlace},vM P Ts=aT->(∀p∈ps,p.block < W.heap.size)->(∀p∈ps,sp p.block=aT)->
  DataW.TrodAll enc P W 0 (λ_=>aT) aT Ts vs ds ps->DataW.TrodAll enc P W' 0 sp aT Ts vs ds ps
 |[],vs,ds,ps,_,_,_,h=>by obtain⟨rfl,rfl,rfl⟩:=trodAll_nil h;exact trodAll_mk0
 |T::Ts,vs,ds,ps,hr,jb,hs,h=>by obtain⟨v,vs',d,ds',p,q,rfl,rfl,rfl,h1,h2⟩:=trodAll_cons h;simp only[vM,lq,av,aW]at hr;have h3:=WideElems.Trod_stays hl hr.1.1 hr.1.2 h1 (λx hx=>hb.same (jb x (bD.2 (.inl hx)))) (λx hx=>hs x (bD.2 (.inl hx)));exact⟨p,q,h3,Ic hl hb sp (by simpa[vM]using hr.2) (λx hx=>jb x (bD.2 (.inr hx))) (λx hx=>hs x (bD.2 (.inr hx))) h2,rfl⟩
end
theorem Gb{H:Type}{enc:TypeId×Value->H}{P:aN}{W:bU}{b0:Nat}{spare:Nat->Bool}{held:Bool}:∀ {Ts:List TypeId} {vs:List Value} {ds:List (DataW H)} {ps:List MemPlace},DataW.TrodAll enc P W b0 spare held Ts vs ds ps->ds.length=Ts.length
 |[],_,_,_,h=>by obtain⟨_,rfl,_⟩:=trodAll_nil h;rfl
 |_::_,_,_,_,h=>by obtain⟨v,vs',d,ds',p,q,rfl,rfl,rfl,h1,h2⟩:=trodAll_cons h;simp[Gb h2]
theorem afS{H:Type}{enc:TypeId×Value->H}{P:aN}{f:Func}{s:ChangeSpec}{W W':bU}{args:Array Value}{v:Value}{ds gs:List (DataW H)}{before:List MemPlace}{tb:TypeId}
  (hl:laidOutB P=aT) (aha:vM P f.params.toList=aT) (aeL:s.vars=[]) (aIx:f.resultTypes= #[tb]) (aIA:P.underlying tb=al .bool)
  (hW:DataW.Whole enc P f.params.toList s.vars aR W args.toList ds gs before) (aCW:s.fn H (ds++gs)= {results:=[.lit (.bool aT)],args:=ds}) (hb:Below W.heap.size W W') (hv:v= .bool aT):
  s.post enc P f aR aT aR aR W args v W':=by
 subst hv;have hW':=hW;have hold:∀p∈before,(λb=>decide (b < W.heap.size)) p.block=aT:=λp hp=>by simpa using hW.lt p hp
 obtain⟨p,q,hA,hV,rfl,hz,_⟩:=hW;rw[aeL]at hV;obtain⟨rfl,rfl⟩:=trodVars_none hV;have jb:∀x∈p,x.block < W.heap.size:=λx hx=>hW'.lt x (bD.2 (.inl hx))
 have Hx:∀sp:Nat->Bool,(∀x∈p,sp x.block=aT)->DataW.TrodAll enc P W' 0 sp aT f.params.toList args.toList (s.fn H (ds++ [])).args p:=λsp hs=>by rw[aCW];exact Ic hl hb sp aha jb hs hA
 have aIr:∀(b:Nat) (sp:Nat->Bool) (hd:Bool),DataW.TrodAll enc P W' b sp hd f.resultTypes.toList ((Value.bool aT).resultList f.resultTypes.size) (s.fn H (ds++ [])).results []:=λb sp hd=>by rw[aCW,aIx];exact trodAll_mk1 (shut_bool aIA _)
 have Pz:∀sp:Nat->Bool,DataW.TrodVars enc P W' sp s.vars (s.fn H (ds++ [])).vars []:=λsp=>by rw[aCW,aeL];rfl
 refine⟨ds,[],p++ [],[],p,[],hW',aIr _ _ _,Hx _ (λx hx=>hold x (bD.2 (.inl hx))),Pz _,hb.frame _,λh=>by cases h⟩
theorem FE{P:aN}{n:Nat}:∀ {Ts:List TypeId} {ts:List Ty},uV P n Ts ts=aT->Ts.length=ts.length
 |[],[],_=>rfl
 |[],_::_,h=>by simp[uV]at h
 |_::_,[],h=>by simp[uV]at h
 |_::_,_::_,h=>by simp only[uV,av]at h;simp[FE h.2]
theorem ao2{H:Type}{enc:TypeId×Value->H}{P:aN}{f:fR}{fn:Func}{en:Entry}{s:ChangeSpec}{tb:TypeId}(n:Nat)(tys:List Ty)(hD:qU P f en)(hf:P.funcs[f]? =al fn)(aFl:fn.body.isSome=aT)(zb:(fn.name== "runtime.NumGoroutine")=aR)
  (hl:laidOutB P=aT) (aBA:uV P n fn.params.toList tys=aT) (aha:vM P fn.params.toList=aT) (aeL:s.vars=[]) (aIx:fn.resultTypes= #[tb]) (aIA:P.underlying tb=al .bool)
  (aCW:∀ds:List (DataW H),ds.length=tys.length->s.fn H (ds++ [])= {results:=[.lit (.bool aT)],args:=ds})
  (pz:∀x:DV tys,DV.aIY tys x->∃r,en.run (DV.jf tys x) []=al r/\en.out (DV.jf tys x) [] r=⟨.d .bool aT,[],[]⟩)
  {W:bU} {base:Nat} {args:Array Value} {ds gs:List (DataW H)} {before:List MemPlace}
  (zd:∀(j:Nat) t v,fn.params[j]? =al t->args[j]? =al v->Value.okWide P W .any base t v)
  (hW:DataW.Whole enc P fn.params.toList s.vars aR W args.toList ds gs before):
  Calls P f args W λe W'=>∃v,e= .returned v/\s.post enc P fn aR aT aR aR W args v W':=by
 have hW':=hW;obtain⟨p,q,hA,hV,_,_,_⟩:=hW;rw[aeL]at hV;obtain⟨rfl,rfl⟩:=trodVars_none hV;obtain⟨x,aG9,aHa⟩:=YW (E:=(fT []).env W (λ_=> .free) (λ_=>aJ)) rfl (λ_=>rfl) aBA (λj t v hj hv=>zd j t v (by simpa using hj) (by simpa using hv)) hA;obtain⟨r,aC9,aeD⟩:=pz x aHa;have cO:(callFunc f args).run P W= .ok (.enter f args) W:=by
  unfold callFunc;obtain⟨c,hc⟩:=bA.1 aFl;have hname':¬fn.name= "runtime.NumGoroutine" :=by simpa using zb
  simp[hf,hname',hc]
 have hlen:ds.length=tys.length:=by rw[Gb hA,FE aBA]
 have ho:iP ((fT []).env W (λ_=> .free) (λ_=>aJ)):=λid ver fr c h=>by
  exfalso;cases id with
  |bG k=>simp[AS.env,AS.bS,fT]at h
  |new i j=>simp[AS.env,AS.bS,fT]at h
 rcases hD W (λ_=> .free) (λ_=>aJ) (DV.jf tys x) [] args.toList r aG9 ho aC9 with⟨_,hc⟩ | ⟨v,w',hc,_⟩
 ·refine hc.mono λe w' he=> ?_
  obtain⟨v,rfl,g',β',h1,_,h2,_⟩:=he;rw[aeD]at h1;refine⟨v,rfl,afS hl aha aeL aIx aIA hW' (aCW ds hlen) ⟨h2.os,h2.tape,h2.output.1,h2.size,λb hb=>(h2.wZ b hb).2⟩ ?_⟩;obtain⟨cs,k1,k2⟩:=h1;have k1:cs=[.bool aT]:=k1;subst k1;have k2: [Value.bool aT]=[v]:=k2;simpa using k2.symm
 ·rw[show args.toList.toArray=args from Array.toArray_toList ..,cO]at hc;cases hc
end Go.Ab
namespace Go.Ab
abbrev W:=BitVec 32
def G8(w:W)(k:Nat):W:=w <<< (32 - k) ||| w >>> k
def aGP(a b c d:Int):W:=bh 32 a <<< 24 ||| bh 32 b <<< 16 ||| bh 32 c <<< 8 ||| bh 32 d
def be(l:List Int)(i:Nat):W:=aGP (l.getD (4*i) 0) (l.getD (4*i+1) 0) (l.getD (4*i+2) 0) (l.getD (4*i+3) 0)
structure St where
 a:W
 b:W
 c:W
 d:W
 e:W
 f:W
 g:W
 h:W
def St.l(s:St):List Int:=[vw s.a,vw s.b,vw s.c,vw s.d,vw s.e,vw s.f,vw s.g,vw s.h]
def aI3(x:W):W:=G8 x 7^^^G8 x 18^^^x >>> 3
def aI4(y:W):W:=G8 y 17^^^G8 y 19^^^y >>> 10
def aBO(l:List W)(i:Nat):W:=l.getD (i - 16) 0+aI3 (l.getD (i - 15) 0)+l.getD (i - 7) 0+aI4 (l.getD (i - 2) 0)
def ext(l:List W):List W:=l++ [aBO l l.length]
def aGB(m:List W):Nat->List W
 | 0=>m
 |n+1=>ext (aGB m n)
def words(b:List Int):List W:=(List.range 16).map (be b)
def sched(b:List Int):List W:=aGB (words b) 48
def kl:List Nat:=[0x428a2f98,0x71374491,0xb5c0fbcf,0xe9b5dba5,0x3956c25b,0x59f111f1,0x923f82a4,0xab1c5ed5,0xd807aa98,0x12835b01,0x243185be,0x550c7dc3,0x72be5d74,0x80deb1fe,0x9bdc06a7,0xc19bf174,0xe49b69c1,0xefbe4786,0x0fc19dc6,0x240ca1cc,0x2de92c6f,0x4a7484aa,0x5cb0a9dc,0x76f988da,0x983e5152,0xa831c66d,0xb00327c8,0xbf597fc7,0xc6e00bf3,0xd5a79147,0x06ca6351,0x14292967,0x27b70a85,0x2e1b2138,0x4d2c6dfc,0x53380d13,0x650a7354,0x766a0abb,0x81c2c92e,0x92722c85,0xa2bfe8a1,0xa81a664b,0xc24b8b70,0xc76c51a3,0xd192e819,0xd6990624,0xf40e3585,0x106aa070,0x19a4c116,0x1e376c08,0x2748774c,0x34b0bcb5,0x391c0cb3,0x4ed8aa4a,0x5b9cca4f,0x682e6ff3,0x748f82ee,0x78a5636f,0x84c87814,0x8cc70208,0x90befffa,0xa4506ceb,0xbef9a3f7,0xc67178f2]
def kw(i:Nat):W:=BitVec.ofNat 32 (kl.getD i 0)
def aeX:List Int:=kl.map λ(n:Nat)=>(n:Int)
def qz(s:St)(k w:W):St:=
 let t:=s.h+(G8 s.e 6^^^G8 s.e 11^^^G8 s.e 25)+(s.g^^^s.e &&& (s.f^^^s.g))+k+w
 let r:=G8 s.a 2^^^G8 s.a 13^^^G8 s.a 22
 let most:=s.a &&& s.b ||| s.c &&& (s.a ||| s.b)
 ⟨t+r+most,s.a,s.b,s.c,s.d+t,s.e,s.f,s.g⟩
def rounds(ws:List W)(s:St):Nat->St
 | 0=>s
 |n+1=>qz (rounds ws s n) (kw n) (ws.getD n 0)
def apm(s:St)(b:List Int):St:=
 let v:=rounds (sched b) s 64
 ⟨v.a+s.a,v.b+s.b,v.c+s.c,v.d+s.d,v.e+s.e,v.f+s.f,v.g+s.g,v.h+s.h⟩
def za:St:=⟨0x6a09e667,0xbb67ae85,0x3c6ef372,0xa54ff53a,0x510e527f,0x9b05688c,0x1f83d9ab,0x5be0cd19⟩
def Aa:Nat->St->List Int->St
 | 0,s,_=>s
 |n+1,s,l=>Aa n (apm s (l.take 64)) (l.drop 64)
def blocks(s:St)(l:List Int):St:=Aa (l.length / 64) s l
def aGQ(w:W)(k:Nat):Int:=vw ((w >>> (24 - 8*k)).setWidth 8)
def ayo(w:W):List Int:=[aGQ w 0,aGQ w 1,aGQ w 2,aGQ w 3]
def azZ(s:St):List Int:=ayo s.a++ayo s.b++ayo s.c++ayo s.d++ayo s.e++ayo s.f++ayo s.g++ayo s.h
def l6(n:Int):List Int:=[n / 2^56%256,n / 2^48%256,n / 2^40%256,n / 2^32%256,n / 2^24%256,n / 2^16%256,n / 2^8%256,n%256]
def LI(n:Nat):Nat:=(119 - n%64)%64
def pad(b:List Int):List Int:=b++128::(ai (LI b.length) 0++l6 (8*b.length))
def aEO(b:List Int):List Int:=azZ (blocks za (pad b))
def yn(parts:List (List Int)):List Int:=parts.flatMap λp=>l6 p.length++p
def Xb(name:List Int)(parts:List (List Int)):List Int:=l6 name.length++name++yn parts
def tag(name:List Int)(parts:List (List Int)):List Int:=aEO (Xb name parts)
theorem aka(b:List Int):(aEO b).length=32:=rfl
theorem dC(n:Int):(l6 n).length=8:=rfl
theorem aij(l:List W):(ext l).length=l.length+1:=by simp[ext]
theorem JS(m:List W):∀n,(aGB m n).length=m.length+n
 | 0=>rfl
 |n+1=>by rw[aGB,aij,JS m n];omega
theorem tF(b:List Int):(words b).length=16:=by simp[words]
theorem Ev:∀(n:Nat) (s:St) (a b:List Int),a.length=64*n->∀m,Aa (n+m) s (a++b)=Aa m (Aa n s a) b
 | 0,s,a,b,h,m=>by have:a=[]:=bw au;subst this;simp[Aa]
 |n+1,s,a,b,h,m=>by rw[show n+1+m=(n+m)+1 by omega,Aa,Aa];rw[iW au,List.drop_append_of_le_length au];exact Ev n _ _ _ (by simp;omega) m
theorem He(s:St)(a b:List Int)(h:a.length%64=0):blocks s (a++b)=blocks (blocks s a) b:=by
 unfold blocks;have e:(a++b).length / 64=a.length / 64+b.length / 64:=by simp;omega
 rw[e];exact Ev _ _ _ _ au _
theorem OY(s:St)(l:List Int)(h:64<=l.length):blocks s l=blocks (apm s (l.take 64)) (l.drop 64):=by unfold blocks;rw[show l.length / 64=(l.drop 64).length / 64+1 by simp;omega];rfl
theorem Ir(s:St)(l:List Int)(h:l.length < 64):blocks s l=s:=by unfold blocks;rw[show l.length / 64=0 by omega];rfl
def Zt(x:Int):Prop:=0<=x/\x < 256
def Bytes(l:List Int):Prop:=∀x∈l,Zt x
theorem ayp(w:BitVec 8):Zt (vw w):=⟨Zn w,aBY w⟩
theorem Zt.vw{x:Int}(h:Zt x):x=vw (bh 8 x):=by rw[l5];obtain⟨h1,h2⟩:=h;omega
theorem ahT(s:St):Bytes (azZ s):=by intro x hx;simp only[azZ,ayo,bD,cg,List.not_mem_nil,or_false]at hx;rcases hx with((((((hx | hx) | hx) | hx) | hx) | hx) | hx) | hx <;> rcases hx with rfl | rfl | rfl | rfl <;> exact ayp _
theorem anM(b:List Int):Bytes (aEO b):=ahT _
theorem BT(n:Int):Bytes (l6 n):=by intro x hx;simp only[l6,cg,List.not_mem_nil,or_false]at hx;rcases hx with rfl | rfl | rfl | rfl | rfl | rfl | rfl | rfl <;> exact⟨au,au⟩
end Go.Ab
end
