/-
  Made short by a program of mine (wip/tools/mini.py).
-/
import Derived.Test.YtlpebgkekjfhaaaGreatS21x2
import Derived.Scope
import Derived.Laws.Externs
import Derived.KernelRfl
import Derived.ProofKit
import Derived.OpenShut
import Derived.Deep.Slices
import Derived.Carry
set_option linter.unusedVariables false
set_option linter.unusedSimpArgs false
set_option maxRecDepth 100000
set_option synthInstance.maxSize 5000
noncomputable section
namespace Go.Ab
section
variable {P:Program} {Γ:mR} {an:rN} {C:Ctx}
open Classical in
def Ux(p:Prop):Option Unit:=if p then some () else none
theorem Nn{p:Prop}(h:Ux p=some ()):p:=by
 unfold Ux at h
 split at h
 ·assumption
 ·cases h
theorem RT{p:Prop}(h:p):Ux p=some ():=by unfold Ux;rw[if_pos h]
theorem Ks{X R:Type}{S:X->Prop}{k:X->Option R}{r:R}(h:QO S k=some r):(∃x,S x)/\∀x,S x->k x=some r:=by
 unfold QO at h
 split at h
 ·rename_i hx
  obtain rfl:=ba h
  exact hx.choose_spec
 ·cases h
def Jb(P:Program)(Γ:mR)(an:rN)(N:Nat)(b:Code):Prop:=
 ∀le,an.iX (ei b)=some le->
  (le.set=none->∀s x,le.run s=some x->∃n,zm (norm P (an.loops (ei b))) (λe=>norm P (an.outs (ei b) (Gg e))) (ev P Γ an N b) n s (λe s'=>some (e,s'))=(le.out x).eval)/\
  ∀S,le.set=some S->∀s,(∃x,S s x)->∃n,zm (norm P (an.loops (ei b))) (λe=>norm P (an.outs (ei b) (Gg e))) (ev P Γ an N b) n s (λe s'=>Ux (∃x,S s x/\(le.out x).eval=some (e,s')))=some ()
def mL(P:Program)(Γ:mR)(an:rN)(N:Nat):List Code->Prop
 |[]=>True
 |b::l=>Jb P Γ an N b/\mL P Γ an N l
theorem mL.append{N:Nat}:∀ {l l':List Code},mL P Γ an N (l++l')->mL P Γ an N l/\mL P Γ an N l'
 |[],_,h=>⟨trivial,h⟩
 |_::_,_,⟨h1,h2⟩=>⟨⟨h1,(mL.append h2).1⟩,(mL.append h2).2⟩
theorem nV{c:Code}{b:Frame}{a:Act}{k:List Item}{cs:List Frame}{w:World}:step P (lone (b.atR a (.code (.scope c)::k)) cs w)= .next (lone (b.atR a (.code c:: .inScope c::k)) cs w):=
 step_lone_go (by simp[stepG,stepG.exec,Frame.atR])
theorem C1{c:Code}{b:Frame}{a:Act}{k:List Item}{cs:List Frame}{w:World}:step P (lone (b.atR a (.inScope c::k)) cs w)= .next (lone (b.atR a k) cs w):=
 step_lone_go (by simp[stepG,stepG.exec,Frame.atR])
theorem vR{F:Fence}{n:Nat}{Q:Exit->Act->World->Prop}{a:Act}{w:World}{c:Code}(h:c.wpIn F n P (Exit.noGoto Q) a w):(Code.scope c).wpIn F n P Q a w:=by
 intro b k cs Zb hb hr
 have h0:(lone (b.atR a (.code (.scope c)::k)) cs w).fenced P F:=fenced_calm hb hr rfl
 obtain⟨e,a1,w1,hq,hx⟩:=h b (.inScope c::k) cs Zb hb hr
 cases e with
 |normal=>exact⟨.normal,a1,w1,hq,.head h0 nV (StepsIn.trans hx (.one (fenced_calm hb hr rfl) C1))⟩
 |exit i=>
  have e1:exitTo i (.inScope c::k)=exitTo i k:=by simp[exitTo]
  exact⟨.exit i,a1,w1,hq,λk' hk=> .head h0 nV (hx.1 k' (e1.trans hk)),λh1 hk=>let⟨k2,h2,h3⟩:=hx.2 h1 (e1.trans hk);⟨k2,h2,.head h0 nV h3⟩⟩
 |goto l=>exact hq.elim
 |ret=>exact⟨_,a1,w1,hq,.of_steps (.one h0 nV) hx⟩
 |panic ch=>exact⟨_,a1,w1,hq,.of_steps (.one h0 nV) hx⟩
 |outgrown=>exact⟨_,a1,w1,hq,.of_steps (.one h0 nV) hx⟩
theorem tv{rd:Option Nat}{m:Nat}{R:Type}{r:R}{b:Code}{nrm:AS->Out AS}{nrmX:Exit->AS->Out AS}{body:AS->(Exit->AS->Option R)->Option R}
  (hn:∀s s1 a w,iE C s a w->(nrm s).eval=some s1->iE C s1 a w) (hx:∀e s s1 a w,iE C s a w->(nrmX e s).eval=some s1->iE C s1 a w)
  (hb:∀(s:AS) (a:Act) (w:World) (k:Exit->AS->Option R) (Q:Exit->Act->World->Prop),iE C s a w->body s k=some r->(∀e s' a' w',iE C s' a' w'->k e s'=some r->Q e a' w')->b.wpIn (Fr rd) m P Q a w)
  {k:Exit->AS->Option R} {Q:Exit->Act->World->Prop} (hk:∀e s' a' w',iE C s' a' w'->k e s'=some r->Q e a' w'):
  ∀(n:Nat) (s:AS) (a:Act) (w:World),iE C s a w->zm nrm nrmX body n s k=some r->Code.roundsIn (Fr rd) m P b Q n a w
 | 0,s,a,w,_,h=>by simp[zm]at h
 |n+1,s,a,w,hs,h=>by
  simp only[zm]at h
  rw[roundsIn_succ]
  refine hb s a w _ _ hs h λe s' a' w' hs' TV=> ?_
  have exits:∀e,(nrmX e s').run (k e)=some r->Q e a' w':=λe TV=>by
   obtain⟨s1,h1,h2⟩:=js.1 TV
   exact hk e s1 a' w' (hx e s' s1 a' w' hs' h1) h2
  cases e with
  |normal=>
   simp only at TV
   obtain⟨s1,h1,h2⟩:=js.1 TV
   exact tv hn hx hb hk n s1 a' w' (hn s' s1 a' w' hs' h1) h2
  |_=>exact exits _ TV
theorem xx{rd:Option Nat}{n:Nat}(hC:C.ok){j:Option J5}{run: {R:Type}->(Exit->AS->Option R)->Option R}{c:Code}{a:Act}{w:World}
  (mF:∀ {R:Type} {r:R} (k:Exit->AS->Option R) (Q:Exit->Act->World->Prop),run k=some r->(∀e s' a' w',iE C s' a' w'->k e s'=some r->Q e a' w')->c.wpIn (Fr rd) n P Q a w)
  {R:Type} {r:R} {k:Exit->AS->Option R} {Q:Exit->Act->World->Prop} (h:yO P j run k=some r) (hk:∀e s' a' w',iE C s' a' w'->k e s'=some r->Q e a' w'):c.wpIn (Fr rd) n P Q a w:=by
 cases j with
 |none=>exact mF k Q h hk
 |some j=>
  simp only[yO]at h
  cases hx:run λe s=>(norm P j.an s).run (j.Vp e) with
  |none=>rw[hx]at h;cases h
  |some x=>
   rw[hx]at h
   simp only[ah]at h
   obtain⟨y,hy,h⟩:=js.1 h
   refine mF _ Q hx λe s' a' w' hs' hK=> ?_
   obtain⟨s1,h1,h2⟩:=js.1 hK
   have he:=j.ok _ _ _ h2
   rw[hy,aq]at he
   subst he
   exact hk e s1 a' w' (mh hC hs' h1) h
theorem Inv.J8{g:Nat->kY}{β:Id->Option Pl}{s:AS}{a:Act}{w:World}(h:Inv C g β s a w):
  Inv C (lp g w.heap.size (.own .eL 0)) β s {a with defers:=pc w.heap.size::a.defers} (w.alloc (.deferred (some []))):=by
 have ht:=Trans.alloc w g (.deferred (some [])) (.own .eL 0)
 have he:cP (s.env w g β) (s.env (w.alloc (.deferred (some []))) (lp g w.heap.size (.own .eL 0)) β):=cP.same ht
 have h1:=h.step rfl ht he (jc.same h.bK he λi ver fr c pl hi hp=>by
  have hl:=((h.bK i ver fr c hi).label (pl:=pl) hp).1
  have hl':pl.b < w.heap.size:=hl
  exact⟨mW w _ hl',fA _ _ _ (by omega)⟩)
 refine⟨⟨dI.2 ⟨λhm=> ?_,h1.defers.1⟩,λd hd=> ?_⟩,h1.size,h1.cr,h1.bK,h1.trans,h1.le⟩
 ·obtain⟨D,e,_,hh,_⟩:=h.defers.2 _ hm
  have e:Deferred.mk (.collected w.heap.size) #[]=Deferred.mk (.collected D) #[]:=e
  injection e with e _
  injection e with e
  have:=(bJ.1 hh).1
  omega
 ·rcases cX.1 hd with rfl | hd
  ·exact⟨w.heap.size,rfl,h.trans.size,oh w _,fJ _ _ _⟩
  ·exact h1.defers.2 d hd
theorem wu:∀l:List av,(jr l).list=l
 |[]=>rfl
 |a::l=>by simp[jr,av.list,wu l]
theorem sP(bo:List Nat):∀(i:Nat) (l:List av),(eT bo i l).length=l.length
 |_,[]=>rfl
 |i,_::l=>by simp[eT,sP bo (i+1) l]
theorem vY(bo:List Nat):∀(l:List av) (i j:Nat),(eT bo i l).getD j .undef=l.getD j .undef\/(eT bo i l).getD j .undef= .undef
 |[],_,_=> .inl rfl
 |v::l,i,0=>by
  simp only[eT,kz]
  split
  ·exact .inl rfl
  ·exact .inr rfl
 |v::l,i,j+1=>by simpa[eT]using vY bo l (i+1) j
theorem Inv.frame{g:Nat->kY}{β:Id->Option Pl}{s:AS}{a:Act}{w:World}(h:Inv C g β s a w)(bo:List Nat):tc (s.env w g β) (jr (eT bo 0 s.cr)) a.tmps:=by
 refine⟨by rw[wu,sP,h.size],λi=> ?_⟩
 rw[wu]
 rcases vY bo s.cr 0 i with e | e
 ·rw[e];exact h.cr i
 ·rw[e];exact VS.undef
theorem Po(a:Act)(q:Nat)(x:Value):(a.put (some q) x).put (some q) (a.tmps.getD q undef)=a:=by
 obtain⟨t,d⟩:=a
 simp only[Act.put]
 congr 1
 apply nq
 intro i
 simp only[ea,Array.size_setIfInBounds]
 by_cases h:q=i
 ·subst h
  by_cases hl:q < t.size
  ·simp[hl]
  ·simp[hl]
 ·simp[h]
theorem xO{g:Nat->kY}{β:Id->Option Pl}{s s':AS}{a:Act}{w:World}{q p:Nat}(h:Inv C g β s a w)(he:s.yW q p=some s'):∃pl r,β (.aV 0)=some pl/\(s.env w g β).cur (.aV 0) 0/\w.heap[pl.b]? =some (.loop r)/\GW q r.state r.pending/\
  ∀r':Loop,r'.params=r.params->r'.assign=r.assign->r'.body=r.body->r'.tmps=r.tmps->GW p r'.state r'.pending->Inv C g β s' a (w.putObj pl.b (.loop r')):=by
 unfold AS.yW at he
 split at he
 rotate_left
 ·cases he
 rename_i c f q' cV
 split at he
 rotate_left
 ·cases he
 rename_i hq
 obtain rfl:q=q':=fb hq
 obtain rfl:=ba he
 obtain⟨pl,r,hp,hb,hg,⟨q1,q2,q3⟩,LL,lZ⟩:=h.bK (.aV 0) 0 false _ cV
 have hp:β (.aV 0)=some pl:=hp
 have hb:w.heap[pl.b]? =some (.loop r):=hb
 have hg:g pl.b= .own (.id (.aV 0)) 0:=hg
 refine⟨pl,r,hp,⟨false,_,cV⟩,hb,lZ,λr' e1 e2 e3 e4 hs'=> ?_⟩
 have iv:pl.b < w.heap.size:=(bJ.1 hb).1
 have hother:∀b',b'≠pl.b->(w.putObj pl.b (.loop r')).heap[b']? =w.heap[b']? :=λb' fL=>World.putObj_heap_other fL
 have ht:Trans w (w.putObj pl.b (.loop r')) g g:=by
  refine⟨rfl,rfl,⟨rfl,aw _⟩,by simp,λb' _=> ?_⟩
  by_cases he:b'=pl.b
  ·subst he
   rw[hg]
   exact⟨.inr ⟨_,0,rfl,aw _⟩,λ_ _ hh=>by omega⟩
  ·rw[hother b' he]
   cases zN:g b' with
   |free=>exact⟨rfl,rfl⟩
   |own o' k=>cases o' with
    |eL=>exact⟨rfl,rfl⟩
    |id i'=>exact⟨.inr ⟨i',k,rfl,aw _⟩,λoff v _ hv=>by simpa only[World.cell?,hother b' he]using hv⟩
 have hle:cP (s.env w g β) ((s.aO (.aV 0) (.obj 0 false (.mr c f p))).env (w.putObj pl.b (.loop r')) g β):=cP.aO cV (aw _) ht (λ_ _=>rfl) (λ_=>rfl)
 refine h.step (du _ _ _) ht hle (jc.aO h.bK (by rw[cV];simp) hle (λ_ _=>rfl) (λi ver fr c pl2 hi AR Dx=>⟨hother _ (h.apart hg hi AR Dx),rfl⟩) ?_ (xB cV))
 exact⟨pl,r',hp,World.putObj_heap_same iv,hg,⟨e1.trans q1,e2.trans q2,e3.trans q3⟩,by rw[e4];exact LL.mono hle,hs'⟩
theorem zT{n:Nat}(hΓ:Sound P Γ){f:Operand}{ps:Array Tmp}{as b:Code}{R:Type}{r:R}{k:Exit->AS->Option R}{Q:Exit->Act->World->Prop}{s:AS}{a:Act}{w:World}(h:iE C s a w)
  (he:tG P Γ an s f ps as b k=some r) (hk:∀e s' a' w',iE C s' a' w'->k e s'=some r->Q e a' w'):(Code.rangeFunc f ps as b).wpIn (Fr none) n P Q a w:=by
 obtain⟨g,β,h⟩:=h
 unfold tG at he
 split at he
 rotate_left
 ·cases he
 rename_i y bo h0 caps Za ZT hF
 split at he
 rotate_left
 ·cases he
 rename_i en TG LJ
 simp only[aj]at TG
 obtain⟨⟨⟨KB,MS⟩,hq⟩,iv⟩:=TG
 have hd:=(hΓ _ _ _ LJ).1 iv
 obtain⟨s3,MG,he⟩:=js.1 he
 generalize WB:ps.getD 0 0=q at MS hq MG he LJ
 have hq:q < s.cr.length:=eK hq
 obtain⟨vs,hy,Vl⟩:=Dm (hF▸h.ev f)
 refine wpIn_rangeFunc λfn _=> ?_
 have cV:=run_enterLoop_outer (P:=P) (w:=w) fn a.tmps ps as b
 have i1:=h.J8
 generalize Zi:w.alloc (.deferred (some []))=w1 at i1 cV
 have ou:w1.heap.size=w.heap.size+1:=by rw[<-Zi];exact World.size_alloc ..
 generalize WC:({state:= .ready,pending:=none,fn,tmps:=a.tmps,params:=ps,assign:=as,body:=b,defers:=w.heap.size}:Loop)=r0 at cV
 have ht:=Trans.alloc w1 (lp g w.heap.size (.own .eL 0)) (.loop r0) (.own (.id (.new q 0)) 0)
 obtain⟨i2,e2⟩:=i1.yw MS (c:= .mr ⟨y,ps,as,b⟩ (jr (eT bo 0 s.cr)) 0) (p:=some ⟨w1.heap.size,0⟩) ht (λb hb=>⟨mW w1 _ hb,fA _ _ _ (by omega)⟩) (λhe=>
  ⟨⟨w1.heap.size,0⟩,r0,jI _ _ _,oh w1 _,fJ _ _ _,by subst WC;exact⟨rfl,rfl,rfl⟩,by subst WC;exact(i1.frame bo).mono he,by subst WC;exact⟨rfl,rfl⟩⟩)
 generalize lp (lp g w.heap.size (.own .eL 0)) w1.heap.size (.own (.id (.new q 0)) 0)=g2 at i2 e2
 generalize hβ2:vd β (.new q 0) (some ⟨w1.heap.size,0⟩)=β2 at i2 e2
 generalize LN:w1.alloc (.loop r0)=w2 at i2 e2 cV
 have Yc:VS ((s.born q [.obj 0 false (.mr ⟨y,ps,as,b⟩ (jr (eT bo 0 s.cr)) 0)]).env w2 g2 β2) (.yl (.new q 0) 0) (.func (.yield w1.heap.size) #[] #[]):=by
  refine⟨[.func (.yield w1.heap.size) #[] #[]],?_,rfl⟩
  simp only[V]
  exact⟨_,rfl,mE MS _ _ _ _,λ_=>⟨⟨w1.heap.size,0⟩,by rw[<-hβ2];exact jI _ _ _,rfl⟩⟩
 have i3:=i2.put (some q) Yc
 have hF2:(s.born q [.obj 0 false (.mr ⟨y,ps,as,b⟩ (jr (eT bo 0 s.cr)) 0)]).ev f= .fn h0 caps:=by rw[<-hF];cases f <;> rfl
 obtain⟨vs2,SX,WS⟩:=Dm (hF2▸i2.ev f)
 have zi:vs2=vs:=by
  have e:Value.func (.func h0) #[] vs2.toArray= .func (.func h0) #[] vs.toArray:=by rw[<-SX,<-hy];cases f <;> rfl
  injection e with _ _ e
  simpa using congrArg Array.toList e
 subst zi
 have AN:rO (((s.born q [.obj 0 false (.mr ⟨y,ps,as,b⟩ (jr (eT bo 0 s.cr)) 0)]).put (some q) (.yl (.new q 0) 0)).env w2 g2 β2) (.yl (.new q 0) 0::caps.list) (.func (.yield w1.heap.size) #[] #[]::vs2):=by
  rw[Em]
  exact⟨Yc,HA WS⟩
 unfold AS.call at MG
 obtain⟨r2,h1,h2⟩:=ak.1 MG
 obtain⟨g',i4,e4,_,f1⟩:=gf r2.2 i3
 obtain⟨x,hx,k1,k2,key⟩:=yG (o:= {(default:Oper) with dst:=none}) i4 (uN _ _) (uC rfl i3.bK e4 _ _ _ r2 AN h1 f1) h2
 have XP:∀args:Array Value,(callFunc h0 args).run P w2= .ok (.enter h0 args) w2:=λargs=>by
  unfold GY at KB
  split at KB
  ·rename_i fn' Rc
   simp only[aj,cC,beq_eq_false_iff_ne]at KB
   obtain⟨c,hc⟩:=bY.1 KB.2
   unfold callFunc
   simp[Rc,KB.1,hc]
  ·cases KB
 have post:∀ {w3:World} {v:Value},iE C s3 ((({a with defers:=pc w.heap.size::a.defers}:Act).put (some q) (.func (.yield w1.heap.size) #[] #[])).put none v) w3->∀ {c:oX} {fr:av} {p:Nat},s3.bZ (.new q 0)=some (.obj 0 false (.mr c fr p))->s3.slot q= .yl (.new q 0) 0->p≠1->
   ∃jump w4,(Instr.endLoop w1.heap.size).run P w3= .ok jump w4/\GW p (if p=0 then .ready else .done) jump/\iE C ((s3.aO (.new q 0) .dead).put (some q) .undef) {a with defers:=pc w.heap.size::a.defers} w4:=by
  intro w3 v Ru c fr p AP MP SQ
  obtain⟨g3,β3,i5⟩:=Ru
  obtain⟨pl,r3,hp,hb,hg,_,_,lZ⟩:=i5.bK (.new q 0) 0 false _ AP
  have hp:β3 (.new q 0)=some pl:=hp
  have hb:w3.heap[pl.b]? =some (.loop r3):=hb
  have hg:g3 pl.b= .own (.id (.new q 0)) 0:=hg
  have P8:=i5.cr q
  rw[MP]at P8
  obtain⟨cs,hV,hO⟩:=P8
  simp only[V]at hV
  obtain⟨l,rfl,_,fB⟩:=hV
  obtain⟨pl',hp',rfl⟩:=fB ⟨false,_,AP⟩
  have hp':β3 (.new q 0)=some pl':=hp'
  rw[hp]at hp'
  obtain rfl:pl=pl':=by simpa using hp'
  have hO: [Value.func (.yield pl.b) #[] #[]]=[((({a with defers:=pc w.heap.size::a.defers}:Act).put (some q) (.func (.yield w1.heap.size) #[] #[])).put none v).tmps.getD q undef]:=hO
  have yL:q < ({a with defers:=pc w.heap.size::a.defers}:Act).tmps.size:=by show q < a.tmps.size;rw[h.size];exact hq
  have hO2:((({a with defers:=pc w.heap.size::a.defers}:Act).put (some q) (.func (.yield w1.heap.size) #[] #[])).put none v).tmps.getD q undef= .func (.yield w1.heap.size) #[] #[]:=by
   show((({a with defers:=pc w.heap.size::a.defers}:Act).put (some q) (.func (.yield w1.heap.size) #[] #[]))).tmps.getD q undef=_
   rw[Hh,if_pos ⟨rfl,yL⟩]
  rw[hO2]at hO
  have hl:pl.b=w1.heap.size:=by simpa using hO
  have TF:r3.state≠ .busy:=by
   match p,lZ,SQ with
   | 0,lZ,_=>rw[lZ.1];simp
   | 1,_,h=>exact absurd rfl h
   | 2,lZ,_=>rw[lZ.1];simp
   |_+3,lZ,_=>rw[lZ.1];simp
  have iv:pl.b < w3.heap.size:=(bJ.1 hb).1
  refine⟨r3.pending,_,by rw[<-hl];exact run_endLoop hb TF,?_,?_⟩
  ·match p,lZ,SQ with
   | 0,lZ,_=>exact⟨rfl,lZ.2⟩
   | 1,_,h=>exact absurd rfl h
   | 2,lZ,_=>exact⟨rfl,lZ.2⟩
   |_+3,lZ,_=>exact⟨rfl,lZ.2⟩
  ·have i6:=i5.kill AP hg (w':=w3.putObj pl.b (.loop {r3 with state:= .exhausted})) rfl rfl ⟨rfl,aw _⟩ (by simp) (λb' hb'=>World.putObj_heap_other hb')
   have i7:=i6.put (some q) (v:= .undef) (x:=({a with defers:=pc w.heap.size::a.defers}:Act).tmps.getD q undef) VS.undef
   have e:=Po {a with defers:=pc w.heap.size::a.defers} q (.func (.yield w1.heap.size) #[] #[])
   refine⟨lp g3 pl.b .free,β3,?_⟩
   simp only[Act.put]at e i7
   rw[e]at i7
   exact i7
 have hc:Calls P h0 (.func (.yield w1.heap.size) #[] #[]::vs2).toArray w2 λe w'=>∃v,e= .returned v/\iE C s3 ((({a with defers:=pc w.heap.size::a.defers}:Act).put (some q) (.func (.yield w1.heap.size) #[] #[])).put none v) w':=by
  rcases hd _ _ _ _ _ _ _ k1 k2 hx with⟨_,hc⟩ | ⟨v,w',Vk,_⟩
  ·exact hc.mono λe w' ⟨v,he,ha⟩=>⟨v,he,key v w' ha⟩
  ·rw[XP]at Vk;cases Vk
 refine⟨w1.heap.size,[pc w.heap.size],w2,⟨.fn (.func h0) vs2.toArray,#[.func (.yield w1.heap.size) #[] #[]]⟩,w2,h0,(.func (.yield w1.heap.size) #[] #[]::vs2).toArray,w2,?_,?_,λ_ _=>trivial,?_,λh=>(by cases h),?_⟩
 ·rw[ou];exact cV
 ·have e:resolve a.eval (rangeCall f w1.heap.size) 0=Deferred.ofValue (a.eval f) #[.func (.yield w1.heap.size) #[] #[]]:=by simp[resolve,rangeCall,Act.eval]
  rw[e,hy]
  simp[Deferred.ofValue]
 ·have e:(#[.func (.yield w1.heap.size) #[] #[]]++vs2.toArray:Array Value)=(.func (.yield w1.heap.size) #[] #[]::vs2).toArray:=by simp
  rw[<-XP,<-e]
  rfl
 ·have h1:CallsIn (Fr none) (n - 1) P h0 (.func (.yield w1.heap.size) #[] #[]::vs2).toArray w2 _:=callsIn_wide.2 hc
  refine h1.mono λe w3 ⟨v,KD,Ru⟩=> ?_
  subst KD
  show ∃jump w4,_/\_
  split at he
  rotate_left
  ·cases he
  rename_i c3 fr3 p3 q' AP MP
  split at he
  ·rename_i hq'
   obtain rfl:q'=q:=fb hq'
   obtain⟨jump,w4,MH,lZ,Uc⟩:=post Ru AP MP (by decide)
   obtain⟨_,rfl⟩:=lZ
   exact⟨none,w4,MH,hk _ _ _ _ Uc he⟩
  ·rename_i hq'
   obtain rfl:q'=q:=fb hq'
   obtain⟨jump,w4,MH,lZ,Uc⟩:=post Ru AP MP (by decide)
   obtain⟨_,rfl⟩:=lZ
   exact⟨_,w4,MH,wpIn_ret (hk _ _ _ _ Uc he)⟩
  ·rename_i i hq'
   obtain rfl:q'=q:=fb hq'
   obtain⟨jump,w4,MH,lZ,Uc⟩:=post Ru AP MP (by simp)
   obtain⟨_,rfl⟩:=lZ
   exact⟨_,w4,MH,wpIn_exit (hk _ _ _ _ Uc he)⟩
  ·cases he
theorem lu{rd:Option Nat}{n:Nat}(hm:P.follows .mixedOrders=true)(hΓ:Sound P Γ)(hC:C.ok){N:Nat}(KG:rd=none\/an.oH.isSome=true):∀(c:Code),mL P Γ an N (ke c)->∀ {R:Type} {r:R} (s:AS) (a:Act) (w:World) (k:Exit->AS->Option R) (Q:Exit->Act->World->Prop),
  iE C s a w->ev P Γ an N c s k=some r->(∀e s' a' w',iE C s' a' w'->k e s'=some r->Q e a' w')->c.wpIn (Fr rd) n P Q a w
 | .skip,hL,_,_,s,a,w,k,Q,hs,h,hk=>wpIn_skip (hk _ _ _ _ hs h)
 | .region id ops draw,hL,_,_,s,a,w,k,Q,hs,h,hk=>by
  simp only[ev]at h
  refine xx hC (λk Q h hk=> ?_) h hk
  cases draw with
  |true=>
   simp only at h
   split at h
   ·rename_i hE
    exact GX hm hΓ hs hE h λs' a' w' hs' hk'=>hk _ _ _ _ hs' hk'
   ·cases h
  |false=>exact wpIn_region_list (zf hΓ ops.toList hs h λs' a' w' hs' hk'=>hk _ _ _ _ hs' hk')
 | .seq x y,hL,_,_,s,a,w,k,Q,hs,h,hk=>by
  simp only[ev]at h
  refine wpIn_seq (xx hC (λk Q h hk=>lu hm hΓ hC KG x hL.append.1 s a w k Q hs h hk) h λe s' a' w' hs' hk'=> ?_)
  cases e with
  |normal=>exact lu hm hΓ hC KG y hL.append.2 s' a' w' k Q hs' hk' hk
  |_=>exact hk _ s' a' w' hs' hk'
 | .cond c x y,hL,_,_,s,a,w,k,Q,hs,h,hk=>by
  simp only[ev]at h
  split at h
  ·rename_i b hb
   have hc:a.eval c= .bool b:=by
    obtain⟨g,β,hi⟩:=hs
    have:=hi.ev c
    rw[hb]at this
    exact zZ this
   refine wpIn_cond hc ?_
   cases b with
   |true=>exact lu hm hΓ hC KG x hL.append.1 s a w k Q hs h hk
   |false=>exact lu hm hΓ hC KG y hL.append.2 s a w k Q hs h hk
  ·cases h
 | .block id b,hL,_,_,s,a,w,k,Q,hs,h,hk=>by
  simp only[ev]at h
  refine wpIn_block (lu hm hΓ hC KG b hL s a w _ _ hs h λe s' a' w' hs' hk'=> ?_)
  cases e with
  |exit i=>
   simp only at hk'
   simp only[Exit.inBlock]
   by_cases hi:i=id
   ·rw[if_pos hi]
    simp only[hi,decide_true]at hk'
    exact hk _ s' a' w' hs' hk'
   ·rw[if_neg hi]
    simp only[hi,decide_false]at hk'
    exact hk _ s' a' w' hs' hk'
  |_=>exact hk _ s' a' w' hs' hk'
 | .loop b,hL,R,r,s,a,w,k,Q,hs,h,hk=>by
  simp only[ev]at h
  obtain⟨s1,h1,h⟩:=js.1 h
  have CA:=mh hC hs h1
  obtain⟨hL1,hL2⟩:=(hL:Jb P Γ an N b/\mL P Γ an N (ke b))
  split at h
  ·rename_i le hle
   unfold NY at h
   cases EB:le.set with
   |some S=>
    rw[EB]at h
    simp only at h
    obtain⟨h2,h3⟩:=Ks h
    obtain⟨n,hn⟩:=(hL1 le hle).2 S EB s1 h2
    refine wpIn_loop_rounds n (tv (λs s1 a w hs hn=>mh hC hs hn) (λe s s1 a w hs hn=>mh hC hs hn) (λs a w k Q hs hb hk=>lu hm hΓ hC KG b hL2 s a w k Q hs hb hk) (λe s' a' w' hs' he=> ?_) n s1 a w CA hn)
    obtain⟨x,Vm,Vn⟩:=Nn he
    obtain⟨y,hy,h4⟩:=js.1 (h3 x Vm)
    rw[Vn,aq]at hy
    subst hy
    exact hk _ _ _ _ hs' h4
   |none=>
   rw[EB]at h
   simp only at h
   cases hr:le.run s1 with
   |none=>rw[hr]at h;cases h
   |some x=>
    rw[hr]at h
    simp only[ah]at h
    obtain⟨y,hy,h⟩:=js.1 h
    obtain⟨n,hn⟩:=(hL1 le hle).1 EB s1 x hr
    rw[hy]at hn
    refine wpIn_loop_rounds n (tv (λs s1 a w hs hn=>mh hC hs hn) (λe s s1 a w hs hn=>mh hC hs hn) (λs a w k Q hs hb hk=>lu hm hΓ hC KG b hL2 s a w k Q hs hb hk) (λe s' a' w' hs' he=> ?_) n s1 a w CA hn)
    simp only[aq]at he
    subst he
    exact hk e s' a' w' hs' h
  ·exact wpIn_loop_rounds N (tv (λs s1 a w hs hn=>mh hC hs hn) (λe s s1 a w hs hn=>mh hC hs hn) (λs a w k Q hs hb hk=>lu hm hΓ hC KG b hL2 s a w k Q hs hb hk) hk N s1 a w CA h)
 | .exit id,hL,_,_,s,a,w,k,Q,hs,h,hk=>wpIn_exit (hk _ _ _ _ hs h)
 | .ret,hL,_,_,s,a,w,k,Q,hs,h,hk=>wpIn_ret (hk _ _ _ _ hs h)
 | .rangeFunc f ps as b,_,_,_,s,a,w,k,Q,hs,h,hk=>by
  simp only[ev]at h
  rcases KG with rfl | KG
  ·exact zT hΓ hs h hk
  ·unfold tG at h
   split at h
   ·rename_i h0 _ _;rw[h0]at KG;cases KG
   ·cases h
 | .scope b,hL,_,_,s,a,w,k,Q,hs,h,hk=>by
  simp only[ev]at h
  refine vR (lu hm hΓ hC KG b hL s a w _ _ hs h λe s' a' w' hs' hk'=> ?_)
  cases e with
  |goto l=>cases hk'
  |_=>exact hk _ s' a' w' hs' hk'
 | .label _,hL,_,_,s,a,w,k,Q,hs,h,hk=>wpIn_label (hk _ _ _ _ hs h)
 | .goto _,_,_,_,_,_,_,_,_,_,h,_=>by simp[ev]at h
 | .refuse _,_,_,_,_,_,_,_,_,_,h,_=>by simp[ev]at h
variable {g:Nat->kY} {β:Id->Option Pl} {s:AS} {a:Act} {w:World}
def BX(tmps:Array Value)(r:ResultVar):Sem Value:=
 match r with
 | .tmp t=>pure (tmps.getD t undef)
 | .cell a t=>do loadVar t (<-asAddr (tmps.getD a undef))
theorem xS(h:Inv C g β s a w){r:ResultVar}{v:av}(he:(BZ P s r).eval=some v):∃x,(BX a.tmps r).run P w= .ok x w/\VS (s.env w g β) v x:=by
 cases r with
 |tmp t=>
  simp only[BZ]at he
  obtain rfl:=ao.1 he
  exact⟨_,by simp[BX],h.cr t⟩
 |cell t T=>
  simp only[BZ]at he
  obtain⟨ad,z,hy,hr,hv⟩:=Bd h (h.cr t) he
  exact⟨z,by simp[BX,hy,asAddr,hr],hv⟩
theorem xR(h:Inv C g β s a w){r:ResultVar}{o:Option Ty}{y:AS×av}(he:(BY P s r o).eval=some y):
  ∃x g',(BX a.tmps r).run P w= .ok x w/\Inv C g' β y.1 a w/\cP (s.env w g β) (y.1.env w g' β)/\VS (y.1.env w g' β) y.2 x:=by
 cases o with
 |none=>
  simp only[BY]at he
  obtain⟨v,h1,h2⟩:=ak.1 he
  obtain rfl:=ao.1 h2
  obtain⟨x,hx,hv⟩:=xS h h1
  exact⟨x,g,hx,h,cP.refl _,hv⟩
 |some t=>
  simp only[BY]at he
  obtain⟨v,h1,h2⟩:=ak.1 he
  obtain⟨d,h3,h4⟩:=ak.1 h2
  obtain rfl:=ao.1 h4
  obtain⟨x,hx,hv⟩:=xS h h1
  obtain⟨g',i1,e1,_,cs,hR,hO⟩:=rG h hv h3
  exact⟨x,g',hx,i1,e1,VS.of (a:= .d t d) (cs:=cs) (by simpa only[V]using hR) hO⟩
theorem wa:∀(l:List ResultVar) (ts:List (Option Ty)) {s:AS} {g:Nat->kY} (_:Inv C g β s a w) {y:AS×av},(xT P s l ts).eval=some y->
  ∃(xs:List Value) (g':Nat->kY),(l.mapM (BX a.tmps)).run P w= .ok xs w/\Inv C g' β y.1 a w/\cP (s.env w g β) (y.1.env w g' β)/\VC (y.1.env w g' β) y.2 xs/\xs.length=l.length
 |[],ts,s,g,h,y,he=>by
  simp only[xT]at he
  obtain rfl:=ao.1 he
  exact⟨[],g,by simp,h,cP.refl _,by simp[VC],rfl⟩
 |r::l,ts,s,g,h,y,he=>by
  simp only[xT]at he
  obtain⟨u,h1,h2⟩:=ak.1 he
  obtain⟨hc,h2⟩:=ay.1 h2
  obtain⟨us,h3,h4⟩:=ak.1 h2
  obtain rfl:=ao.1 h4
  obtain⟨x,g1,hx,i1,e1,hv⟩:=xR h h1
  obtain⟨xs,g2,Hs,i2,e2,zi,hl⟩:=wa l ts.tail i1 h3
  obtain⟨cs,hV,hO⟩:=(hv.mono e2).eX hc
  refine⟨x::xs,g2,?_,i2,e1.trans e2,by simp only[VC];exact⟨x,xs,cs,rfl,hV,hO,zi⟩,by simp[hl]⟩
  simp only[List.mapM_cons,Sem.run_bind,hx,Result.andThen_ok,Hs,Sem.run_pure]
theorem L7{E:Env}{v:av}{xs:List Value}(h:VC E v xs):VS E v (.tuple xs.toArray):=by
 cases v <;> first
  | (simp only[VC]at h;done)
  |exact⟨xs,rfl,h⟩
  | (simp only[VC]at h;subst h;rfl)
theorem CY(h:Inv C g β s a w){fn:Func}{ts:List (Option Ty)}{y:AS×av}(he:(EY P fn ts s).eval=some y):
  ∃x g',(results fn a.tmps).run P w= .ok x w/\Inv C g' β y.1 a w/\VS (y.1.env w g' β) y.2 x:=by
 have key:∀xs:List Value,(fn.results.toList.mapM (BX a.tmps)).run P w= .ok xs w->(results fn a.tmps).run P w= .ok (if h:xs.length=1 then xs[0] else .tuple xs.toArray) w:=λxs Hs=>by
  have e:results fn a.tmps=(do
   let vs <-fn.results.mapM (BX a.tmps)
   pure (if h:vs.size=1 then vs[0] else .tuple vs)):=rfl
  rw[e,Array.mapM_eq_mapM_toList]
  simp only[map_eq_pure_bind,Sem.run_bind,Hs,Result.andThen_ok,Sem.run_pure]
  congr 1
 unfold EY at he
 split at he
 ·rename_i r hr
  obtain⟨x,g',hx,hi,_,hv⟩:=xR h he
  refine⟨x,g',?_,hi,hv⟩
  rw[key [x] (by simp[hr,hx])]
  simp
 ·rename_i rs fL
  obtain⟨xs,g',hx,hi,_,hv,hl⟩:=wa _ _ h he
  refine⟨.tuple xs.toArray,g',?_,hi,L7 hv⟩
  rw[key xs hx,dif_neg]
  rw[hl]
  intro h1
  obtain⟨r,hr⟩:=List.length_eq_one_iff.1 h1
  exact fL r hr
end
end Go.Ab
namespace Go.Ab
def pa(ids:List Id):kY->kY
 | .own (.id (.new i j)) k=> .own (.id (match idxOf (.new i j) ids with | some m=> .new 0 m | none=> .new 1 0)) k
 |l=>l
def Nr(β:Id->Option Pl)(ids:List Id):Id->Option Pl
 | .aV k=>β (.aV k)
 | .new 0 m=>(ids[m]?).bind β
 | .new (_+1) _=>none
theorem KP{ids:List Id}{g:Nat->kY}{b off:Nat}(h:oT g b off):oT (λb=>pa ids (g b)) b off:=by
 unfold oT at*
 simp only
 cases hg:g b with
 |free=>simp[pa]
 |own o k=>
  rw[hg]at h
  cases o with
  |eL=>exact h
  |id i=>cases i <;> exact h
theorem Es(s:AS)(v:av):(s.yH v).Nodup:=(pR s _ _ _ (by simp)).filter _
theorem H2{s:AS}{v:av}{id:Id}(h:id∈s.yH v):∃i j,id= .new i j:=by
 unfold AS.yH at h
 have:=(nh.1 h).2
 cases id with
 |aV k=>simp[Id.Qd]at this
 |new i j=>exact⟨i,j,rfl⟩
section
variable {P:Program} {Γ:mR} {C:Ctx} {g:Nat->kY} {β:Id->Option Pl} {s:AS} {a:Act} {w:World}
theorem Dl(h:Inv C g β s a w)(hC:C.ok){v:av}{x:Value}(hv:VS (s.env w g β) v x):qq C.E (s.fin v) x w:=by
 unfold AS.fin
 have hn:=Es s v
 have vM:∀id∈s.yH v,∃i j,id= .new i j:=λid dq=>H2 dq
 generalize s.yH v=ids at hn vM
 generalize hG:s.PN ids v=G
 have ri:G.val=v.iW (wD ids):=by rw[<-hG];rfl
 have hold:∀k,G.st.bZ (.aV k)=(s.bZ (.aV k)).map (dS.fin ids):=λk=>by
  rw[<-hG]
  show(s.cz.map (dS.fin ids))[k]? =_
  rw[fj];rfl
 have X6:∀m,G.st.bZ (.new 0 m)=(ids[m]?).map λid=>((s.bZ id).getD .dead).fin ids:=λm=>by
  rw[<-hG]
  show(ids.map λid=>((s.bZ id).getD .dead).fin ids)[m]? =_
  rw[fj]
 have Y2:∀i m,G.st.bZ (.new (i+1) m)=none:=λi m=>by simp[gV.st,AS.bZ]
 let g':Nat->kY:=λb=>pa ids (g b)
 let β':=Nr β ids
 have KE:∀e ver fr c,dS.fin ids e= .obj ver fr c->∃c0,e= .obj ver fr c0/\c=c0.iW (wD ids):=λe ver fr c he=>by
  cases e with
  |dead=>cases he
  |obj v0 fr0 c0=>
   simp only[dS.fin,dS.obj.injEq]at he
   obtain⟨rfl,rfl,rfl⟩:=he
   exact⟨c0,rfl,rfl⟩
 have hle:rQ (wD ids) (s.env w g β) (G.st.env w g' β'):=by
  refine⟨⟨λb off v ⟨h1,h2⟩=>⟨h1,KP h2⟩,λb ob h1 h2=>⟨by show pa ids (g b)= .free;have h1:g b= .free:=h1;rw[h1];rfl,h2⟩⟩,λid ver r hr hb=> ?_⟩
  obtain⟨yn,Aa⟩:=hb
  have yn:s.bZ id≠none:=yn
  have Aa:∀v fr c,s.bZ id=some (.obj v fr c)->ver<=v:=Aa
  cases id with
  |aV k=>
   simp only[wD,aq]at hr
   subst hr
   refine⟨⟨?_,λv fr c hh=> ?_⟩,λ⟨fr,c,hh⟩=>⟨?_,rfl⟩⟩
   ·show G.st.bZ (.aV k)≠none
    rw[hold];simpa using yn
   ·have hh:G.st.bZ (.aV k)=some (.obj v fr c):=hh
    rw[hold,fv]at hh
    obtain⟨e,he,hh⟩:=hh
    obtain⟨c0,rfl,_⟩:=KE _ _ _ _ hh
    exact Aa v fr c0 he
   ·have hh:G.st.bZ (.aV k)=some (.obj ver fr c):=hh
    rw[hold,fv]at hh
    obtain⟨e,he,hh⟩:=hh
    obtain⟨c0,rfl,_⟩:=KE _ _ _ _ hh
    exact⟨fr,c0,he⟩
  |new i j=>
   simp only[wD]at hr
   split at hr
   ·rename_i m hm
    simp only[aq]at hr
    subst hr
    have dq:=nE hm
    obtain⟨e,he⟩:=Option.ne_none_iff_exists'.1 yn
    have hg:G.st.bZ (.new 0 m)=some (e.fin ids):=by rw[X6,dq];simp[he]
    refine⟨⟨?_,λv fr c hh=> ?_⟩,λ⟨fr,c,hh⟩=>⟨?_,?_⟩⟩
    ·show G.st.bZ (.new 0 m)≠none
     rw[hg];simp
    ·have hh:G.st.bZ (.new 0 m)=some (.obj v fr c):=hh
     rw[hg,aq]at hh
     obtain⟨c0,rfl,_⟩:=KE _ _ _ _ hh
     exact Aa v fr c0 he
    ·have hh:G.st.bZ (.new 0 m)=some (.obj ver fr c):=hh
     rw[hg,aq]at hh
     obtain⟨c0,rfl,_⟩:=KE _ _ _ _ hh
     exact⟨fr,c0,he⟩
    ·show(ids[m]?).bind β=β (.new i j)
     rw[dq];rfl
   ·cases hr
 have Ib:Trans C.E.w w C.E.g g':=by
  have h0:=h.trans
  refine⟨h0.os,h0.tape,h0.output,h0.size,λb hb=> ?_⟩
  have h1:=h0.yu b hb
  show match C.E.g b with | .free=>pa ids (g b)= .free/\_ | .own .eL k=>pa ids (g b)= .own .eL k/\_ | .own (.id _) k=>(pa ids (g b)= .free\/∃i k',pa ids (g b)= .own (.id i) k'/\k<=k')/\_
  cases zN:C.E.g b with
  |free=>simp only[zN]at h1 ⊢;rw[h1.1];exact⟨rfl,h1.2⟩
  |own o k=>cases o with
   |eL=>simp only[zN]at h1 ⊢;rw[h1.1];exact⟨rfl,h1.2⟩
   |id i=>
    simp only[zN]at h1 ⊢
    refine⟨?_,h1.2⟩
    rcases h1.1 with h2 | ⟨i',k',h2,h3⟩
    ·rw[h2];exact .inl rfl
    ·rw[h2]
     right
     cases i' with
     |aV m=>exact⟨_,k',rfl,h3⟩
     |new i j=>exact⟨_,k',rfl,h3⟩
 have OV:jc (G.st.env w g' β'):=by
  intro id ver fr c dq
  have dq:G.st.bZ id=some (.obj ver fr c):=dq
  cases id with
  |aV k=>
   rw[hold,fv]at dq
   obtain⟨e,he,dq⟩:=dq
   obtain⟨c0,rfl,rfl⟩:=KE _ _ _ _ dq
   refine pF hle (h.bK (.aV k) ver fr c0 he) rfl λpl _=>⟨rfl,λn hg=> ?_,λhg=> ?_⟩
   ·have hg:g pl.b= .own (.id (.aV k)) n:=hg
    show pa ids (g pl.b)=_
    rw[hg];rfl
   ·have hg:g pl.b= .free:=hg
    show pa ids (g pl.b)=_
    rw[hg];rfl
  |new i m=>
   cases i with
   |succ i=>rw[Y2]at dq;cases dq
   |zero=>
    rw[X6,fv]at dq
    obtain⟨id0,Ri,dq⟩:=dq
    obtain⟨c0,he,rfl⟩:=KE _ _ _ _ dq
    have cV:s.bZ id0=some (.obj ver fr c0):=by
     cases hs:s.bZ id0 with
     |none=>rw[hs]at he;cases he
     |some e=>rw[hs]at he;simp only[dW]at he;rw[he]
    obtain⟨i0,j0,rfl⟩:=vM id0 (dd Ri)
    refine pF hle (h.bK (.new i0 j0) ver fr c0 cV) (by show(ids[m]?).bind β=_;rw[Ri];rfl) λpl _=>⟨rfl,λn hg=> ?_,λhg=> ?_⟩
    ·have hg:g pl.b= .own (.id (.new i0 j0)) n:=hg
     show pa ids (g pl.b)=_
     rw[hg]
     simp only[pa,rV hn Ri]
    ·have hg:g pl.b= .free:=hg
     show pa ids (g pl.b)=_
     rw[hg];rfl
 have ho:∀id ver,C.E.tT id ver->∃k,id= .aV k:=λid ver hb=>by
  cases id with
  |aV k=>exact⟨k,rfl⟩
  |new i j=>exact absurd (hC.1 i j) hb.1
 refine⟨g',β',by rw[ri];exact wj hle hv,OV,Ib,Trans.mem (E:=C.E) (E':=G.st.env w g' β') Ib,λid ver hb=> ?_,λid ver hb hc=> ?_⟩
 ·obtain⟨k,rfl⟩:=ho id ver hb
  exact(hle.ref (.aV k) ver (.aV k,ver) rfl (h.le.tT _ _ hb)).1
 ·obtain⟨k,rfl⟩:=ho id ver hb
  obtain⟨h1,h2⟩:=(hle.ref (.aV k) ver (.aV k,ver) rfl (h.le.tT _ _ hb)).2 hc
  obtain⟨h3,h4⟩:=h.le.cur _ _ hb h1
  exact⟨h3,h2.trans h4⟩
theorem rO.len{E:Env}:∀ {as:List av} {vs:List Value},rO E as vs->as.length=vs.length
 |[],[],_=>rfl
 |_::_,_::_,⟨_,h⟩=>by simp[rO.len h]
 |[],_::_,h=>h.elim
 |_::_,[],h=>h.elim
theorem rO.get{E:Env}:∀ {as:List av} {vs:List Value},rO E as vs->∀i,VS E (as.getD i .undef) (vs.getD i undef)
 |[],[],_,i=>by simpa using VS.undef
 |_::_,_::_,⟨h,_⟩,0=>by simpa using h
 |_::_,_::_,⟨_,h⟩,i+1=>by simpa using rO.get h i
 |[],_::_,h,_=>h.elim
 |_::_,[],h,_=>h.elim
theorem Lq{w:World}{g:Nat->kY}{β:Id->Option Pl}{fn:Func}{args:List av}{cz:List dS}{km:List Value}(hv:rO ((gl cz).env w g β) args km)(ho:jc ((gl cz).env w g β)):
  Inv ⟨(gl cz).env w g β⟩ g β (start fn args cz) {tmps:=km.toArray++Array.replicate (fn.ntmps - km.toArray.size) undef,defers:=[]} w:=by
 have hl:=hv.len
 have cV:(start fn args cz).bZ=(gl cz).bZ:=by
  funext id
  cases id with
  |aV k=>rfl
  |new i j=>
   simp only[start,gl,AS.bZ,aA,List.getElem?_replicate]
   split <;> simp
 have H8:(start fn args cz).env w g β=(gl cz).env w g β:=by simp only[AS.env,cV]
 refine⟨⟨ja,λ_ h=>by cases h⟩,by simp[start,hl],λi=> ?_,by rw[H8];exact ho,Trans.refl _ _,by rw[H8];exact cP.refl _⟩
 rw[H8]
 have h1:(start fn args cz).slot i=args.getD i .undef:=by
  simp only[start,AS.slot,aA,List.getElem?_append,List.getElem?_replicate]
  split
  ·rfl
  ·rw[dM (l:=args) (by omega)]
   split <;> rfl
 have h2:(km.toArray++Array.replicate (fn.ntmps - km.toArray.size) undef).getD i undef=km.getD i undef:=by
  simp only[cJ,aA,jR,Array.getElem?_replicate]
  simp only[ik,List.getElem?_toArray]
  split
  ·rfl
  ·rw[dM (l:=km) (by omega)]
   split <;> rfl
 rw[h1,h2]
 exact hv.get i
theorem Inv.Sd{C:Ctx}{g:Nat->kY}{β:Id->Option Pl}{s:AS}{a:Act}{w:World}(h:Inv C g β s a w){D:Nat}{ds:List Deferred}(hd:a.defers=pc D::ds):
  (Instr.takeDeferred D).run P w= .ok [] (w.putObj D (.deferred none))/\Inv C g β s {a with defers:=ds} (w.putObj D (.deferred none)):=by
 obtain⟨hn,uH⟩:=h.defers
 rw[hd]at hn uH
 obtain⟨D',e,hD,hh,hg⟩:=uH _ (aH ..)
 have e:Deferred.mk (.collected D) #[]=Deferred.mk (.collected D') #[]:=e
 injection e with e _
 injection e with e
 subst e
 have iv:=(bJ.1 hh).1
 refine⟨run_takeDeferred hh,?_⟩
 have other:∀b,b≠D->(w.putObj D (.deferred none)).heap[b]? =w.heap[b]? :=λb hb=>World.putObj_heap_other hb
 have sN:∀b off v,w.cell? ⟨b,off,none⟩=some v->b≠D:=λb off v hv e=>by
  subst e
  simp[World.cell?,hh]at hv
 have tp:oe (s.env w g β) (s.env (w.putObj D (.deferred none)) g β):=by
  refine⟨λb off v ⟨h1,h2⟩=>⟨?_,h2⟩,λb ob h1 h2=>⟨h1,?_⟩⟩
  ·have h1:w.cell? ⟨b,off,none⟩=some v:=h1
   show(w.putObj D (.deferred none)).cell? ⟨b,off,none⟩=some v
   rw[World.cell?_of_block (other b (sN b off v h1))]
   exact h1
  ·have h1:g b= .free:=h1
   have h2:w.heap[b]? =some ob:=h2
   show(w.putObj D (.deferred none)).heap[b]? =some ob
   rw[other b λe=>by rw[e,hg]at h1;cases h1]
   exact h2
 have hle:cP (s.env w g β) (s.env (w.putObj D (.deferred none)) g β):=⟨tp,λ_ _ h=>h,λ_ _ _ h=>⟨h,rfl⟩⟩
 have fL:∀ {id:Id} {v:Nat} {fr:Bool} {c:av} {pl:Pl},s.bZ id=some (.obj v fr c)->β id=some pl->pl.b≠D:=λhs hp e=>by
  have:=((h.bK _ _ _ _ hs).label hp).2
  have this:(∃k,g _= .own (.id _) k)\/(_/\g _= .free):=this
  rw[e,hg]at this
  rcases this with⟨k,hk⟩ | ⟨_,hk⟩
  ·cases hk
  ·cases hk
 refine⟨⟨(dI.1 hn).2,λd hd'=> ?_⟩,h.size,λi=>(h.cr i).mono hle,λid ver fr c hs=> ?_,?_,h.le.trans hle⟩
 ·obtain⟨D2,e1,e2,e3,e4⟩:=uH d (aF _ hd')
  refine⟨D2,e1,e2,?_,e4⟩
  rw[other D2 λe=>(dI.1 hn).1 (by rw[<-e,<-e1];exact hd')]
  exact e3
 ·exact pE.mono hle (h.bK id ver fr c hs) rfl (λpl hp=>⟨other _ (fL hs hp),rfl⟩) λq vq k v l hq _=>⟨⟨k,v,l,hq⟩,λpl hp=>⟨other _ (fL hq hp),rfl⟩⟩
 ·have ht:=h.trans
  refine⟨ht.os,ht.tape,ht.output,?_,λb hb=> ?_⟩
  ·have:=ht.size
   simpa[World.putObj]using this
  ·have h1:=ht.yu b hb
   have hbD:b≠D:=by omega
   have hc:∀off v,w.cell? ⟨b,off,none⟩=some v->(w.putObj D (.deferred none)).cell? ⟨b,off,none⟩=some v:=λoff v hv=>by
    rw[World.cell?_of_block (other b hbD)];exact hv
   rw[other b hbD]
   split at h1
   ·exact h1
   ·exact h1
   ·exact⟨h1.1,λoff v ho hv=>hc off v (h1.2 off v ho hv)⟩
theorem zp{C:Ctx}{g:Nat->kY}{β:Id->Option Pl}{s:AS}{fn:Func}{R:Ending->World->Prop}:∀(ds:List Deferred) {a:Act} {w:World},Inv C g β s a w->a.defers=ds->
  (∀a2 w2,Inv C g β s a2 w2->a2.tmps=a.tmps->∃v,(results fn a.tmps).run P w2= .ok v w2/\R (.returned v) w2)->LeavesInM Fence.wide 0 P fn a.tmps R ds .returning w
 |[],a,w,h,hd,hk=>hk a w h rfl
 |d::ds,a,w,h,hd,hk=>by
  obtain⟨D,e,_⟩:=h.defers.2 d (by rw[hd];exact aH ..)
  subst e
  obtain⟨h1,h2⟩:=h.Sd (P:=P) hd
  exact⟨by simp,.inl ⟨D,_,rfl,h1,zp (fn:=fn) (R:=R) ds (a:= {a with defers:=ds}) h2 rfl hk⟩⟩
theorem FW{cz:List dS}{w:World}{g:Nat->kY}{β:Id->Option Pl}(h:cz.all dS.first=true){k v:Nat}{fr:Bool}{c:av}(hk:((gl cz).env w g β).s (.aV k)=some (.obj v fr c)):v=0:=by
 have hk:cz[k]? =some (.obj v fr c):=by simpa[AS.env,gl,AS.bZ]using hk
 have:=dv.1 h _ (dd hk)
 exact fb this
theorem nX.tC(hm:P.follows .mixedOrders=true)(hΓ:Sound P Γ){f:FuncId}{fn:Func}(hf:P.funcs[f]? =some fn)(hb:fn.body.isSome=true)(uJ:(fn.name== "runtime.NumGoroutine")=false){en:Entry}{an:rN}{N:Nat}(hL:∀c,fn.body=some c->mL P Γ an N (ke c))
  (h:∀args cz x,en.run args cz=some x->Ka P Γ an N fn args cz some=some (en.out args cz x)) (KH:an.oH=none):nX P f en:=by
 intro w g β args cz km x hv ho hx
 left
 obtain⟨c,hc⟩:=bY.1 hb
 refine⟨?_,?_⟩
 ·unfold callFunc
  have hname':¬fn.name= "runtime.NumGoroutine" :=by simpa using uJ
  simp[hf,hname',hc]
 ·have hN:=h args cz x hx
  unfold Ka at hN
  rw[KH,hc]at hN
  simp only at hN
  split at hN
  ·cases hN
  rename_i hF
  have hC:(Ctx.mk ((gl cz).env w g β)).ok:=⟨λi j=>by simp[AS.env,gl,AS.bZ],λk v fr c hk=>FW hF hk⟩
  refine callsIn_wide.1 (callsIn_of_wp_marks (F:=Fence.wide) (n:=0) hf hc trivial (lu (rd:=none) (C:=⟨(gl cz).env w g β⟩) hm hΓ hC (.inl rfl) c (hL c hc) _ _ w _ _ ⟨g,β,Lq hv ho⟩ hN λe s' a' w' hs' hk'=> ?_))
  have fin:(finish P an fn s').run (λv=>some v)=some (en.out args cz x)->LeavesInM Fence.wide 0 P fn a'.tmps (λe w'=>∃v,e= .returned v/\qq ((gl cz).env w g β) (en.out args cz x) v w') a'.defers .returning w':=λhr=>by
   obtain⟨G,h1,h2⟩:=js.1 hr
   simp only[aq]at h2
   subst h2
   unfold finish at h1
   obtain⟨sd,VV,h1⟩:=ak.1 h1
   obtain⟨s2,h3,h4⟩:=ak.1 h1
   obtain⟨s3,Yy,h4⟩:=ak.1 h4
   obtain⟨s4,Yz,h4⟩:=ak.1 h4
   obtain⟨y,h5,h6⟩:=ak.1 h4
   obtain⟨g1,β1,PY⟩:=hs'
   refine zp a'.defers PY rfl λa2 w2 MI WL=> ?_
   obtain⟨g0,β0,OQ⟩:=q9 _ ⟨g1,β1,MI⟩ VV
   obtain⟨g',β',hi⟩:=wX _ (lJ hC _ ⟨g0,β0,OQ.drop _⟩ h3) Yy
   have hi:=te hC _ hi Yz
   obtain⟨z,g2,h7,h8,h9⟩:=CY hi h5
   refine⟨z,by rw[<-WL];exact h7,z,rfl,?_⟩
   rw[<-ao.1 h6]
   exact Dl h8 hC h9
  cases e with
  |normal=>exact fin hk'
  |ret=>exact fin hk'
  |_=>cases hk'
theorem wb:∀(l:List (Tmp×Value)) (t:Array Value),(l.foldl (λtmps (x:Tmp×Value)=>tmps.setIfInBounds x.1 x.2) t).size=t.size
 |[],_=>rfl
 |x::l,t=>by rw[bT,wb l];simp
theorem uZ:∀(l:List (Tmp×av)) (fs:List av),(qQ l fs).length=fs.length
 |[],_=>rfl
 |x::l,fs=>by rw[qQ,uZ l];simp
theorem wc{E:Env}:∀(ps:List Tmp) (vs:List av) (us:List Value) (fs:List av) (t:Array Value),rO E vs us->fs.length=t.size->(∀i,VS E (fs.getD i .undef) (t.getD i undef))->
  ∀i,VS E ((qQ (ps.zip vs) fs).getD i .undef) (((ps.zip us).foldl (λtmps (x:Tmp×Value)=>tmps.setIfInBounds x.1 x.2) t).getD i undef)
 |[],_,_,fs,t,_,_,h=>by simpa[qQ]using h
 |_::_,[],[],fs,t,_,_,h=>by simpa[qQ]using h
 |_::_,[],_::_,_,_,h,_,_=>h.elim
 |_::_,_::_,[],_,_,h,_,_=>h.elim
 |p::ps,v::vs,u::us,fs,t,⟨h1,h2⟩,hl,h=>by
  simp only[List.zip_cons_cons,qQ,bT]
  refine wc ps vs us _ _ h2 (by simpa using hl) λi=> ?_
  simp only[aA,cJ,List.getElem?_set,ea,hl]
  have hi:=h i
  simp only[aA,cJ]at hi
  split
  ·split
   ·simpa using h1
   ·simpa using VS.undef
  ·exact hi
theorem rO.split{E:Env}:∀(n:Nat) {as:List av} {us ts:List Value},us.length=n->rO E as (us++ts)->rO E (as.take n) us/\rO E (as.drop n) ts
 | 0,as,[],ts,_,h=>by simpa using⟨trivial,h⟩
 | 0,as,_::_,ts,hn,h=>by simp at hn
 |n+1,as,[],ts,hn,h=>by simp at hn
 |n+1,[],u::us,ts,_,h=>h.elim
 |n+1,a::as,u::us,ts,hn,⟨h1,h2⟩=>by
  have:=rO.split n (by simpa using hn) h2
  exact⟨⟨h1,this.1⟩,this.2⟩
theorem IX{w:World}{g:Nat->kY}{β:Id->Option Pl}{ps:Array Tmp}{args:List av}{cz:List dS}{us ts:List Value}(hl:us.length=ps.size)(hv:rO ((gl cz).env w g β) args (us++ts))(ho:jc ((gl cz).env w g β)):
  Inv ⟨(gl cz).env w g β⟩ g β (Cb ps.toList args cz) {tmps:=(ps.zip us.toArray).foldl (λtmps (t,a)=>tmps.setIfInBounds t a) ts.toArray,defers:=[]} w:=by
 obtain⟨h1,h2⟩:=rO.split ps.toList.length (by simpa using hl) hv
 have cV:(Cb ps.toList args cz).bZ=(gl cz).bZ:=by
  funext id
  cases id with
  |aV k=>rfl
  |new i j=>
   simp only[Cb,gl,AS.bZ,aA,List.getElem?_replicate]
   split <;> simp
 have H8:(Cb ps.toList args cz).env w g β=(gl cz).env w g β:=by simp only[AS.env,cV]
 have e:(ps.zip us.toArray).foldl (λtmps (x:Tmp×Value)=>tmps.setIfInBounds x.1 x.2) ts.toArray=(ps.toList.zip us).foldl (λtmps (x:Tmp×Value)=>tmps.setIfInBounds x.1 x.2) ts.toArray:=by
  rw[<-Array.foldl_toList,Array.toList_zip]
 have e':(ps.zip us.toArray).foldl (λtmps (t,a)=>tmps.setIfInBounds t a) ts.toArray=(ps.toList.zip us).foldl (λtmps (x:Tmp×Value)=>tmps.setIfInBounds x.1 x.2) ts.toArray:=e
 rw[e']
 refine⟨⟨ja,λ_ h=>by cases h⟩,?_,λi=> ?_,by rw[H8];exact ho,Trans.refl _ _,by rw[H8];exact cP.refl _⟩
 ·show Array.size _=(qQ _ _).length
  rw[wb,uZ]
  simpa using h2.len.symm
 ·rw[H8]
  exact wc ps.toList _ us _ _ h1 (by simpa using h2.len) (λi=>by simpa[cJ,aA]using h2.get i) i
theorem tQ.tC(hm:P.follows .mixedOrders=true)(hΓ:Sound P Γ){y:Nat}{fn:Func}{en:Entry}{an:rN}{N:Nat}(hL:mL P Γ an N (ke (ln P y).as++ke (ln P y).b))
  (h:∀args cz x,en.run args cz=some x->Ka P Γ an N fn args cz some=some (en.out args cz x)) (KH:an.oH=some y):tQ P y en:=by
 intro w g β args cz km x hv ho hx l us ts f rd n Uh ou
 have hN:=h args cz x hx
 unfold Ka at hN
 rw[KH]at hN
 simp only at hN
 unfold NB at hN
 split at hN
 rotate_left
 ·cases hN
 rename_i args
 split at hN
 ·cases hN
 rename_i hF
 subst Uh
 obtain⟨Rx,zh⟩:=hv
 have hC:(Ctx.mk ((gl cz).env w g β)).ok:=⟨λi j=>by simp[AS.env,gl,AS.bZ],λk v fr c hk=>FW hF hk⟩
 obtain⟨cs,hV,hO⟩:=Rx
 simp only[V]at hV
 obtain⟨l',rfl,H6,fB⟩:=hV
 have hl:l'=l:=by simpa[fV,av.agg]using hO
 subst hl
 have at_l:∀ {s:AS} {g1:Nat->kY} {β1:Id->Option Pl} {a:Act} {w1:World} {pl:Pl},Inv ⟨(gl cz).env w g β⟩ g1 β1 s a w1->(s.env w1 g1 β1).cur (.aV 0) 0->β1 (.aV 0)=some pl->pl.b=l':=by
  intro s g1 β1 a w1 pl hi hc hp
  obtain⟨c1,c2⟩:=hi.le.cur _ _ H6 hc
  obtain⟨pl',hp',rfl⟩:=fB c1
  have c2:β1 (.aV 0)=β (.aV 0):=c2
  have hp':β (.aV 0)=some pl':=hp'
  rw[c2,hp']at hp
  exact(congrArg Pl.b (ba hp)).symm
 refine roundIn_of_wpIn (F:=Fr rd) trivial ?_
 have Ga:some l'=none\/an.oH.isSome=true:= .inr (by rw[KH];rfl)
 refine lu (rd:=some l') hm hΓ hC Ga _ hL.append.1 _ _ w _ _ ⟨g,β,IX ou zh ho⟩ hN λe s1 a1 w1 CA Jy=> ?_
 cases e with
 |normal=>
  simp only at Jy
  cases h1:s1.yW 0 1 with
  |none=>rw[h1]at Jy;cases Jy
  |some s2=>
   rw[h1]at Jy
   simp only[ah]at Jy
   obtain⟨g1,β1,PY⟩:=CA
   obtain⟨pl,r,hp,hc,hb,lZ,T4⟩:=xO PY h1
   have:=at_l PY hc hp
   subst this
   refine⟨_,run_beginRound hb lZ.1,?_⟩
   have MI:=T4 {r with state:= .busy} rfl rfl rfl rfl rfl
   refine lu (rd:=some pl.b) hm hΓ hC Ga _ hL.append.2 _ _ _ _ _ ⟨_,_,MI⟩ Jy λe s3 a3 w3 Ru OR=> ?_
   cases PV:PM e with
   |none=>rw[PV]at OR;cases OR
   |some p=>
    rw[PV]at OR
    simp only[ah]at OR
    cases h4:s3.yW 1 p with
    |none=>rw[h4]at OR;cases OR
    |some s4=>
     rw[h4]at OR
     simp only at OR
     obtain⟨g3,β3,XV⟩:=Ru
     obtain⟨pl3,r3,Y5,PR,XM,Ze,hnext3⟩:=xO XV h4
     have YT:=at_l XV PR Y5
     rw[YT]at XM hnext3
     have fin:∀(jump:Option Code) (b:Bool),Nat.beq p 0=jump.isNone->GW p (if jump.isNone then .ready else .done) jump->
       ∃v w',(Instr.endRound pl.b jump).run P w3= .ok v w'/\∃v',Ending.returned v= .returned v'/\qq ((gl cz).env w g β) (en.out (.yl (.aV 0) 0::args) cz x) v' w':=λjump b hb hr=>by
      have YN:=hnext3 {r3 with state:=if jump.isNone then .ready else .done,pending:=jump} rfl rfl rfl rfl hr
      refine⟨_,_,run_endRound jump XM,_,rfl,?_⟩
      obtain⟨G,k1,k2⟩:=js.1 OR
      simp only[aq]at k2
      subst k2
      unfold Jp at k1
      obtain⟨sd,m1,k1⟩:=ak.1 k1
      obtain⟨s5,m2,k1⟩:=ak.1 k1
      obtain⟨s6,m3,k1⟩:=ak.1 k1
      obtain⟨s7,m4,k1⟩:=ak.1 k1
      obtain⟨g0,β0,OQ⟩:=q9 _ ⟨_,_,YN⟩ m1
      obtain⟨g',β',hi⟩:=wX _ (lJ hC _ ⟨g0,β0,OQ.drop _⟩ m2) m3
      have hi:=te hC _ hi m4
      rw[<-ao.1 k1,hb]
      exact Dl hi hC (po _)
     cases e with
     |normal=>
      obtain rfl:=ba PV
      exact fin none true rfl ⟨rfl,rfl⟩
     |ret=>
      obtain rfl:=ba PV
      exact fin (some .ret) false rfl ⟨rfl,rfl⟩
     |exit i=>
      obtain rfl:=ba PV
      exact fin (some (.exit i)) false rfl ⟨rfl,rfl⟩
     |goto _=>cases PV
     |panic _=>cases PV
     |outgrown=>cases PV
 |_=>cases Jy
end
end Go.Ab
namespace Go.Ab
def fa(k:IntKind)(n:Int):Int:=k.wrap n
def cG(k:IntKind)(x y:Int):Int:=k.wrap (x+y)
def dJ(k:IntKind)(x y:Int):Int:=k.wrap (x - y)
def jj(k:IntKind)(x y:Int):Int:=k.wrap (x*y)
def sr(k:IntKind)(x y:Int):Int:=k.wrap (x.tdiv y)
def kQ(x y:Int):Int:=x.tmod y
def l5(k:IntKind)(x y:Int):Int:=k.wrap (x*2^(min y.toNat k.bits))
def cT(k:IntKind)(x y:Int):Int:=x.fdiv (2^(min y.toNat k.bits))
def w8(x y:Int):Bool:=x==y
def w9(x y:Int):Bool:=x !=y
def jx(x y:Int):Bool:=decide (x < y)
def JA(x y:Int):Bool:=decide (x<=y)
def uL(x y:Int):Bool:=decide (x > y)
def tZ(x y:Int):Bool:=decide (x>=y)
def seq(x y:ByteArray):Bool:=x.toList==y.toList
def G2(a:ByteArray)(i:Int):Int:=((a.data.toList.getD i.toNat 0).toNat:Int)
def imax(x y:Int):Int:=if x < y then y else x
def jn(i n:Int):Bool:=decide (0<=i/\i < n)
def inc(i n:Int):Bool:=decide (0<=i/\i<=n)
def nL(y:Int):Bool:=decide (0<=y)
def ni(y:Int):Bool:= !(decide (y=0))
open Classical in
def eE.of{D X:Type}(st:D->AS)(aM:D->Prop)(F:D->X)(out:X->Out (Exit×AS)):eE:=
 {X,run:=λs=>if h:∃d,st d=s/\aM d then some (F h.choose) else none,out}
open Classical in
theorem eE.tC{D X:Type}{st:D->AS}{aM:D->Prop}{F:D->X}{out:X->Out (Exit×AS)}(Ey:∀d d',st d=st d'->d=d'){d:D}(h:aM d):(eE.of st aM F out).run (st d)=some (F d):=by
 have hex:∃d',st d'=st d/\aM d':=⟨d,rfl,h⟩
 show(if h:∃d',st d'=st d/\aM d' then some (F h.choose) else none)=_
 rw[dif_pos hex,Ey _ _ hex.choose_spec.1]
open Classical in
def J5.of{X:Type}(an:mB)(st:X->AS):J5:=
 {an,X,Vp:=λe s=>if h:e= .normal/\∃x,st x=s then some h.2.choose else none,out:=λx=> .ok (.normal,st x),
  ok:=λe s x h=>by
   by_cases h1:e= .normal/\∃x,st x=s
   ·rw[dif_pos h1]at h
    have h2:=h1.2.choose_spec
    rw[ba h]at h2
    rw[h1.1,<-h2]
    rfl
   ·rw[dif_neg h1]at h;cases h}
open Classical in
open Classical in
theorem Jb.of{P:Program}{Γ:mR}{an:rN}{N:Nat}{fn:Func}{i:Nat}{D X:Type}{st:D->AS}{aM:D->Prop}{F:D->X}{out:X->Out (Exit×AS)}
  (hle:an.iX (ei (mf fn i))=some (eE.of st aM F out)) (h:∀d,aM d->∃n,zQ P Γ an N fn i n (st d) (λe s=>some (e,s))=(out (F d)).eval):Jb P Γ an N (mf fn i):=by
 intro le hle'
 rw[hle]at hle'
 simp only[aq]at hle'
 subst hle'
 refine⟨λ_ s x hx=> ?_,λS hS=>by cases hS⟩
 change (if h:∃d',st d'=s/\aM d' then some (F h.choose) else none)=some x at hx
 split at hx
 ·rename_i hex
  obtain rfl:=ba hx
  obtain⟨h1,h2⟩:=hex.choose_spec
  obtain⟨n,hn⟩:=h _ h2
  refine⟨n,?_⟩
  show zQ P Γ an N fn i n s _=_
  rw[h1]at hn
  exact hn
 ·cases hx
theorem vo(P:Program)(Γ:mR)(an:rN)(N:Nat)(fn:Func)(i:Nat){R:Type}(n:Nat)(s:AS)(k:Exit->AS->Option R):
  zQ P Γ an N fn i (n+1) s k=uO P Γ an N fn i s (λs1=>zQ P Γ an N fn i n s1 k) k:=rfl
theorem JG{P:Program}{Γ:mR}{an:rN}{N:Nat}{fn:Func}{i:Nat}{D X:Type}{st:D->AS}{aM:D->Prop}{F:D->X}{out:X->Out (Exit×AS)}(μ:D->Nat)
  (h:∀d,aM d->(∃d',aM d'/\μ d' < μ d/\F d'=F d/\∀ {R:Type} (kn:AS->Option R) (kx:Exit->AS->Option R),uO P Γ an N fn i (st d) kn kx=kn (st d'))\/
   (∃r,(out (F d)).eval=some r/\∀ {R:Type} (kn:AS->Option R) (kx:Exit->AS->Option R),uO P Γ an N fn i (st d) kn kx=kx r.1 r.2)):
  ∀d,aM d->∃n,zQ P Γ an N fn i n (st d) (λe s=>some (e,s))=(out (F d)).eval:=by
 have key:∀m d,μ d=m->aM d->∃n,zQ P Γ an N fn i n (st d) (λe s=>some (e,s))=(out (F d)).eval:=by
  intro m
  induction m using Nat.strongRecOn with
  |_ m ih=>
   intro d hm hp
   rcases h d hp with⟨d',hp',iv,hF,hr⟩ | ⟨r,hr,hx⟩
   ·obtain⟨n,hn⟩:=ih (μ d') (by omega) d' rfl hp'
    exact⟨n+1,by rw[vo,hr,hn,hF]⟩
   ·exact⟨1,by rw[vo,hx,hr]⟩
 exact λd hp=>key _ d rfl hp
open Classical in
def eE.RI{D X Y:Type}(st:D->AS)(aM:D->Prop)(add:D->Y->X)(Fi:D->Y->Prop)(out:X->Out (Exit×AS)):eE:=
 {X,run:=λ_=>none,out,set:=some λs x=>∃d,st d=s/\aM d/\∃y,Fi d y/\x=add d y}
abbrev Tb(P:Program)(G:mR)(an:rN)(N:Nat)(fn:Func)(i:Nat){D X Y:Type}(st:D->AS)(aM:D->Prop)(add:D->Y->X)(Fi:D->Y->Prop)(out:X->Out (Exit×AS)):Prop:=
 ∀d,aM d->∃n,∀k:Exit->AS->Option Unit,(∀y e s,Fi d y->(out (add d y)).eval=some (e,s)->k e s=some ())->zQ P G an N fn i n (st d) k=some ()
theorem Jb.RI{P:Program}{Γ:mR}{an:rN}{N:Nat}{fn:Func}{i:Nat}{D X Y:Type}{st:D->AS}{aM:D->Prop}{add:D->Y->X}{Fi:D->Y->Prop}{out:X->Out (Exit×AS)}
  (h:Tb P Γ an N fn i st aM add Fi out) (hle:an.iX (ei (mf fn i))=some (eE.RI st aM add Fi out)):Jb P Γ an N (mf fn i):=by
 intro le hle'
 rw[hle]at hle'
 simp only[aq]at hle'
 subst hle'
 refine⟨λhS=>(by cases hS),λS hS s hs=> ?_⟩
 obtain rfl:=ba hS
 obtain⟨x,d,rfl,hp,y,hy,rfl⟩:=hs
 obtain⟨n,hn⟩:=h d hp
 exact⟨n,hn _ λy e s h1 h2=>RT ⟨add d y,⟨d,rfl,hp,y,h1,rfl⟩,h2⟩⟩
theorem Kf{n:Nat}{Q:Nat->Nat->Prop}(h:∀j,j < n->∃N,∀M,N<=M->Q j M):∃N,∀M,N<=M->∀j,j < n->Q j M:=by
 induction n with
 |zero=>exact⟨0,λ_ _ j hj=>by omega⟩
 |succ n ih=>
  obtain⟨N1,h1⟩:=ih λj hj=>h j (by omega)
  obtain⟨N2,h2⟩:=h n (by omega)
  refine⟨max N1 N2,λM hM j hj=> ?_⟩
  by_cases XY:j=n
  ·subst XY;exact h2 M (by omega)
  ·exact h1 M (by omega) j (by omega)
theorem M8{P:Program}{Γ:mR}{an:rN}{N:Nat}{fn:Func}{i:Nat}{D X:Type}{st:D->AS}{aM:D->Prop}{F:D->X}{out:X->Out (Exit×AS)}(μ:D->Nat)
  (h:∀d,aM d->(∃(m:Nat) (d':Nat->D),0 < m/\(∀j,j < m->aM (d' j)/\μ (d' j) < μ d/\F (d' j)=F d)/\∀ {R:Type} (kn:AS->Option R) (kx:Exit->AS->Option R),uO P Γ an N fn i (st d) kn kx=OC m λj=>kn (st (d' j)))\/
   (∃r,(out (F d)).eval=some r/\∀ {R:Type} (kn:AS->Option R) (kx:Exit->AS->Option R),uO P Γ an N fn i (st d) kn kx=kx r.1 r.2)):
  ∀d,aM d->∃n,zQ P Γ an N fn i n (st d) (λe s=>some (e,s))=(out (F d)).eval:=by
 have key:∀m d,μ d=m->aM d->∃n,∀M,n<=M->zQ P Γ an N fn i M (st d) (λe s=>some (e,s))=(out (F d)).eval:=by
  intro m
  induction m using Nat.strongRecOn with
  |_ m ih=>
   intro d hm hp
   rcases h d hp with⟨c,d',hc,hd,hr⟩ | ⟨r,hr,hx⟩
   ·obtain⟨n,hn⟩:=Kf (n:=c) (Q:=λj M=>zQ P Γ an N fn i M (st (d' j)) (λe s=>some (e,s))=(out (F d)).eval) λj hj=>by
     obtain⟨h1,h2,h3⟩:=hd j hj
     obtain⟨n,hn⟩:=ih (μ (d' j)) (by omega) (d' j) rfl h1
     exact⟨n,λM hM=>by rw[hn M hM,h3]⟩
    refine⟨n+1,λM hM=> ?_⟩
    obtain⟨M,rfl⟩:∃M',M=M'+1:=⟨M - 1,by omega⟩
    rw[vo,hr]
    exact QP hc λj hj=>hn M (by omega) j hj
   ·refine⟨1,λM hM=> ?_⟩
    obtain⟨M,rfl⟩:∃M',M=M'+1:=⟨M - 1,by omega⟩
    rw[vo,hx,hr]
 exact λd hp=>let⟨n,hn⟩:=key _ d rfl hp;⟨n,hn n (aw _)⟩
theorem Gq{P:Program}{Γ:mR}{an:rN}{N:Nat}{fn:Func}{i:Nat}{D X:Type}{st:D->AS}{aM:D->Prop}{F:D->X}{ex:X->Exit×AS}(μ:D->Nat)
  (h:∀d,aM d->(∃d',aM d'/\μ d' < μ d/\F d'=F d/\∀ {R:Type} (kn:AS->Option R) (kx:Exit->AS->Option R),uO P Γ an N fn i (st d) kn kx=kn (st d'))\/
   (∀ {R:Type} (kn:AS->Option R) (kx:Exit->AS->Option R),uO P Γ an N fn i (st d) kn kx=kx (ex (F d)).1 (ex (F d)).2)):
  ∀d,aM d->∃n,zQ P Γ an N fn i n (st d) (λe s=>some (e,s))=(Out.ok (ex (F d))).eval:=
 JG (out:=λx=> .ok (ex x)) μ λd hp=>(h d hp).imp id λh=>⟨_,rfl,h⟩
open Classical in
def Entry.of{D X:Type}(params:List (Option Ty))(st:D->List av×List dS)(aM:D->Prop)(F:D->X)(out:X->gV):Entry:=
 {params,X,run:=λargs cz=>if h:∃d,st d=(args,cz)/\aM d then some (F h.choose) else none,out:=λ_ _=>out}
open Classical in
theorem Entry.tC{D X:Type}{params:List (Option Ty)}{st:D->List av×List dS}{aM:D->Prop}{F:D->X}{out:X->gV}(Ey:∀d d',st d=st d'->d=d'){d:D}(h:aM d):
  (Entry.of params st aM F out).run (st d).1 (st d).2=some (F d):=by
 have hex:∃d',st d'=((st d).1,(st d).2)/\aM d':=⟨d,rfl,h⟩
 show(if h:∃d',st d'=((st d).1,(st d).2)/\aM d' then some (F h.choose) else none)=_
 rw[dif_pos hex,Ey _ _ hex.choose_spec.1]
open Classical in
theorem JN{D X:Type}{params:List (Option Ty)}{st:D->List av×List dS}{aM:D->Prop}{F:D->X}{out:X->gV}{args:List av}{cz:List dS}{x:X}(hx:(Entry.of params st aM F out).run args cz=some x):∃d,st d=(args,cz)/\aM d/\x=F d:=by
 change (if h:∃d',st d'=(args,cz)/\aM d' then some (F h.choose) else none)=some x at hx
 split at hx
 ·rename_i hex
  obtain rfl:=ba hx
  exact⟨_,hex.choose_spec.1,hex.choose_spec.2,rfl⟩
 ·cases hx
theorem nX.of{P:Program}{Γ:mR}(hm:P.follows .mixedOrders=true)(hΓ:Sound P Γ){f:FuncId}{fn:Func}(hf:P.funcs[f]? =some fn)(hb:fn.body.isSome=true)(uJ:(fn.name== "runtime.NumGoroutine")=false){an:rN}{N:Nat}
  (hL:∀c,fn.body=some c->mL P Γ an N (ke c)) {D X:Type} {params:List (Option Ty)} {st:D->List av×List dS} {aM:D->Prop} {F:D->X} {out:X->gV}
  (h:∀d,aM d->Ka P Γ an N fn (st d).1 (st d).2 some=some (out (F d))) (KH:an.oH=none:=by exact rfl):nX P f (Entry.of params st aM F out):=by
 refine nX.tC hm hΓ hf hb uJ hL (λargs cz x hx=> ?_) KH
 obtain⟨d,e1,e2,rfl⟩:=JN hx
 have:=h d e2
 rw[e1]at this
 exact this
def On(P:Program)(Γ:mR)(an:rN)(N:Nat)(fn:Func):Nat->Nat->Prop
 | 0,_=>True
 |n+1,i=>Jb P Γ an N (mf fn i)/\On P Γ an N fn n (i+1)
theorem On.get{P:Program}{Γ:mR}{an:rN}{N:Nat}{fn:Func}:∀ {n i:Nat},On P Γ an N fn n i->∀j,j < n->Jb P Γ an N (mf fn (i+j))
 | 0,_,_,j,hj=>by omega
 |n+1,i,h,0,_=>h.1
 |n+1,i,h,j+1,hj=>by
  have:=On.get h.2 j (by omega)
  rwa[show i+1+j=i+(j+1) by omega]at this
theorem mL.Nl{P:Program}{Γ:mR}{an:rN}{N:Nat}:∀(l:List Code),(∀j,j < l.length->Jb P Γ an N (l.getD j .skip))->mL P Γ an N l
 |[],_=>trivial
 |b::l,h=>⟨h 0 (by simp),mL.Nl l λj hj=>by have:=h (j+1) (by simpa using hj);simpa using this⟩
theorem mL.fn{P:Program}{Γ:mR}{an:rN}{N:Nat}{fn:Func}(n:Nat)(hn:(match fn.body with | some c=>(ke c).length | none=>0)=n)(h:On P Γ an N fn n 0):∀c,fn.body=some c->mL P Γ an N (ke c):=by
 intro c hc
 refine mL.Nl _ λj hj=> ?_
 rw[hc]at hn
 simp only at hn
 have:=h.get j (by omega)
 unfold mf at this
 rw[hc]at this
 simpa using this
theorem Jb.none{P:Program}{Γ:mR}{an:rN}{N:Nat}{fn:Func}{i:Nat}(h:an.iX (ei (mf fn i))=none):Jb P Γ an N (mf fn i):=λle hle=>by
 rw[h]at hle;cases hle
def To:mR:=λ_ _=>none
theorem Sound.nil(P:Program):Sound P To:=λ_ _ _ h=>by cases h
def MD(f:FuncId)(p:List av->Bool)(en:Entry)(Γ:mR):mR:=λg vs=>match Nat.beq g f with | true=>(match p vs with | true=>some en | false=>Γ g vs) | false=>Γ g vs
theorem Sound.cons{P:Program}{f:FuncId}{p:List av->Bool}{en:Entry}{Γ:mR}(h:vS P f en)(hΓ:Sound P Γ):Sound P (MD f p en Γ):=λg vs e hg=>by
 unfold MD at hg
 split at hg
 ·rename_i he
  have:g=f:=fb he
  split at hg
  ·simp only[aq]at hg
   subst hg this
   exact h
  ·exact hΓ g vs e hg
 ·exact hΓ g vs e hg
theorem PL{t:Ty}{x y:t.den}(h:av.d t x=av.d t y):x=y:=by
 injection h with _ h
theorem PE{e:TypeId}{t:Ty}{x y:List t.den}(h:av.vec e t x=av.vec e t y):x=y:=by
 injection h with _ _ h
def om:List av->Bool:=λ_=>true
def K7:List av->Bool | .di::_=>true | _=>false
def DX:List av->Bool | .aS .. ::_=>true | _=>false
@[simp] theorem ag{α:Type}(x y:Option α):aP true x y=x:=rfl
@[simp] theorem al{α:Type}(x y:Option α):aP false x y=y:=rfl
@[simp] theorem ab{α β:Type}(x:α)(f:α->Option β):ah (some x) f=f x:=rfl
@[simp] theorem vz{α:Type}(c:oX)(x:Option α):same c c x=x:=by simp[same]
@[simp] theorem qN{α:Type}(x:Option α):nd x x=x:=by simp[nd]
structure SG(P:Program) where
 f:FuncId
 p:List av->Bool
 e:Entry
 h:vS P f e
def oo{P:Program}:List (SG P)->mR
 |[]=>To
 |a::l=>MD a.f a.p a.e (oo l)
theorem Sound.oo{P:Program}:∀l:List (SG P),Sound P (oo l)
 |[]=>Sound.nil P
 |a::l=>Sound.cons a.h (Sound.oo l)
abbrev SA:=List av×List dS
def zK(P:Program)(G:mR)(an:rN)(N:Nat)(fn:Func){D:Type}(st:D->SA){R:Type}(d:D)(k:gV->Option R):Option R:=Ka P G an N fn (st d).1 (st d).2 k
def gN(P:Program)(G:mR)(an:rN)(N:Nat)(fn:Func)(i:Nat){D:Type}(st:D->AS){R:Type}(d:D)(kn:AS->Option R)(kx:Exit->AS->Option R):Option R:=uO P G an N fn i (st d) kn kx
abbrev CC{D X Y:Type}(A: {R:Type}->D->(gV->Option R)->Option R)(aM:D->Prop)(add:D->Y->X)(F:D->Y)(out:X->gV):Prop:=
 ∀d,aM d->A d some=some (out (add d (F d)))
abbrev mS(P:Program)(G:mR)(an:rN)(N:Nat)(fn:Func)(i:Nat){D X Y:Type}(st:D->AS)(aM:D->Prop)(add:D->Y->X)(F:D->Y)(out:X->Out (Exit×AS)):Prop:=
 ∀d,aM d->∃n,zQ P G an N fn i n (st d) (λe s=>some (e,s))=(out (add d (F d))).eval
abbrev LU{D X Y:Type}(R: {R:Type}->D->(AS->Option R)->(Exit->AS->Option R)->Option R)(st:D->AS)(aM:D->Prop)(add:D->Y->X)(F:D->Y)(ex:X->Exit×AS)(C:Prop):Prop:=
 ∀μ:D->Nat,(∀d,aM d->(∃d',aM d'/\μ d' < μ d/\add d' (F d')=add d (F d)/\∀ {T:Type} (kn:AS->Option T) (kx:Exit->AS->Option T),R d kn kx=kn (st d'))\/
  (∀ {T:Type} (kn:AS->Option T) (kx:Exit->AS->Option T),R d kn kx=kx (ex (add d (F d))).1 (ex (add d (F d))).2))->C
abbrev qa{D X Y:Type}(R: {R:Type}->D->(AS->Option R)->(Exit->AS->Option R)->Option R)(st:D->AS)(aM:D->Prop)(add:D->Y->X)(F:D->Y)(out:X->Out (Exit×AS))(C:Prop):Prop:=
 ∀μ:D->Nat,(∀d,aM d->(∃d',aM d'/\μ d' < μ d/\add d' (F d')=add d (F d)/\∀ {T:Type} (kn:AS->Option T) (kx:Exit->AS->Option T),R d kn kx=kn (st d'))\/
  (∃r,(out (add d (F d))).eval=some r/\∀ {T:Type} (kn:AS->Option T) (kx:Exit->AS->Option T),R d kn kx=kx r.1 r.2))->C
abbrev S9{D X Y:Type}(R: {R:Type}->D->(AS->Option R)->(Exit->AS->Option R)->Option R)(st:D->AS)(aM:D->Prop)(add:D->Y->X)(F:D->Y)(ex:X->Exit×AS)(C:Prop):Prop:=
 ∀μ:D->Nat,(∀d,aM d->(∃(m:Nat) (d':Nat->D),0 < m/\(∀j,j < m->aM (d' j)/\μ (d' j) < μ d/\add (d' j) (F (d' j))=add d (F d))/\∀ {T:Type} (kn:AS->Option T) (kx:Exit->AS->Option T),R d kn kx=OC m λj=>kn (st (d' j)))\/
  (∀ {T:Type} (kn:AS->Option T) (kx:Exit->AS->Option T),R d kn kx=kx (ex (add d (F d))).1 (ex (add d (F d))).2))->C
theorem VQ{P:Program}{G:mR}{an:rN}{N:Nat}{fn:Func}{i:Nat}{D X Y:Type}{st:D->AS}{aM:D->Prop}{add:D->Y->X}{F:D->Y}{ex:X->Exit×AS}:
  S9 (gN P G an N fn i st) st aM add F ex (mS P G an N fn i st aM add F λx=> .ok (ex x)):=λ μ h=>
 M8 (F:=λd=>add d (F d)) (out:=λx=> .ok (ex x)) μ λd hp=>(h d hp).imp id λh=>⟨_,rfl,h⟩
theorem QK{P:Program}{G:mR}{an:rN}{N:Nat}{fn:Func}{i:Nat}{D X Y:Type}{st:D->AS}{aM:D->Prop}{add:D->Y->X}{F:D->Y}{ex:X->Exit×AS}:
  LU (gN P G an N fn i st) st aM add F ex (mS P G an N fn i st aM add F λx=> .ok (ex x)):=λ μ h=>Gq (F:=λd=>add d (F d)) μ h
theorem qD{P:Program}{G:mR}{an:rN}{N:Nat}{fn:Func}{i:Nat}{D X Y:Type}{st:D->AS}{aM:D->Prop}{add:D->Y->X}{F:D->Y}{out:X->Out (Exit×AS)}:
  qa (gN P G an N fn i st) st aM add F out (mS P G an N fn i st aM add F out):=λ μ h=>JG (F:=λd=>add d (F d)) (out:=out) μ h
def pz:List (Nat×mB)->Nat->mB
 |[],_=> {}
 |a::l,r=>bif Nat.beq r a.1 then a.2 else pz l r
def py:List (Nat×mB×mB)->Nat->Bool->mB
 |[],_,_=> {}
 |a::l,r,b=>bif Nat.beq r a.1 then(bif b then a.2.2 else a.2.1) else py l r b
def qg.{v} {α:Type v}:List (Nat×α)->Nat->Option α
 |[],_=>none
 |a::l,r=>bif Nat.beq r a.1 then some a.2 else qg l r
inductive Lf where
 |d (t:Ty)
 |n
@[reducible] def Lf.den:Lf->Type
 | .d t=>t.den
 | .n=>Nat
@[reducible] def Lf.Lx:List Lf->Type
 |[]=>Unit
 |[a]=>a.den
 |a::b::l=>a.den×Lf.Lx (b::l)
abbrev Tc:=List (Sigma Lf.den)
def Lf.mk:(ts:List Lf)->Lf.Lx ts->Tc
 |[],_=> []
 |[a],x=> [⟨a,x⟩]
 |a::b::l,x=>⟨a,x.1⟩::Lf.mk (b::l) x.2
theorem Lf.mk_inj:∀(ts:List Lf) (x y:Lf.Lx ts),Lf.mk ts x=Lf.mk ts y->x=y
 |[],_,_,_=>rfl
 |[a],x,y,h=>by
  injection h with h _
  injection h
 |a::b::l,(x,u),(y,v),h=>by
  injection h with h h2
  injection h with _ h
  have h:x=y:=h
  rw[h,Lf.mk_inj (b::l) u v h2]
def av.leaves:av->Tc
 | .d .unit _=> []
 | .d (.arr _ t) l=> [⟨.d (.slice t),l⟩]
 | .d t x=> [⟨.d t,x⟩]
 | .eD t x=> [⟨.d t,x⟩]
 | .vec _ t l=> [⟨.d (.slice t),l⟩]
 | .mp k v l=> [⟨.d (.slice (.pair k v)),l⟩]
 | .nH _ _ k v l _=> [⟨.d (.slice (.pair k v)),l⟩]
 | .mr _ f _=>f.leaves
 | .aS _ _ _ _ _ n=> [⟨.n,n⟩]
 | .pr a b=>a.leaves++b.leaves
 | .cons a b=>a.leaves++b.leaves
 | .fn _ c=>c.leaves
 | .bx _ _ c=>c.leaves
 |_=> []
def dS.leaves:dS->Tc
 | .obj _ _ c=>c.leaves
 | .dead=> []
def SA.leaves(s:SA):Tc:=s.1.flatMap av.leaves++s.2.flatMap dS.leaves
def AS.leaves(s:AS):Tc:=s.cr.flatMap av.leaves++(s.cz.flatMap dS.leaves++s.news.flatMap (·.flatMap dS.leaves))
theorem EG(ts:List Lf){st:Lf.Lx ts->SA}(h:∀d,SA.leaves (st d)=Lf.mk ts d)(d d':Lf.Lx ts)(e:st d=st d'):d=d':=Lf.mk_inj ts d d' (by rw[<-h,<-h,e])
theorem oR(ts:List Lf){st:Lf.Lx ts->AS}(h:∀d,AS.leaves (st d)=Lf.mk ts d)(d d':Lf.Lx ts)(e:st d=st d'):d=d':=Lf.mk_inj ts d d' (by rw[<-h,<-h,e])
def Entry.iR{D X Y:Type}(params:List (Option Ty))(st:D->SA)(aM:D->Prop)(add:D->Y->X)(F:D->Y)(out:X->gV):Entry:=Entry.of params st aM (λd=>add d (F d)) out
def Yj{X Y:Type}(x:X⊕Y):Out (X⊕Y):= .br x.isLeft (.get x.getLeft? λa=> .ok (.inl a)) (.get x.getRight? λb=> .ok (.inr b))
theorem R6{X Y:Type}(x y:X⊕Y)(h:(Yj x).eval=some y):y=x:=by
 cases x <;> exact(ba h).symm
def Entry.Bi{D X X' Y:Type}(params:List (Option Ty))(st:D->SA)(aM:D->Prop)(add:D->Y->X⊕X')(F:D->Y)(out:X⊕X'->gV):Entry:=
 {Entry.iR params st aM add F out with sp:=Yj,NL:=R6}
theorem tQ.PC{P:Program}{y:Nat}{D X X' Y:Type}{params:List (Option Ty)}{st:D->SA}{aM:D->Prop}{add:D->Y->X⊕X'}{F:D->Y}{out:X⊕X'->gV}(h:tQ P y (Entry.iR params st aM add F out)):tQ P y (Entry.Bi params st aM add F out):=h
theorem nX.PC{P:Program}{f:FuncId}{D X X' Y:Type}{params:List (Option Ty)}{st:D->SA}{aM:D->Prop}{add:D->Y->X⊕X'}{F:D->Y}{out:X⊕X'->gV}(h:nX P f (Entry.iR params st aM add F out)):nX P f (Entry.Bi params st aM add F out):=h
def eE.iR{D X Y:Type}(st:D->AS)(aM:D->Prop)(add:D->Y->X)(F:D->Y)(out:X->Out (Exit×AS)):eE:=eE.of st aM (λd=>add d (F d)) out
def vU{D:Type}(E:Entry)(st:D->SA):D->Option E.X:=λd=>E.run (st d).1 (st d).2
def j9{D:Type}(E:eE)(st:D->AS):D->Option E.X:=λd=>E.run (st d)
abbrev kF{D X Y:Type}(call:D->Option X)(aM:D->Prop)(add:D->Y->X)(F:D->Y):Prop:=∀ {d:D},aM d->call d=some (add d (F d))
theorem UD{D X Y:Type}{params:List (Option Ty)}{st:D->SA}{aM:D->Prop}{add:D->Y->X}{F:D->Y}{out:X->gV}(Ey:∀d d',st d=st d'->d=d'):
  kF (vU (Entry.iR params st aM add F out) st) aM add F:=λh=>Entry.tC Ey h
theorem zF{D X X' Y:Type}{params:List (Option Ty)}{st:D->SA}{aM:D->Prop}{add:D->Y->X⊕X'}{F:D->Y}{out:X⊕X'->gV}(Ey:∀d d',st d=st d'->d=d'){d:D}(h:aM d):
  (Entry.Bi params st aM add F out).run (st d).1 (st d).2=some (add d (F d)):=UD (params:=params) (out:=out) Ey h
theorem oU{D X Y:Type}{st:D->AS}{aM:D->Prop}{add:D->Y->X}{F:D->Y}{out:X->Out (Exit×AS)}(Ey:∀d d',st d=st d'->d=d'):
  kF (j9 (eE.iR st aM add F out) st) aM add F:=λh=>eE.tC Ey h
def OF(P:Program)(fn:Func):Bool:=P.follows .mixedOrders && fn.body.isSome && !(fn.name== "runtime.NumGoroutine")
def OG(fn:Func):Nat:=match fn.body with | some c=>(ke c).length | none=>0
theorem nX.fn{P:Program}{l:List (SG P)}{f:FuncId}{fn:Func}{an:rN}{N:Nat}{D X Y:Type}{params:List (Option Ty)}{st:D->SA}{aM:D->Prop}{add:D->Y->X}{F:D->Y}{out:X->gV}(n:Nat)
  (hc:(P.funcs[f]?,OF P fn,OG fn)=(some fn,true,n))
  (h:CC (@zK P (oo l) an N fn D st) aM add F out)
  (hL:On P (oo l) an N fn n 0) (KH:an.oH=none:=by exact rfl):nX P f (Entry.iR params st aM add F out):=by
 injection hc with h1 h2
 injection h2 with h2 h3
 unfold OF at h2
 simp only[aj,cC]at h2
 exact nX.of h2.1.1 (Sound.oo l) h1 h2.1.2 h2.2 (mL.fn n h3 hL) h KH
theorem tQ.fn{P:Program}{l:List (SG P)}{y:Nat}{an:rN}{N:Nat}{D X Y:Type}{params:List (Option Ty)}{st:D->SA}{aM:D->Prop}{add:D->Y->X}{F:D->Y}{out:X->gV}(n:Nat)
  (hc:(P.follows .mixedOrders,OG (Sr P y))=(true,n))
  (h:CC (@zK P (oo l) an N (Sr P y) D st) aM add F out)
  (hL:On P (oo l) an N (Sr P y) n 0) (KH:an.oH=some y):tQ P y (Entry.iR params st aM add F out):=by
 injection hc with h1 h2
 refine tQ.tC h1 (Sound.oo l) (fn:=Sr P y) (mL.fn (fn:=Sr P y) n h2 hL _ rfl) (λargs cz x hx=> ?_) KH
 obtain⟨d,e1,e2,rfl⟩:=JN hx
 have:=h d e2
 unfold zK at this
 rw[e1]at this
 exact this
theorem Jb.iR{P:Program}{Γ:mR}{an:rN}{N:Nat}{fn:Func}{i:Nat}{D X Y:Type}{st:D->AS}{aM:D->Prop}{add:D->Y->X}{F:D->Y}{out:X->Out (Exit×AS)}
  (h:mS P Γ an N fn i st aM add F out) (hle:an.iX (ei (mf fn i))=some (eE.iR st aM add F out):=by kernel_rfl):Jb P Γ an N (mf fn i):=Jb.of hle h
abbrev K1(R:Type):=gV->Option R
abbrev K2(R:Type):=AS->Option R
abbrev K3(R:Type):=Exit->AS->Option R
@[reducible] def bP{D Y:Type}(_:D)(y:Y):Y:=y
structure Ls{D Y X:Type}(aM:D->Prop)(add:D->Y->X)(F:D->Y) where
 st:D->AS
 ex:X->Exit×AS
noncomputable def rY{D Y X:Type}{aM:D->Prop}{add:D->Y->X}{F:D->Y}(st:D->AS)(ex:X->Exit×AS):Ls aM add F:=⟨st,ex⟩
section
variable {D Y X:Type} {aM:D->Prop} {add:D->Y->X} {F:D->Y} (L:Ls aM add F)
def Ls.out:X->Out (Exit×AS):=λx=> .ok (L.ex x)
def Ls.E:eE:=eE.iR L.st aM add F L.out
def Ls.call:D->Option X:=j9 L.E L.st
abbrev Ls.go{R:Type}(kx:K3 R)(x:X):Option R:=kx (L.ex x).1 (L.ex x).2
abbrev Ls.RS:Prop:=kF L.call aM add F
end
theorem rL(ts:List Lf){Y X:Type}{aM:Lf.Lx ts->Prop}{add:Lf.Lx ts->Y->X}{F:Lf.Lx ts->Y}(L:Ls aM add F)(h:∀d,AS.leaves (L.st d)=Lf.mk ts d:=by exact λ_=>by kernel_rfl):kF L.call aM add F:=oU (oR ts h)
structure Fs(P:Program){D Y X:Type}(aM:D->Prop)(add:D->Y->X)(F:D->Y) where
 i:FuncId
 fn:Func
 st:D->SA
 out:X->gV
 ps:List (Option Ty)
 G:List (SG P)
 an:rN
 N:Nat
noncomputable def gC{P:Program}{D Y X:Type}{aM:D->Prop}{add:D->Y->X}{F:D->Y}(i:FuncId)(fn:Func)(st:D->SA)(out:X->gV)(ps:List (Option Ty))(G:List (SG P):=[])(an:rN:= {})(N:Nat:=0):Fs P aM add F:=⟨i,fn,st,out,ps,G,an,N⟩
section
variable {P:Program} {D Y X:Type} {aM:D->Prop} {add:D->Y->X} {F:D->Y} (f:Fs P aM add F) {D' Y' X':Type} {Pre':D'->Prop} {add':D'->Y'->X'} {F':D'->Y'}
def Fs.A{R:Type}(d:D)(k:K1 R):Option R:=zK P (oo f.G) f.an f.N f.fn f.st d k
def Fs.R(i:Nat)(L:Ls Pre' add' F'){R:Type}(d:D')(kn:K2 R)(kx:K3 R):Option R:=gN P (oo f.G) f.an f.N f.fn i L.st d kn kx
abbrev Fs.Ok:Prop:=∀d,aM d->f.A d some=some (f.out (add d (F d)))
abbrev Fs.mL(i:Nat)(L:Ls Pre' add' F'):Prop:=mS P (oo f.G) f.an f.N f.fn i L.st Pre' add' F' L.out
def Fs.E:Entry:=Entry.iR f.ps f.st aM add F f.out
def Fs.call:D->Option X:=vU f.E f.st
theorem Fs.oH(i:Nat)(L:Ls Pre' add' F'):LU (@Fs.R P D Y X aM add F f D' Y' X' Pre' add' F' i L) L.st Pre' add' F' L.ex (f.mL i L):=λ μ h=>Gq (F:=λd=>add' d (F' d)) μ h
theorem Fs.UC(i:Nat)(L:Ls Pre' add' F'):S9 (@Fs.R P D Y X aM add F f D' Y' X' Pre' add' F' i L) L.st Pre' add' F' L.ex (f.mL i L):=VQ
abbrev Fs.RS:Prop:=kF f.call aM add F
def Fs.Vw(p:List av->Bool)(ok:f.Ok)(n:Nat:=0)(hL:On P (oo f.G) f.an f.N f.fn n 0:=by exact trivial)(hc:(P.funcs[f.i]?,OF P f.fn,OG f.fn)=(some f.fn,true,n):=by kernel_rfl)(hy:Nat.blt f.i yB=true:=by exact rfl)(hn:f.an.oH=none:=by exact rfl):SG P:=⟨f.i,p,f.E,.of (nX.fn n hc ok hL hn) hy⟩
def Fs.gG(ok:f.Ok)(n:Nat:=0)(hL:On P (oo f.G) f.an f.N f.fn n 0:=by exact trivial)(hc:(P.funcs[f.i]?,OF P f.fn,OG f.fn)=(some f.fn,true,n):=by kernel_rfl)(hy:Nat.blt f.i yB=true:=by exact rfl)(hn:f.an.oH=none:=by exact rfl):SG P:=f.Vw om ok n hL hc hy hn
end
theorem rE(ts:List Lf){P:Program}{Y X:Type}{aM:Lf.Lx ts->Prop}{add:Lf.Lx ts->Y->X}{F:Lf.Lx ts->Y}(f:Fs P aM add F)(h:∀d,SA.leaves (f.st d)=Lf.mk ts d:=by exact λ_=>by kernel_rfl):kF f.call aM add F:=UD (EG ts h)
abbrev tu:Ty:=(.int .u64)
abbrev ti:Ty:=(.int .i64)
abbrev tb:Ty:=(.int .u8)
abbrev tB:Ty:=(.slice tb)
abbrev Bs:=(List Int)
abbrev tH:Ty:=(.arr 32 tb)
abbrev tU:Ty:=(.slice tu)
abbrev b8:Ty:=(.pair tH (.pair ti .unit))
abbrev cd:=(Bs×(Int×Unit))
abbrev yh:Ty:=(.pair tu (.pair tu .unit))
abbrev Sg:=(Int×(Int×Unit))
abbrev Of:Ty:=(.pair ti (.pair (.slice yh) (.pair tu .unit)))
abbrev CD:=(Int×((List Sg)×(Int×Unit)))
abbrev jo:Ty:=(.pair b8 (.pair Of .unit))
abbrev kC:=(cd×(CD×Unit))
abbrev oK:Ty:=(.pair tU (.pair ti (.pair ti (.pair tu .unit))))
abbrev oV:=(Bs×(Int×(Int×(Int×Unit))))
abbrev Hd:Ty:=(.pair (.slice oK) .unit)
abbrev Lk:=((List oV)×Unit)
abbrev lO:Ty:=(.pair ti (.pair Hd .unit))
abbrev kO:=(Int×(Lk×Unit))
abbrev gU:Ty:=(.pair (.slice jo) (.pair (.slice lO) (.pair ti .unit)))
abbrev eZ:=((List kC)×((List kO)×(Int×Unit)))
abbrev oa:Ty:=(.pair tB (.pair .bool .unit))
abbrev iw:=(Bs×(Bool×Unit))
abbrev Zx:Ty:=(.pair ti (.pair (.im yh) (.pair tu .unit)))
abbrev VG:=(Int×((Option (List Sg))×(Int×Unit)))
abbrev nc:Ty:=(.pair b8 (.pair Zx .unit))
abbrev qV:=(cd×(VG×Unit))
end Go.Ab
namespace Go.Ab
theorem ov{n:Int}(h1: -9223372036854775808<=n)(h2:n<=9223372036854775807):IntKind.i64.wrap n=n:=by
 simp[IntKind.wrap,IntKind.bits,IntKind.signed]
 split <;> omega
theorem fX{x y:Int}(h1: -9223372036854775808<=x+y)(h2:x+y<=9223372036854775807):cG .i64 x y=x+y:=ov h1 h2
theorem fP{x y:Int}(h1: -9223372036854775808<=x - y)(h2:x - y<=9223372036854775807):dJ .i64 x y=x - y:=ov h1 h2
theorem xv{x y:Int}(h1: -9223372036854775808<=x*y)(h2:x*y<=9223372036854775807):jj .i64 x y=x*y:=ov h1 h2
theorem EC{x:Int}(h1: -9223372036854775808<=x)(h2:x<=9223372036854775807):fa .i64 x=x:=ov h1 h2
def vw{n:Nat}(w:BitVec n):Int:=(w.toNat:Int)
theorem lD(n:Nat)(x:Int):vw (BitVec.ofInt n x)=x%((2^n:Nat):Int):=by
 unfold vw
 rw[nr]
 have:0<=x%((2^n:Nat):Int):=jW _ (by have:=Nat.two_pow_pos n;omega)
 omega
theorem D4{n:Nat}(w:BitVec n):0<=vw w:=gM _
theorem Qs{n:Nat}(w:BitVec n):vw w < ((2^n:Nat):Int):=by have:=w.isLt;unfold vw;omega
theorem pN{n:Nat}(w:BitVec n):BitVec.ofInt n (vw w)=w:=by
 apply BitVec.eq_of_toNat_eq
 have:=lD n (vw w)
 unfold vw at this ⊢
 have h:=w.isLt
 rw[fi (gM _) (by omega)]at this
 omega
theorem wrap_u32(x:Int):IntKind.u32.wrap x=vw (BitVec.ofInt 32 x):=by rw[lD];simp[IntKind.wrap,IntKind.bits,IntKind.signed]
theorem wrap_u64(x:Int):IntKind.u64.wrap x=vw (BitVec.ofInt 64 x):=by rw[lD];simp[IntKind.wrap,IntKind.bits,IntKind.signed]
theorem wrap_u8(x:Int):IntKind.u8.wrap x=vw (BitVec.ofInt 8 x):=by rw[lD];simp[IntKind.wrap,IntKind.bits,IntKind.signed]
theorem ofInt_add(n:Nat)(x y:Int):BitVec.ofInt n (x+y)=BitVec.ofInt n x+BitVec.ofInt n y:=BitVec.ofInt_add ..
theorem AV(x y:BitVec 32):cG .u32 (vw x) (vw y)=vw (x+y):=by rw[cG,wrap_u32,BitVec.ofInt_add,pN,pN]
theorem OY(x:Int):fa .u32 x=vw (BitVec.ofInt 32 x):=wrap_u32 x
theorem OZ(x:Int):fa .u64 x=vw (BitVec.ofInt 64 x):=wrap_u64 x
theorem ED(x:Int):fa .u8 x=vw (BitVec.ofInt 8 x):=wrap_u8 x
theorem Nd{n:Nat}(x:BitVec n):BitVec.ofInt n ((x.toNat:Nat):Int)=x:=pN x
theorem vj(op:BinOp)(x y:BitVec 32):dY op .u32 (vw x) (vw y)=vw (match op with | .and=>x &&& y | .or=>x ||| y | .xor=>x^^^y | _=>x &&& ~~~y):=by
 unfold dY
 split <;> (simp only[IntKind.bits,pN,wrap_u32,Nd];rfl)
theorem Kd(op:BinOp)(x y:BitVec 64):dY op .u64 (vw x) (vw y)=vw (match op with | .and=>x &&& y | .or=>x ||| y | .xor=>x^^^y | _=>x &&& ~~~y):=by
 unfold dY
 split <;> (simp only[IntKind.bits,pN,wrap_u64,Nd];rfl)
theorem MA(x y:Nat):Int.fdiv (x:Int) (y:Int)=((x / y:Nat):Int):=by
 rw[Int.fdiv_eq_ediv_of_nonneg _ (gM _)]
 rfl
theorem yi(k:Nat):(2:Int)^k=((2^k:Nat):Int):=by simp
theorem R1{n:Nat}(w:BitVec n)(k:Nat):Int.fdiv (vw w) (2^(min k n))=vw (w >>> k):=by
 rw[yi]
 unfold vw
 rw[MA,BitVec.toNat_ushiftRight,Nat.shiftRight_eq_div_pow]
 congr 1
 rcases Nat.le_total k n with hk | hk
 ·rw[gH hk]
 ·rw[Nat.min_eq_right hk,Nat.div_eq_of_lt w.isLt,Nat.div_eq_of_lt]
  exact nu w.isLt (Nat.pow_le_pow_right (by omega) hk)
theorem A7(w:BitVec 32)(k:Int):cT .u32 (vw w) k=vw (w >>> k.toNat):=R1 w k.toNat
theorem R0{n:Nat}(w:BitVec n)(k:Nat):BitVec.ofInt n (vw w*2^(min k n))=w <<< k:=by
 apply BitVec.eq_of_toNat_eq
 rw[nr,BitVec.toNat_shiftLeft,Nat.shiftLeft_eq]
 unfold vw
 rw[yi]
 have e:((w.toNat:Int)*((2^min k n:Nat):Int))=((w.toNat*2^min k n:Nat):Int):=by simp
 rw[e]
 have:(((w.toNat*2^min k n:Nat):Int)%((2^n:Nat):Int)).toNat=(w.toNat*2^min k n)%2^n:=by omega
 rw[this]
 rcases Nat.le_total k n with hk | hk
 ·rw[gH hk]
 ·rw[Nat.min_eq_right hk,Nat.mul_mod_left]
  obtain⟨m,rfl⟩:=Nat.exists_eq_add_of_le hk
  rw[ma,<-Nat.mul_assoc,Nat.mul_right_comm,Nat.mul_mod_left]
theorem Gh(w:BitVec 32)(k:Int):l5 .u32 (vw w) k=vw (w <<< k.toNat):=by rw[l5,wrap_u32];congr 1;exact R0 w k.toNat
theorem bG{i n:Int}(h1:0<=i)(h2:i < n):jn i n=true:=by simp[jn,h1,h2]
theorem oz{i n:Int}(h1:0<=i)(h2:i<=n):inc i n=true:=by simp[inc,h1,h2]
theorem bg{x y:Int}(h:x < y):jx x y=true:=by simp[jx,h]
theorem aX{x y:Int}(h:¬x < y):jx x y=false:=by simp[jx];omega
theorem rj{x y:Int}(h:x<=y):JA x y=true:=by simp[JA,h]
theorem nP{x y:Int}(h:¬x<=y):JA x y=false:=by simp[JA];omega
theorem eY{x y:Int}(h:x > y):uL x y=true:=by simp[uL];omega
theorem eC{x y:Int}(h:¬x > y):uL x y=false:=by simp[uL];omega
theorem jg{x y:Int}(h:x>=y):tZ x y=true:=by simp[tZ];omega
theorem fI{x y:Int}(h:¬x>=y):tZ x y=false:=by simp[tZ];omega
theorem jf{x y:Int}(h:x=y):w8 x y=true:=by simp[w8,h]
theorem lH{x y:Int}(h:¬x=y):w8 x y=false:=by simp[w8,h]
theorem iH{x y:Int}(h:¬x=y):w9 x y=true:=by simp[w9,h]
theorem ff{x y:Int}(h:x=y):w9 x y=false:=by simp[w9,h]
theorem pM{x:Int}(h:0<=x):nL x=true:=by simp[nL,h]
theorem aY{p:Prop} [Decidable p] (h:p):decide p=true:=by simp[h]
theorem cH{p:Prop} [Decidable p] (h:¬p):decide p=false:=by simp[h]
theorem fg{n b:Nat}(h:n*b<=140737488355328)(h2:n<=9223372036854775807):dZ n b=true:=by simp[dZ,h,h2]
def from_{α:Type}(f:Nat->α->α)(t:Nat)(l:List α):List α:=l.mapIdx λi x=>if i < t then x else f i x
theorem Dp{α:Type}(f:Nat->α->α)(l:List α)(t:Nat)(h:t < l.length):from_ f (t+1) (l.set t (f t l[t]))=from_ f t l:=by
 unfold from_
 apply List.ext_getElem (by simp)
 intro i h1 h2
 simp only[List.getElem_mapIdx,List.getElem_set]
 by_cases hi:t=i
 ·subst hi;simp
 ·simp only[if_neg hi]
  by_cases h3:i < t
  ·rw[if_pos (by omega),if_pos h3]
  ·rw[if_neg (by omega),if_neg h3]
theorem F1{α:Type}(f:Nat->α->α)(l:List α)(t:Nat)(h:l.length<=t):from_ f t l=l:=by
 unfold from_
 apply List.ext_getElem (by simp)
 intro i h1 h2
 simp only[List.getElem_mapIdx]
 rw[if_pos (by omega)]
theorem AI{α:Type}(f:Nat->α->α)(n:Nat)(x:α):from_ f 0 (List.replicate n x)=(List.range n).map λi=>f i x:=by
 unfold from_
 apply List.ext_getElem (by simp)
 intro i h1 h2
 simp
theorem dz{t:Ty}{l:List t.den}{i:Nat}(h:i < l.length):nth t l i=l[i]:=by simp[nth,h]
end Go.Ab
namespace Go.Ab.N
section
variable {α:Type} {x y:Option α} {a b n:Nat} {i j:Int}
theorem lt:aP (jx i j) x y=if i < j then x else y:=by unfold jx;split <;> rename_i h <;> simp[h]
theorem le:aP (JA i j) x y=if i<=j then x else y:=by unfold JA;split <;> rename_i h <;> simp[h]
theorem gt:aP (uL i j) x y=if j < i then x else y:=by unfold uL;split <;> rename_i h <;> simp[h]
theorem ge:aP (tZ i j) x y=if j<=i then x else y:=by unfold tZ;split <;> rename_i h <;> simp[h]
theorem eq:aP (w8 i j) x y=if i=j then x else y:=by
 by_cases h:i=j
 ·rw[jf h,if_pos h];rfl
 ·rw[lH h,if_neg h];rfl
theorem ne:aP (w9 i j) x y=if i=j then y else x:=by
 by_cases h:i=j
 ·rw[ff h,if_pos h];rfl
 ·rw[iH h,if_neg h];rfl
theorem ib:aP (jn i j) x y=if 0<=i/\i < j then x else y:=by unfold jn;split <;> rename_i h <;> simp[h]
theorem ic:aP (inc i j) x y=if 0<=i/\i<=j then x else y:=by unfold inc;split <;> rename_i h <;> simp[h]
theorem nn:aP (nL i) x y=if 0<=i then x else y:=by unfold nL;split <;> rename_i h <;> simp[h]
theorem nz:aP (ni i) x y=if i=0 then y else x:=by unfold ni;split <;> rename_i h <;> simp[h]
theorem dc{p:Prop} [Decidable p]:aP (decide p) x y=if p then x else y:=by split <;> rename_i h <;> simp[h]
theorem rm:aP (dZ n b) x y=if n*b<=140737488355328/\n<=9223372036854775807 then x else y:=by unfold dZ;exact dc
theorem an{c d:Bool}:aP (c && d) x y=aP c (aP d x y) y:=by cases c <;> rfl
theorem or{c d:Bool}:aP (c || d) x y=aP c x (aP d x y):=by cases c <;> rfl
theorem no{c:Bool}:aP (!c) x y=aP c y x:=by cases c <;> rfl
theorem U3(h:a+b<=9223372036854775807):cG .i64 (a:Int) (b:Int)=((a+b:Nat):Int):=by rw[fX (by omega) (by omega)];omega
theorem p9(h:a+OfNat.ofNat n<=9223372036854775807):cG .i64 (a:Int) (no_index (OfNat.ofNat n))=((a+OfNat.ofNat n:Nat):Int):=U3 h
theorem XC(h:OfNat.ofNat n+a<=9223372036854775807):cG .i64 (no_index (OfNat.ofNat n)) (a:Int)=((OfNat.ofNat n+a:Nat):Int):=U3 h
theorem Vv(h:b<=a)(h2:a<=9223372036854775807):dJ .i64 (a:Int) (b:Int)=((a - b:Nat):Int):=by rw[fP (by omega) (by omega)];omega
theorem Yh(h:OfNat.ofNat n<=a)(h2:a<=9223372036854775807):dJ .i64 (a:Int) (no_index (OfNat.ofNat n))=((a - OfNat.ofNat n:Nat):Int):=Vv h h2
theorem Yg(h:a<=OfNat.ofNat n)(h2:(OfNat.ofNat n:Nat)<=9223372036854775807):dJ .i64 (no_index (OfNat.ofNat n)) (a:Int)=((OfNat.ofNat n - a:Nat):Int):=Vv h h2
theorem Vr(h:a*b<=9223372036854775807):jj .i64 (a:Int) (b:Int)=((a*b:Nat):Int):=by
 have e:(a:Int)*(b:Int)=((a*b:Nat):Int):=by simp
 rw[xv (by omega) (by omega),e]
theorem Yd(h:a*OfNat.ofNat n<=9223372036854775807):jj .i64 (a:Int) (no_index (OfNat.ofNat n))=((a*OfNat.ofNat n:Nat):Int):=Vr h
theorem Us(h:OfNat.ofNat n*a<=9223372036854775807):jj .i64 (no_index (OfNat.ofNat n)) (a:Int)=((OfNat.ofNat n*a:Nat):Int):=Vr h
theorem W7(h:a<=9223372036854775807):sr .i64 (a:Int) (b:Int)=((a / b:Nat):Int):=by
 have:(a:Int).tdiv (b:Int)=((a / b:Nat):Int):=by rw[jL (by omega)];simp
 have hl:a / b<=a:=Nat.div_le_self a b
 unfold sr
 rw[this]
 generalize a / b=c at hl
 exact ov (by omega) (by omega)
theorem Yf(h:a<=9223372036854775807):sr .i64 (a:Int) (no_index (OfNat.ofNat n))=((a / OfNat.ofNat n:Nat):Int):=W7 h
theorem W8:kQ (a:Int) (b:Int)=((a%b:Nat):Int):=by
 unfold kQ
 rw[ig (by omega)]
 simp
theorem Vu:kQ (a:Int) (no_index (OfNat.ofNat n))=((a%OfNat.ofNat n:Nat):Int):=W8
theorem cN(h:a<=9223372036854775807):fa .i64 (a:Int)=(a:Int):=EC (by omega) (by omega)
theorem cL(h:(OfNat.ofNat n:Nat)<=9223372036854775807):fa .i64 (no_index (OfNat.ofNat n))=OfNat.ofNat n:=cN h
theorem tL:Int.toNat (no_index (OfNat.ofNat n))=OfNat.ofNat n:=rfl
end
end Go.Ab.N
namespace Go.Ab
section
variable {P:Program}
theorem Mw{E E':Env}(h1:E'.w=E.w)(h2:E'.g=E.g)(h3:E'.β=E.β)(h4:E'.s=E.s):E'=E:=by
 obtain⟨a,b,c,d⟩:=E
 obtain⟨a',b',c',d'⟩:=E'
 simp only at h1 h2 h3 h4
 subst h1 h2 h3 h4
 rfl
theorem qq.same{w:World}{g:Nat->kY}{β:Id->Option Pl}{cz:List dS}{a:av}{v:Value}(hv:VS ((gl cz).env w g β) a v)(ho:jc ((gl cz).env w g β)):
  qq ((gl cz).env w g β) ⟨a,cz,[]⟩ v w:=by
 have hE:(gV.st ⟨a,cz,[]⟩).env w g β=(gl cz).env w g β:=by
  refine Mw rfl rfl rfl ?_
  funext id
  cases id with
  |aV k=>rfl
  |new i j=>
   show([([]:List dS)].getD i [])[j]? =(([]:List (List dS)).getD i [])[j]?
   cases i <;> rfl
 refine⟨g,β,?_⟩
 rw[hE]
 exact⟨hv,ho,Trans.refl w g,cP.refl _⟩
theorem nX.extern{f:FuncId}{fn:Func}{e:Array Value->Sem Value}(hf:P.funcs[f]? =some fn)(uJ:(fn.name== "runtime.NumGoroutine")=false)(hb:fn.body.isNone=true)(hn:Extern.findNext fn=none)(he:Extern.find fn=some e){en:Entry}
  (h:∀w g β args cz km x,rO ((gl cz).env w g β) args km->jc ((gl cz).env w g β)->en.run args cz=some x->∃v,(e km.toArray).run P w= .ok v w/\qq ((gl cz).env w g β) (en.out args cz x) v w):nX P f en:=by
 intro w g β args cz km x h1 h2 h3
 obtain⟨v,h4,h5⟩:=h w g β args cz km x h1 h2 h3
 refine .inr ⟨v,w,?_,h5⟩
 rw[run_callFunc_extern hf uJ hb hn he,h4]
 rfl
def Qi.E:Entry:= {params:=[none],X:=Unit,run:=λargs _=>match args with | [_]=>some () | _=>none,out:=λargs cz _=>⟨args.headD .undef,cz,[]⟩}
theorem Qi.of{f:FuncId}{fn:Func}(hf:P.funcs[f]? =some fn)(uJ:(fn.name== "runtime.NumGoroutine")=false)(hb:fn.body.isNone=true)(hn:Extern.findNext fn=none)(he:Extern.find fn=some Extern.AbiNoEscape.same):nX P f Qi.E:=by
 refine nX.extern hf uJ hb hn he λw g β args cz km x h1 h2 h3=> ?_
 cases args with
 |nil=>cases h3
 |cons a as=>
  cases as with
  |cons _ _=>cases h3
  |nil=>
   cases km with
   |nil=>exact h1.elim
   |cons v vs=>
    obtain⟨h4,h5⟩:=h1
    cases vs with
    |cons _ _=>exact h5.elim
    |nil=>exact⟨v,rfl,qq.same h4 h2⟩
theorem DU{w:World}:∀(xs:List Int) (a:Addr) (acc:ByteArray),(∀j x,xs[j]? =some x->w.cell? (a.add j)=some (.int .u8 x))->
  (Extern.Bytes.loadBytes a xs.length acc).run P w= .ok ⟨acc.data++(xs.map λn=>UInt8.ofNat n.toNat).toArray⟩ w
 |[],a,acc,_=>by simp[Extern.Bytes.loadBytes]
 |x::l,a,acc,h=>by
  have h0:w.cell? a=some (.int .u8 x):=by
   have:=h 0 x rfl
   simpa[Addr.add]using this
  have ih:=DU l (a.add 1) (acc.push x.toNat.toUInt8) (λj y hy=>by
   have:=h (j+1) y (by simpa using hy)
   have e:(a.add 1).add j=a.add (j+1):=by
    unfold Addr.add
    by_cases hj:j=0
    ·subst hj;simp
    ·simp[hj];omega
   rw[e];exact this)
  simp only[aB,Extern.Bytes.loadBytes,Sem.run_bind,run_load,h0,Result.andThen]
  rw[ih]
  congr 1
  apply ByteArray.ext
  simp[ByteArray.push]
theorem B3{E:Env}{l:List Int}{y:Value}(h:VS E (.d (.slice (.int .u8)) l) y):(Extern.Bytes.bytesOf y).run P E.w= .ok (fy l) E.w:=by
 obtain⟨a,cap,vs,rfl,_,hs,nC,pt⟩:=oJ h
 have zi:=pH (k:= .u8) (vs:=vs) (l:=l) pt
 cases a with
 |none=>
  have hl:l=[]:=by
   cases l with
   |nil=>rfl
   |cons _ _=>simp at hs
  subst hl
  rfl
 |some ad=>
  have MJ:=DU (P:=P) (w:=E.w) l ad .empty λj x hx=>by
   obtain⟨b,off,e,hh⟩:=nC j (.int .u8 x) (by rw[zi];simp[hx])
   have e:ad=⟨b,off,none⟩:=by simpa using e
   subst e
   have h1:=hh.1
   unfold Addr.add
   by_cases hj:j=0
   ·subst hj;simpa using h1
   ·simpa[hj]using h1
  show(Extern.Bytes.loadBytes ad l.length .empty).run P E.w=_
  rw[MJ]
  congr 1
  apply ByteArray.ext
  simp[fy]
def CH(a b:List Int):Int:=Extern.BytealgCompare.cmp (fy a) (fy b)
def Jh.E:Entry:=Entry.of (D:=List Int×List Int) (X:=Int) [some (.slice (.int .u8)),some (.slice (.int .u8))] (λd=>([.d (.slice (.int .u8)) d.1,.d (.slice (.int .u8)) d.2],[])) (λ_=>True) (λd=>CH d.1 d.2) (λx=>⟨.d (.int .i64) x,[],[]⟩)
theorem Jh.inj:∀d d':List Int×List Int,(([av.d (.slice (.int .u8)) d.1,av.d (.slice (.int .u8)) d.2],([]:List dS)):List av×List dS)=([.d (.slice (.int .u8)) d'.1,.d (.slice (.int .u8)) d'.2],[])->d=d':=by
 rintro⟨a,b⟩ ⟨a',b'⟩ h
 have e1:a=a':=PL (t:= .slice (.int .u8)) (congrArg (λs:List av×List dS=>s.1.getD 0 .undef) h)
 have e2:b=b':=PL (t:= .slice (.int .u8)) (congrArg (λs:List av×List dS=>s.1.getD 1 .undef) h)
 rw[e1,e2]
def Jh.call:List Int×List Int->Option Int:=λd=>Jh.E.run [.d (.slice (.int .u8)) d.1,.d (.slice (.int .u8)) d.2] []
theorem Jh.run(d:List Int×List Int):Jh.call d=some (CH d.1 d.2):=Entry.tC (d:=d) Jh.inj trivial
theorem Jh.of{f:FuncId}{fn:Func}(hf:P.funcs[f]? =some fn)(uJ:(fn.name== "runtime.NumGoroutine")=false)(hb:fn.body.isNone=true)(hn:Extern.findNext fn=none)(he:Extern.find fn=some Extern.BytealgCompare.compare):nX P f Jh.E:=by
 refine nX.extern hf uJ hb hn he λw g β args cz km x h1 h2 h3=> ?_
 have hx:∃d:List Int×List Int,(([av.d (.slice (.int .u8)) d.1,av.d (.slice (.int .u8)) d.2],([]:List dS)):List av×List dS)=(args,cz):=by
  by_cases hh:∃d:List Int×List Int,(([av.d (.slice (.int .u8)) d.1,av.d (.slice (.int .u8)) d.2],([]:List dS)):List av×List dS)=(args,cz)
  ·exact hh
  ·exfalso
   have hn:Jh.E.run args cz=none:=dif_neg λ⟨d,h,_⟩=>hh ⟨d,h⟩
   rw[hn]at h3
   cases h3
 obtain⟨d,hd⟩:=hx
 simp only[cR]at hd
 obtain⟨rfl,rfl⟩:=hd
 have hr:=Jh.run d
 have hx:x=CH d.1 d.2:=ba (h3.symm.trans hr)
 subst hx
 match km,h1 with
 |[u,v],⟨h4,h5,_⟩=>
  refine⟨.int .i64 (CH d.1 d.2),?_,qq.same (kj _ _) h2⟩
  have e1:=B3 (P:=P) h4
  have e2:=B3 (P:=P) h5
  have e1:(Extern.Bytes.bytesOf u).run P w= .ok (fy d.1) w:=e1
  have e2:(Extern.Bytes.bytesOf v).run P w= .ok (fy d.2) w:=e2
  have Rb:Extern.BytealgCompare.compare [u,v].toArray=(do let a <-Extern.Bytes.bytesOf u;let b <-Extern.Bytes.bytesOf v;pure (goInt (Extern.BytealgCompare.cmp a b))):=rfl
  rw[Rb]
  simp[e1,e2,goInt,CH]
def VK{X Y:Type} [Inhabited Y] (x:Option X):Option (X×Y):=ah x λy=>some (y,default)
def VL{X Y:Type} [Inhabited X] (x:Option Y):Option (X×Y):=ah x λy=>some (default,y)
@[simp] theorem Sy{X Y:Type} [Inhabited Y] (x:X):VK (Y:=Y) (some x)=some (x,default):=rfl
@[simp] theorem Sz{X Y:Type} [Inhabited X] (x:Y):VL (X:=X) (some x)=some (default,x):=rfl
def Entry.half(params:List (Option Ty)){X Z:Type}(run:List av->List dS->Option X)(out:List av->List dS->X->gV)(i:Z->X)(p:X->Option Z):Entry:=
 {params,X:=Z,run:=λa o=>(run a o).bind p,out:=λa o z=>out a o (i z)}
def rU{X Z:Type}(p:X->Option Z)(x:Option X):Option Z:=x.bind p
theorem Jv{X Y:Type}(x:X):rU Sum.getLeft? (some (Sum.inl x:X⊕Y))=some x:=rfl
theorem OO{X Y:Type}(x:Y):rU Sum.getRight? (some (Sum.inr x:X⊕Y))=some x:=rfl
theorem nX.half{f:FuncId}{params:List (Option Ty)}{X Z:Type}{run:List av->List dS->Option X}{out:List av->List dS->X->gV}{i:Z->X}{p:X->Option Z}(hp:∀x z,p x=some z->x=i z)
  (h:nX P f {params,X,run,out}):nX P f (Entry.half params run out i p):=by
 intro w g β args cz km z h3 h4 h5
 have h5:(run args cz).bind p=some z:=h5
 cases hr:run args cz with
 |none=>rw[hr]at h5;cases h5
 |some x=>
  rw[hr]at h5
  obtain rfl:=hp x z h5
  exact h w g β args cz km (i z) h3 h4 hr
theorem Tv{X Y:Type}(x:X⊕Y)(z:X)(h:x.getLeft?=some z):x= .inl z:=by cases x <;> cases h;rfl
theorem Tw{X Y:Type}(x:X⊕Y)(z:Y)(h:x.getRight?=some z):x= .inr z:=by cases x <;> cases h;rfl
end
theorem S1:(type_of% @N.lt)/\(type_of% @N.le)/\(type_of% @N.gt)/\(type_of% @N.ge)/\(type_of% @N.eq)/\(type_of% @N.ne)/\(type_of% @N.ib)/\(type_of% @N.ic)/\(type_of% @N.nn)/\(type_of% @N.nz)/\(type_of% @N.dc)/\(type_of% @N.rm)/\(type_of% @N.an)/\(type_of% @N.or)/\(type_of% @N.no)/\(type_of% @ag)/\(type_of% @al)/\(type_of% @ab):=⟨@N.lt,@N.le,@N.gt,@N.ge,@N.eq,@N.ne,@N.ib,@N.ic,@N.nn,@N.nz,@N.dc,@N.rm,@N.an,@N.or,@N.no,@ag,@al,@ab⟩
theorem S2:(type_of% @ab)/\(type_of% @N.U3)/\(type_of% @N.p9)/\(type_of% @N.XC)/\(type_of% @N.Vv)/\(type_of% @N.Yh)/\(type_of% @N.Yg)/\(type_of% @N.Vr)/\(type_of% @N.Yd)/\(type_of% @N.Us)/\(type_of% @N.W7)/\(type_of% @N.Yf)/\(type_of% @N.W8)/\(type_of% @N.Vu)/\(type_of% @N.cN)/\(type_of% @N.cL)/\(type_of% @N.tL)/\(type_of% @aa)/\(type_of% @and_self)/\(type_of% @true_and)/\(type_of% @and_true):=⟨@ab,@N.U3,@N.p9,@N.XC,@N.Vv,@N.Yh,@N.Yg,@N.Vr,@N.Yd,@N.Us,@N.W7,@N.Yf,@N.W8,@N.Vu,@N.cN,@N.cL,@N.tL,@aa,@and_self,@true_and,@and_true⟩
end Go.Ab
namespace Go.Ab
open Go.ChangeShapes Go.WideShapes Go.ChangeAt Go.RowKit Go.Deep
def J7:(t:Ty)->t.den->Prop
 | .int k,x=>(Lit.int k x).wf=true
 | .bool,_=>True
 | .str,s=>(s:ByteArray).size<=maxLen
 | .slice t,l=>(l:List t.den).length<=maxLen/\∀x∈(l:List t.den),J7 t x
 | .unit,_=>True
 | .pair a b,x=>J7 a x.1/\J7 b x.2
 | .arr n t,l=>(l:List t.den).length=n/\∀x∈(l:List t.den),J7 t x
 | .im _,_ | .oq _,_=>False
def rb(P:Program)(rd:TypeId->Ty->Bool):Nat->List Field->Ty->Bool
 |_,[],.unit=>true
 |off,f::fs,.pair a b=>Nat.beq f.offset off && (rd f.type a && (Nat.beq (P.cellsOf f.type) a.size && rb P rd (off+a.size) fs b))
 |_,_,_=>false
def sA(P:Program):Nat->TypeId->Ty->Bool
 | 0,_,_=>false
 |n+1,T,ty=>
  match P.underlying T,ty with
  |some (.int k),.int k'=>decide (k=k')
  |some .bool,.bool=>true
  |some .string,.str=>true
  |some (.slice e),.slice t=>sA P n e t && Nat.beq (P.cellsOf e) t.size
  |some (.array k e),.arr k' t=>Nat.beq k k' && (sA P n e t && (Nat.beq (P.cellsOf e) t.size && Nat.beq (P.cellsOf T) (k*t.size)))
  |some (.struct fs),ty=>rb P (sA P n) 0 fs.toList ty && Nat.beq (P.cellsOf T) ty.size
  |_,_=>false
theorem Oq{a b:Nat}:(Nat.beq a b=true)=(a=b):=propext ⟨fb,λh=>by subst h;exact Nat.beq_refl a⟩
theorem Gs{α β:Type}{f:α->Option β}:∀ {l:List α} {r:List β},l.mapM f=some r->r.length=l.length/\∀(i:Nat) (x:α),l[i]? =some x->f x=r[i]?
 |[],r,h=>by
  simp only[List.mapM_nil,Option.pure_def,aq]at h
  subst h
  exact⟨rfl,λi x h=>by simp at h⟩
 |y::l,r,h=>by
  simp only[List.mapM_cons,Option.bind_eq_bind,Option.pure_def,Option.bind_eq_some_iff,aq]at h
  obtain⟨b,hb,r',hr,rfl⟩:=h
  obtain⟨h1,h2⟩:=Gs hr
  refine⟨by simp[h1],λi x hi=> ?_⟩
  cases i with
  |zero=>
   simp only[fS,aq]at hi
   subst hi
   simpa using hb
  |succ i=>
   simp only[kD]at hi ⊢
   exact h2 i x hi
theorem Ko{w:World}{base:Nat}{a:Addr}{n:Nat}{cs:List Value}(h:w.cells? base a n=some cs):cs.length=n/\∀i,i < n->w.cell? (a.add i)=cs[i]? :=by
 unfold World.cells? at h
 split at h
 ·obtain⟨h1,h2⟩:=Gs h
  exact⟨by simpa using h1,λi hi=>h2 i i (by simp[hi])⟩
 ·cases h
theorem add_add(a:Addr)(x y:Nat):(a.add x).add y=a.add (x+y):=by
 unfold Addr.add
 by_cases hx:x=0 <;> by_cases hy:y=0 <;> simp[hx,hy,gb]
theorem Lp{w:World}{a:Addr}{v:Value}(h:w.cell? a=some v):a.spot=none:=by
 unfold World.cell? at h
 split at h
 ·split at h
  ·cases h
  ·rename_i hs
   cases hh:a.spot with
   |none=>rfl
   |some _=>simp[hh]at hs
 ·cases h
theorem RY{E:Env}(hg:∀b,E.g b= .free){a:Addr}{vs:List Value}(h:∀i,i < vs.length->E.w.cell? (a.add i)=vs[i]?):tS E (some a) vs:=by
 intro i v hv
 have hi:i < vs.length:=(dL.1 hv).1
 have h0:=h 0 (by omega)
 rw[cj (by omega)]at h0
 have hs:a.spot=none:=Lp (a:=a) (by simpa[Addr.add]using h0)
 obtain⟨b,off,sp⟩:=a
 simp only at hs
 subst hs
 refine⟨b,off,rfl,?_,?_⟩
 ·have:=h i hi
  rw[hv]at this
  rw[<-this]
  unfold Addr.add
  split
  ·rename_i h;subst h;rfl
  ·rfl
 ·unfold oT
  rw[hg b]
  trivial
section
variable {H:Type} {enc:TypeId×Value->H} {P:Program} {base:Nat} {spare:Nat->Bool} {held:Bool} {E:Env}
theorem JW{t:Ty}{R:List Value->t.den->Prop}{G:t.den->Prop}{w:World}{a:Addr}{z:Nat}(hR:∀c x,R c x->c.length=z):∀(len:Nat),(∀i,i < len->∃c x,R c x/\G x/\∀j,j < z->w.cell? (a.add (i*z+j))=c[j]?)->
  ∃(vs:List Value) (l:List t.den),vs.length=len*z/\l.length=len/\(∀i,i < vs.length->w.cell? (a.add i)=vs[i]?)/\bj R vs l/\∀x∈l,G x
 | 0,_=>⟨[],[],by simp,rfl,λi h=>by simp at h,rfl,λ_ h=>by cases h⟩
 |len+1,h=>by
  obtain⟨vs,l,h1,h2,h3,h4,h5⟩:=JW hR len λi hi=>h i (by omega)
  obtain⟨c,x,g1,g2,g3⟩:=h len (by omega)
  have hc:=hR c x g1
  refine⟨vs++c,l++ [x],by rw[ae,h1,hc,eM,iy],by rw[ae,h2];rfl,λi hi=> ?_,bj.append h4 ⟨c,[],by simp,g1,rfl⟩,λy hy=> ?_⟩
  ·rw[ae,h1,hc]at hi
   by_cases hl:i < vs.length
   ·rw[h3 i hl,fq hl]
   ·rw[List.getElem?_append_right (by omega),h1,<-g3 (i - len*z) (by omega),show len*z+(i - len*z)=i by omega]
  ·rcases bt.1 hy with hy | hy
   ·exact h5 y hy
   ·rw[bI.1 hy];exact g2
theorem Dd{t:Ty}{R:List Value->t.den->Prop}{G:t.den->Prop}{z:Nat}:∀(n:Nat) (cs:List Value),cs.length=n*z->(∀i,i < n->∃x,R ((cs.drop (i*z)).take z) x/\G x)->
  ∃l:List t.den,l.length=n/\bj R cs l/\∀x∈l,G x
 | 0,cs,h,_=>⟨[],rfl,bF (by simpa using h),λ_ h=>by cases h⟩
 |n+1,cs,h,hi=>by
  obtain⟨x,g1,g2⟩:=hi 0 (by omega)
  obtain⟨l,h1,h2,h3⟩:=Dd (R:=R) (G:=G) (z:=z) n (cs.drop z) (by rw[dy,h,eM];omega) λi F8=>by
   obtain⟨y,k1,k2⟩:=hi (i+1) (by omega)
   refine⟨y,?_,k2⟩
   rw[gD,show z+i*z=(i+1)*z by rw[eM];omega]
   exact k1
  refine⟨x::l,by simp[h1],⟨cs.take z,cs.drop z,(dO z cs).symm,by simpa using g1,h2⟩,λy hy=> ?_⟩
  rcases cX.1 hy with rfl | hy
  ·exact g2
  ·exact h3 y hy
theorem zB{rd:TypeId->Ty->Bool}{cs:List Value}:∀(fs:List Field) (off:Nat) (ty:Ty),rb P rd off fs ty=true->off+ty.size<=cs.length->
  (∀f∈fs,∀t,rd f.type t=true->P.cellsOf f.type=t.size->∃v,dm E t ((cs.drop f.offset).take (P.cellsOf f.type)) v/\J7 t v)->∃v,dm E ty ((cs.drop off).take ty.size) v/\J7 ty v
 |[],off,ty,h,hl,_=>by
  cases ty <;> simp only[rb]at h <;> first | cases h | skip
  exact⟨(),by simp[dm,Ty.size],trivial⟩
 |f::fs,off,ty,h,hl,hf=>by
  cases ty <;> simp only[rb]at h <;> first | cases h | skip
  rename_i a b
  simp only[aj,Oq]at h
  obtain⟨h1,h2,h3,h4⟩:=h
  have hl:off+(a.size+b.size)<=cs.length:=hl
  obtain⟨v,k1,k2⟩:=hf f (aH ..) a h2 h3
  obtain⟨u,k3,k4⟩:=zB fs (off+a.size) b h4 (by omega) λf' hf'=>hf f' (aF _ hf')
  refine⟨(v,u),⟨(cs.drop off).take a.size,(cs.drop (off+a.size)).take b.size,?_,?_,k3⟩,k2,k4⟩
  ·rw[show Ty.size (.pair a b)=a.size+b.size from rfl,List.take_add,gD]
  ·rw[h1,h3]at k1;exact k1
theorem xN(hg:∀b,E.g b= .free):∀(n:Nat) (T:TypeId) (ty:Ty),sA P n T ty=true->∀ {fuel:Nat} {cs:List Value} {x:DataW H×List MemPlace},DataW.trod enc P E.w base spare held fuel T cs=some x->∃v,dm E ty cs v/\J7 ty v
 | 0,_,_,h,_,_,_,_=>by simp[sA]at h
 |n+1,T,ty,h,fuel,cs,x,hx=>by
  unfold sA at h
  split at h
  ·rename_i k k' hu
   obtain rfl:=of_decide_eq_true h
   obtain⟨m,rfl,_,hw⟩:=DataW.trod_int hu hx
   exact⟨m,rfl,hw⟩
  ·rename_i hu
   obtain⟨b,rfl,_⟩:=DataW.trod_bool hu hx
   exact⟨b,rfl,trivial⟩
  ·rename_i hu
   obtain⟨s,rfl,_,hs⟩:=DataW.trod_string hu hx
   exact⟨s,rfl,hs⟩
  ·rename_i e t hu
   simp only[aj,Oq]at h
   obtain⟨h1,h2⟩:=h
   rcases open_slice hu hx with⟨rfl,_⟩ | ⟨a,len,cap,m,f,D,Pl,rfl,_,hl,hm,Wq,_,he⟩
   ·exact⟨([]:List t.den),⟨none,0,[],rfl,aw _,λh=>by simp at h,λi v hv=>by simp at hv,rfl⟩,aK _,λ_ h=>by cases h⟩
   ·have Vh:len<=m:=by rw[Wq];split <;> omega
    obtain⟨vs,l,k1,k2,k3,k4,k5⟩:=JW (t:=t) (R:=dm E t) (G:=J7 t) (w:=E.w) (a:=a) (z:=t.size) (λc x h=>dm.size h) len λi hi=>by
     obtain⟨cs',g1,g2⟩:=he i (by omega)
     obtain⟨v,g3,g4⟩:=xN hg n e t h1 g2
     obtain⟨g5,g6⟩:=Ko g1
     refine⟨cs',v,g3,g4,λj hj=> ?_⟩
     rw[<-g6 j (by omega),add_add,h2]
    refine⟨l,⟨some a,cap,vs,by rw[k2],by rw[k2];exact hl,λ_=>rfl,RY hg k3,k4⟩,by rw[k2];omega,k5⟩
  ·rename_i k e k' t hu
   simp only[aj,Oq]at h
   obtain⟨rfl,h1,h2,h3⟩:=h
   obtain⟨xs,m,rfl,_,hl,Oc,he⟩:=DataW.trod_array hu hx
   obtain⟨l,k1,k2,k3⟩:=Dd (t:=t) (R:=dm E t) (G:=J7 t) (z:=t.size) k cs (by rw[hl,h3]) λi hi=>by
    have:=he i hi
    rw[cj (by omega),h2]at this
    exact xN hg n e t h1 this
   exact⟨l,⟨k1,k2⟩,k1,k3⟩
  ·rename_i ty fs hu
   simp only[aj,Oq]at h
   obtain⟨h1,h2⟩:=h
   obtain⟨xs,m,rfl,_,hl,Oc,he⟩:=DataW.trod_struct hu hx
   obtain⟨v,k1,k2⟩:=zB (E:=E) (cs:=cs) fs.toList 0 _ h1 (by rw[hl,h2];omega) λf hf t ht hc=>by
    obtain⟨i,hi,YJ⟩:=List.mem_iff_getElem.1 hf
    have hi':i < fs.size:=by simpa using hi
    have:=he i f (by rw[<-YJ];simp[hi'])
    rw[cj (by omega)]at this
    exact xN hg n f.type t ht this
   refine⟨v,?_,k2⟩
   rwa[aJ,bk (by omega)]at k1
  ·cases h
end
end Go.Ab
namespace Go.Ab
open Go.ChangeShapes Go.WideShapes Go.ChangeAt Go.RowKit Go.Deep
section
variable {H:Type} {enc:TypeId×Value->H} {P:Program} {base b0:Nat} {spare:Nat->Bool} {held:Bool} {E:Env} {W:World}
theorem H0{rd:TypeId->Ty->Bool}{fs:List Field}{off:Nat}{ty:Ty}(h:rb P rd off fs ty=true):ty.agg=true:=by
 cases fs <;> cases ty <;> first | rfl | (simp[rb]at h)
theorem Nz(hw:E.w=W)(hg:∀b,E.g b= .free){n:Nat}{t:TypeId}{ty:Ty}(h:sA P n t ty=true){v:Value}{d:DataW H}{ps:List MemPlace}(ri:Value.okWide P W .any base t v)(hd:DataW.Trod enc P W b0 spare held t v d ps):
  ∃x:ty.den,VS E (.d ty x) v/\J7 ty x:=by
 subst hw
 obtain⟨fuel,hf⟩:=hd
 obtain⟨x,h1,h2⟩:=xN hg n t ty h hf
 refine⟨x,⟨v.cells.toList,h1,?_⟩,h2⟩
 cases n with
 |zero=>simp[sA]at h
 |succ n=>
  unfold sA at h
  split at h
  ·rename_i k k' hu
   obtain⟨m,rfl⟩:=okWide_int hu ri
   rfl
  ·rename_i hu
   obtain⟨m,rfl⟩:=okWide_bool hu ri
   rfl
  ·rename_i hu
   obtain⟨m,rfl⟩:=okWide_string hu ri
   rfl
  ·rename_i hu
   obtain⟨a,len,cap,rfl⟩:=okWide_slice hu ri
   rfl
  ·rename_i hu
   simp only[Value.okWide,hu]at ri
   obtain⟨cs,rfl,_⟩:=ri
   show _=_
   simp[Value.cells]
  ·rename_i fs hu
   simp only[Value.okWide,hu]at ri
   obtain⟨cs,rfl,_⟩:=ri
   simp only[aj]at h
   have:=H0 h.1
   simp only[av.agg,this,fV,Value.cells,Array.toArray_toList]
  ·cases h
def DV:List Ty->Type
 |[]=>Unit
 |t::ts=>t.den×DV ts
def DV.km:(ts:List Ty)->DV ts->List av
 |[],_=> []
 |t::ts,x=> .d t x.1::DV.km ts x.2
def DV.Xg:(ts:List Ty)->DV ts->Prop
 |[],_=>True
 |t::ts,x=>J7 t x.1/\DV.Xg ts x.2
def pA(P:Program)(n:Nat):List TypeId->List Ty->Bool
 |[],[]=>true
 |T::Ts,t::ts=>sA P n T t && pA P n Ts ts
 |_,_=>false
theorem DQ(hw:E.w=W)(hg:∀b,E.g b= .free){n:Nat}:∀ {Ts:List TypeId} {ts:List Ty} {vs:List Value} {ds:List (DataW H)} {ps:List MemPlace},pA P n Ts ts=true->
  (∀(j:Nat) t v,Ts[j]? =some t->vs[j]? =some v->Value.okWide P W .any base t v)->DataW.TrodAll enc P W b0 spare held Ts vs ds ps->∃x:DV ts,rO E (DV.km ts x) vs/\DV.Xg ts x
 |[],[],vs,ds,ps,_,_,h=>by
  obtain⟨rfl,rfl,rfl⟩:=trodAll_nil h
  exact⟨(),trivial,trivial⟩
 |T::Ts,[],_,_,_,h,_,_=>by simp[pA]at h
 |[],t::ts,_,_,_,h,_,_=>by simp[pA]at h
 |T::Ts,t::ts,vs,ds,ps,h,ri,hd=>by
  simp only[pA,aj]at h
  obtain⟨v,vs',d,ds',p,q,rfl,rfl,rfl,h1,h2⟩:=trodAll_cons hd
  obtain⟨x,k1,k2⟩:=Nz hw hg h.1 (ri 0 T v rfl rfl) h1
  obtain⟨y,k3,k4⟩:=DQ hw hg h.2 (λj t v hj hv=>ri (j+1) t v (by simpa using hj) (by simpa using hv)) h2
  exact⟨(x,y),⟨k1,k3⟩,⟨k2,k4⟩⟩
def pS(P:Program)(Ts:List TypeId):Bool:=Ts.all λt=>P.readableRec t && decide (t < P.types.size)
theorem we(hl:laidOutB P=true){W':World}(hb:Below W.heap.size W W')(sp:Nat->Bool):∀ {Ts:List TypeId} {vs:List Value} {ds:List (DataW H)} {ps:List MemPlace},pS P Ts=true->(∀p∈ps,p.block < W.heap.size)->(∀p∈ps,sp p.block=true)->
  DataW.TrodAll enc P W 0 (λ_=>true) true Ts vs ds ps->DataW.TrodAll enc P W' 0 sp true Ts vs ds ps
 |[],vs,ds,ps,_,_,_,h=>by
  obtain⟨rfl,rfl,rfl⟩:=trodAll_nil h
  exact trodAll_mk0
 |T::Ts,vs,ds,ps,hr,iv,hs,h=>by
  obtain⟨v,vs',d,ds',p,q,rfl,rfl,rfl,h1,h2⟩:=trodAll_cons h
  simp only[pS,List.all_cons,aj,decide_eq_true_eq]at hr
  have h3:=WideElems.Trod_stays hl hr.1.1 hr.1.2 h1 (λx hx=>hb.same (iv x (bt.2 (.inl hx)))) (λx hx=>hs x (bt.2 (.inl hx)))
  exact⟨p,q,h3,we hl hb sp (by simpa[pS]using hr.2) (λx hx=>iv x (bt.2 (.inr hx))) (λx hx=>hs x (bt.2 (.inr hx))) h2,rfl⟩
end
theorem u9{H:Type}{enc:TypeId×Value->H}{P:Program}{W:World}{b0:Nat}{spare:Nat->Bool}{held:Bool}:∀ {Ts:List TypeId} {vs:List Value} {ds:List (DataW H)} {ps:List MemPlace},DataW.TrodAll enc P W b0 spare held Ts vs ds ps->ds.length=Ts.length
 |[],_,_,_,h=>by
  obtain⟨_,rfl,_⟩:=trodAll_nil h
  rfl
 |_::_,_,_,_,h=>by
  obtain⟨v,vs',d,ds',p,q,rfl,rfl,rfl,h1,h2⟩:=trodAll_cons h
  simp[u9 h2]
theorem GQ{H:Type}{enc:TypeId×Value->H}{P:Program}{f:Func}{s:ChangeSpec}{W W':World}{args:Array Value}{v:Value}{ds gs:List (DataW H)}{before:List MemPlace}{tb:TypeId}
  (hl:laidOutB P=true) (Hr:pS P f.params.toList=true) (Gb:s.vars=[]) (WM:f.resultTypes= #[tb]) (WQ:P.underlying tb=some .bool)
  (hW:DataW.Whole enc P f.params.toList s.vars false W args.toList ds gs before) (Rc:s.fn H (ds++gs)= {results:=[.lit (.bool true)],args:=ds}) (hb:Below W.heap.size W W') (hv:v= .bool true):
  s.post enc P f false true false false W args v W':=by
 subst hv
 have hW':=hW
 have hold:∀p∈before,(λb=>decide (b < W.heap.size)) p.block=true:=λp hp=>by simpa using hW.lt p hp
 obtain⟨p,q,hA,hV,rfl,hz,_⟩:=hW
 rw[Gb]at hV
 obtain⟨rfl,rfl⟩:=trodVars_none hV
 have iv:∀x∈p,x.block < W.heap.size:=λx hx=>hW'.lt x (bt.2 (.inl hx))
 have AN:∀sp:Nat->Bool,(∀x∈p,sp x.block=true)->DataW.TrodAll enc P W' 0 sp true f.params.toList args.toList (s.fn H (ds++ [])).args p:=λsp hs=>by
  rw[Rc]
  exact we hl hb sp Hr iv hs hA
 have WG:∀(b:Nat) (sp:Nat->Bool) (hd:Bool),DataW.TrodAll enc P W' b sp hd f.resultTypes.toList ((Value.bool true).resultList f.resultTypes.size) (s.fn H (ds++ [])).results []:=λb sp hd=>by
  rw[Rc,WM]
  exact trodAll_mk1 (shut_bool WQ _)
 have zi:∀sp:Nat->Bool,DataW.TrodVars enc P W' sp s.vars (s.fn H (ds++ [])).vars []:=λsp=>by
  rw[Rc,Gb]
  rfl
 refine⟨ds,[],p++ [],[],p,[],hW',WG _ _ _,AN _ (λx hx=>hold x (bt.2 (.inl hx))),zi _,hb.frame _,λh=>by cases h⟩
theorem uW{P:Program}{n:Nat}:∀ {Ts:List TypeId} {ts:List Ty},pA P n Ts ts=true->Ts.length=ts.length
 |[],[],_=>rfl
 |[],_::_,h=>by simp[pA]at h
 |_::_,[],h=>by simp[pA]at h
 |_::_,_::_,h=>by
  simp only[pA,aj]at h
  simp[uW h.2]
theorem KQ{H:Type}{enc:TypeId×Value->H}{P:Program}{f:FuncId}{fn:Func}{en:Entry}{s:ChangeSpec}{tb:TypeId}(n:Nat)(tys:List Ty)(hD:nX P f en)(hf:P.funcs[f]? =some fn)(TE:fn.body.isSome=true)(uJ:(fn.name== "runtime.NumGoroutine")=false)
  (hl:laidOutB P=true) (P7:pA P n fn.params.toList tys=true) (Hr:pS P fn.params.toList=true) (Gb:s.vars=[]) (WM:fn.resultTypes= #[tb]) (WQ:P.underlying tb=some .bool)
  (Rc:∀ds:List (DataW H),ds.length=tys.length->s.fn H (ds++ [])= {results:=[.lit (.bool true)],args:=ds})
  (mF:∀x:DV tys,DV.Xg tys x->∃r,en.run (DV.km tys x) []=some r/\en.out (DV.km tys x) [] r=⟨.d .bool true,[],[]⟩)
  {W:World} {base:Nat} {args:Array Value} {ds gs:List (DataW H)} {before:List MemPlace}
  (ri:∀(j:Nat) t v,fn.params[j]? =some t->args[j]? =some v->Value.okWide P W .any base t v)
  (hW:DataW.Whole enc P fn.params.toList s.vars false W args.toList ds gs before):
  Calls P f args W λe W'=>∃v,e= .returned v/\s.post enc P fn false true false false W args v W':=by
 have hW':=hW
 obtain⟨p,q,hA,hV,_,_,_⟩:=hW
 rw[Gb]at hV
 obtain⟨rfl,rfl⟩:=trodVars_none hV
 obtain⟨x,Vm,Vn⟩:=DQ (E:=(gl []).env W (λ_=> .free) (λ_=>none)) rfl (λ_=>rfl) P7 (λj t v hj hv=>ri j t v (by simpa using hj) (by simpa using hv)) hA
 obtain⟨r,Rs,Ga⟩:=mF x Vn
 have cV:(callFunc f args).run P W= .ok (.enter f args) W:=by
  unfold callFunc
  obtain⟨c,hc⟩:=bY.1 TE
  have hname':¬fn.name= "runtime.NumGoroutine" :=by simpa using uJ
  simp[hf,hname',hc]
 have hlen:ds.length=tys.length:=by rw[u9 hA,uW P7]
 have ho:jc ((gl []).env W (λ_=> .free) (λ_=>none)):=λid ver fr c h=>by
  exfalso
  cases id with
  |aV k=>simp[AS.env,AS.bZ,gl]at h
  |new i j=>simp[AS.env,AS.bZ,gl]at h
 rcases hD W (λ_=> .free) (λ_=>none) (DV.km tys x) [] args.toList r Vm ho Rs with⟨_,hc⟩ | ⟨v,w',hc,_⟩
 ·refine hc.mono λe w' he=> ?_
  obtain⟨v,rfl,g',β',h1,_,h2,_⟩:=he
  rw[Ga]at h1
  refine⟨v,rfl,GQ hl Hr Gb WM WQ hW' (Rc ds hlen) ⟨h2.os,h2.tape,h2.output.1,h2.size,λb hb=>(h2.yu b hb).2⟩ ?_⟩
  obtain⟨cs,k1,k2⟩:=h1
  have k1:cs=[.bool true]:=k1
  subst k1
  have k2: [Value.bool true]=[v]:=k2
  simpa using k2.symm
 ·rw[show args.toList.toArray=args from Array.toArray_toList ..,cV]at hc
  cases hc
end Go.Ab
namespace Go.Ab
abbrev W:=BitVec 32
def vP(w:W)(k:Nat):W:=w <<< (32 - k) ||| w >>> k
def U4(a b c d:Int):W:=BitVec.ofInt 32 a <<< 24 ||| BitVec.ofInt 32 b <<< 16 ||| BitVec.ofInt 32 c <<< 8 ||| BitVec.ofInt 32 d
def be(l:List Int)(i:Nat):W:=U4 (l.getD (4*i) 0) (l.getD (4*i+1) 0) (l.getD (4*i+2) 0) (l.getD (4*i+3) 0)
structure St where
 a:W
 b:W
 c:W
 d:W
 e:W
 f:W
 g:W
 h:W
def St.l(s:St):List Int:=[vw s.a,vw s.b,vw s.c,vw s.d,vw s.e,vw s.f,vw s.g,vw s.h]
def Xi(x:W):W:=vP x 7^^^vP x 18^^^x >>> 3
def Xj(y:W):W:=vP y 17^^^vP y 19^^^y >>> 10
def Qh(l:List W)(i:Nat):W:=l.getD (i - 16) 0+Xi (l.getD (i - 15) 0)+l.getD (i - 7) 0+Xj (l.getD (i - 2) 0)
def ext(l:List W):List W:=l++ [Qh l l.length]
def UK(m:List W):Nat->List W
 | 0=>m
 |n+1=>ext (UK m n)
def words(b:List Int):List W:=(List.range 16).map (be b)
def sched(b:List Int):List W:=UK (words b) 48
def kl:List Nat:=[
  0x428a2f98,0x71374491,0xb5c0fbcf,0xe9b5dba5,0x3956c25b,0x59f111f1,0x923f82a4,0xab1c5ed5,
  0xd807aa98,0x12835b01,0x243185be,0x550c7dc3,0x72be5d74,0x80deb1fe,0x9bdc06a7,0xc19bf174,
  0xe49b69c1,0xefbe4786,0x0fc19dc6,0x240ca1cc,0x2de92c6f,0x4a7484aa,0x5cb0a9dc,0x76f988da,
  0x983e5152,0xa831c66d,0xb00327c8,0xbf597fc7,0xc6e00bf3,0xd5a79147,0x06ca6351,0x14292967,
  0x27b70a85,0x2e1b2138,0x4d2c6dfc,0x53380d13,0x650a7354,0x766a0abb,0x81c2c92e,0x92722c85,
  0xa2bfe8a1,0xa81a664b,0xc24b8b70,0xc76c51a3,0xd192e819,0xd6990624,0xf40e3585,0x106aa070,
  0x19a4c116,0x1e376c08,0x2748774c,0x34b0bcb5,0x391c0cb3,0x4ed8aa4a,0x5b9cca4f,0x682e6ff3,
  0x748f82ee,0x78a5636f,0x84c87814,0x8cc70208,0x90befffa,0xa4506ceb,0xbef9a3f7,0xc67178f2]
def kw(i:Nat):W:=BitVec.ofNat 32 (kl.getD i 0)
def Gj:List Int:=kl.map λ(n:Nat)=>(n:Int)
def oH(s:St)(k w:W):St:=
 let t:=s.h+(vP s.e 6^^^vP s.e 11^^^vP s.e 25)+(s.g^^^s.e &&& (s.f^^^s.g))+k+w
 let r:=vP s.a 2^^^vP s.a 13^^^vP s.a 22
 let most:=s.a &&& s.b ||| s.c &&& (s.a ||| s.b)
 ⟨t+r+most,s.a,s.b,s.c,s.d+t,s.e,s.f,s.g⟩
def rounds(ws:List W)(s:St):Nat->St
 | 0=>s
 |n+1=>oH (rounds ws s n) (kw n) (ws.getD n 0)
def KY(s:St)(b:List Int):St:=
 let v:=rounds (sched b) s 64
 ⟨v.a+s.a,v.b+s.b,v.c+s.c,v.d+s.d,v.e+s.e,v.f+s.f,v.g+s.g,v.h+s.h⟩
def re:St:=⟨0x6a09e667,0xbb67ae85,0x3c6ef372,0xa54ff53a,0x510e527f,0x9b05688c,0x1f83d9ab,0x5be0cd19⟩
def rS:Nat->St->List Int->St
 | 0,s,_=>s
 |n+1,s,l=>rS n (KY s (l.take 64)) (l.drop 64)
def blocks(s:St)(l:List Int):St:=rS (l.length / 64) s l
def U5(w:W)(k:Nat):Int:=vw ((w >>> (24 - 8*k)).setWidth 8)
def Ou(w:W):List Int:=[U5 w 0,U5 w 1,U5 w 2,U5 w 3]
def Ph(s:St):List Int:=Ou s.a++Ou s.b++Ou s.c++Ou s.d++Ou s.e++Ou s.f++Ou s.g++Ou s.h
def kP(n:Int):List Int:=[n / 2^56%256,n / 2^48%256,n / 2^40%256,n / 2^32%256,n / 2^24%256,n / 2^16%256,n / 2^8%256,n%256]
def xJ(n:Nat):Nat:=(119 - n%64)%64
def pad(b:List Int):List Int:=b++128::(List.replicate (xJ b.length) 0++kP (8*b.length))
def S3(b:List Int):List Int:=Ph (blocks re (pad b))
def qS(parts:List (List Int)):List Int:=parts.flatMap λp=>kP p.length++p
def C2(name:List Int)(parts:List (List Int)):List Int:=kP name.length++name++qS parts
def tag(name:List Int)(parts:List (List Int)):List Int:=S3 (C2 name parts)
theorem IQ(b:List Int):(S3 b).length=32:=rfl
theorem dB(n:Int):(kP n).length=8:=rfl
theorem HY(l:List W):(ext l).length=l.length+1:=by simp[ext]
theorem w6(m:List W):∀n,(UK m n).length=m.length+n
 | 0=>rfl
 |n+1=>by rw[UK,HY,w6 m n];omega
theorem oM(b:List Int):(words b).length=16:=by simp[words]
theorem uw:∀(n:Nat) (s:St) (a b:List Int),a.length=64*n->∀m,rS (n+m) s (a++b)=rS m (rS n s a) b
 | 0,s,a,b,h,m=>by
  have:a=[]:=bF (by omega)
  subst this
  simp[rS]
 |n+1,s,a,b,h,m=>by
  rw[show n+1+m=(n+m)+1 by omega,rS,rS]
  rw[jb (by omega),List.drop_append_of_le_length (by omega)]
  exact uw n _ _ _ (by simp;omega) m
theorem vT(s:St)(a b:List Int)(h:a.length%64=0):blocks s (a++b)=blocks (blocks s a) b:=by
 unfold blocks
 have e:(a++b).length / 64=a.length / 64+b.length / 64:=by simp;omega
 rw[e]
 exact uw _ _ _ _ (by omega) _
theorem za(s:St)(l:List Int)(h:64<=l.length):blocks s l=blocks (KY s (l.take 64)) (l.drop 64):=by
 unfold blocks
 rw[show l.length / 64=(l.drop 64).length / 64+1 by simp;omega]
 rfl
theorem wm(s:St)(l:List Int)(h:l.length < 64):blocks s l=s:=by
 unfold blocks
 rw[show l.length / 64=0 by omega]
 rfl
def D7(x:Int):Prop:=0<=x/\x < 256
def Bytes(l:List Int):Prop:=∀x∈l,D7 x
theorem Ow(w:BitVec 8):D7 (vw w):=⟨D4 w,Qs w⟩
theorem D7.vw{x:Int}(h:D7 x):x=vw (BitVec.ofInt 8 x):=by
 rw[lD]
 obtain⟨h1,h2⟩:=h
 omega
theorem HM(s:St):Bytes (Ph s):=by
 intro x hx
 simp only[Ph,Ou,bt,cX,List.not_mem_nil,or_false]at hx
 rcases hx with((((((hx | hx) | hx) | hx) | hx) | hx) | hx) | hx <;> rcases hx with rfl | rfl | rfl | rfl <;> exact Ow _
theorem Kk(b:List Int):Bytes (S3 b):=HM _
theorem sK(n:Int):Bytes (kP n):=by
 intro x hx
 simp only[kP,cX,List.not_mem_nil,or_false]at hx
 rcases hx with rfl | rfl | rfl | rfl | rfl | rfl | rfl | rfl <;> exact⟨by omega,by omega⟩
end Go.Ab
end
