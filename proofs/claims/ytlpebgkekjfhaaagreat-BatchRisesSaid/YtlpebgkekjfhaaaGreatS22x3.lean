/-
  Made short by a program of mine (wip/tools/mini.py).
-/
import Derived.Test.YtlpebgkekjfhaaaGreatS22x2
import Derived.Scope
import Derived.Laws.Externs
import Derived.KernelRfl
import Derived.ProofKit
import Derived.OpenShut
import Derived.Deep.Slices
import Derived.Carry
set_option linter.unusedVariables false
set_option linter.unusedSimpArgs false
set_option maxRecDepth 100000
set_option synthInstance.maxSize 5000
noncomputable section
namespace Go.Ab
section
variable {P:Program} {Γ:mU} {an:rZ} {C:Ctx}
open Classical in
def Qw(p:Prop):Option Unit:=if p then some () else none
theorem Im{p:Prop}(h:Qw p=some ()):p:=by
 unfold Qw at h
 split at h
 ·assumption
 ·cases h
theorem F0{X R:Type}{S:X->Prop}{k:X->Option R}{r:R}(h:Lh S k=some r):(∃x,S x)/\∀x,S x->k x=some r:=by
 unfold Lh at h
 split at h
 ·rename_i hx
  obtain rfl:=aN h
  exact hx.choose_spec
 ·cases h
def G6(P:Program)(Γ:mU)(an:rZ)(N:Nat)(b:Code):Prop:=
 ∀le,an.jK (de b)=some le->
  (le.set=none->∀s x,le.run s=some x->∃n,wc (norm P (an.loops (de b))) (λe=>norm P (an.outs (de b) (Cw e))) (ev P Γ an N b) n s (λe s'=>some (e,s'))=(le.out x).eval)/\
  ∀S,le.set=some S->∀s,(∃x,S s x)->∃n,wc (norm P (an.loops (de b))) (λe=>norm P (an.outs (de b) (Cw e))) (ev P Γ an N b) n s (λe s'=>Qw (∃x,S s x/\(le.out x).eval=some (e,s')))=some ()
def mf(P:Program)(Γ:mU)(an:rZ)(N:Nat):List Code->Prop
 |[]=>True
 |b::l=>G6 P Γ an N b/\mf P Γ an N l
theorem mf.append{N:Nat}:∀ {l l':List Code},mf P Γ an N (l++l')->mf P Γ an N l/\mf P Γ an N l'
 |[],_,h=>⟨trivial,h⟩
 |_::_,_,⟨h1,h2⟩=>⟨⟨h1,(mf.append h2).1⟩,(mf.append h2).2⟩
theorem kX{c:Code}{b:Frame}{a:Act}{k:List Item}{cs:List Frame}{w:World}:step P (lone (b.atR a (.code (.scope c)::k)) cs w)= .next (lone (b.atR a (.code c:: .inScope c::k)) cs w):=
 step_lone_go (by simp[stepG,stepG.exec,Frame.atR])
theorem zx{c:Code}{b:Frame}{a:Act}{k:List Item}{cs:List Frame}{w:World}:step P (lone (b.atR a (.inScope c::k)) cs w)= .next (lone (b.atR a k) cs w):=
 step_lone_go (by simp[stepG,stepG.exec,Frame.atR])
theorem rY{F:Fence}{n:Nat}{Q:Exit->Act->World->Prop}{a:Act}{w:World}{c:Code}(h:c.wpIn F n P (Exit.noGoto Q) a w):(Code.scope c).wpIn F n P Q a w:=by
 intro b k cs R0 hb hr
 have h0:(lone (b.atR a (.code (.scope c)::k)) cs w).fenced P F:=fenced_calm hb hr rfl
 obtain⟨e,a1,w1,hq,hx⟩:=h b (.inScope c::k) cs R0 hb hr
 cases e with
 |normal=>exact⟨.normal,a1,w1,hq,.head h0 kX (StepsIn.trans hx (.one (fenced_calm hb hr rfl) zx))⟩
 |exit i=>
  have e1:exitTo i (.inScope c::k)=exitTo i k:=by simp[exitTo]
  exact⟨.exit i,a1,w1,hq,λk' hk=> .head h0 kX (hx.1 k' (e1.trans hk)),λh1 hk=>let⟨k2,h2,h3⟩:=hx.2 h1 (e1.trans hk);⟨k2,h2,.head h0 kX h3⟩⟩
 |goto l=>exact hq.elim
 |ret=>exact⟨_,a1,w1,hq,.of_steps (.one h0 kX) hx⟩
 |panic ch=>exact⟨_,a1,w1,hq,.of_steps (.one h0 kX) hx⟩
 |outgrown=>exact⟨_,a1,w1,hq,.of_steps (.one h0 kX) hx⟩
theorem pQ{rd:Option Nat}{m:Nat}{R:Type}{r:R}{b:Code}{nrm:AS->Out AS}{nrmX:Exit->AS->Out AS}{body:AS->(Exit->AS->Option R)->Option R}
  (hn:∀s s1 a w,fq C s a w->(nrm s).eval=some s1->fq C s1 a w) (hx:∀e s s1 a w,fq C s a w->(nrmX e s).eval=some s1->fq C s1 a w)
  (hb:∀(s:AS) (a:Act) (w:World) (k:Exit->AS->Option R) (Q:Exit->Act->World->Prop),fq C s a w->body s k=some r->(∀e s' a' w',fq C s' a' w'->k e s'=some r->Q e a' w')->b.wpIn (Fr rd) m P Q a w)
  {k:Exit->AS->Option R} {Q:Exit->Act->World->Prop} (hk:∀e s' a' w',fq C s' a' w'->k e s'=some r->Q e a' w'):
  ∀(n:Nat) (s:AS) (a:Act) (w:World),fq C s a w->wc nrm nrmX body n s k=some r->Code.roundsIn (Fr rd) m P b Q n a w
 | 0,s,a,w,_,h=>by simp[wc]at h
 |n+1,s,a,w,hs,h=>by
  simp only[wc]at h
  rw[roundsIn_succ]
  refine hb s a w _ _ hs h λe s' a' w' hs' NP=> ?_
  have exits:∀e,(nrmX e s').run (k e)=some r->Q e a' w':=λe NP=>by
   obtain⟨s1,h1,h2⟩:=fU.1 NP
   exact hk e s1 a' w' (hx e s' s1 a' w' hs' h1) h2
  cases e with
  |normal=>
   simp only at NP
   obtain⟨s1,h1,h2⟩:=fU.1 NP
   exact pQ hn hx hb hk n s1 a' w' (hn s' s1 a' w' hs' h1) h2
  |_=>exact exits _ NP
theorem tR{rd:Option Nat}{n:Nat}(hC:C.ok){j:Option FI}{run: {R:Type}->(Exit->AS->Option R)->Option R}{c:Code}{a:Act}{w:World}
  (jT:∀ {R:Type} {r:R} (k:Exit->AS->Option R) (Q:Exit->Act->World->Prop),run k=some r->(∀e s' a' w',fq C s' a' w'->k e s'=some r->Q e a' w')->c.wpIn (Fr rd) n P Q a w)
  {R:Type} {r:R} {k:Exit->AS->Option R} {Q:Exit->Act->World->Prop} (h:vj P j run k=some r) (hk:∀e s' a' w',fq C s' a' w'->k e s'=some r->Q e a' w'):c.wpIn (Fr rd) n P Q a w:=by
 cases j with
 |none=>exact jT k Q h hk
 |some j=>
  simp only[vj]at h
  cases hx:run λe s=>(norm P j.an s).run (j.OY e) with
  |none=>rw[hx]at h;cases h
  |some x=>
   rw[hx]at h
   simp only[aA]at h
   obtain⟨y,hy,h⟩:=fU.1 h
   refine jT _ Q hx λe s' a' w' hs' hK=> ?_
   obtain⟨s1,h1,h2⟩:=fU.1 hK
   have he:=j.ok _ _ _ h2
   rw[hy,al]at he
   subst he
   exact hk e s1 a' w' (jH hC hs' h1) h
theorem Inv.FJ{g:Nat->iO}{β:Id->Option Pl}{s:AS}{a:Act}{w:World}(h:Inv C g β s a w):
  Inv C (iT g w.heap.size (.own .dm 0)) β s {a with defers:=l5 w.heap.size::a.defers} (w.alloc (.deferred (some []))):=by
 have ht:=Trans.alloc w g (.deferred (some [])) (.own .dm 0)
 have he:bV (s.env w g β) (s.env (w.alloc (.deferred (some []))) (iT g w.heap.size (.own .dm 0)) β):=bV.same ht
 have h1:=h.step rfl ht he (fF.same h.bk he λi ver fr c pl hi hp=>by
  have hl:=((h.bk i ver fr c hi).label (pl:=pl) hp).1
  have hl':pl.b < w.heap.size:=hl
  exact⟨ka w _ hl',dU _ _ _ (by omega)⟩)
 refine⟨⟨cP.2 ⟨λhm=> ?_,h1.defers.1⟩,λd hd=> ?_⟩,h1.size,h1.bK,h1.bk,h1.trans,h1.le⟩
 ·obtain⟨D,e,_,hh,_⟩:=h.defers.2 _ hm
  have e:Deferred.mk (.collected w.heap.size) #[]=Deferred.mk (.collected D) #[]:=e
  injection e with e _
  injection e with e
  have:=(bg.1 hh).1
  omega
 ·rcases b8.1 hd with rfl | hd
  ·exact⟨w.heap.size,rfl,h.trans.size,lh w _,eb _ _ _⟩
  ·exact h1.defers.2 d hd
theorem sN:∀l:List ao,(oa l).list=l
 |[]=>rfl
 |a::l=>by simp[oa,ao.list,sN l]
theorem pC(bI:List Nat):∀(i:Nat) (l:List ao),(dw bI i l).length=l.length
 |_,[]=>rfl
 |i,_::l=>by simp[dw,pC bI (i+1) l]
theorem sj(bI:List Nat):∀(l:List ao) (i j:Nat),(dw bI i l).getD j .undef=l.getD j .undef\/(dw bI i l).getD j .undef= .undef
 |[],_,_=> .inl rfl
 |v::l,i,0=>by
  simp only[dw,ij]
  split
  ·exact .inl rfl
  ·exact .inr rfl
 |v::l,i,j+1=>by simpa[dw]using sj bI l (i+1) j
theorem Inv.frame{g:Nat->iO}{β:Id->Option Pl}{s:AS}{a:Act}{w:World}(h:Inv C g β s a w)(bI:List Nat):pG (s.env w g β) (oa (dw bI 0 s.bK)) a.tmps:=by
 refine⟨by rw[sN,pC,h.size],λi=> ?_⟩
 rw[sN]
 rcases sj bI s.bK 0 i with e | e
 ·rw[e];exact h.bK i
 ·rw[e];exact VS.undef
theorem JY(a:Act)(q:Nat)(x:Value):(a.put (some q) x).put (some q) (a.tmps.getD q undef)=a:=by
 obtain⟨t,d⟩:=a
 simp only[Act.put]
 congr 1
 apply kA
 intro i
 simp only[c9,Array.size_setIfInBounds]
 by_cases h:q=i
 ·subst h
  by_cases hl:q < t.size
  ·simp[hl]
  ·simp[hl]
 ·simp[h]
theorem um{g:Nat->iO}{β:Id->Option Pl}{s s':AS}{a:Act}{w:World}{q p:Nat}(h:Inv C g β s a w)(he:s.vC q p=some s'):∃pl r,β (.c8 0)=some pl/\(s.env w g β).cur (.c8 0) 0/\w.heap[pl.b]? =some (.loop r)/\C3 q r.state r.pending/\
  ∀r':Loop,r'.params=r.params->r'.assign=r.assign->r'.body=r.body->r'.tmps=r.tmps->C3 p r'.state r'.pending->Inv C g β s' a (w.putObj pl.b (.loop r')):=by
 unfold AS.vC at he
 split at he
 rotate_left
 ·cases he
 rename_i c f q' b5
 split at he
 rotate_left
 ·cases he
 rename_i hq
 obtain rfl:q=q':=dE hq
 obtain rfl:=aN he
 obtain⟨pl,r,hp,hb,hg,⟨q1,q2,q3⟩,Hb,kZ⟩:=h.bk (.c8 0) 0 false _ b5
 have hp:β (.c8 0)=some pl:=hp
 have hb:w.heap[pl.b]? =some (.loop r):=hb
 have hg:g pl.b= .own (.id (.c8 0)) 0:=hg
 refine⟨pl,r,hp,⟨false,_,b5⟩,hb,kZ,λr' e1 e2 e3 e4 hs'=> ?_⟩
 have gO:pl.b < w.heap.size:=(bg.1 hb).1
 have hother:∀b',b'≠pl.b->(w.putObj pl.b (.loop r')).heap[b']? =w.heap[b']? :=λb' fL=>World.putObj_heap_other fL
 have ht:Trans w (w.putObj pl.b (.loop r')) g g:=by
  refine⟨rfl,rfl,⟨rfl,aw _⟩,by simp,λb' _=> ?_⟩
  by_cases he:b'=pl.b
  ·subst he
   rw[hg]
   exact⟨.inr ⟨_,0,rfl,aw _⟩,λ_ _ hh=>by omega⟩
  ·rw[hother b' he]
   cases wE:g b' with
   |free=>exact⟨rfl,rfl⟩
   |own o' k=>cases o' with
    |dm=>exact⟨rfl,rfl⟩
    |id i'=>exact⟨.inr ⟨i',k,rfl,aw _⟩,λoff v _ hv=>by simpa only[World.cell?,hother b' he]using hv⟩
 have hle:bV (s.env w g β) ((s.aD (.c8 0) (.obj 0 false (.mV c f p))).env (w.putObj pl.b (.loop r')) g β):=bV.aD b5 (aw _) ht (λ_ _=>rfl) (λ_=>rfl)
 refine h.step (cF _ _ _) ht hle (fF.aD h.bk (by rw[b5];simp) hle (λ_ _=>rfl) (λi ver fr c pl2 hi xI Aa=>⟨hother _ (h.apart hg hi xI Aa),rfl⟩) ?_ (tV b5))
 exact⟨pl,r',hp,World.putObj_heap_same gO,hg,⟨e1.trans q1,e2.trans q2,e3.trans q3⟩,by rw[e4];exact Hb.mono hle,hs'⟩
theorem wK{n:Nat}(hΓ:Sound P Γ){f:Operand}{ps:Array Tmp}{as b:Code}{R:Type}{r:R}{k:Exit->AS->Option R}{Q:Exit->Act->World->Prop}{s:AS}{a:Act}{w:World}(h:fq C s a w)
  (he:pZ P Γ an s f ps as b k=some r) (hk:∀e s' a' w',fq C s' a' w'->k e s'=some r->Q e a' w'):(Code.rangeFunc f ps as b).wpIn (Fr none) n P Q a w:=by
 obtain⟨g,β,h⟩:=h
 unfold pZ at he
 split at he
 rotate_left
 ·cases he
 rename_i y bI h0 caps RZ SC hF
 split at he
 rotate_left
 ·cases he
 rename_i en NA G8
 simp only[ae]at NA
 obtain⟨⟨⟨Gb,HT⟩,hq⟩,gO⟩:=NA
 have hd:=(hΓ _ _ _ G8).1 gO
 obtain⟨s3,HJ,he⟩:=fU.1 he
 generalize SB:ps.getD 0 0=q at HT hq HJ he G8
 have hq:q < s.bK.length:=eL hq
 obtain⟨vs,hy,OX⟩:=zT (hF▸h.ev f)
 refine wpIn_rangeFunc λfn _=> ?_
 have b5:=run_enterLoop_outer (P:=P) (w:=w) fn a.tmps ps as b
 have i1:=h.FJ
 generalize R7:w.alloc (.deferred (some []))=w1 at i1 b5
 have lz:w1.heap.size=w.heap.size+1:=by rw[<-R7];exact World.size_alloc ..
 generalize P9:({state:= .ready,pending:=none,fn,tmps:=a.tmps,params:=ps,assign:=as,body:=b,defers:=w.heap.size}:Loop)=r0 at b5
 have ht:=Trans.alloc w1 (iT g w.heap.size (.own .dm 0)) (.loop r0) (.own (.id (.new q 0)) 0)
 obtain⟨i2,e2⟩:=i1.uT HT (c:= .mV ⟨y,ps,as,b⟩ (oa (dw bI 0 s.bK)) 0) (p:=some ⟨w1.heap.size,0⟩) ht (λb hb=>⟨ka w1 _ hb,dU _ _ _ (by omega)⟩) (λhe=>
  ⟨⟨w1.heap.size,0⟩,r0,gv _ _ _,lh w1 _,eb _ _ _,by subst P9;exact⟨rfl,rfl,rfl⟩,by subst P9;exact(i1.frame bI).mono he,by subst P9;exact⟨rfl,rfl⟩⟩)
 generalize iT (iT g w.heap.size (.own .dm 0)) w1.heap.size (.own (.id (.new q 0)) 0)=g2 at i2 e2
 generalize hβ2:rp β (.new q 0) (some ⟨w1.heap.size,0⟩)=β2 at i2 e2
 generalize Hc:w1.alloc (.loop r0)=w2 at i2 e2 b5
 have Rb:VS ((s.born q [.obj 0 false (.mV ⟨y,ps,as,b⟩ (oa (dw bI 0 s.bK)) 0)]).env w2 g2 β2) (.yl (.new q 0) 0) (.func (.yield w1.heap.size) #[] #[]):=by
  refine⟨[.func (.yield w1.heap.size) #[] #[]],?_,rfl⟩
  simp only[V]
  exact⟨_,rfl,jS HT _ _ _ _,λ_=>⟨⟨w1.heap.size,0⟩,by rw[<-hβ2];exact gv _ _ _,rfl⟩⟩
 have i3:=i2.put (some q) Rb
 have hF2:(s.born q [.obj 0 false (.mV ⟨y,ps,as,b⟩ (oa (dw bI 0 s.bK)) 0)]).ev f= .fn h0 caps:=by rw[<-hF];cases f <;> rfl
 obtain⟨vs2,MV,Ql⟩:=zT (hF2▸i2.ev f)
 have tP:vs2=vs:=by
  have e:Value.func (.func h0) #[] vs2.toArray= .func (.func h0) #[] vs.toArray:=by rw[<-MV,<-hy];cases f <;> rfl
  injection e with _ _ e
  simpa using congrArg Array.toList e
 subst tP
 have xD:oP (((s.born q [.obj 0 false (.mV ⟨y,ps,as,b⟩ (oa (dw bI 0 s.bK)) 0)]).put (some q) (.yl (.new q 0) 0)).env w2 g2 β2) (.yl (.new q 0) 0::caps.list) (.func (.yield w1.heap.size) #[] #[]::vs2):=by
  rw[AT]
  exact⟨Rb,DF Ql⟩
 unfold AS.call at HJ
 obtain⟨r2,h1,h2⟩:=ai.1 HJ
 obtain⟨g',i4,e4,_,f1⟩:=eA r2.2 i3
 obtain⟨x,hx,k1,k2,key⟩:=u6 (o:= {(default:Oper) with dst:=none}) i4 (qN _ _) (qH rfl i3.bk e4 _ _ _ r2 xD h1 f1) h2
 have QU:∀args:Array Value,(callFunc h0 args).run P w2= .ok (.enter h0 args) w2:=λargs=>by
  unfold C5 at Gb
  split at Gb
  ·rename_i fn' LI
   simp only[ae,bt,beq_eq_false_iff_ne]at Gb
   obtain⟨c,hc⟩:=bz.1 Gb.2
   unfold callFunc
   simp[LI,Gb.1,hc]
  ·cases Gb
 have post:∀ {w3:World} {v:Value},fq C s3 ((({a with defers:=l5 w.heap.size::a.defers}:Act).put (some q) (.func (.yield w1.heap.size) #[] #[])).put none v) w3->∀ {c:lU} {fr:ao} {p:Nat},s3.bA (.new q 0)=some (.obj 0 false (.mV c fr p))->s3.slot q= .yl (.new q 0) 0->p≠1->
   ∃jump w4,(Instr.endLoop w1.heap.size).run P w3= .ok jump w4/\C3 p (if p=0 then .ready else .done) jump/\fq C ((s3.aD (.new q 0) .dead).put (some q) .undef) {a with defers:=l5 w.heap.size::a.defers} w4:=by
  intro w3 v L7 c fr p xF HQ MR
  obtain⟨g3,β3,i5⟩:=L7
  obtain⟨pl,r3,hp,hb,hg,_,_,kZ⟩:=i5.bk (.new q 0) 0 false _ xF
  have hp:β3 (.new q 0)=some pl:=hp
  have hb:w3.heap[pl.b]? =some (.loop r3):=hb
  have hg:g3 pl.b= .own (.id (.new q 0)) 0:=hg
  have KC:=i5.bK q
  rw[HQ]at KC
  obtain⟨cs,hV,hO⟩:=KC
  simp only[V]at hV
  obtain⟨l,rfl,_,dV⟩:=hV
  obtain⟨pl',hp',rfl⟩:=dV ⟨false,_,xF⟩
  have hp':β3 (.new q 0)=some pl':=hp'
  rw[hp]at hp'
  obtain rfl:pl=pl':=by simpa using hp'
  have hO: [Value.func (.yield pl.b) #[] #[]]=[((({a with defers:=l5 w.heap.size::a.defers}:Act).put (some q) (.func (.yield w1.heap.size) #[] #[])).put none v).tmps.getD q undef]:=hO
  have xH:q < ({a with defers:=l5 w.heap.size::a.defers}:Act).tmps.size:=by show q < a.tmps.size;rw[h.size];exact hq
  have hO2:((({a with defers:=l5 w.heap.size::a.defers}:Act).put (some q) (.func (.yield w1.heap.size) #[] #[])).put none v).tmps.getD q undef= .func (.yield w1.heap.size) #[] #[]:=by
   show((({a with defers:=l5 w.heap.size::a.defers}:Act).put (some q) (.func (.yield w1.heap.size) #[] #[]))).tmps.getD q undef=_
   rw[Dn,if_pos ⟨rfl,xH⟩]
  rw[hO2]at hO
  have hl:pl.b=w1.heap.size:=by simpa using hO
  have Nz:r3.state≠ .busy:=by
   match p,kZ,MR with
   | 0,kZ,_=>rw[kZ.1];simp
   | 1,_,h=>exact absurd rfl h
   | 2,kZ,_=>rw[kZ.1];simp
   |_+3,kZ,_=>rw[kZ.1];simp
  have gO:pl.b < w3.heap.size:=(bg.1 hb).1
  refine⟨r3.pending,_,by rw[<-hl];exact run_endLoop hb Nz,?_,?_⟩
  ·match p,kZ,MR with
   | 0,kZ,_=>exact⟨rfl,kZ.2⟩
   | 1,_,h=>exact absurd rfl h
   | 2,kZ,_=>exact⟨rfl,kZ.2⟩
   |_+3,kZ,_=>exact⟨rfl,kZ.2⟩
  ·have i6:=i5.kill xF hg (w':=w3.putObj pl.b (.loop {r3 with state:= .exhausted})) rfl rfl ⟨rfl,aw _⟩ (by simp) (λb' hb'=>World.putObj_heap_other hb')
   have i7:=i6.put (some q) (v:= .undef) (x:=({a with defers:=l5 w.heap.size::a.defers}:Act).tmps.getD q undef) VS.undef
   have e:=JY {a with defers:=l5 w.heap.size::a.defers} q (.func (.yield w1.heap.size) #[] #[])
   refine⟨iT g3 pl.b .free,β3,?_⟩
   simp only[Act.put]at e i7
   rw[e]at i7
   exact i7
 have hc:Calls P h0 (.func (.yield w1.heap.size) #[] #[]::vs2).toArray w2 λe w'=>∃v,e= .returned v/\fq C s3 ((({a with defers:=l5 w.heap.size::a.defers}:Act).put (some q) (.func (.yield w1.heap.size) #[] #[])).put none v) w':=by
  rcases hd _ _ _ _ _ _ _ k1 k2 hx with⟨_,hc⟩ | ⟨v,w',OW,_⟩
  ·exact hc.mono λe w' ⟨v,he,ha⟩=>⟨v,he,key v w' ha⟩
  ·rw[QU]at OW;cases OW
 refine⟨w1.heap.size,[l5 w.heap.size],w2,⟨.fn (.func h0) vs2.toArray,#[.func (.yield w1.heap.size) #[] #[]]⟩,w2,h0,(.func (.yield w1.heap.size) #[] #[]::vs2).toArray,w2,?_,?_,λ_ _=>trivial,?_,λh=>(by cases h),?_⟩
 ·rw[lz];exact b5
 ·have e:resolve a.eval (rangeCall f w1.heap.size) 0=Deferred.ofValue (a.eval f) #[.func (.yield w1.heap.size) #[] #[]]:=by simp[resolve,rangeCall,Act.eval]
  rw[e,hy]
  simp[Deferred.ofValue]
 ·have e:(#[.func (.yield w1.heap.size) #[] #[]]++vs2.toArray:Array Value)=(.func (.yield w1.heap.size) #[] #[]::vs2).toArray:=by simp
  rw[<-QU,<-e]
  rfl
 ·have h1:CallsIn (Fr none) (n - 1) P h0 (.func (.yield w1.heap.size) #[] #[]::vs2).toArray w2 _:=callsIn_wide.2 hc
  refine h1.mono λe w3 ⟨v,Gd,L7⟩=> ?_
  subst Gd
  show ∃jump w4,_/\_
  split at he
  rotate_left
  ·cases he
  rename_i c3 fr3 p3 q' xF HQ
  split at he
  ·rename_i hq'
   obtain rfl:q'=q:=dE hq'
   obtain⟨jump,w4,HK,kZ,N3⟩:=post L7 xF HQ (by decide)
   obtain⟨_,rfl⟩:=kZ
   exact⟨none,w4,HK,hk _ _ _ _ N3 he⟩
  ·rename_i hq'
   obtain rfl:q'=q:=dE hq'
   obtain⟨jump,w4,HK,kZ,N3⟩:=post L7 xF HQ (by decide)
   obtain⟨_,rfl⟩:=kZ
   exact⟨_,w4,HK,wpIn_ret (hk _ _ _ _ N3 he)⟩
  ·rename_i i hq'
   obtain rfl:q'=q:=dE hq'
   obtain⟨jump,w4,HK,kZ,N3⟩:=post L7 xF HQ (by simp)
   obtain⟨_,rfl⟩:=kZ
   exact⟨_,w4,HK,wpIn_exit (hk _ _ _ _ N3 he)⟩
  ·cases he
theorem iY{rd:Option Nat}{n:Nat}(hm:P.follows .mixedOrders=true)(hΓ:Sound P Γ)(hC:C.ok){N:Nat}(Gg:rd=none\/an.nN.isSome=true):∀(c:Code),mf P Γ an N (gU c)->∀ {R:Type} {r:R} (s:AS) (a:Act) (w:World) (k:Exit->AS->Option R) (Q:Exit->Act->World->Prop),
  fq C s a w->ev P Γ an N c s k=some r->(∀e s' a' w',fq C s' a' w'->k e s'=some r->Q e a' w')->c.wpIn (Fr rd) n P Q a w
 | .skip,hL,_,_,s,a,w,k,Q,hs,h,hk=>wpIn_skip (hk _ _ _ _ hs h)
 | .region id ops draw,hL,_,_,s,a,w,k,Q,hs,h,hk=>by
  simp only[ev]at h
  refine tR hC (λk Q h hk=> ?_) h hk
  cases draw with
  |true=>
   simp only at h
   split at h
   ·rename_i hE
    exact C4 hm hΓ hs hE h λs' a' w' hs' hk'=>hk _ _ _ _ hs' hk'
   ·cases h
  |false=>exact wpIn_region_list (vY hΓ ops.toList hs h λs' a' w' hs' hk'=>hk _ _ _ _ hs' hk')
 | .seq x y,hL,_,_,s,a,w,k,Q,hs,h,hk=>by
  simp only[ev]at h
  refine wpIn_seq (tR hC (λk Q h hk=>iY hm hΓ hC Gg x hL.append.1 s a w k Q hs h hk) h λe s' a' w' hs' hk'=> ?_)
  cases e with
  |normal=>exact iY hm hΓ hC Gg y hL.append.2 s' a' w' k Q hs' hk' hk
  |_=>exact hk _ s' a' w' hs' hk'
 | .cond c x y,hL,_,_,s,a,w,k,Q,hs,h,hk=>by
  simp only[ev]at h
  split at h
  ·rename_i b hb
   have hc:a.eval c= .bool b:=by
    obtain⟨g,β,hi⟩:=hs
    have:=hi.ev c
    rw[hb]at this
    exact wP this
   refine wpIn_cond hc ?_
   cases b with
   |true=>exact iY hm hΓ hC Gg x hL.append.1 s a w k Q hs h hk
   |false=>exact iY hm hΓ hC Gg y hL.append.2 s a w k Q hs h hk
  ·cases h
 | .block id b,hL,_,_,s,a,w,k,Q,hs,h,hk=>by
  simp only[ev]at h
  refine wpIn_block (iY hm hΓ hC Gg b hL s a w _ _ hs h λe s' a' w' hs' hk'=> ?_)
  cases e with
  |exit i=>
   simp only at hk'
   simp only[Exit.inBlock]
   by_cases hi:i=id
   ·rw[if_pos hi]
    simp only[hi,decide_true]at hk'
    exact hk _ s' a' w' hs' hk'
   ·rw[if_neg hi]
    simp only[hi,decide_false]at hk'
    exact hk _ s' a' w' hs' hk'
  |_=>exact hk _ s' a' w' hs' hk'
 | .loop b,hL,R,r,s,a,w,k,Q,hs,h,hk=>by
  simp only[ev]at h
  obtain⟨s1,h1,h⟩:=fU.1 h
  have y6:=jH hC hs h1
  obtain⟨hL1,hL2⟩:=(hL:G6 P Γ an N b/\mf P Γ an N (gU b))
  split at h
  ·rename_i le hle
   unfold IT at h
   cases A6:le.set with
   |some S=>
    rw[A6]at h
    simp only at h
    obtain⟨h2,h3⟩:=F0 h
    obtain⟨n,hn⟩:=(hL1 le hle).2 S A6 s1 h2
    refine wpIn_loop_rounds n (pQ (λs s1 a w hs hn=>jH hC hs hn) (λe s s1 a w hs hn=>jH hC hs hn) (λs a w k Q hs hb hk=>iY hm hΓ hC Gg b hL2 s a w k Q hs hb hk) (λe s' a' w' hs' he=> ?_) n s1 a w y6 hn)
    obtain⟨x,Qo,Qp⟩:=Im he
    obtain⟨y,hy,h4⟩:=fU.1 (h3 x Qo)
    rw[Qp,al]at hy
    subst hy
    exact hk _ _ _ _ hs' h4
   |none=>
   rw[A6]at h
   simp only at h
   cases hr:le.run s1 with
   |none=>rw[hr]at h;cases h
   |some x=>
    rw[hr]at h
    simp only[aA]at h
    obtain⟨y,hy,h⟩:=fU.1 h
    obtain⟨n,hn⟩:=(hL1 le hle).1 A6 s1 x hr
    rw[hy]at hn
    refine wpIn_loop_rounds n (pQ (λs s1 a w hs hn=>jH hC hs hn) (λe s s1 a w hs hn=>jH hC hs hn) (λs a w k Q hs hb hk=>iY hm hΓ hC Gg b hL2 s a w k Q hs hb hk) (λe s' a' w' hs' he=> ?_) n s1 a w y6 hn)
    simp only[al]at he
    subst he
    exact hk e s' a' w' hs' h
  ·exact wpIn_loop_rounds N (pQ (λs s1 a w hs hn=>jH hC hs hn) (λe s s1 a w hs hn=>jH hC hs hn) (λs a w k Q hs hb hk=>iY hm hΓ hC Gg b hL2 s a w k Q hs hb hk) hk N s1 a w y6 h)
 | .exit id,hL,_,_,s,a,w,k,Q,hs,h,hk=>wpIn_exit (hk _ _ _ _ hs h)
 | .ret,hL,_,_,s,a,w,k,Q,hs,h,hk=>wpIn_ret (hk _ _ _ _ hs h)
 | .rangeFunc f ps as b,_,_,_,s,a,w,k,Q,hs,h,hk=>by
  simp only[ev]at h
  rcases Gg with rfl | Gg
  ·exact wK hΓ hs h hk
  ·unfold pZ at h
   split at h
   ·rename_i h0 _ _;rw[h0]at Gg;cases Gg
   ·cases h
 | .scope b,hL,_,_,s,a,w,k,Q,hs,h,hk=>by
  simp only[ev]at h
  refine rY (iY hm hΓ hC Gg b hL s a w _ _ hs h λe s' a' w' hs' hk'=> ?_)
  cases e with
  |goto l=>cases hk'
  |_=>exact hk _ s' a' w' hs' hk'
 | .label _,hL,_,_,s,a,w,k,Q,hs,h,hk=>wpIn_label (hk _ _ _ _ hs h)
 | .goto _,_,_,_,_,_,_,_,_,_,h,_=>by simp[ev]at h
 | .refuse _,_,_,_,_,_,_,_,_,_,h,_=>by simp[ev]at h
variable {g:Nat->iO} {β:Id->Option Pl} {s:AS} {a:Act} {w:World}
def yy(tmps:Array Value)(r:ResultVar):Sem Value:=
 match r with
 | .tmp t=>pure (tmps.getD t undef)
 | .cell a t=>do loadVar t (<-asAddr (tmps.getD a undef))
theorem uu(h:Inv C g β s a w){r:ResultVar}{v:ao}(he:(yA P s r).eval=some v):∃x,(yy a.tmps r).run P w= .ok x w/\VS (s.env w g β) v x:=by
 cases r with
 |tmp t=>
  simp only[yA]at he
  obtain rfl:=ak.1 he
  exact⟨_,by simp[yy],h.bK t⟩
 |cell t T=>
  simp only[yA]at he
  obtain⟨ad,z,hy,hr,hv⟩:=xX h (h.bK t) he
  exact⟨z,by simp[yy,hy,asAddr,hr],hv⟩
theorem ur(h:Inv C g β s a w){r:ResultVar}{o:Option Ty}{y:AS×ao}(he:(yz P s r o).eval=some y):
  ∃x g',(yy a.tmps r).run P w= .ok x w/\Inv C g' β y.1 a w/\bV (s.env w g β) (y.1.env w g' β)/\VS (y.1.env w g' β) y.2 x:=by
 cases o with
 |none=>
  simp only[yz]at he
  obtain⟨v,h1,h2⟩:=ai.1 he
  obtain rfl:=ak.1 h2
  obtain⟨x,hx,hv⟩:=uu h h1
  exact⟨x,g,hx,h,bV.refl _,hv⟩
 |some t=>
  simp only[yz]at he
  obtain⟨v,h1,h2⟩:=ai.1 he
  obtain⟨d,h3,h4⟩:=ai.1 h2
  obtain rfl:=ak.1 h4
  obtain⟨x,hx,hv⟩:=uu h h1
  obtain⟨g',i1,e1,_,cs,hR,hO⟩:=oJ h hv h3
  exact⟨x,g',hx,i1,e1,VS.of (a:= .d t d) (cs:=cs) (by simpa only[V]using hR) hO⟩
theorem sx:∀(l:List ResultVar) (ts:List (Option Ty)) {s:AS} {g:Nat->iO} (_:Inv C g β s a w) {y:AS×ao},(uv P s l ts).eval=some y->
  ∃(xs:List Value) (g':Nat->iO),(l.mapM (yy a.tmps)).run P w= .ok xs w/\Inv C g' β y.1 a w/\bV (s.env w g β) (y.1.env w g' β)/\VC (y.1.env w g' β) y.2 xs/\xs.length=l.length
 |[],ts,s,g,h,y,he=>by
  simp only[uv]at he
  obtain rfl:=ak.1 he
  exact⟨[],g,by simp,h,bV.refl _,by simp[VC],rfl⟩
 |r::l,ts,s,g,h,y,he=>by
  simp only[uv]at he
  obtain⟨u,h1,h2⟩:=ai.1 he
  obtain⟨hc,h2⟩:=av.1 h2
  obtain⟨us,h3,h4⟩:=ai.1 h2
  obtain rfl:=ak.1 h4
  obtain⟨x,g1,hx,i1,e1,hv⟩:=ur h h1
  obtain⟨xs,g2,Dx,i2,e2,tP,hl⟩:=sx l ts.tail i1 h3
  obtain⟨cs,hV,hO⟩:=(hv.mono e2).dC hc
  refine⟨x::xs,g2,?_,i2,e1.trans e2,by simp only[VC];exact⟨x,xs,cs,rfl,hV,hO,tP⟩,by simp[hl]⟩
  simp only[List.mapM_cons,Sem.run_bind,hx,Result.andThen_ok,Dx,Sem.run_pure]
theorem Hj{E:Env}{v:ao}{xs:List Value}(h:VC E v xs):VS E v (.tuple xs.toArray):=by
 cases v <;> first
  | (simp only[VC]at h;done)
  |exact⟨xs,rfl,h⟩
  | (simp only[VC]at h;subst h;rfl)
theorem zu(h:Inv C g β s a w){fn:Func}{ts:List (Option Ty)}{y:AS×ao}(he:(Bl P fn ts s).eval=some y):
  ∃x g',(results fn a.tmps).run P w= .ok x w/\Inv C g' β y.1 a w/\VS (y.1.env w g' β) y.2 x:=by
 have key:∀xs:List Value,(fn.results.toList.mapM (yy a.tmps)).run P w= .ok xs w->(results fn a.tmps).run P w= .ok (if h:xs.length=1 then xs[0] else .tuple xs.toArray) w:=λxs Dx=>by
  have e:results fn a.tmps=(do
   let vs <-fn.results.mapM (yy a.tmps)
   pure (if h:vs.size=1 then vs[0] else .tuple vs)):=rfl
  rw[e,Array.mapM_eq_mapM_toList]
  simp only[map_eq_pure_bind,Sem.run_bind,Dx,Result.andThen_ok,Sem.run_pure]
  congr 1
 unfold Bl at he
 split at he
 ·rename_i r hr
  obtain⟨x,g',hx,hi,_,hv⟩:=ur h he
  refine⟨x,g',?_,hi,hv⟩
  rw[key [x] (by simp[hr,hx])]
  simp
 ·rename_i rs fL
  obtain⟨xs,g',hx,hi,_,hv,hl⟩:=sx _ _ h he
  refine⟨.tuple xs.toArray,g',?_,hi,Hj hv⟩
  rw[key xs hx,dif_neg]
  rw[hl]
  intro h1
  obtain⟨r,hr⟩:=List.length_eq_one_iff.1 h1
  exact fL r hr
end
end Go.Ab
namespace Go.Ab
def lZ(ids:List Id):iO->iO
 | .own (.id (.new i j)) k=> .own (.id (match idxOf (.new i j) ids with | some m=> .new 0 m | none=> .new 1 0)) k
 |l=>l
def Ir(β:Id->Option Pl)(ids:List Id):Id->Option Pl
 | .c8 k=>β (.c8 k)
 | .new 0 m=>(ids[m]?).bind β
 | .new (_+1) _=>none
theorem Gn{ids:List Id}{g:Nat->iO}{b off:Nat}(h:lQ g b off):lQ (λb=>lZ ids (g b)) b off:=by
 unfold lQ at*
 simp only
 cases hg:g b with
 |free=>simp[lZ]
 |own o k=>
  rw[hg]at h
  cases o with
  |dm=>exact h
  |id i=>cases i <;> exact h
theorem AX(s:AS)(v:ao):(s.u9 v).Nodup:=(mL s _ _ _ (by simp)).filter _
theorem D7{s:AS}{v:ao}{id:Id}(h:id∈s.u9 v):∃i j,id= .new i j:=by
 unfold AS.u9 at h
 have:=(dX.1 h).2
 cases id with
 |c8 k=>simp[Id.KI]at this
 |new i j=>exact⟨i,j,rfl⟩
section
variable {P:Program} {Γ:mU} {C:Ctx} {g:Nat->iO} {β:Id->Option Pl} {s:AS} {a:Act} {w:World}
theorem zS(h:Inv C g β s a w)(hC:C.ok){v:ao}{x:Value}(hv:VS (s.env w g β) v x):ng C.E (s.fin v) x w:=by
 unfold AS.fin
 have hn:=AX s v
 have rS:∀id∈s.u9 v,∃i j,id= .new i j:=λid cI=>D7 cI
 generalize s.u9 v=ids at hn rS
 generalize hG:s.Kk ids v=G
 have oo:G.val=v.fE (sT ids):=by rw[<-hG];rfl
 have hold:∀k,G.st.bA (.c8 k)=(s.bA (.c8 k)).map (c7.fin ids):=λk=>by
  rw[<-hG]
  show(s.bP.map (c7.fin ids))[k]? =_
  rw[dJ];rfl
 have Q6:∀m,G.st.bA (.new 0 m)=(ids[m]?).map λid=>((s.bA id).getD .dead).fin ids:=λm=>by
  rw[<-hG]
  show(ids.map λid=>((s.bA id).getD .dead).fin ids)[m]? =_
  rw[dJ]
 have RT:∀i m,G.st.bA (.new (i+1) m)=none:=λi m=>by simp[iq.st,AS.bA]
 let g':Nat->iO:=λb=>lZ ids (g b)
 let β':=Ir β ids
 have Ge:∀e ver fr c,c7.fin ids e= .obj ver fr c->∃c0,e= .obj ver fr c0/\c=c0.fE (sT ids):=λe ver fr c he=>by
  cases e with
  |dead=>cases he
  |obj v0 fr0 c0=>
   simp only[c7.fin,c7.obj.injEq]at he
   obtain⟨rfl,rfl,rfl⟩:=he
   exact⟨c0,rfl,rfl⟩
 have hle:oS (sT ids) (s.env w g β) (G.st.env w g' β'):=by
  refine⟨⟨λb off v ⟨h1,h2⟩=>⟨h1,Gn h2⟩,λb ob h1 h2=>⟨by show lZ ids (g b)= .free;have h1:g b= .free:=h1;rw[h1];rfl,h2⟩⟩,λid ver r hr hb=> ?_⟩
  obtain⟨uN,wS⟩:=hb
  have uN:s.bA id≠none:=uN
  have wS:∀v fr c,s.bA id=some (.obj v fr c)->ver<=v:=wS
  cases id with
  |c8 k=>
   simp only[sT,al]at hr
   subst hr
   refine⟨⟨?_,λv fr c hh=> ?_⟩,λ⟨fr,c,hh⟩=>⟨?_,rfl⟩⟩
   ·show G.st.bA (.c8 k)≠none
    rw[hold];simpa using uN
   ·have hh:G.st.bA (.c8 k)=some (.obj v fr c):=hh
    rw[hold,dQ]at hh
    obtain⟨e,he,hh⟩:=hh
    obtain⟨c0,rfl,_⟩:=Ge _ _ _ _ hh
    exact wS v fr c0 he
   ·have hh:G.st.bA (.c8 k)=some (.obj ver fr c):=hh
    rw[hold,dQ]at hh
    obtain⟨e,he,hh⟩:=hh
    obtain⟨c0,rfl,_⟩:=Ge _ _ _ _ hh
    exact⟨fr,c0,he⟩
  |new i j=>
   simp only[sT]at hr
   split at hr
   ·rename_i m hm
    simp only[al]at hr
    subst hr
    have cI:=kN hm
    obtain⟨e,he⟩:=Option.ne_none_iff_exists'.1 uN
    have hg:G.st.bA (.new 0 m)=some (e.fin ids):=by rw[Q6,cI];simp[he]
    refine⟨⟨?_,λv fr c hh=> ?_⟩,λ⟨fr,c,hh⟩=>⟨?_,?_⟩⟩
    ·show G.st.bA (.new 0 m)≠none
     rw[hg];simp
    ·have hh:G.st.bA (.new 0 m)=some (.obj v fr c):=hh
     rw[hg,al]at hh
     obtain⟨c0,rfl,_⟩:=Ge _ _ _ _ hh
     exact wS v fr c0 he
    ·have hh:G.st.bA (.new 0 m)=some (.obj ver fr c):=hh
     rw[hg,al]at hh
     obtain⟨c0,rfl,_⟩:=Ge _ _ _ _ hh
     exact⟨fr,c0,he⟩
    ·show(ids[m]?).bind β=β (.new i j)
     rw[cI];rfl
   ·cases hr
 have Eg:Trans C.E.w w C.E.g g':=by
  have h0:=h.trans
  refine⟨h0.os,h0.tape,h0.output,h0.size,λb hb=> ?_⟩
  have h1:=h0.uS b hb
  show match C.E.g b with | .free=>lZ ids (g b)= .free/\_ | .own .dm k=>lZ ids (g b)= .own .dm k/\_ | .own (.id _) k=>(lZ ids (g b)= .free\/∃i k',lZ ids (g b)= .own (.id i) k'/\k<=k')/\_
  cases wE:C.E.g b with
  |free=>simp only[wE]at h1 ⊢;rw[h1.1];exact⟨rfl,h1.2⟩
  |own o k=>cases o with
   |dm=>simp only[wE]at h1 ⊢;rw[h1.1];exact⟨rfl,h1.2⟩
   |id i=>
    simp only[wE]at h1 ⊢
    refine⟨?_,h1.2⟩
    rcases h1.1 with h2 | ⟨i',k',h2,h3⟩
    ·rw[h2];exact .inl rfl
    ·rw[h2]
     right
     cases i' with
     |c8 m=>exact⟨_,k',rfl,h3⟩
     |new i j=>exact⟨_,k',rfl,h3⟩
 have JD:fF (G.st.env w g' β'):=by
  intro id ver fr c cI
  have cI:G.st.bA id=some (.obj ver fr c):=cI
  cases id with
  |c8 k=>
   rw[hold,dQ]at cI
   obtain⟨e,he,cI⟩:=cI
   obtain⟨c0,rfl,rfl⟩:=Ge _ _ _ _ cI
   refine mu hle (h.bk (.c8 k) ver fr c0 he) rfl λpl _=>⟨rfl,λn hg=> ?_,λhg=> ?_⟩
   ·have hg:g pl.b= .own (.id (.c8 k)) n:=hg
    show lZ ids (g pl.b)=_
    rw[hg];rfl
   ·have hg:g pl.b= .free:=hg
    show lZ ids (g pl.b)=_
    rw[hg];rfl
  |new i m=>
   cases i with
   |succ i=>rw[RT]at cI;cases cI
   |zero=>
    rw[Q6,dQ]at cI
    obtain⟨id0,LP,cI⟩:=cI
    obtain⟨c0,he,rfl⟩:=Ge _ _ _ _ cI
    have b5:s.bA id0=some (.obj ver fr c0):=by
     cases hs:s.bA id0 with
     |none=>rw[hs]at he;cases he
     |some e=>rw[hs]at he;simp only[dH]at he;rw[he]
    obtain⟨i0,j0,rfl⟩:=rS id0 (cr LP)
    refine mu hle (h.bk (.new i0 j0) ver fr c0 b5) (by show(ids[m]?).bind β=_;rw[LP];rfl) λpl _=>⟨rfl,λn hg=> ?_,λhg=> ?_⟩
    ·have hg:g pl.b= .own (.id (.new i0 j0)) n:=hg
     show lZ ids (g pl.b)=_
     rw[hg]
     simp only[lZ,oX hn LP]
    ·have hg:g pl.b= .free:=hg
     show lZ ids (g pl.b)=_
     rw[hg];rfl
 have ho:∀id ver,C.E.qi id ver->∃k,id= .c8 k:=λid ver hb=>by
  cases id with
  |c8 k=>exact⟨k,rfl⟩
  |new i j=>exact absurd (hC.1 i j) hb.1
 refine⟨g',β',by rw[oo];exact sE hle hv,JD,Eg,Trans.mem (E:=C.E) (E':=G.st.env w g' β') Eg,λid ver hb=> ?_,λid ver hb hc=> ?_⟩
 ·obtain⟨k,rfl⟩:=ho id ver hb
  exact(hle.ref (.c8 k) ver (.c8 k,ver) rfl (h.le.qi _ _ hb)).1
 ·obtain⟨k,rfl⟩:=ho id ver hb
  obtain⟨h1,h2⟩:=(hle.ref (.c8 k) ver (.c8 k,ver) rfl (h.le.qi _ _ hb)).2 hc
  obtain⟨h3,h4⟩:=h.le.cur _ _ hb h1
  exact⟨h3,h2.trans h4⟩
theorem oP.len{E:Env}:∀ {as:List ao} {vs:List Value},oP E as vs->as.length=vs.length
 |[],[],_=>rfl
 |_::_,_::_,⟨_,h⟩=>by simp[oP.len h]
 |[],_::_,h=>h.elim
 |_::_,[],h=>h.elim
theorem oP.get{E:Env}:∀ {as:List ao} {vs:List Value},oP E as vs->∀i,VS E (as.getD i .undef) (vs.getD i undef)
 |[],[],_,i=>by simpa using VS.undef
 |_::_,_::_,⟨h,_⟩,0=>by simpa using h
 |_::_,_::_,⟨_,h⟩,i+1=>by simpa using oP.get h i
 |[],_::_,h,_=>h.elim
 |_::_,[],h,_=>h.elim
theorem GW{w:World}{g:Nat->iO}{β:Id->Option Pl}{fn:Func}{args:List ao}{bP:List c7}{hJ:List Value}(hv:oP ((eE bP).env w g β) args hJ)(ho:fF ((eE bP).env w g β)):
  Inv ⟨(eE bP).env w g β⟩ g β (start fn args bP) {tmps:=hJ.toArray++Array.replicate (fn.ntmps - hJ.toArray.size) undef,defers:=[]} w:=by
 have hl:=hv.len
 have b5:(start fn args bP).bA=(eE bP).bA:=by
  funext id
  cases id with
  |c8 k=>rfl
  |new i j=>
   simp only[start,eE,AS.bA,ax,List.getElem?_replicate]
   split <;> simp
 have Ec:(start fn args bP).env w g β=(eE bP).env w g β:=by simp only[AS.env,b5]
 refine⟨⟨gz,λ_ h=>by cases h⟩,by simp[start,hl],λi=> ?_,by rw[Ec];exact ho,Trans.refl _ _,by rw[Ec];exact bV.refl _⟩
 rw[Ec]
 have h1:(start fn args bP).slot i=args.getD i .undef:=by
  simp only[start,AS.slot,ax,List.getElem?_append,List.getElem?_replicate]
  split
  ·rfl
  ·rw[cW (l:=args) (by omega)]
   split <;> rfl
 have h2:(hJ.toArray++Array.replicate (fn.ntmps - hJ.toArray.size) undef).getD i undef=hJ.getD i undef:=by
  simp only[bT,ax,gH,Array.getElem?_replicate]
  simp only[fg,List.getElem?_toArray]
  split
  ·rfl
  ·rw[cW (l:=hJ) (by omega)]
   split <;> rfl
 rw[h1,h2]
 exact hv.get i
theorem Inv.MA{C:Ctx}{g:Nat->iO}{β:Id->Option Pl}{s:AS}{a:Act}{w:World}(h:Inv C g β s a w){D:Nat}{ds:List Deferred}(hd:a.defers=l5 D::ds):
  (Instr.takeDeferred D).run P w= .ok [] (w.putObj D (.deferred none))/\Inv C g β s {a with defers:=ds} (w.putObj D (.deferred none)):=by
 obtain⟨hn,pM⟩:=h.defers
 rw[hd]at hn pM
 obtain⟨D',e,hD,hh,hg⟩:=pM _ (aI ..)
 have e:Deferred.mk (.collected D) #[]=Deferred.mk (.collected D') #[]:=e
 injection e with e _
 injection e with e
 subst e
 have gO:=(bg.1 hh).1
 refine⟨run_takeDeferred hh,?_⟩
 have other:∀b,b≠D->(w.putObj D (.deferred none)).heap[b]? =w.heap[b]? :=λb hb=>World.putObj_heap_other hb
 have py:∀b off v,w.cell? ⟨b,off,none⟩=some v->b≠D:=λb off v hv e=>by
  subst e
  simp[World.cell?,hh]at hv
 have pd:lg (s.env w g β) (s.env (w.putObj D (.deferred none)) g β):=by
  refine⟨λb off v ⟨h1,h2⟩=>⟨?_,h2⟩,λb ob h1 h2=>⟨h1,?_⟩⟩
  ·have h1:w.cell? ⟨b,off,none⟩=some v:=h1
   show(w.putObj D (.deferred none)).cell? ⟨b,off,none⟩=some v
   rw[World.cell?_of_block (other b (py b off v h1))]
   exact h1
  ·have h1:g b= .free:=h1
   have h2:w.heap[b]? =some ob:=h2
   show(w.putObj D (.deferred none)).heap[b]? =some ob
   rw[other b λe=>by rw[e,hg]at h1;cases h1]
   exact h2
 have hle:bV (s.env w g β) (s.env (w.putObj D (.deferred none)) g β):=⟨pd,λ_ _ h=>h,λ_ _ _ h=>⟨h,rfl⟩⟩
 have fL:∀ {id:Id} {v:Nat} {fr:Bool} {c:ao} {pl:Pl},s.bA id=some (.obj v fr c)->β id=some pl->pl.b≠D:=λhs hp e=>by
  have:=((h.bk _ _ _ _ hs).label hp).2
  have this:(∃k,g _= .own (.id _) k)\/(_/\g _= .free):=this
  rw[e,hg]at this
  rcases this with⟨k,hk⟩ | ⟨_,hk⟩
  ·cases hk
  ·cases hk
 refine⟨⟨(cP.1 hn).2,λd hd'=> ?_⟩,h.size,λi=>(h.bK i).mono hle,λid ver fr c hs=> ?_,?_,h.le.trans hle⟩
 ·obtain⟨D2,e1,e2,e3,e4⟩:=pM d (aH _ hd')
  refine⟨D2,e1,e2,?_,e4⟩
  rw[other D2 λe=>(cP.1 hn).1 (by rw[<-e,<-e1];exact hd')]
  exact e3
 ·exact mr.mono hle (h.bk id ver fr c hs) rfl (λpl hp=>⟨other _ (fL hs hp),rfl⟩) λq vq k v l hq _=>⟨⟨k,v,l,hq⟩,λpl hp=>⟨other _ (fL hq hp),rfl⟩⟩
 ·have ht:=h.trans
  refine⟨ht.os,ht.tape,ht.output,?_,λb hb=> ?_⟩
  ·have:=ht.size
   simpa[World.putObj]using this
  ·have h1:=ht.uS b hb
   have hbD:b≠D:=by omega
   have hc:∀off v,w.cell? ⟨b,off,none⟩=some v->(w.putObj D (.deferred none)).cell? ⟨b,off,none⟩=some v:=λoff v hv=>by
    rw[World.cell?_of_block (other b hbD)];exact hv
   rw[other b hbD]
   split at h1
   ·exact h1
   ·exact h1
   ·exact⟨h1.1,λoff v ho hv=>hc off v (h1.2 off v ho hv)⟩
theorem wg{C:Ctx}{g:Nat->iO}{β:Id->Option Pl}{s:AS}{fn:Func}{R:Ending->World->Prop}:∀(ds:List Deferred) {a:Act} {w:World},Inv C g β s a w->a.defers=ds->
  (∀a2 w2,Inv C g β s a2 w2->a2.tmps=a.tmps->∃v,(results fn a.tmps).run P w2= .ok v w2/\R (.returned v) w2)->LeavesInM Fence.wide 0 P fn a.tmps R ds .returning w
 |[],a,w,h,hd,hk=>hk a w h rfl
 |d::ds,a,w,h,hd,hk=>by
  obtain⟨D,e,_⟩:=h.defers.2 d (by rw[hd];exact aI ..)
  subst e
  obtain⟨h1,h2⟩:=h.MA (P:=P) hd
  exact⟨by simp,.inl ⟨D,_,rfl,h1,wg (fn:=fn) (R:=R) ds (a:= {a with defers:=ds}) h2 rfl hk⟩⟩
theorem Cb{bP:List c7}{w:World}{g:Nat->iO}{β:Id->Option Pl}(h:bP.all c7.first=true){k v:Nat}{fr:Bool}{c:ao}(hk:((eE bP).env w g β).s (.c8 k)=some (.obj v fr c)):v=0:=by
 have hk:bP[k]? =some (.obj v fr c):=by simpa[AS.env,eE,AS.bA]using hk
 have:=cG.1 h _ (cr hk)
 exact dE this
theorem j2.pU(hm:P.follows .mixedOrders=true)(hΓ:Sound P Γ){f:FuncId}{fn:Func}(hf:P.funcs[f]? =some fn)(hb:fn.body.isSome=true)(qM:(fn.name== "runtime.NumGoroutine")=false){en:Entry}{an:rZ}{N:Nat}(hL:∀c,fn.body=some c->mf P Γ an N (gU c))
  (h:∀args bP x,en.run args bP=some x->FM P Γ an N fn args bP some=some (en.out args bP x)) (I1:an.nN=none):j2 P f en:=by
 intro w g β args bP hJ x hv ho hx
 left
 obtain⟨c,hc⟩:=bz.1 hb
 refine⟨?_,?_⟩
 ·unfold callFunc
  have hname':¬fn.name= "runtime.NumGoroutine" :=by simpa using qM
  simp[hf,hname',hc]
 ·have hN:=h args bP x hx
  unfold FM at hN
  rw[I1,hc]at hN
  simp only at hN
  split at hN
  ·cases hN
  rename_i hF
  have hC:(Ctx.mk ((eE bP).env w g β)).ok:=⟨λi j=>by simp[AS.env,eE,AS.bA],λk v fr c hk=>Cb hF hk⟩
  refine callsIn_wide.1 (callsIn_of_wp_marks (F:=Fence.wide) (n:=0) hf hc trivial (iY (rd:=none) (C:=⟨(eE bP).env w g β⟩) hm hΓ hC (.inl rfl) c (hL c hc) _ _ w _ _ ⟨g,β,GW hv ho⟩ hN λe s' a' w' hs' hk'=> ?_))
  have fin:(finish P an fn s').run (λv=>some v)=some (en.out args bP x)->LeavesInM Fence.wide 0 P fn a'.tmps (λe w'=>∃v,e= .returned v/\ng ((eE bP).env w g β) (en.out args bP x) v w') a'.defers .returning w':=λhr=>by
   obtain⟨G,h1,h2⟩:=fU.1 hr
   simp only[al]at h2
   subst h2
   unfold finish at h1
   obtain⟨sd,Pr,h1⟩:=ai.1 h1
   obtain⟨s2,h3,h4⟩:=ai.1 h1
   obtain⟨s3,Rp,h4⟩:=ai.1 h4
   obtain⟨s4,Rq,h4⟩:=ai.1 h4
   obtain⟨y,h5,h6⟩:=ai.1 h4
   obtain⟨g1,β1,Ks⟩:=hs'
   refine wg a'.defers Ks rfl λa2 w2 PJ R3=> ?_
   obtain⟨g0,β0,Jy⟩:=od _ ⟨g1,β1,PJ⟩ Pr
   obtain⟨g',β',hi⟩:=tp _ (jl hC _ ⟨g0,β0,Jy.drop _⟩ h3) Rp
   have hi:=pH hC _ hi Rq
   obtain⟨z,g2,h7,h8,h9⟩:=zu hi h5
   refine⟨z,by rw[<-R3];exact h7,z,rfl,?_⟩
   rw[<-ak.1 h6]
   exact zS h8 hC h9
  cases e with
  |normal=>exact fin hk'
  |ret=>exact fin hk'
  |_=>cases hk'
theorem sy:∀(l:List (Tmp×Value)) (t:Array Value),(l.foldl (λtmps (x:Tmp×Value)=>tmps.setIfInBounds x.1 x.2) t).size=t.size
 |[],_=>rfl
 |x::l,t=>by rw[cO,sy l];simp
theorem rb:∀(l:List (Tmp×ao)) (fs:List ao),(nO l fs).length=fs.length
 |[],_=>rfl
 |x::l,fs=>by rw[nO,rb l];simp
theorem sz{E:Env}:∀(ps:List Tmp) (vs:List ao) (us:List Value) (fs:List ao) (t:Array Value),oP E vs us->fs.length=t.size->(∀i,VS E (fs.getD i .undef) (t.getD i undef))->
  ∀i,VS E ((nO (ps.zip vs) fs).getD i .undef) (((ps.zip us).foldl (λtmps (x:Tmp×Value)=>tmps.setIfInBounds x.1 x.2) t).getD i undef)
 |[],_,_,fs,t,_,_,h=>by simpa[nO]using h
 |_::_,[],[],fs,t,_,_,h=>by simpa[nO]using h
 |_::_,[],_::_,_,_,h,_,_=>h.elim
 |_::_,_::_,[],_,_,h,_,_=>h.elim
 |p::ps,v::vs,u::us,fs,t,⟨h1,h2⟩,hl,h=>by
  simp only[List.zip_cons_cons,nO,cO]
  refine sz ps vs us _ _ h2 (by simpa using hl) λi=> ?_
  simp only[ax,bT,List.getElem?_set,c9,hl]
  have hi:=h i
  simp only[ax,bT]at hi
  split
  ·split
   ·simpa using h1
   ·simpa using VS.undef
  ·exact hi
theorem oP.split{E:Env}:∀(n:Nat) {as:List ao} {us ts:List Value},us.length=n->oP E as (us++ts)->oP E (as.take n) us/\oP E (as.drop n) ts
 | 0,as,[],ts,_,h=>by simpa using⟨trivial,h⟩
 | 0,as,_::_,ts,hn,h=>by simp at hn
 |n+1,as,[],ts,hn,h=>by simp at hn
 |n+1,[],u::us,ts,_,h=>h.elim
 |n+1,a::as,u::us,ts,hn,⟨h1,h2⟩=>by
  have:=oP.split n (by simpa using hn) h2
  exact⟨⟨h1,this.1⟩,this.2⟩
theorem EP{w:World}{g:Nat->iO}{β:Id->Option Pl}{ps:Array Tmp}{args:List ao}{bP:List c7}{us ts:List Value}(hl:us.length=ps.size)(hv:oP ((eE bP).env w g β) args (us++ts))(ho:fF ((eE bP).env w g β)):
  Inv ⟨(eE bP).env w g β⟩ g β (yN ps.toList args bP) {tmps:=(ps.zip us.toArray).foldl (λtmps (t,a)=>tmps.setIfInBounds t a) ts.toArray,defers:=[]} w:=by
 obtain⟨h1,h2⟩:=oP.split ps.toList.length (by simpa using hl) hv
 have b5:(yN ps.toList args bP).bA=(eE bP).bA:=by
  funext id
  cases id with
  |c8 k=>rfl
  |new i j=>
   simp only[yN,eE,AS.bA,ax,List.getElem?_replicate]
   split <;> simp
 have Ec:(yN ps.toList args bP).env w g β=(eE bP).env w g β:=by simp only[AS.env,b5]
 have e:(ps.zip us.toArray).foldl (λtmps (x:Tmp×Value)=>tmps.setIfInBounds x.1 x.2) ts.toArray=(ps.toList.zip us).foldl (λtmps (x:Tmp×Value)=>tmps.setIfInBounds x.1 x.2) ts.toArray:=by
  rw[<-Array.foldl_toList,Array.toList_zip]
 have e':(ps.zip us.toArray).foldl (λtmps (t,a)=>tmps.setIfInBounds t a) ts.toArray=(ps.toList.zip us).foldl (λtmps (x:Tmp×Value)=>tmps.setIfInBounds x.1 x.2) ts.toArray:=e
 rw[e']
 refine⟨⟨gz,λ_ h=>by cases h⟩,?_,λi=> ?_,by rw[Ec];exact ho,Trans.refl _ _,by rw[Ec];exact bV.refl _⟩
 ·show Array.size _=(nO _ _).length
  rw[sy,rb]
  simpa using h2.len.symm
 ·rw[Ec]
  exact sz ps.toList _ us _ _ h1 (by simpa using h2.len) (λi=>by simpa[bT,ax]using h2.get i) i
theorem vN.pU(hm:P.follows .mixedOrders=true)(hΓ:Sound P Γ){y:Nat}{fn:Func}{en:Entry}{an:rZ}{N:Nat}(hL:mf P Γ an N (gU (qb P y).as++gU (qb P y).b))
  (h:∀args bP x,en.run args bP=some x->FM P Γ an N fn args bP some=some (en.out args bP x)) (I1:an.nN=some y):vN P y en:=by
 intro w g β args bP hJ x hv ho hx l us ts f rd n N8 lz
 have hN:=h args bP x hx
 unfold FM at hN
 rw[I1]at hN
 simp only at hN
 unfold Iz at hN
 split at hN
 rotate_left
 ·cases hN
 rename_i args
 split at hN
 ·cases hN
 rename_i hF
 subst N8
 obtain⟨Ma,v7⟩:=hv
 have hC:(Ctx.mk ((eE bP).env w g β)).ok:=⟨λi j=>by simp[AS.env,eE,AS.bA],λk v fr c hk=>Cb hF hk⟩
 obtain⟨cs,hV,hO⟩:=Ma
 simp only[V]at hV
 obtain⟨l',rfl,Ga,dV⟩:=hV
 have hl:l'=l:=by simpa[ei,ao.agg]using hO
 subst hl
 have at_l:∀ {s:AS} {g1:Nat->iO} {β1:Id->Option Pl} {a:Act} {w1:World} {pl:Pl},Inv ⟨(eE bP).env w g β⟩ g1 β1 s a w1->(s.env w1 g1 β1).cur (.c8 0) 0->β1 (.c8 0)=some pl->pl.b=l':=by
  intro s g1 β1 a w1 pl hi hc hp
  obtain⟨c1,c2⟩:=hi.le.cur _ _ Ga hc
  obtain⟨pl',hp',rfl⟩:=dV c1
  have c2:β1 (.c8 0)=β (.c8 0):=c2
  have hp':β (.c8 0)=some pl':=hp'
  rw[c2,hp']at hp
  exact(congrArg Pl.b (aN hp)).symm
 refine roundIn_of_wpIn (F:=Fr rd) trivial ?_
 have Ef:some l'=none\/an.nN.isSome=true:= .inr (by rw[I1];rfl)
 refine iY (rd:=some l') hm hΓ hC Ef _ hL.append.1 _ _ w _ _ ⟨g,β,EP lz v7 ho⟩ hN λe s1 a1 w1 y6 Fi=> ?_
 cases e with
 |normal=>
  simp only at Fi
  cases h1:s1.vC 0 1 with
  |none=>rw[h1]at Fi;cases Fi
  |some s2=>
   rw[h1]at Fi
   simp only[aA]at Fi
   obtain⟨g1,β1,Ks⟩:=y6
   obtain⟨pl,r,hp,hc,hb,kZ,NV⟩:=um Ks h1
   have:=at_l Ks hc hp
   subst this
   refine⟨_,run_beginRound hb kZ.1,?_⟩
   have PJ:=NV {r with state:= .busy} rfl rfl rfl rfl rfl
   refine iY (rd:=some pl.b) hm hΓ hC Ef _ hL.append.2 _ _ _ _ _ ⟨_,_,PJ⟩ Fi λe s3 a3 w3 L7 Jz=> ?_
   cases Kq:Kj e with
   |none=>rw[Kq]at Jz;cases Jz
   |some p=>
    rw[Kq]at Jz
    simp only[aA]at Jz
    cases h4:s3.vC 1 p with
    |none=>rw[h4]at Jz;cases Jz
    |some s4=>
     rw[h4]at Jz
     simp only at Jz
     obtain⟨g3,β3,Q0⟩:=L7
     obtain⟨pl3,r3,RU,Kn,QT,R2,hnext3⟩:=um Q0 h4
     have RL:=at_l Q0 Kn RU
     rw[RL]at QT hnext3
     have fin:∀(jump:Option Code) (b:Bool),Nat.beq p 0=jump.isNone->C3 p (if jump.isNone then .ready else .done) jump->
       ∃v w',(Instr.endRound pl.b jump).run P w3= .ok v w'/\∃v',Ending.returned v= .returned v'/\ng ((eE bP).env w g β) (en.out (.yl (.c8 0) 0::args) bP x) v' w':=λjump b hb hr=>by
      have RF:=hnext3 {r3 with state:=if jump.isNone then .ready else .done,pending:=jump} rfl rfl rfl rfl hr
      refine⟨_,_,run_endRound jump QT,_,rfl,?_⟩
      obtain⟨G,k1,k2⟩:=fU.1 Jz
      simp only[al]at k2
      subst k2
      unfold Fb at k1
      obtain⟨sd,m1,k1⟩:=ai.1 k1
      obtain⟨s5,m2,k1⟩:=ai.1 k1
      obtain⟨s6,m3,k1⟩:=ai.1 k1
      obtain⟨s7,m4,k1⟩:=ai.1 k1
      obtain⟨g0,β0,Jy⟩:=od _ ⟨_,_,RF⟩ m1
      obtain⟨g',β',hi⟩:=tp _ (jl hC _ ⟨g0,β0,Jy.drop _⟩ m2) m3
      have hi:=pH hC _ hi m4
      rw[<-ak.1 k1,hb]
      exact zS hi hC (mg _)
     cases e with
     |normal=>
      obtain rfl:=aN Kq
      exact fin none true rfl ⟨rfl,rfl⟩
     |ret=>
      obtain rfl:=aN Kq
      exact fin (some .ret) false rfl ⟨rfl,rfl⟩
     |exit i=>
      obtain rfl:=aN Kq
      exact fin (some (.exit i)) false rfl ⟨rfl,rfl⟩
     |goto _=>cases Kq
     |panic _=>cases Kq
     |outgrown=>cases Kq
 |_=>cases Fi
end
end Go.Ab
namespace Go.Ab
def dF(k:IntKind)(n:Int):Int:=k.wrap n
def bW(k:IntKind)(x y:Int):Int:=k.wrap (x+y)
def df(k:IntKind)(x y:Int):Int:=k.wrap (x - y)
def gu(k:IntKind)(x y:Int):Int:=k.wrap (x*y)
def pg(k:IntKind)(x y:Int):Int:=k.wrap (x.tdiv y)
def nH(x y:Int):Int:=x.tmod y
def lP(k:IntKind)(x y:Int):Int:=k.wrap (x*2^(min y.toNat k.bits))
def bZ(k:IntKind)(x y:Int):Int:=x.fdiv (2^(min y.toNat k.bits))
def Ac(x y:Int):Bool:=x==y
def wV(x y:Int):Bool:=x !=y
def ju(x y:Int):Bool:=decide (x < y)
def Ct(x y:Int):Bool:=decide (x<=y)
def pv(x y:Int):Bool:=decide (x > y)
def pN(x y:Int):Bool:=decide (x>=y)
def seq(x y:ByteArray):Bool:=x.toList==y.toList
def C8(a:ByteArray)(i:Int):Int:=((a.data.toList.getD i.toNat 0).toNat:Int)
def pf(x y:Int):Int:=if y < x then y else x
def imax(x y:Int):Int:=if x < y then y else x
def gK(i n:Int):Bool:=decide (0<=i/\i < n)
def inc(i n:Int):Bool:=decide (0<=i/\i<=n)
def lF(y:Int):Bool:=decide (0<=y)
def ky(y:Int):Bool:= !(decide (y=0))
open Classical in
def eS.of{D X:Type}(st:D->AS)(bf:D->Prop)(F:D->X)(out:X->Out (Exit×AS)):eS:=
 {X,run:=λs=>if h:∃d,st d=s/\bf d then some (F h.choose) else none,out}
open Classical in
theorem eS.pU{D X:Type}{st:D->AS}{bf:D->Prop}{F:D->X}{out:X->Out (Exit×AS)}(Ed:∀d d',st d=st d'->d=d'){d:D}(h:bf d):(eS.of st bf F out).run (st d)=some (F d):=by
 have hex:∃d',st d'=st d/\bf d':=⟨d,rfl,h⟩
 show(if h:∃d',st d'=st d/\bf d' then some (F h.choose) else none)=_
 rw[dif_pos hex,Ed _ _ hex.choose_spec.1]
open Classical in
def FI.of{X:Type}(an:jP)(st:X->AS):FI:=
 {an,X,OY:=λe s=>if h:e= .normal/\∃x,st x=s then some h.2.choose else none,out:=λx=> .ok (.normal,st x),
  ok:=λe s x h=>by
   by_cases h1:e= .normal/\∃x,st x=s
   ·rw[dif_pos h1]at h
    have h2:=h1.2.choose_spec
    rw[aN h]at h2
    rw[h1.1,<-h2]
    rfl
   ·rw[dif_neg h1]at h;cases h}
open Classical in
open Classical in
theorem G6.of{P:Program}{Γ:mU}{an:rZ}{N:Nat}{fn:Func}{i:Nat}{D X:Type}{st:D->AS}{bf:D->Prop}{F:D->X}{out:X->Out (Exit×AS)}
  (hle:an.jK (de (kL fn i))=some (eS.of st bf F out)) (h:∀d,bf d->∃n,CF P Γ an N fn i n (st d) (λe s=>some (e,s))=(out (F d)).eval):G6 P Γ an N (kL fn i):=by
 intro le hle'
 rw[hle]at hle'
 simp only[al]at hle'
 subst hle'
 refine⟨λ_ s x hx=> ?_,λS hS=>by cases hS⟩
 change (if h:∃d',st d'=s/\bf d' then some (F h.choose) else none)=some x at hx
 split at hx
 ·rename_i hex
  obtain rfl:=aN hx
  obtain⟨h1,h2⟩:=hex.choose_spec
  obtain⟨n,hn⟩:=h _ h2
  refine⟨n,?_⟩
  show CF P Γ an N fn i n s _=_
  rw[h1]at hn
  exact hn
 ·cases hx
theorem Ae(P:Program)(Γ:mU)(an:rZ)(N:Nat)(fn:Func)(i:Nat){R:Type}(n:Nat)(s:AS)(k:Exit->AS->Option R):
  CF P Γ an N fn i (n+1) s k=vl P Γ an N fn i s (λs1=>CF P Γ an N fn i n s1 k) k:=rfl
theorem Ft{P:Program}{Γ:mU}{an:rZ}{N:Nat}{fn:Func}{i:Nat}{D X:Type}{st:D->AS}{bf:D->Prop}{F:D->X}{out:X->Out (Exit×AS)}(μ:D->Nat)
  (h:∀d,bf d->(∃d',bf d'/\μ d' < μ d/\F d'=F d/\∀ {R:Type} (kn:AS->Option R) (kx:Exit->AS->Option R),vl P Γ an N fn i (st d) kn kx=kn (st d'))\/
   (∃r,(out (F d)).eval=some r/\∀ {R:Type} (kn:AS->Option R) (kx:Exit->AS->Option R),vl P Γ an N fn i (st d) kn kx=kx r.1 r.2)):
  ∀d,bf d->∃n,CF P Γ an N fn i n (st d) (λe s=>some (e,s))=(out (F d)).eval:=by
 have key:∀m d,μ d=m->bf d->∃n,CF P Γ an N fn i n (st d) (λe s=>some (e,s))=(out (F d)).eval:=by
  intro m
  induction m using Nat.strongRecOn with
  |_ m ih=>
   intro d hm hp
   rcases h d hp with⟨d',hp',gO,hF,hr⟩ | ⟨r,hr,hx⟩
   ·obtain⟨n,hn⟩:=ih (μ d') (by omega) d' rfl hp'
    exact⟨n+1,by rw[Ae,hr,hn,hF]⟩
   ·exact⟨1,by rw[Ae,hx,hr]⟩
 exact λd hp=>key _ d rfl hp
open Classical in
theorem Ia{P:Program}{Γ:mU}{an:rZ}{N:Nat}{fn:Func}{i:Nat}{D X:Type}{st:D->AS}{bf:D->Prop}{F:D->X}{ex:X->Exit×AS}(μ:D->Nat)
  (h:∀d,bf d->(∃d',bf d'/\μ d' < μ d/\F d'=F d/\∀ {R:Type} (kn:AS->Option R) (kx:Exit->AS->Option R),vl P Γ an N fn i (st d) kn kx=kn (st d'))\/
   (∀ {R:Type} (kn:AS->Option R) (kx:Exit->AS->Option R),vl P Γ an N fn i (st d) kn kx=kx (ex (F d)).1 (ex (F d)).2)):
  ∀d,bf d->∃n,CF P Γ an N fn i n (st d) (λe s=>some (e,s))=(Out.ok (ex (F d))).eval:=
 Ft (out:=λx=> .ok (ex x)) μ λd hp=>(h d hp).imp id λh=>⟨_,rfl,h⟩
open Classical in
def Entry.of{D X:Type}(params:List (Option Ty))(st:D->List ao×List c7)(bf:D->Prop)(F:D->X)(out:X->iq):Entry:=
 {params,X,run:=λargs bP=>if h:∃d,st d=(args,bP)/\bf d then some (F h.choose) else none,out:=λ_ _=>out}
open Classical in
theorem Entry.pU{D X:Type}{params:List (Option Ty)}{st:D->List ao×List c7}{bf:D->Prop}{F:D->X}{out:X->iq}(Ed:∀d d',st d=st d'->d=d'){d:D}(h:bf d):
  (Entry.of params st bf F out).run (st d).1 (st d).2=some (F d):=by
 have hex:∃d',st d'=((st d).1,(st d).2)/\bf d':=⟨d,rfl,h⟩
 show(if h:∃d',st d'=((st d).1,(st d).2)/\bf d' then some (F h.choose) else none)=_
 rw[dif_pos hex,Ed _ _ hex.choose_spec.1]
open Classical in
theorem Fy{D X:Type}{params:List (Option Ty)}{st:D->List ao×List c7}{bf:D->Prop}{F:D->X}{out:X->iq}{args:List ao}{bP:List c7}{x:X}(hx:(Entry.of params st bf F out).run args bP=some x):∃d,st d=(args,bP)/\bf d/\x=F d:=by
 change (if h:∃d',st d'=(args,bP)/\bf d' then some (F h.choose) else none)=some x at hx
 split at hx
 ·rename_i hex
  obtain rfl:=aN hx
  exact⟨_,hex.choose_spec.1,hex.choose_spec.2,rfl⟩
 ·cases hx
theorem j2.of{P:Program}{Γ:mU}(hm:P.follows .mixedOrders=true)(hΓ:Sound P Γ){f:FuncId}{fn:Func}(hf:P.funcs[f]? =some fn)(hb:fn.body.isSome=true)(qM:(fn.name== "runtime.NumGoroutine")=false){an:rZ}{N:Nat}
  (hL:∀c,fn.body=some c->mf P Γ an N (gU c)) {D X:Type} {params:List (Option Ty)} {st:D->List ao×List c7} {bf:D->Prop} {F:D->X} {out:X->iq}
  (h:∀d,bf d->FM P Γ an N fn (st d).1 (st d).2 some=some (out (F d))) (I1:an.nN=none:=by exact rfl):j2 P f (Entry.of params st bf F out):=by
 refine j2.pU hm hΓ hf hb qM hL (λargs bP x hx=> ?_) I1
 obtain⟨d,e1,e2,rfl⟩:=Fy hx
 have:=h d e2
 rw[e1]at this
 exact this
def IX(P:Program)(Γ:mU)(an:rZ)(N:Nat)(fn:Func):Nat->Nat->Prop
 | 0,_=>True
 |n+1,i=>G6 P Γ an N (kL fn i)/\IX P Γ an N fn n (i+1)
theorem IX.get{P:Program}{Γ:mU}{an:rZ}{N:Nat}{fn:Func}:∀ {n i:Nat},IX P Γ an N fn n i->∀j,j < n->G6 P Γ an N (kL fn (i+j))
 | 0,_,_,j,hj=>by omega
 |n+1,i,h,0,_=>h.1
 |n+1,i,h,j+1,hj=>by
  have:=IX.get h.2 j (by omega)
  rwa[show i+1+j=i+(j+1) by omega]at this
theorem mf.Il{P:Program}{Γ:mU}{an:rZ}{N:Nat}:∀(l:List Code),(∀j,j < l.length->G6 P Γ an N (l.getD j .skip))->mf P Γ an N l
 |[],_=>trivial
 |b::l,h=>⟨h 0 (by simp),mf.Il l λj hj=>by have:=h (j+1) (by simpa using hj);simpa using this⟩
theorem mf.fn{P:Program}{Γ:mU}{an:rZ}{N:Nat}{fn:Func}(n:Nat)(hn:(match fn.body with | some c=>(gU c).length | none=>0)=n)(h:IX P Γ an N fn n 0):∀c,fn.body=some c->mf P Γ an N (gU c):=by
 intro c hc
 refine mf.Il _ λj hj=> ?_
 rw[hc]at hn
 simp only at hn
 have:=h.get j (by omega)
 unfold kL at this
 rw[hc]at this
 simpa using this
theorem G6.none{P:Program}{Γ:mU}{an:rZ}{N:Nat}{fn:Func}{i:Nat}(h:an.jK (de (kL fn i))=none):G6 P Γ an N (kL fn i):=λle hle=>by
 rw[h]at hle;cases hle
def Nl:mU:=λ_ _=>none
theorem Sound.nil(P:Program):Sound P Nl:=λ_ _ _ h=>by cases h
def HH(f:FuncId)(p:List ao->Bool)(en:Entry)(Γ:mU):mU:=λg vs=>match Nat.beq g f with | true=>(match p vs with | true=>some en | false=>Γ g vs) | false=>Γ g vs
theorem Sound.cons{P:Program}{f:FuncId}{p:List ao->Bool}{en:Entry}{Γ:mU}(h:nh P f en)(hΓ:Sound P Γ):Sound P (HH f p en Γ):=λg vs e hg=>by
 unfold HH at hg
 split at hg
 ·rename_i he
  have:g=f:=dE he
  split at hg
  ·simp only[al]at hg
   subst hg this
   exact h
  ·exact hΓ g vs e hg
 ·exact hΓ g vs e hg
theorem Ki{t:Ty}{x y:t.den}(h:ao.d t x=ao.d t y):x=y:=by
 injection h with _ h
theorem J9{e:TypeId}{t:Ty}{x y:List t.den}(h:ao.vec e t x=ao.vec e t y):x=y:=by
 injection h with _ _ h
def wO:List ao->Bool:=λ_=>true
def Gz:List ao->Bool | .c6::_=>true | _=>false
def GV:List ao->Bool | .cv .. ::_=>true | _=>false
@[simp] theorem aj{α:Type}(x y:Option α):aO true x y=x:=rfl
@[simp] theorem aq{α:Type}(x y:Option α):aO false x y=y:=rfl
@[simp] theorem ah{α β:Type}(x:α)(f:α->Option β):aA (some x) f=f x:=rfl
@[simp] theorem GO{α:Type}(c:lU)(x:Option α):same c c x=x:=by simp[same]
@[simp] theorem rH{α:Type}(x:Option α):nd x x=x:=by simp[nd]
structure SG(P:Program) where
 f:FuncId
 p:List ao->Bool
 e:Entry
 h:nh P f e
def oO{P:Program}:List (SG P)->mU
 |[]=>Nl
 |a::l=>HH a.f a.p a.e (oO l)
theorem Sound.oO{P:Program}:∀l:List (SG P),Sound P (oO l)
 |[]=>Sound.nil P
 |a::l=>Sound.cons a.h (Sound.oO l)
abbrev SA:=List ao×List c7
def Ja(P:Program)(G:mU)(an:rZ)(N:Nat)(fn:Func){D:Type}(st:D->SA){R:Type}(d:D)(k:iq->Option R):Option R:=FM P G an N fn (st d).1 (st d).2 k
def jC(P:Program)(G:mU)(an:rZ)(N:Nat)(fn:Func)(i:Nat){D:Type}(st:D->AS){R:Type}(d:D)(kn:AS->Option R)(kx:Exit->AS->Option R):Option R:=vl P G an N fn i (st d) kn kx
abbrev M7{D X Y:Type}(A: {R:Type}->D->(iq->Option R)->Option R)(bf:D->Prop)(add:D->Y->X)(F:D->Y)(out:X->iq):Prop:=
 ∀d,bf d->A d some=some (out (add d (F d)))
abbrev qq(P:Program)(G:mU)(an:rZ)(N:Nat)(fn:Func)(i:Nat){D X Y:Type}(st:D->AS)(bf:D->Prop)(add:D->Y->X)(F:D->Y)(out:X->Out (Exit×AS)):Prop:=
 ∀d,bf d->∃n,CF P G an N fn i n (st d) (λe s=>some (e,s))=(out (add d (F d))).eval
abbrev O6{D X Y:Type}(R: {R:Type}->D->(AS->Option R)->(Exit->AS->Option R)->Option R)(st:D->AS)(bf:D->Prop)(add:D->Y->X)(F:D->Y)(ex:X->Exit×AS)(C:Prop):Prop:=
 ∀μ:D->Nat,(∀d,bf d->(∃d',bf d'/\μ d' < μ d/\add d' (F d')=add d (F d)/\∀ {T:Type} (kn:AS->Option T) (kx:Exit->AS->Option T),R d kn kx=kn (st d'))\/
  (∀ {T:Type} (kn:AS->Option T) (kx:Exit->AS->Option T),R d kn kx=kx (ex (add d (F d))).1 (ex (add d (F d))).2))->C
abbrev rM{D X Y:Type}(R: {R:Type}->D->(AS->Option R)->(Exit->AS->Option R)->Option R)(st:D->AS)(bf:D->Prop)(add:D->Y->X)(F:D->Y)(out:X->Out (Exit×AS))(C:Prop):Prop:=
 ∀μ:D->Nat,(∀d,bf d->(∃d',bf d'/\μ d' < μ d/\add d' (F d')=add d (F d)/\∀ {T:Type} (kn:AS->Option T) (kx:Exit->AS->Option T),R d kn kx=kn (st d'))\/
  (∃r,(out (add d (F d))).eval=some r/\∀ {T:Type} (kn:AS->Option T) (kx:Exit->AS->Option T),R d kn kx=kx r.1 r.2))->C
theorem sI{P:Program}{G:mU}{an:rZ}{N:Nat}{fn:Func}{i:Nat}{D X Y:Type}{st:D->AS}{bf:D->Prop}{add:D->Y->X}{F:D->Y}{out:X->Out (Exit×AS)}:
  rM (jC P G an N fn i st) st bf add F out (qq P G an N fn i st bf add F out):=λ μ h=>Ft (F:=λd=>add d (F d)) (out:=out) μ h
def qP:List (Nat×jP)->Nat->jP
 |[],_=> {}
 |a::l,r=>bif Nat.beq r a.1 then a.2 else qP l r
def qO:List (Nat×jP×jP)->Nat->Bool->jP
 |[],_,_=> {}
 |a::l,r,b=>bif Nat.beq r a.1 then(bif b then a.2.2 else a.2.1) else qO l r b
def sm.{v} {α:Type v}:List (Nat×α)->Nat->Option α
 |[],_=>none
 |a::l,r=>bif Nat.beq r a.1 then some a.2 else sm l r
inductive Lf where
 |d (t:Ty)
 |n
@[reducible] def Lf.den:Lf->Type
 | .d t=>t.den
 | .n=>Nat
@[reducible] def Lf.G2:List Lf->Type
 |[]=>Unit
 |[a]=>a.den
 |a::b::l=>a.den×Lf.G2 (b::l)
abbrev Na:=List (Sigma Lf.den)
def Lf.mk:(ts:List Lf)->Lf.G2 ts->Na
 |[],_=> []
 |[a],x=> [⟨a,x⟩]
 |a::b::l,x=>⟨a,x.1⟩::Lf.mk (b::l) x.2
theorem Lf.mk_inj:∀(ts:List Lf) (x y:Lf.G2 ts),Lf.mk ts x=Lf.mk ts y->x=y
 |[],_,_,_=>rfl
 |[a],x,y,h=>by
  injection h with h _
  injection h
 |a::b::l,(x,u),(y,v),h=>by
  injection h with h h2
  injection h with _ h
  have h:x=y:=h
  rw[h,Lf.mk_inj (b::l) u v h2]
def ao.leaves:ao->Na
 | .d .unit _=> []
 | .d (.arr _ t) l=> [⟨.d (.slice t),l⟩]
 | .d t x=> [⟨.d t,x⟩]
 | .eW t x=> [⟨.d t,x⟩]
 | .vec _ t l=> [⟨.d (.slice t),l⟩]
 | .mp k v l=> [⟨.d (.slice (.pair k v)),l⟩]
 | .la _ _ k v l _=> [⟨.d (.slice (.pair k v)),l⟩]
 | .mV _ f _=>f.leaves
 | .cv _ _ _ _ _ n=> [⟨.n,n⟩]
 | .pr a b=>a.leaves++b.leaves
 | .cons a b=>a.leaves++b.leaves
 | .fn _ c=>c.leaves
 | .bx _ _ c=>c.leaves
 |_=> []
def c7.leaves:c7->Na
 | .obj _ _ c=>c.leaves
 | .dead=> []
def SA.leaves(s:SA):Na:=s.1.flatMap ao.leaves++s.2.flatMap c7.leaves
def AS.leaves(s:AS):Na:=s.bK.flatMap ao.leaves++(s.bP.flatMap c7.leaves++s.news.flatMap (·.flatMap c7.leaves))
theorem Qt(ts:List Lf){st:Lf.G2 ts->SA}(h:∀d,SA.leaves (st d)=Lf.mk ts d)(d d':Lf.G2 ts)(e:st d=st d'):d=d':=Lf.mk_inj ts d d' (by rw[<-h,<-h,e])
theorem rT(ts:List Lf){st:Lf.G2 ts->AS}(h:∀d,AS.leaves (st d)=Lf.mk ts d)(d d':Lf.G2 ts)(e:st d=st d'):d=d':=Lf.mk_inj ts d d' (by rw[<-h,<-h,e])
def Entry.jG{D X Y:Type}(params:List (Option Ty))(st:D->SA)(bf:D->Prop)(add:D->Y->X)(F:D->Y)(out:X->iq):Entry:=Entry.of params st bf (λd=>add d (F d)) out
def eS.jG{D X Y:Type}(st:D->AS)(bf:D->Prop)(add:D->Y->X)(F:D->Y)(out:X->Out (Exit×AS)):eS:=eS.of st bf (λd=>add d (F d)) out
def Kh{D:Type}(E:Entry)(st:D->SA):D->Option E.X:=λd=>E.run (st d).1 (st d).2
def mz{D:Type}(E:eS)(st:D->AS):D->Option E.X:=λd=>E.run (st d)
abbrev o9{D X Y:Type}(call:D->Option X)(bf:D->Prop)(add:D->Y->X)(F:D->Y):Prop:=∀ {d:D},bf d->call d=some (add d (F d))
theorem QF{D X Y:Type}{params:List (Option Ty)}{st:D->SA}{bf:D->Prop}{add:D->Y->X}{F:D->Y}{out:X->iq}(Ed:∀d d',st d=st d'->d=d'):
  o9 (Kh (Entry.jG params st bf add F out) st) bf add F:=λh=>Entry.pU Ed h
theorem rW{D X Y:Type}{st:D->AS}{bf:D->Prop}{add:D->Y->X}{F:D->Y}{out:X->Out (Exit×AS)}(Ed:∀d d',st d=st d'->d=d'):
  o9 (mz (eS.jG st bf add F out) st) bf add F:=λh=>eS.pU Ed h
def Jp(P:Program)(fn:Func):Bool:=P.follows .mixedOrders && fn.body.isSome && !(fn.name== "runtime.NumGoroutine")
def HG(fn:Func):Nat:=match fn.body with | some c=>(gU c).length | none=>0
theorem j2.fn{P:Program}{l:List (SG P)}{f:FuncId}{fn:Func}{an:rZ}{N:Nat}{D X Y:Type}{params:List (Option Ty)}{st:D->SA}{bf:D->Prop}{add:D->Y->X}{F:D->Y}{out:X->iq}(n:Nat)
  (hc:(P.funcs[f]?,Jp P fn,HG fn)=(some fn,true,n))
  (h:M7 (@Ja P (oO l) an N fn D st) bf add F out)
  (hL:IX P (oO l) an N fn n 0) (I1:an.nN=none:=by exact rfl):j2 P f (Entry.jG params st bf add F out):=by
 injection hc with h1 h2
 injection h2 with h2 h3
 unfold Jp at h2
 simp only[ae,bt]at h2
 exact j2.of h2.1.1 (Sound.oO l) h1 h2.1.2 h2.2 (mf.fn n h3 hL) h I1
theorem vN.fn{P:Program}{l:List (SG P)}{y:Nat}{an:rZ}{N:Nat}{D X Y:Type}{params:List (Option Ty)}{st:D->SA}{bf:D->Prop}{add:D->Y->X}{F:D->Y}{out:X->iq}(n:Nat)
  (hc:(P.follows .mixedOrders,HG (KX P y))=(true,n))
  (h:M7 (@Ja P (oO l) an N (KX P y) D st) bf add F out)
  (hL:IX P (oO l) an N (KX P y) n 0) (I1:an.nN=some y):vN P y (Entry.jG params st bf add F out):=by
 injection hc with h1 h2
 refine vN.pU h1 (Sound.oO l) (fn:=KX P y) (mf.fn (fn:=KX P y) n h2 hL _ rfl) (λargs bP x hx=> ?_) I1
 obtain⟨d,e1,e2,rfl⟩:=Fy hx
 have:=h d e2
 unfold Ja at this
 rw[e1]at this
 exact this
theorem G6.jG{P:Program}{Γ:mU}{an:rZ}{N:Nat}{fn:Func}{i:Nat}{D X Y:Type}{st:D->AS}{bf:D->Prop}{add:D->Y->X}{F:D->Y}{out:X->Out (Exit×AS)}
  (h:qq P Γ an N fn i st bf add F out) (hle:an.jK (de (kL fn i))=some (eS.jG st bf add F out):=by kernel_rfl):G6 P Γ an N (kL fn i):=G6.of hle h
abbrev K1(R:Type):=iq->Option R
abbrev K2(R:Type):=AS->Option R
abbrev K3(R:Type):=Exit->AS->Option R
@[reducible] def bS{D Y:Type}(_:D)(y:Y):Y:=y
structure Ls{D Y X:Type}(bf:D->Prop)(add:D->Y->X)(F:D->Y) where
 st:D->AS
 ex:X->Exit×AS
noncomputable def so{D Y X:Type}{bf:D->Prop}{add:D->Y->X}{F:D->Y}(st:D->AS)(ex:X->Exit×AS):Ls bf add F:=⟨st,ex⟩
section
variable {D Y X:Type} {bf:D->Prop} {add:D->Y->X} {F:D->Y} (L:Ls bf add F)
def Ls.out:X->Out (Exit×AS):=λx=> .ok (L.ex x)
def Ls.E:eS:=eS.jG L.st bf add F L.out
def Ls.call:D->Option X:=mz L.E L.st
abbrev Ls.go{R:Type}(kx:K3 R)(x:X):Option R:=kx (L.ex x).1 (L.ex x).2
abbrev Ls.RS:Prop:=o9 L.call bf add F
end
theorem rL(ts:List Lf){Y X:Type}{bf:Lf.G2 ts->Prop}{add:Lf.G2 ts->Y->X}{F:Lf.G2 ts->Y}(L:Ls bf add F)(h:∀d,AS.leaves (L.st d)=Lf.mk ts d:=by exact λ_=>by kernel_rfl):o9 L.call bf add F:=rW (rT ts h)
structure Fs(P:Program){D Y X:Type}(bf:D->Prop)(add:D->Y->X)(F:D->Y) where
 i:FuncId
 fn:Func
 st:D->SA
 out:X->iq
 ps:List (Option Ty)
 G:List (SG P)
 an:rZ
 N:Nat
noncomputable def fS{P:Program}{D Y X:Type}{bf:D->Prop}{add:D->Y->X}{F:D->Y}(i:FuncId)(fn:Func)(st:D->SA)(out:X->iq)(ps:List (Option Ty))(G:List (SG P):=[])(an:rZ:= {})(N:Nat:=0):Fs P bf add F:=⟨i,fn,st,out,ps,G,an,N⟩
section
variable {P:Program} {D Y X:Type} {bf:D->Prop} {add:D->Y->X} {F:D->Y} (f:Fs P bf add F) {D' Y' X':Type} {Pre':D'->Prop} {add':D'->Y'->X'} {F':D'->Y'}
def Fs.A{R:Type}(d:D)(k:K1 R):Option R:=Ja P (oO f.G) f.an f.N f.fn f.st d k
def Fs.R(i:Nat)(L:Ls Pre' add' F'){R:Type}(d:D')(kn:K2 R)(kx:K3 R):Option R:=jC P (oO f.G) f.an f.N f.fn i L.st d kn kx
abbrev Fs.Ok:Prop:=∀d,bf d->f.A d some=some (f.out (add d (F d)))
abbrev Fs.mf(i:Nat)(L:Ls Pre' add' F'):Prop:=qq P (oO f.G) f.an f.N f.fn i L.st Pre' add' F' L.out
def Fs.E:Entry:=Entry.jG f.ps f.st bf add F f.out
def Fs.call:D->Option X:=Kh f.E f.st
theorem Fs.nN(i:Nat)(L:Ls Pre' add' F'):O6 (@Fs.R P D Y X bf add F f D' Y' X' Pre' add' F' i L) L.st Pre' add' F' L.ex (f.mf i L):=λ μ h=>Ia (F:=λd=>add' d (F' d)) μ h
abbrev Fs.RS:Prop:=o9 f.call bf add F
def Fs.QG(p:List ao->Bool)(ok:f.Ok)(n:Nat:=0)(hL:IX P (oO f.G) f.an f.N f.fn n 0:=by exact trivial)(hc:(P.funcs[f.i]?,Jp P f.fn,HG f.fn)=(some f.fn,true,n):=by kernel_rfl)(hy:Nat.blt f.i yB=true:=by exact rfl)(hn:f.an.nN=none:=by exact rfl):SG P:=⟨f.i,p,f.E,.of (j2.fn n hc ok hL hn) hy⟩
def Fs.Sf(ok:f.Ok)(n:Nat:=0)(hL:IX P (oO f.G) f.an f.N f.fn n 0:=by exact trivial)(hc:(P.follows .mixedOrders,HG (KX P f.i))=(true,n):=by kernel_rfl)(hf:f.fn=KX P f.i:=by exact rfl)(hy:Nat.ble yB f.i=true:=by exact rfl)(hn:f.an.nN=some f.i:=by exact rfl):SG P:=
 ⟨f.i,wO,f.E,.Sb (vN.fn n hc (by have:=ok;unfold Fs.Ok Fs.A at this;rw[hf]at this;exact this) (by rw[<-hf];exact hL) hn) hy⟩
def Fs.gl(ok:f.Ok)(n:Nat:=0)(hL:IX P (oO f.G) f.an f.N f.fn n 0:=by exact trivial)(hc:(P.funcs[f.i]?,Jp P f.fn,HG f.fn)=(some f.fn,true,n):=by kernel_rfl)(hy:Nat.blt f.i yB=true:=by exact rfl)(hn:f.an.nN=none:=by exact rfl):SG P:=f.QG wO ok n hL hc hy hn
end
theorem rE(ts:List Lf){P:Program}{Y X:Type}{bf:Lf.G2 ts->Prop}{add:Lf.G2 ts->Y->X}{F:Lf.G2 ts->Y}(f:Fs P bf add F)(h:∀d,SA.leaves (f.st d)=Lf.mk ts d:=by exact λ_=>by kernel_rfl):o9 f.call bf add F:=QF (Qt ts h)
abbrev tu:Ty:=(.int .u64)
abbrev ti:Ty:=(.int .i64)
abbrev tb:Ty:=(.int .u8)
abbrev tB:Ty:=(.slice tb)
abbrev Bs:=(List Int)
abbrev tH:Ty:=(.arr 32 tb)
abbrev tU:Ty:=(.slice tu)
abbrev gX:Ty:=(.pair tH (.pair ti .unit))
abbrev jm:=(Bs×(Int×Unit))
abbrev Hf:Ty:=(.pair tu (.pair tu .unit))
abbrev Sg:=(Int×(Int×Unit))
abbrev Oy:Ty:=(.pair ti (.pair (.slice Hf) (.pair tu .unit)))
abbrev DI:=(Int×((List Sg)×(Int×Unit)))
abbrev jL:Ty:=(.pair gX (.pair Oy .unit))
abbrev iG:=(jm×(DI×Unit))
abbrev o6:Ty:=(.pair tU (.pair ti (.pair ti (.pair tu .unit))))
abbrev tw:=(Bs×(Int×(Int×(Int×Unit))))
abbrev wN:Ty:=(.pair (.slice o6) .unit)
abbrev Lk:=((List tw)×Unit)
abbrev lR:Ty:=(.pair ti (.pair wN .unit))
abbrev lS:=(Int×(Lk×Unit))
abbrev nU:Ty:=(.pair (.slice jL) (.pair (.slice lR) (.pair ti .unit)))
abbrev jh:=((List iG)×((List lS)×(Int×Unit)))
abbrev MF:=(Bs×(Bool×Unit))
end Go.Ab
namespace Go.Ab
theorem oq{n:Int}(h1: -9223372036854775808<=n)(h2:n<=9223372036854775807):IntKind.i64.wrap n=n:=by
 simp[IntKind.wrap,IntKind.bits,IntKind.signed]
 split <;> omega
theorem eP{x y:Int}(h1: -9223372036854775808<=x+y)(h2:x+y<=9223372036854775807):bW .i64 x y=x+y:=oq h1 h2
theorem dM{x y:Int}(h1: -9223372036854775808<=x - y)(h2:x - y<=9223372036854775807):df .i64 x y=x - y:=oq h1 h2
theorem pz{x y:Int}(h1: -9223372036854775808<=x*y)(h2:x*y<=9223372036854775807):gu .i64 x y=x*y:=oq h1 h2
theorem Fj{x:Int}(h1: -9223372036854775808<=x)(h2:x<=9223372036854775807):dF .i64 x=x:=oq h1 h2
def vw{n:Nat}(w:BitVec n):Int:=(w.toNat:Int)
theorem jg(n:Nat)(x:Int):vw (BitVec.ofInt n x)=x%((2^n:Nat):Int):=by
 unfold vw
 rw[kB]
 have:0<=x%((2^n:Nat):Int):=fP _ (by have:=Nat.two_pow_pos n;omega)
 omega
theorem AE{n:Nat}(w:BitVec n):0<=vw w:=Int.natCast_nonneg _
theorem KV{n:Nat}(w:BitVec n):vw w < ((2^n:Nat):Int):=by have:=w.isLt;unfold vw;omega
theorem mH{n:Nat}(w:BitVec n):BitVec.ofInt n (vw w)=w:=by
 apply BitVec.eq_of_toNat_eq
 have:=jg n (vw w)
 unfold vw at this ⊢
 have h:=w.isLt
 rw[Int.emod_eq_of_lt (Int.natCast_nonneg _) (by omega)]at this
 omega
theorem wrap_u32(x:Int):IntKind.u32.wrap x=vw (BitVec.ofInt 32 x):=by rw[jg];simp[IntKind.wrap,IntKind.bits,IntKind.signed]
theorem wrap_u64(x:Int):IntKind.u64.wrap x=vw (BitVec.ofInt 64 x):=by rw[jg];simp[IntKind.wrap,IntKind.bits,IntKind.signed]
theorem wrap_u8(x:Int):IntKind.u8.wrap x=vw (BitVec.ofInt 8 x):=by rw[jg];simp[IntKind.wrap,IntKind.bits,IntKind.signed]
theorem ofInt_add(n:Nat)(x y:Int):BitVec.ofInt n (x+y)=BitVec.ofInt n x+BitVec.ofInt n y:=BitVec.ofInt_add ..
theorem xL(x y:BitVec 32):bW .u32 (vw x) (vw y)=vw (x+y):=by rw[bW,wrap_u32,BitVec.ofInt_add,mH,mH]
theorem JF(x:Int):dF .u32 x=vw (BitVec.ofInt 32 x):=wrap_u32 x
theorem JG(x:Int):dF .u64 x=vw (BitVec.ofInt 64 x):=wrap_u64 x
theorem A7(x:Int):dF .u8 x=vw (BitVec.ofInt 8 x):=wrap_u8 x
theorem Ii{n:Nat}(x:BitVec n):BitVec.ofInt n ((x.toNat:Nat):Int)=x:=mH x
theorem rv(op:BinOp)(x y:BitVec 32):di op .u32 (vw x) (vw y)=vw (match op with | .and=>x &&& y | .or=>x ||| y | .xor=>x^^^y | _=>x &&& ~~~y):=by
 unfold di
 split <;> (simp only[IntKind.bits,mH,wrap_u32,Ii];rfl)
theorem FO(op:BinOp)(x y:BitVec 64):di op .u64 (vw x) (vw y)=vw (match op with | .and=>x &&& y | .or=>x ||| y | .xor=>x^^^y | _=>x &&& ~~~y):=by
 unfold di
 split <;> (simp only[IntKind.bits,mH,wrap_u64,Ii];rfl)
theorem HF(x y:Nat):Int.fdiv (x:Int) (y:Int)=((x / y:Nat):Int):=by
 rw[Int.fdiv_eq_ediv_of_nonneg _ (Int.natCast_nonneg _)]
 rfl
theorem uK(k:Nat):(2:Int)^k=((2^k:Nat):Int):=by simp
theorem Ms{n:Nat}(w:BitVec n)(k:Nat):Int.fdiv (vw w) (2^(min k n))=vw (w >>> k):=by
 rw[uK]
 unfold vw
 rw[HF,BitVec.toNat_ushiftRight,Nat.shiftRight_eq_div_pow]
 congr 1
 rcases Nat.le_total k n with hk | hk
 ·rw[dY hk]
 ·rw[Nat.min_eq_right hk,Nat.div_eq_of_lt w.isLt,Nat.div_eq_of_lt]
  exact kE w.isLt (Nat.pow_le_pow_right (by omega) hk)
theorem xR(w:BitVec 32)(k:Int):bZ .u32 (vw w) k=vw (w >>> k.toNat):=Ms w k.toNat
theorem Mr{n:Nat}(w:BitVec n)(k:Nat):BitVec.ofInt n (vw w*2^(min k n))=w <<< k:=by
 apply BitVec.eq_of_toNat_eq
 rw[kB,BitVec.toNat_shiftLeft,Nat.shiftLeft_eq]
 unfold vw
 rw[uK]
 have e:((w.toNat:Int)*((2^min k n:Nat):Int))=((w.toNat*2^min k n:Nat):Int):=by simp
 rw[e]
 have:(((w.toNat*2^min k n:Nat):Int)%((2^n:Nat):Int)).toNat=(w.toNat*2^min k n)%2^n:=by omega
 rw[this]
 rcases Nat.le_total k n with hk | hk
 ·rw[dY hk]
 ·rw[Nat.min_eq_right hk,Nat.mul_mod_left]
  obtain⟨m,rfl⟩:=Nat.exists_eq_add_of_le hk
  rw[Nat.pow_add,<-Nat.mul_assoc,Nat.mul_right_comm,Nat.mul_mod_left]
theorem Cx(w:BitVec 32)(k:Int):lP .u32 (vw w) k=vw (w <<< k.toNat):=by rw[lP,wrap_u32];congr 1;exact Mr w k.toNat
theorem bM{i n:Int}(h1:0<=i)(h2:i < n):gK i n=true:=by simp[gK,h1,h2]
theorem jF{i n:Int}(h1:0<=i)(h2:i<=n):inc i n=true:=by simp[inc,h1,h2]
theorem bq{x y:Int}(h:x < y):ju x y=true:=by simp[ju,h]
theorem bn{x y:Int}(h:¬x < y):ju x y=false:=by simp[ju];omega
theorem ki{x y:Int}(h:x<=y):Ct x y=true:=by simp[Ct,h]
theorem iy{x y:Int}(h:¬x<=y):Ct x y=false:=by simp[Ct];omega
theorem db{x y:Int}(h:x > y):pv x y=true:=by simp[pv];omega
theorem cR{x y:Int}(h:¬x > y):pv x y=false:=by simp[pv];omega
theorem fH{x y:Int}(h:x>=y):pN x y=true:=by simp[pN];omega
theorem eg{x y:Int}(h:¬x>=y):pN x y=false:=by simp[pN];omega
theorem ja{x y:Int}(h:x=y):Ac x y=true:=by simp[Ac,h]
theorem gP{x y:Int}(h:¬x=y):Ac x y=false:=by simp[Ac,h]
theorem iA{x y:Int}(h:¬x=y):wV x y=true:=by simp[wV,h]
theorem e7{x y:Int}(h:x=y):wV x y=false:=by simp[wV,h]
theorem oZ{x:Int}(h:0<=x):lF x=true:=by simp[lF,h]
theorem aY{p:Prop} [Decidable p] (h:p):decide p=true:=by simp[h]
theorem cg{p:Prop} [Decidable p] (h:¬p):decide p=false:=by simp[h]
theorem fN{n b:Nat}(h:n*b<=140737488355328)(h2:n<=9223372036854775807):dK n b=true:=by simp[dK,h,h2]
def from_{α:Type}(f:Nat->α->α)(t:Nat)(l:List α):List α:=l.mapIdx λi x=>if i < t then x else f i x
theorem zV{α:Type}(f:Nat->α->α)(l:List α)(t:Nat)(h:t < l.length):from_ f (t+1) (l.set t (f t l[t]))=from_ f t l:=by
 unfold from_
 apply List.ext_getElem (by simp)
 intro i h1 h2
 simp only[List.getElem_mapIdx,List.getElem_set]
 by_cases hi:t=i
 ·subst hi;simp
 ·simp only[if_neg hi]
  by_cases h3:i < t
  ·rw[if_pos (by omega),if_pos h3]
  ·rw[if_neg (by omega),if_neg h3]
theorem Ci{α:Type}(f:Nat->α->α)(l:List α)(t:Nat)(h:l.length<=t):from_ f t l=l:=by
 unfold from_
 apply List.ext_getElem (by simp)
 intro i h1 h2
 simp only[List.getElem_mapIdx]
 rw[if_pos (by omega)]
theorem xz{α:Type}(f:Nat->α->α)(n:Nat)(x:α):from_ f 0 (List.replicate n x)=(List.range n).map λi=>f i x:=by
 unfold from_
 apply List.ext_getElem (by simp)
 intro i h1 h2
 simp
theorem dR{t:Ty}{l:List t.den}{i:Nat}(h:i < l.length):nth t l i=l[i]:=by simp[nth,h]
end Go.Ab
namespace Go.Ab.N
section
variable {α:Type} {x y:Option α} {a b n:Nat} {i j:Int}
theorem lt:aO (ju i j) x y=if i < j then x else y:=by unfold ju;split <;> rename_i h <;> simp[h]
theorem le:aO (Ct i j) x y=if i<=j then x else y:=by unfold Ct;split <;> rename_i h <;> simp[h]
theorem gt:aO (pv i j) x y=if j < i then x else y:=by unfold pv;split <;> rename_i h <;> simp[h]
theorem ge:aO (pN i j) x y=if j<=i then x else y:=by unfold pN;split <;> rename_i h <;> simp[h]
theorem eq:aO (Ac i j) x y=if i=j then x else y:=by
 by_cases h:i=j
 ·rw[ja h,if_pos h];rfl
 ·rw[gP h,if_neg h];rfl
theorem ne:aO (wV i j) x y=if i=j then y else x:=by
 by_cases h:i=j
 ·rw[e7 h,if_pos h];rfl
 ·rw[iA h,if_neg h];rfl
theorem ib:aO (gK i j) x y=if 0<=i/\i < j then x else y:=by unfold gK;split <;> rename_i h <;> simp[h]
theorem ic:aO (inc i j) x y=if 0<=i/\i<=j then x else y:=by unfold inc;split <;> rename_i h <;> simp[h]
theorem nn:aO (lF i) x y=if 0<=i then x else y:=by unfold lF;split <;> rename_i h <;> simp[h]
theorem nz:aO (ky i) x y=if i=0 then y else x:=by unfold ky;split <;> rename_i h <;> simp[h]
theorem dc{p:Prop} [Decidable p]:aO (decide p) x y=if p then x else y:=by split <;> rename_i h <;> simp[h]
theorem rm:aO (dK n b) x y=if n*b<=140737488355328/\n<=9223372036854775807 then x else y:=by unfold dK;exact dc
theorem an{c d:Bool}:aO (c && d) x y=aO c (aO d x y) y:=by cases c <;> rfl
theorem or{c d:Bool}:aO (c || d) x y=aO c x (aO d x y):=by cases c <;> rfl
theorem no{c:Bool}:aO (!c) x y=aO c y x:=by cases c <;> rfl
theorem OI(h:a+b<=9223372036854775807):bW .i64 (a:Int) (b:Int)=((a+b:Nat):Int):=by rw[eP (by omega) (by omega)];omega
theorem rO(h:a+OfNat.ofNat n<=9223372036854775807):bW .i64 (a:Int) (no_index (OfNat.ofNat n))=((a+OfNat.ofNat n:Nat):Int):=OI h
theorem QQ(h:OfNat.ofNat n+a<=9223372036854775807):bW .i64 (no_index (OfNat.ofNat n)) (a:Int)=((OfNat.ofNat n+a:Nat):Int):=OI h
theorem O1(h:b<=a)(h2:a<=9223372036854775807):df .i64 (a:Int) (b:Int)=((a - b:Nat):Int):=by rw[dM (by omega) (by omega)];omega
theorem Rj(h:OfNat.ofNat n<=a)(h2:a<=9223372036854775807):df .i64 (a:Int) (no_index (OfNat.ofNat n))=((a - OfNat.ofNat n:Nat):Int):=O1 h h2
theorem Ri(h:a<=OfNat.ofNat n)(h2:(OfNat.ofNat n:Nat)<=9223372036854775807):df .i64 (no_index (OfNat.ofNat n)) (a:Int)=((OfNat.ofNat n - a:Nat):Int):=O1 h h2
theorem OZ(h:a*b<=9223372036854775807):gu .i64 (a:Int) (b:Int)=((a*b:Nat):Int):=by
 have e:(a:Int)*(b:Int)=((a*b:Nat):Int):=by simp
 rw[pz (by omega) (by omega),e]
theorem Rf(h:a*OfNat.ofNat n<=9223372036854775807):gu .i64 (a:Int) (no_index (OfNat.ofNat n))=((a*OfNat.ofNat n:Nat):Int):=OZ h
theorem Re(h:OfNat.ofNat n*a<=9223372036854775807):gu .i64 (no_index (OfNat.ofNat n)) (a:Int)=((OfNat.ofNat n*a:Nat):Int):=OZ h
theorem Qx(h:a<=9223372036854775807):pg .i64 (a:Int) (b:Int)=((a / b:Nat):Int):=by
 have:(a:Int).tdiv (b:Int)=((a / b:Nat):Int):=by rw[gw (by omega)];simp
 have hl:a / b<=a:=Nat.div_le_self a b
 unfold pg
 rw[this]
 generalize a / b=c at hl
 exact oq (by omega) (by omega)
theorem Rg(h:a<=9223372036854775807):pg .i64 (a:Int) (no_index (OfNat.ofNat n))=((a / OfNat.ofNat n:Nat):Int):=Qx h
theorem Qy:nH (a:Int) (b:Int)=((a%b:Nat):Int):=by
 unfold nH
 rw[fc (by omega)]
 simp
theorem Rh:nH (a:Int) (no_index (OfNat.ofNat n))=((a%OfNat.ofNat n:Nat):Int):=Qy
theorem cN(h:a<=9223372036854775807):dF .i64 (a:Int)=(a:Int):=Fj (by omega) (by omega)
theorem cL(h:(OfNat.ofNat n:Nat)<=9223372036854775807):dF .i64 (no_index (OfNat.ofNat n))=OfNat.ofNat n:=cN h
theorem tL:Int.toNat (no_index (OfNat.ofNat n))=OfNat.ofNat n:=rfl
end
end Go.Ab.N
namespace Go.Ab
section
variable {P:Program}
theorem HC{E E':Env}(h1:E'.w=E.w)(h2:E'.g=E.g)(h3:E'.β=E.β)(h4:E'.s=E.s):E'=E:=by
 obtain⟨a,b,c,d⟩:=E
 obtain⟨a',b',c',d'⟩:=E'
 simp only at h1 h2 h3 h4
 subst h1 h2 h3 h4
 rfl
theorem ng.same{w:World}{g:Nat->iO}{β:Id->Option Pl}{bP:List c7}{a:ao}{v:Value}(hv:VS ((eE bP).env w g β) a v)(ho:fF ((eE bP).env w g β)):
  ng ((eE bP).env w g β) ⟨a,bP,[]⟩ v w:=by
 have hE:(iq.st ⟨a,bP,[]⟩).env w g β=(eE bP).env w g β:=by
  refine HC rfl rfl rfl ?_
  funext id
  cases id with
  |c8 k=>rfl
  |new i j=>
   show([([]:List c7)].getD i [])[j]? =(([]:List (List c7)).getD i [])[j]?
   cases i <;> rfl
 refine⟨g,β,?_⟩
 rw[hE]
 exact⟨hv,ho,Trans.refl w g,bV.refl _⟩
theorem j2.extern{f:FuncId}{fn:Func}{e:Array Value->Sem Value}(hf:P.funcs[f]? =some fn)(qM:(fn.name== "runtime.NumGoroutine")=false)(hb:fn.body.isNone=true)(hn:Extern.findNext fn=none)(he:Extern.find fn=some e){en:Entry}
  (h:∀w g β args bP hJ x,oP ((eE bP).env w g β) args hJ->fF ((eE bP).env w g β)->en.run args bP=some x->∃v,(e hJ.toArray).run P w= .ok v w/\ng ((eE bP).env w g β) (en.out args bP x) v w):j2 P f en:=by
 intro w g β args bP hJ x h1 h2 h3
 obtain⟨v,h4,h5⟩:=h w g β args bP hJ x h1 h2 h3
 refine .inr ⟨v,w,?_,h5⟩
 rw[run_callFunc_extern hf qM hb hn he,h4]
 rfl
def KM.E:Entry:= {params:=[none],X:=Unit,run:=λargs _=>match args with | [_]=>some () | _=>none,out:=λargs bP _=>⟨args.headD .undef,bP,[]⟩}
theorem KM.of{f:FuncId}{fn:Func}(hf:P.funcs[f]? =some fn)(qM:(fn.name== "runtime.NumGoroutine")=false)(hb:fn.body.isNone=true)(hn:Extern.findNext fn=none)(he:Extern.find fn=some Extern.AbiNoEscape.same):j2 P f KM.E:=by
 refine j2.extern hf qM hb hn he λw g β args bP hJ x h1 h2 h3=> ?_
 cases args with
 |nil=>cases h3
 |cons a as=>
  cases as with
  |cons _ _=>cases h3
  |nil=>
   cases hJ with
   |nil=>exact h1.elim
   |cons v vs=>
    obtain⟨h4,h5⟩:=h1
    cases vs with
    |cons _ _=>exact h5.elim
    |nil=>exact⟨v,rfl,ng.same h4 h2⟩
theorem Aw{w:World}:∀(xs:List Int) (a:Addr) (acc:ByteArray),(∀j x,xs[j]? =some x->w.cell? (a.add j)=some (.int .u8 x))->
  (Extern.Bytes.loadBytes a xs.length acc).run P w= .ok ⟨acc.data++(xs.map λn=>UInt8.ofNat n.toNat).toArray⟩ w
 |[],a,acc,_=>by simp[Extern.Bytes.loadBytes]
 |x::l,a,acc,h=>by
  have h0:w.cell? a=some (.int .u8 x):=by
   have:=h 0 x rfl
   simpa[Addr.add]using this
  have ih:=Aw l (a.add 1) (acc.push x.toNat.toUInt8) (λj y hy=>by
   have:=h (j+1) y (by simpa using hy)
   have e:(a.add 1).add j=a.add (j+1):=by
    unfold Addr.add
    by_cases hj:j=0
    ·subst hj;simp
    ·simp[hj];omega
   rw[e];exact this)
  simp only[aC,Extern.Bytes.loadBytes,Sem.run_bind,run_load,h0,Result.andThen]
  rw[ih]
  congr 1
  apply ByteArray.ext
  simp[ByteArray.push]
theorem yG{E:Env}{l:List Int}{y:Value}(h:VS E (.d (.slice (.int .u8)) l) y):(Extern.Bytes.bytesOf y).run P E.w= .ok (dT l) E.w:=by
 obtain⟨a,cap,vs,rfl,_,hs,na,mi⟩:=lJ h
 have tP:=mA (k:= .u8) (vs:=vs) (l:=l) mi
 cases a with
 |none=>
  have hl:l=[]:=by
   cases l with
   |nil=>rfl
   |cons _ _=>simp at hs
  subst hl
  rfl
 |some ad=>
  have HL:=Aw (P:=P) (w:=E.w) l ad .empty λj x hx=>by
   obtain⟨b,off,e,hh⟩:=na j (.int .u8 x) (by rw[tP];simp[hx])
   have e:ad=⟨b,off,none⟩:=by simpa using e
   subst e
   have h1:=hh.1
   unfold Addr.add
   by_cases hj:j=0
   ·subst hj;simpa using h1
   ·simpa[hj]using h1
  show(Extern.Bytes.loadBytes ad l.length .empty).run P E.w=_
  rw[HL]
  congr 1
  apply ByteArray.ext
  simp[dT]
def xk(a b:List Int):Int:=Extern.BytealgCompare.cmp (dT a) (dT b)
def E7.E:Entry:=Entry.of (D:=List Int×List Int) (X:=Int) [some (.slice (.int .u8)),some (.slice (.int .u8))] (λd=>([.d (.slice (.int .u8)) d.1,.d (.slice (.int .u8)) d.2],[])) (λ_=>True) (λd=>xk d.1 d.2) (λx=>⟨.d (.int .i64) x,[],[]⟩)
theorem E7.inj:∀d d':List Int×List Int,(([ao.d (.slice (.int .u8)) d.1,ao.d (.slice (.int .u8)) d.2],([]:List c7)):List ao×List c7)=([.d (.slice (.int .u8)) d'.1,.d (.slice (.int .u8)) d'.2],[])->d=d':=by
 rintro⟨a,b⟩ ⟨a',b'⟩ h
 have e1:a=a':=Ki (t:= .slice (.int .u8)) (congrArg (λs:List ao×List c7=>s.1.getD 0 .undef) h)
 have e2:b=b':=Ki (t:= .slice (.int .u8)) (congrArg (λs:List ao×List c7=>s.1.getD 1 .undef) h)
 rw[e1,e2]
def E7.call:List Int×List Int->Option Int:=λd=>E7.E.run [.d (.slice (.int .u8)) d.1,.d (.slice (.int .u8)) d.2] []
theorem E7.run(d:List Int×List Int):E7.call d=some (xk d.1 d.2):=Entry.pU (d:=d) E7.inj trivial
theorem E7.of{f:FuncId}{fn:Func}(hf:P.funcs[f]? =some fn)(qM:(fn.name== "runtime.NumGoroutine")=false)(hb:fn.body.isNone=true)(hn:Extern.findNext fn=none)(he:Extern.find fn=some Extern.BytealgCompare.compare):j2 P f E7.E:=by
 refine j2.extern hf qM hb hn he λw g β args bP hJ x h1 h2 h3=> ?_
 have hx:∃d:List Int×List Int,(([ao.d (.slice (.int .u8)) d.1,ao.d (.slice (.int .u8)) d.2],([]:List c7)):List ao×List c7)=(args,bP):=by
  by_cases hh:∃d:List Int×List Int,(([ao.d (.slice (.int .u8)) d.1,ao.d (.slice (.int .u8)) d.2],([]:List c7)):List ao×List c7)=(args,bP)
  ·exact hh
  ·exfalso
   have hn:E7.E.run args bP=none:=dif_neg λ⟨d,h,_⟩=>hh ⟨d,h⟩
   rw[hn]at h3
   cases h3
 obtain⟨d,hd⟩:=hx
 simp only[bY]at hd
 obtain⟨rfl,rfl⟩:=hd
 have hr:=E7.run d
 have hx:x=xk d.1 d.2:=aN (h3.symm.trans hr)
 subst hx
 match hJ,h1 with
 |[u,v],⟨h4,h5,_⟩=>
  refine⟨.int .i64 (xk d.1 d.2),?_,ng.same (gY _ _) h2⟩
  have e1:=yG (P:=P) h4
  have e2:=yG (P:=P) h5
  have e1:(Extern.Bytes.bytesOf u).run P w= .ok (dT d.1) w:=e1
  have e2:(Extern.Bytes.bytesOf v).run P w= .ok (dT d.2) w:=e2
  have LH:Extern.BytealgCompare.compare [u,v].toArray=(do let a <-Extern.Bytes.bytesOf u;let b <-Extern.Bytes.bytesOf v;pure (goInt (Extern.BytealgCompare.cmp a b))):=rfl
  rw[LH]
  simp[e1,e2,goInt,xk]
def Pa{X Y:Type} [Inhabited Y] (x:Option X):Option (X×Y):=aA x λy=>some (y,default)
def Pb{X Y:Type} [Inhabited X] (x:Option Y):Option (X×Y):=aA x λy=>some (default,y)
@[simp] theorem MG{X Y:Type} [Inhabited Y] (x:X):Pa (Y:=Y) (some x)=some (x,default):=rfl
@[simp] theorem MH{X Y:Type} [Inhabited X] (x:Y):Pb (X:=X) (some x)=some (default,x):=rfl
def Entry.half(params:List (Option Ty)){X Z:Type}(run:List ao->List c7->Option X)(out:List ao->List c7->X->iq)(i:Z->X)(p:X->Option Z):Entry:=
 {params,X:=Z,run:=λa o=>(run a o).bind p,out:=λa o z=>out a o (i z)}
def lT{X Z:Type}(p:X->Option Z)(x:Option X):Option Z:=x.bind p
theorem j2.half{f:FuncId}{params:List (Option Ty)}{X Z:Type}{run:List ao->List c7->Option X}{out:List ao->List c7->X->iq}{i:Z->X}{p:X->Option Z}(hp:∀x z,p x=some z->x=i z)
  (h:j2 P f {params,X,run,out}):j2 P f (Entry.half params run out i p):=by
 intro w g β args bP hJ z h3 h4 h5
 have h5:(run args bP).bind p=some z:=h5
 cases hr:run args bP with
 |none=>rw[hr]at h5;cases h5
 |some x=>
  rw[hr]at h5
  obtain rfl:=hp x z h5
  exact h w g β args bP hJ (i z) h3 h4 hr
end
theorem S1:(type_of% @N.lt)/\(type_of% @N.le)/\(type_of% @N.gt)/\(type_of% @N.ge)/\(type_of% @N.eq)/\(type_of% @N.ne)/\(type_of% @N.ib)/\(type_of% @N.ic)/\(type_of% @N.nn)/\(type_of% @N.nz)/\(type_of% @N.dc)/\(type_of% @N.rm)/\(type_of% @N.an)/\(type_of% @N.or)/\(type_of% @N.no)/\(type_of% @aj)/\(type_of% @aq)/\(type_of% @ah):=⟨@N.lt,@N.le,@N.gt,@N.ge,@N.eq,@N.ne,@N.ib,@N.ic,@N.nn,@N.nz,@N.dc,@N.rm,@N.an,@N.or,@N.no,@aj,@aq,@ah⟩
theorem S2:(type_of% @ah)/\(type_of% @N.OI)/\(type_of% @N.rO)/\(type_of% @N.QQ)/\(type_of% @N.O1)/\(type_of% @N.Rj)/\(type_of% @N.Ri)/\(type_of% @N.OZ)/\(type_of% @N.Rf)/\(type_of% @N.Re)/\(type_of% @N.Qx)/\(type_of% @N.Rg)/\(type_of% @N.Qy)/\(type_of% @N.Rh)/\(type_of% @N.cN)/\(type_of% @N.cL)/\(type_of% @N.tL)/\(type_of% @aa)/\(type_of% @and_self)/\(type_of% @true_and)/\(type_of% @and_true):=⟨@ah,@N.OI,@N.rO,@N.QQ,@N.O1,@N.Rj,@N.Ri,@N.OZ,@N.Rf,@N.Re,@N.Qx,@N.Rg,@N.Qy,@N.Rh,@N.cN,@N.cL,@N.tL,@aa,@and_self,@true_and,@and_true⟩
end Go.Ab
namespace Go.Ab
open Go.ChangeShapes Go.WideShapes Go.ChangeAt Go.RowKit Go.Deep
def Dv:(t:Ty)->t.den->Prop
 | .int k,x=>(Lit.int k x).wf=true
 | .bool,_=>True
 | .str,s=>(s:ByteArray).size<=maxLen
 | .slice t,l=>(l:List t.den).length<=maxLen/\∀x∈(l:List t.den),Dv t x
 | .unit,_=>True
 | .pair a b,x=>Dv a x.1/\Dv b x.2
 | .arr n t,l=>(l:List t.den).length=n/\∀x∈(l:List t.den),Dv t x
 | .fm _,_ | .lu _,_=>False
def og(P:Program)(rd:TypeId->Ty->Bool):Nat->List Field->Ty->Bool
 |_,[],.unit=>true
 |off,f::fs,.pair a b=>Nat.beq f.offset off && (rd f.type a && (Nat.beq (P.cellsOf f.type) a.size && og P rd (off+a.size) fs b))
 |_,_,_=>false
def po(P:Program):Nat->TypeId->Ty->Bool
 | 0,_,_=>false
 |n+1,T,ty=>
  match P.underlying T,ty with
  |some (.int k),.int k'=>decide (k=k')
  |some .bool,.bool=>true
  |some .string,.str=>true
  |some (.slice e),.slice t=>po P n e t && Nat.beq (P.cellsOf e) t.size
  |some (.array k e),.arr k' t=>Nat.beq k k' && (po P n e t && (Nat.beq (P.cellsOf e) t.size && Nat.beq (P.cellsOf T) (k*t.size)))
  |some (.struct fs),ty=>og P (po P n) 0 fs.toList ty && Nat.beq (P.cellsOf T) ty.size
  |_,_=>false
theorem Je{a b:Nat}:(Nat.beq a b=true)=(a=b):=propext ⟨dE,λh=>by subst h;exact Nat.beq_refl a⟩
theorem CI{α β:Type}{f:α->Option β}:∀ {l:List α} {r:List β},l.mapM f=some r->r.length=l.length/\∀(i:Nat) (x:α),l[i]? =some x->f x=r[i]?
 |[],r,h=>by
  simp only[List.mapM_nil,Option.pure_def,al]at h
  subst h
  exact⟨rfl,λi x h=>by simp at h⟩
 |y::l,r,h=>by
  simp only[List.mapM_cons,Option.bind_eq_bind,Option.pure_def,Option.bind_eq_some_iff,al]at h
  obtain⟨b,hb,r',hr,rfl⟩:=h
  obtain⟨h1,h2⟩:=CI hr
  refine⟨by simp[h1],λi x hi=> ?_⟩
  cases i with
  |zero=>
   simp only[ef,al]at hi
   subst hi
   simpa using hb
  |succ i=>
   simp only[iu]at hi ⊢
   exact h2 i x hi
theorem FW{w:World}{base:Nat}{a:Addr}{n:Nat}{cs:List Value}(h:w.cells? base a n=some cs):cs.length=n/\∀i,i < n->w.cell? (a.add i)=cs[i]? :=by
 unfold World.cells? at h
 split at h
 ·obtain⟨h1,h2⟩:=CI h
  exact⟨by simpa using h1,λi hi=>h2 i i (by simp[hi])⟩
 ·cases h
theorem add_add(a:Addr)(x y:Nat):(a.add x).add y=a.add (x+y):=by
 unfold Addr.add
 by_cases hx:x=0 <;> by_cases hy:y=0 <;> simp[hx,hy,dB]
theorem GU{w:World}{a:Addr}{v:Value}(h:w.cell? a=some v):a.spot=none:=by
 unfold World.cell? at h
 split at h
 ·split at h
  ·cases h
  ·rename_i hs
   cases hh:a.spot with
   |none=>rfl
   |some _=>simp[hh]at hs
 ·cases h
theorem Mp{E:Env}(hg:∀b,E.g b= .free){a:Addr}{vs:List Value}(h:∀i,i < vs.length->E.w.cell? (a.add i)=vs[i]?):qg E (some a) vs:=by
 intro i v hv
 have hi:i < vs.length:=(cT.1 hv).1
 have h0:=h 0 (by omega)
 rw[bO (by omega)]at h0
 have hs:a.spot=none:=GU (a:=a) (by simpa[Addr.add]using h0)
 obtain⟨b,off,sp⟩:=a
 simp only at hs
 subst hs
 refine⟨b,off,rfl,?_,?_⟩
 ·have:=h i hi
  rw[hv]at this
  rw[<-this]
  unfold Addr.add
  split
  ·rename_i h;subst h;rfl
  ·rfl
 ·unfold lQ
  rw[hg b]
  trivial
section
variable {H:Type} {enc:TypeId×Value->H} {P:Program} {base:Nat} {spare:Nat->Bool} {held:Bool} {E:Env}
theorem FB{t:Ty}{R:List Value->t.den->Prop}{G:t.den->Prop}{w:World}{a:Addr}{z:Nat}(hR:∀c x,R c x->c.length=z):∀(len:Nat),(∀i,i < len->∃c x,R c x/\G x/\∀j,j < z->w.cell? (a.add (i*z+j))=c[j]?)->
  ∃(vs:List Value) (l:List t.den),vs.length=len*z/\l.length=len/\(∀i,i < vs.length->w.cell? (a.add i)=vs[i]?)/\aM R vs l/\∀x∈l,G x
 | 0,_=>⟨[],[],by simp,rfl,λi h=>by simp at h,rfl,λ_ h=>by cases h⟩
 |len+1,h=>by
  obtain⟨vs,l,h1,h2,h3,h4,h5⟩:=FB hR len λi hi=>h i (by omega)
  obtain⟨c,x,g1,g2,g3⟩:=h len (by omega)
  have hc:=hR c x g1
  refine⟨vs++c,l++ [x],by rw[au,h1,hc,dn,iH],by rw[au,h2];rfl,λi hi=> ?_,aM.append h4 ⟨c,[],by simp,g1,rfl⟩,λy hy=> ?_⟩
  ·rw[au,h1,hc]at hi
   by_cases hl:i < vs.length
   ·rw[h3 i hl,dO hl]
   ·rw[List.getElem?_append_right (by omega),h1,<-g3 (i - len*z) (by omega),show len*z+(i - len*z)=i by omega]
  ·rcases aX.1 hy with hy | hy
   ·exact h5 y hy
   ·rw[bD.1 hy];exact g2
theorem zK{t:Ty}{R:List Value->t.den->Prop}{G:t.den->Prop}{z:Nat}:∀(n:Nat) (cs:List Value),cs.length=n*z->(∀i,i < n->∃x,R ((cs.drop (i*z)).take z) x/\G x)->
  ∃l:List t.den,l.length=n/\aM R cs l/\∀x∈l,G x
 | 0,cs,h,_=>⟨[],rfl,aJ (by simpa using h),λ_ h=>by cases h⟩
 |n+1,cs,h,hi=>by
  obtain⟨x,g1,g2⟩:=hi 0 (by omega)
  obtain⟨l,h1,h2,h3⟩:=zK (R:=R) (G:=G) (z:=z) n (cs.drop z) (by rw[cH,h,dn];omega) λi NN=>by
   obtain⟨y,k1,k2⟩:=hi (i+1) (by omega)
   refine⟨y,?_,k2⟩
   rw[eu,show z+i*z=(i+1)*z by rw[dn];omega]
   exact k1
  refine⟨x::l,by simp[h1],⟨cs.take z,cs.drop z,(cQ z cs).symm,by simpa using g1,h2⟩,λy hy=> ?_⟩
  rcases b8.1 hy with rfl | hy
  ·exact g2
  ·exact h3 y hy
theorem wu{rd:TypeId->Ty->Bool}{cs:List Value}:∀(fs:List Field) (off:Nat) (ty:Ty),og P rd off fs ty=true->off+ty.size<=cs.length->
  (∀f∈fs,∀t,rd f.type t=true->P.cellsOf f.type=t.size->∃v,cC E t ((cs.drop f.offset).take (P.cellsOf f.type)) v/\Dv t v)->∃v,cC E ty ((cs.drop off).take ty.size) v/\Dv ty v
 |[],off,ty,h,hl,_=>by
  cases ty <;> simp only[og]at h <;> first | cases h | skip
  exact⟨(),by simp[cC,Ty.size],trivial⟩
 |f::fs,off,ty,h,hl,hf=>by
  cases ty <;> simp only[og]at h <;> first | cases h | skip
  rename_i a b
  simp only[ae,Je]at h
  obtain⟨h1,h2,h3,h4⟩:=h
  have hl:off+(a.size+b.size)<=cs.length:=hl
  obtain⟨v,k1,k2⟩:=hf f (aI ..) a h2 h3
  obtain⟨u,k3,k4⟩:=wu fs (off+a.size) b h4 (by omega) λf' hf'=>hf f' (aH _ hf')
  refine⟨(v,u),⟨(cs.drop off).take a.size,(cs.drop (off+a.size)).take b.size,?_,?_,k3⟩,k2,k4⟩
  ·rw[show Ty.size (.pair a b)=a.size+b.size from rfl,List.take_add,eu]
  ·rw[h1,h3]at k1;exact k1
theorem uk(hg:∀b,E.g b= .free):∀(n:Nat) (T:TypeId) (ty:Ty),po P n T ty=true->∀ {fuel:Nat} {cs:List Value} {x:DataW H×List MemPlace},DataW.trod enc P E.w base spare held fuel T cs=some x->∃v,cC E ty cs v/\Dv ty v
 | 0,_,_,h,_,_,_,_=>by simp[po]at h
 |n+1,T,ty,h,fuel,cs,x,hx=>by
  unfold po at h
  split at h
  ·rename_i k k' hu
   obtain rfl:=of_decide_eq_true h
   obtain⟨m,rfl,_,hw⟩:=DataW.trod_int hu hx
   exact⟨m,rfl,hw⟩
  ·rename_i hu
   obtain⟨b,rfl,_⟩:=DataW.trod_bool hu hx
   exact⟨b,rfl,trivial⟩
  ·rename_i hu
   obtain⟨s,rfl,_,hs⟩:=DataW.trod_string hu hx
   exact⟨s,rfl,hs⟩
  ·rename_i e t hu
   simp only[ae,Je]at h
   obtain⟨h1,h2⟩:=h
   rcases open_slice hu hx with⟨rfl,_⟩ | ⟨a,len,cap,m,f,D,Pl,rfl,_,hl,hm,OS,_,he⟩
   ·exact⟨([]:List t.den),⟨none,0,[],rfl,aw _,λh=>by simp at h,λi v hv=>by simp at hv,rfl⟩,bj _,λ_ h=>by cases h⟩
   ·have OR:len<=m:=by rw[OS];split <;> omega
    obtain⟨vs,l,k1,k2,k3,k4,k5⟩:=FB (t:=t) (R:=cC E t) (G:=Dv t) (w:=E.w) (a:=a) (z:=t.size) (λc x h=>cC.size h) len λi hi=>by
     obtain⟨cs',g1,g2⟩:=he i (by omega)
     obtain⟨v,g3,g4⟩:=uk hg n e t h1 g2
     obtain⟨g5,g6⟩:=FW g1
     refine⟨cs',v,g3,g4,λj hj=> ?_⟩
     rw[<-g6 j (by omega),add_add,h2]
    refine⟨l,⟨some a,cap,vs,by rw[k2],by rw[k2];exact hl,λ_=>rfl,Mp hg k3,k4⟩,by rw[k2];omega,k5⟩
  ·rename_i k e k' t hu
   simp only[ae,Je]at h
   obtain⟨rfl,h1,h2,h3⟩:=h
   obtain⟨xs,m,rfl,_,hl,I3,he⟩:=DataW.trod_array hu hx
   obtain⟨l,k1,k2,k3⟩:=zK (t:=t) (R:=cC E t) (G:=Dv t) (z:=t.size) k cs (by rw[hl,h3]) λi hi=>by
    have:=he i hi
    rw[bO (by omega),h2]at this
    exact uk hg n e t h1 this
   exact⟨l,⟨k1,k2⟩,k1,k3⟩
  ·rename_i ty fs hu
   simp only[ae,Je]at h
   obtain⟨h1,h2⟩:=h
   obtain⟨xs,m,rfl,_,hl,I3,he⟩:=DataW.trod_struct hu hx
   obtain⟨v,k1,k2⟩:=wu (E:=E) (cs:=cs) fs.toList 0 _ h1 (by rw[hl,h2];omega) λf hf t ht hc=>by
    obtain⟨i,hi,RB⟩:=List.mem_iff_getElem.1 hf
    have hi':i < fs.size:=by simpa using hi
    have:=he i f (by rw[<-RB];simp[hi'])
    rw[bO (by omega)]at this
    exact uk hg n f.type t ht this
   refine⟨v,?_,k2⟩
   rwa[aL,bo (by omega)]at k1
  ·cases h
end
end Go.Ab
namespace Go.Ab
open Go.ChangeShapes Go.WideShapes Go.ChangeAt Go.RowKit Go.Deep
section
variable {H:Type} {enc:TypeId×Value->H} {P:Program} {base b0:Nat} {spare:Nat->Bool} {held:Bool} {E:Env} {W:World}
theorem D6{rd:TypeId->Ty->Bool}{fs:List Field}{off:Nat}{ty:Ty}(h:og P rd off fs ty=true):ty.agg=true:=by
 cases fs <;> cases ty <;> first | rfl | (simp[og]at h)
theorem Iw(hw:E.w=W)(hg:∀b,E.g b= .free){n:Nat}{t:TypeId}{ty:Ty}(h:po P n t ty=true){v:Value}{d:DataW H}{ps:List MemPlace}(oo:Value.okWide P W .any base t v)(hd:DataW.Trod enc P W b0 spare held t v d ps):
  ∃x:ty.den,VS E (.d ty x) v/\Dv ty x:=by
 subst hw
 obtain⟨fuel,hf⟩:=hd
 obtain⟨x,h1,h2⟩:=uk hg n t ty h hf
 refine⟨x,⟨v.cells.toList,h1,?_⟩,h2⟩
 cases n with
 |zero=>simp[po]at h
 |succ n=>
  unfold po at h
  split at h
  ·rename_i k k' hu
   obtain⟨m,rfl⟩:=okWide_int hu oo
   rfl
  ·rename_i hu
   obtain⟨m,rfl⟩:=okWide_bool hu oo
   rfl
  ·rename_i hu
   obtain⟨m,rfl⟩:=okWide_string hu oo
   rfl
  ·rename_i hu
   obtain⟨a,len,cap,rfl⟩:=okWide_slice hu oo
   rfl
  ·rename_i hu
   simp only[Value.okWide,hu]at oo
   obtain⟨cs,rfl,_⟩:=oo
   show _=_
   simp[Value.cells]
  ·rename_i fs hu
   simp only[Value.okWide,hu]at oo
   obtain⟨cs,rfl,_⟩:=oo
   simp only[ae]at h
   have:=D6 h.1
   simp only[ao.agg,this,ei,Value.cells,Array.toArray_toList]
  ·cases h
def DV:List Ty->Type
 |[]=>Unit
 |t::ts=>t.den×DV ts
def DV.hJ:(ts:List Ty)->DV ts->List ao
 |[],_=> []
 |t::ts,x=> .d t x.1::DV.hJ ts x.2
def DV.QE:(ts:List Ty)->DV ts->Prop
 |[],_=>True
 |t::ts,x=>Dv t x.1/\DV.QE ts x.2
def ml(P:Program)(n:Nat):List TypeId->List Ty->Bool
 |[],[]=>true
 |T::Ts,t::ts=>po P n T t && ml P n Ts ts
 |_,_=>false
theorem Aq(hw:E.w=W)(hg:∀b,E.g b= .free){n:Nat}:∀ {Ts:List TypeId} {ts:List Ty} {vs:List Value} {ds:List (DataW H)} {ps:List MemPlace},ml P n Ts ts=true->
  (∀(j:Nat) t v,Ts[j]? =some t->vs[j]? =some v->Value.okWide P W .any base t v)->DataW.TrodAll enc P W b0 spare held Ts vs ds ps->∃x:DV ts,oP E (DV.hJ ts x) vs/\DV.QE ts x
 |[],[],vs,ds,ps,_,_,h=>by
  obtain⟨rfl,rfl,rfl⟩:=trodAll_nil h
  exact⟨(),trivial,trivial⟩
 |T::Ts,[],_,_,_,h,_,_=>by simp[ml]at h
 |[],t::ts,_,_,_,h,_,_=>by simp[ml]at h
 |T::Ts,t::ts,vs,ds,ps,h,oo,hd=>by
  simp only[ml,ae]at h
  obtain⟨v,vs',d,ds',p,q,rfl,rfl,rfl,h1,h2⟩:=trodAll_cons hd
  obtain⟨x,k1,k2⟩:=Iw hw hg h.1 (oo 0 T v rfl rfl) h1
  obtain⟨y,k3,k4⟩:=Aq hw hg h.2 (λj t v hj hv=>oo (j+1) t v (by simpa using hj) (by simpa using hv)) h2
  exact⟨(x,y),⟨k1,k3⟩,⟨k2,k4⟩⟩
def mM(P:Program)(Ts:List TypeId):Bool:=Ts.all λt=>P.readableRec t && decide (t < P.types.size)
theorem sB(hl:laidOutB P=true){W':World}(hb:Below W.heap.size W W')(sp:Nat->Bool):∀ {Ts:List TypeId} {vs:List Value} {ds:List (DataW H)} {ps:List MemPlace},mM P Ts=true->(∀p∈ps,p.block < W.heap.size)->(∀p∈ps,sp p.block=true)->
  DataW.TrodAll enc P W 0 (λ_=>true) true Ts vs ds ps->DataW.TrodAll enc P W' 0 sp true Ts vs ds ps
 |[],vs,ds,ps,_,_,_,h=>by
  obtain⟨rfl,rfl,rfl⟩:=trodAll_nil h
  exact trodAll_mk0
 |T::Ts,vs,ds,ps,hr,gO,hs,h=>by
  obtain⟨v,vs',d,ds',p,q,rfl,rfl,rfl,h1,h2⟩:=trodAll_cons h
  simp only[mM,fD,ae,decide_eq_true_eq]at hr
  have h3:=WideElems.Trod_stays hl hr.1.1 hr.1.2 h1 (λx hx=>hb.same (gO x (aX.2 (.inl hx)))) (λx hx=>hs x (aX.2 (.inl hx)))
  exact⟨p,q,h3,sB hl hb sp (by simpa[mM]using hr.2) (λx hx=>gO x (aX.2 (.inr hx))) (λx hx=>hs x (aX.2 (.inr hx))) h2,rfl⟩
end
theorem rj{H:Type}{enc:TypeId×Value->H}{P:Program}{W:World}{b0:Nat}{spare:Nat->Bool}{held:Bool}:∀ {Ts:List TypeId} {vs:List Value} {ds:List (DataW H)} {ps:List MemPlace},DataW.TrodAll enc P W b0 spare held Ts vs ds ps->ds.length=Ts.length
 |[],_,_,_,h=>by
  obtain⟨_,rfl,_⟩:=trodAll_nil h
  rfl
 |_::_,_,_,_,h=>by
  obtain⟨v,vs',d,ds',p,q,rfl,rfl,rfl,h1,h2⟩:=trodAll_cons h
  simp[rj h2]
theorem CZ{H:Type}{enc:TypeId×Value->H}{P:Program}{f:Func}{s:ChangeSpec}{W W':World}{args:Array Value}{v:Value}{ds gs:List (DataW H)}{before:List MemPlace}{tb:TypeId}
  (hl:laidOutB P=true) (Dw:mM P f.params.toList=true) (Cq:s.vars=[]) (Qg:f.resultTypes= #[tb]) (Qj:P.underlying tb=some .bool)
  (hW:DataW.Whole enc P f.params.toList s.vars false W args.toList ds gs before) (LI:s.fn H (ds++gs)= {results:=[.lit (.bool true)],args:=ds}) (hb:Below W.heap.size W W') (hv:v= .bool true):
  s.post enc P f false true false false W args v W':=by
 subst hv
 have hW':=hW
 have hold:∀p∈before,(λb=>decide (b < W.heap.size)) p.block=true:=λp hp=>by simpa using hW.lt p hp
 obtain⟨p,q,hA,hV,rfl,hz,_⟩:=hW
 rw[Cq]at hV
 obtain⟨rfl,rfl⟩:=trodVars_none hV
 have gO:∀x∈p,x.block < W.heap.size:=λx hx=>hW'.lt x (aX.2 (.inl hx))
 have xD:∀sp:Nat->Bool,(∀x∈p,sp x.block=true)->DataW.TrodAll enc P W' 0 sp true f.params.toList args.toList (s.fn H (ds++ [])).args p:=λsp hs=>by
  rw[LI]
  exact sB hl hb sp Dw gO hs hA
 have Qc:∀(b:Nat) (sp:Nat->Bool) (hd:Bool),DataW.TrodAll enc P W' b sp hd f.resultTypes.toList ((Value.bool true).resultList f.resultTypes.size) (s.fn H (ds++ [])).results []:=λb sp hd=>by
  rw[LI,Qg]
  exact trodAll_mk1 (shut_bool Qj _)
 have tP:∀sp:Nat->Bool,DataW.TrodVars enc P W' sp s.vars (s.fn H (ds++ [])).vars []:=λsp=>by
  rw[LI,Cq]
  rfl
 refine⟨ds,[],p++ [],[],p,[],hW',Qc _ _ _,xD _ (λx hx=>hold x (aX.2 (.inl hx))),tP _,hb.frame _,λh=>by cases h⟩
theorem qY{P:Program}{n:Nat}:∀ {Ts:List TypeId} {ts:List Ty},ml P n Ts ts=true->Ts.length=ts.length
 |[],[],_=>rfl
 |[],_::_,h=>by simp[ml]at h
 |_::_,[],h=>by simp[ml]at h
 |_::_,_::_,h=>by
  simp only[ml,ae]at h
  simp[qY h.2]
theorem Gp{H:Type}{enc:TypeId×Value->H}{P:Program}{f:FuncId}{fn:Func}{en:Entry}{s:ChangeSpec}{tb:TypeId}(n:Nat)(tys:List Ty)(hD:j2 P f en)(hf:P.funcs[f]? =some fn)(Ny:fn.body.isSome=true)(qM:(fn.name== "runtime.NumGoroutine")=false)
  (hl:laidOutB P=true) (KB:ml P n fn.params.toList tys=true) (Dw:mM P fn.params.toList=true) (Cq:s.vars=[]) (Qg:fn.resultTypes= #[tb]) (Qj:P.underlying tb=some .bool)
  (LI:∀ds:List (DataW H),ds.length=tys.length->s.fn H (ds++ [])= {results:=[.lit (.bool true)],args:=ds})
  (jT:∀x:DV tys,DV.QE tys x->∃r,en.run (DV.hJ tys x) []=some r/\en.out (DV.hJ tys x) [] r=⟨.d .bool true,[],[]⟩)
  {W:World} {base:Nat} {args:Array Value} {ds gs:List (DataW H)} {before:List MemPlace}
  (oo:∀(j:Nat) t v,fn.params[j]? =some t->args[j]? =some v->Value.okWide P W .any base t v)
  (hW:DataW.Whole enc P fn.params.toList s.vars false W args.toList ds gs before):
  Calls P f args W λe W'=>∃v,e= .returned v/\s.post enc P fn false true false false W args v W':=by
 have hW':=hW
 obtain⟨p,q,hA,hV,_,_,_⟩:=hW
 rw[Cq]at hV
 obtain⟨rfl,rfl⟩:=trodVars_none hV
 obtain⟨x,Qo,Qp⟩:=Aq (E:=(eE []).env W (λ_=> .free) (λ_=>none)) rfl (λ_=>rfl) KB (λj t v hj hv=>oo j t v (by simpa using hj) (by simpa using hv)) hA
 obtain⟨r,LZ,Ef⟩:=jT x Qp
 have b5:(callFunc f args).run P W= .ok (.enter f args) W:=by
  unfold callFunc
  obtain⟨c,hc⟩:=bz.1 Ny
  have hname':¬fn.name= "runtime.NumGoroutine" :=by simpa using qM
  simp[hf,hname',hc]
 have hlen:ds.length=tys.length:=by rw[rj hA,qY KB]
 have ho:fF ((eE []).env W (λ_=> .free) (λ_=>none)):=λid ver fr c h=>by
  exfalso
  cases id with
  |c8 k=>simp[AS.env,AS.bA,eE]at h
  |new i j=>simp[AS.env,AS.bA,eE]at h
 rcases hD W (λ_=> .free) (λ_=>none) (DV.hJ tys x) [] args.toList r Qo ho LZ with⟨_,hc⟩ | ⟨v,w',hc,_⟩
 ·refine hc.mono λe w' he=> ?_
  obtain⟨v,rfl,g',β',h1,_,h2,_⟩:=he
  rw[Ef]at h1
  refine⟨v,rfl,CZ hl Dw Cq Qg Qj hW' (LI ds hlen) ⟨h2.os,h2.tape,h2.output.1,h2.size,λb hb=>(h2.uS b hb).2⟩ ?_⟩
  obtain⟨cs,k1,k2⟩:=h1
  have k1:cs=[.bool true]:=k1
  subst k1
  have k2: [Value.bool true]=[v]:=k2
  simpa using k2.symm
 ·rw[show args.toList.toArray=args from Array.toArray_toList ..,b5]at hc
  cases hc
end Go.Ab
namespace Go.Ab
abbrev W:=BitVec 32
def rV(w:W)(k:Nat):W:=w <<< (32 - k) ||| w >>> k
def OJ(a b c d:Int):W:=BitVec.ofInt 32 a <<< 24 ||| BitVec.ofInt 32 b <<< 16 ||| BitVec.ofInt 32 c <<< 8 ||| BitVec.ofInt 32 d
def be(l:List Int)(i:Nat):W:=OJ (l.getD (4*i) 0) (l.getD (4*i+1) 0) (l.getD (4*i+2) 0) (l.getD (4*i+3) 0)
structure St where
 a:W
 b:W
 c:W
 d:W
 e:W
 f:W
 g:W
 h:W
def St.l(s:St):List Int:=[vw s.a,vw s.b,vw s.c,vw s.d,vw s.e,vw s.f,vw s.g,vw s.h]
def QI(x:W):W:=rV x 7^^^rV x 18^^^x >>> 3
def QJ(y:W):W:=rV y 17^^^rV y 19^^^y >>> 10
def KL(l:List W)(i:Nat):W:=l.getD (i - 16) 0+QI (l.getD (i - 15) 0)+l.getD (i - 7) 0+QJ (l.getD (i - 2) 0)
def ext(l:List W):List W:=l++ [KL l l.length]
def OA(m:List W):Nat->List W
 | 0=>m
 |n+1=>ext (OA m n)
def words(b:List Int):List W:=(List.range 16).map (be b)
def sched(b:List Int):List W:=OA (words b) 48
def kl:List Nat:=[
  0x428a2f98,0x71374491,0xb5c0fbcf,0xe9b5dba5,0x3956c25b,0x59f111f1,0x923f82a4,0xab1c5ed5,
  0xd807aa98,0x12835b01,0x243185be,0x550c7dc3,0x72be5d74,0x80deb1fe,0x9bdc06a7,0xc19bf174,
  0xe49b69c1,0xefbe4786,0x0fc19dc6,0x240ca1cc,0x2de92c6f,0x4a7484aa,0x5cb0a9dc,0x76f988da,
  0x983e5152,0xa831c66d,0xb00327c8,0xbf597fc7,0xc6e00bf3,0xd5a79147,0x06ca6351,0x14292967,
  0x27b70a85,0x2e1b2138,0x4d2c6dfc,0x53380d13,0x650a7354,0x766a0abb,0x81c2c92e,0x92722c85,
  0xa2bfe8a1,0xa81a664b,0xc24b8b70,0xc76c51a3,0xd192e819,0xd6990624,0xf40e3585,0x106aa070,
  0x19a4c116,0x1e376c08,0x2748774c,0x34b0bcb5,0x391c0cb3,0x4ed8aa4a,0x5b9cca4f,0x682e6ff3,
  0x748f82ee,0x78a5636f,0x84c87814,0x8cc70208,0x90befffa,0xa4506ceb,0xbef9a3f7,0xc67178f2]
def kw(i:Nat):W:=BitVec.ofNat 32 (kl.getD i 0)
def Cz:List Int:=kl.map λ(n:Nat)=>(n:Int)
def nN(s:St)(k w:W):St:=
 let t:=s.h+(rV s.e 6^^^rV s.e 11^^^rV s.e 25)+(s.g^^^s.e &&& (s.f^^^s.g))+k+w
 let r:=rV s.a 2^^^rV s.a 13^^^rV s.a 22
 let most:=s.a &&& s.b ||| s.c &&& (s.a ||| s.b)
 ⟨t+r+most,s.a,s.b,s.c,s.d+t,s.e,s.f,s.g⟩
def rounds(ws:List W)(s:St):Nat->St
 | 0=>s
 |n+1=>nN (rounds ws s n) (kw n) (ws.getD n 0)
def Gt(s:St)(b:List Int):St:=
 let v:=rounds (sched b) s 64
 ⟨v.a+s.a,v.b+s.b,v.c+s.c,v.d+s.d,v.e+s.e,v.f+s.f,v.g+s.g,v.h+s.h⟩
def oh:St:=⟨0x6a09e667,0xbb67ae85,0x3c6ef372,0xa54ff53a,0x510e527f,0x9b05688c,0x1f83d9ab,0x5be0cd19⟩
def oV:Nat->St->List Int->St
 | 0,s,_=>s
 |n+1,s,l=>oV n (Gt s (l.take 64)) (l.drop 64)
def blocks(s:St)(l:List Int):St:=oV (l.length / 64) s l
def OK(w:W)(k:Nat):Int:=vw ((w >>> (24 - 8*k)).setWidth 8)
def Jg(w:W):List Int:=[OK w 0,OK w 1,OK w 2,OK w 3]
def JS(s:St):List Int:=Jg s.a++Jg s.b++Jg s.c++Jg s.d++Jg s.e++Jg s.f++Jg s.g++Jg s.h
def pa(n:Int):List Int:=[n / 2^56%256,n / 2^48%256,n / 2^40%256,n / 2^32%256,n / 2^24%256,n / 2^16%256,n / 2^8%256,n%256]
def uh(n:Nat):Nat:=(119 - n%64)%64
def pad(b:List Int):List Int:=b++128::(List.replicate (uh b.length) 0++pa (8*b.length))
def M4(b:List Int):List Int:=JS (blocks oh (pad b))
def nS(parts:List (List Int)):List Int:=parts.flatMap λp=>pa p.length++p
def zy(name:List Int)(parts:List (List Int)):List Int:=pa name.length++name++nS parts
def tag(name:List Int)(parts:List (List Int)):List Int:=M4 (zy name parts)
theorem EJ(b:List Int):(M4 b).length=32:=rfl
theorem dq(n:Int):(pa n).length=8:=rfl
theorem D4(l:List W):(ext l).length=l.length+1:=by simp[ext]
theorem tv(m:List W):∀n,(OA m n).length=m.length+n
 | 0=>rfl
 |n+1=>by rw[OA,D4,tv m n];omega
theorem lM(b:List Int):(words b).length=16:=by simp[words]
theorem qz:∀(n:Nat) (s:St) (a b:List Int),a.length=64*n->∀m,oV (n+m) s (a++b)=oV m (oV n s a) b
 | 0,s,a,b,h,m=>by
  have:a=[]:=aJ (by omega)
  subst this
  simp[oV]
 |n+1,s,a,b,h,m=>by
  rw[show n+1+m=(n+m)+1 by omega,oV,oV]
  rw[eH (by omega),List.drop_append_of_le_length (by omega)]
  exact qz n _ _ _ (by simp;omega) m
theorem r9(s:St)(a b:List Int)(h:a.length%64=0):blocks s (a++b)=blocks (blocks s a) b:=by
 unfold blocks
 have e:(a++b).length / 64=a.length / 64+b.length / 64:=by simp;omega
 rw[e]
 exact qz _ _ _ _ (by omega) _
theorem vP(s:St)(l:List Int)(h:64<=l.length):blocks s l=blocks (Gt s (l.take 64)) (l.drop 64):=by
 unfold blocks
 rw[show l.length / 64=(l.drop 64).length / 64+1 by simp;omega]
 rfl
theorem sF(s:St)(l:List Int)(h:l.length < 64):blocks s l=s:=by
 unfold blocks
 rw[show l.length / 64=0 by omega]
 rfl
def FG(x:Int):Prop:=0<=x/\x < 256
def Bytes(l:List Int):Prop:=∀x∈l,FG x
theorem Jh(w:BitVec 8):FG (vw w):=⟨AE w,KV w⟩
theorem FG.vw{x:Int}(h:FG x):x=vw (BitVec.ofInt 8 x):=by
 rw[jg]
 obtain⟨h1,h2⟩:=h
 omega
theorem DP(s:St):Bytes (JS s):=by
 intro x hx
 simp only[JS,Jg,aX,b8,gr,or_false]at hx
 rcases hx with((((((hx | hx) | hx) | hx) | hx) | hx) | hx) | hx <;> rcases hx with rfl | rfl | rfl | rfl <;> exact Jh _
theorem FT(b:List Int):Bytes (M4 b):=DP _
end Go.Ab
end
