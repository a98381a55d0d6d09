/-
  Made short by a program of mine (wip/tools/mini.py).
-/
import Derived.Test.YtlpebgkekjfhaaaGreatS24x2
import Derived.Scope
import Derived.Laws.Externs
import Derived.KernelRfl
import Derived.ProofKit
import Derived.OpenShut
import Derived.Deep.Slices
import Derived.Carry
set_option linter.unusedVariables false
set_option linter.unusedSimpArgs false
set_option maxRecDepth 100000
set_option synthInstance.maxSize 5000
noncomputable section
namespace Go.Ab
section
variable {P:Program} {Γ:ov} {an:tV} {C:Ctx}
open Classical in
def Sw(p:Prop):Option Unit:=if p then some () else none
theorem Kh{p:Prop}(h:Sw p=some ()):p:=by
 unfold Sw at h
 split at h
 ·assumption
 ·cases h
theorem HH{X R:Type}{S:X->Prop}{k:X->Option R}{r:R}(h:Nk S k=some r):(∃x,S x)/\∀x,S x->k x=some r:=by
 unfold Nk at h
 split at h
 ·rename_i hx
  obtain rfl:=ba h
  exact hx.choose_spec
 ·cases h
def IX(P:Program)(Γ:ov)(an:tV)(N:Nat)(b:Code):Prop:=
 ∀le,an.jl (dD b)=some le->
  (le.set=none->∀s x,le.run s=some x->∃n,xU (norm P (an.loops (dD b))) (λe=>norm P (an.outs (dD b) (D5 e))) (ev P Γ an N b) n s (λe s'=>some (e,s'))=(le.out x).eval)/\
  ∀S,le.set=some S->∀s,(∃x,S s x)->∃n,xU (norm P (an.loops (dD b))) (λe=>norm P (an.outs (dD b) (D5 e))) (ev P Γ an N b) n s (λe s'=>Sw (∃x,S s x/\(le.out x).eval=some (e,s')))=some ()
def lP(P:Program)(Γ:ov)(an:tV)(N:Nat):List Code->Prop
 |[]=>True
 |b::l=>IX P Γ an N b/\lP P Γ an N l
theorem lP.append{N:Nat}:∀ {l l':List Code},lP P Γ an N (l++l')->lP P Γ an N l/\lP P Γ an N l'
 |[],_,h=>⟨trivial,h⟩
 |_::_,_,⟨h1,h2⟩=>⟨⟨h1,(lP.append h2).1⟩,(lP.append h2).2⟩
theorem mf{c:Code}{b:Frame}{a:Act}{k:List Item}{cs:List Frame}{w:World}:step P (lone (b.atR a (.code (.scope c)::k)) cs w)= .next (lone (b.atR a (.code c:: .inScope c::k)) cs w):=
 step_lone_go (by simp[stepG,stepG.exec,Frame.atR])
theorem Ba{c:Code}{b:Frame}{a:Act}{k:List Item}{cs:List Frame}{w:World}:step P (lone (b.atR a (.inScope c::k)) cs w)= .next (lone (b.atR a k) cs w):=
 step_lone_go (by simp[stepG,stepG.exec,Frame.atR])
theorem tT{F:Fence}{n:Nat}{Q:Exit->Act->World->Prop}{a:Act}{w:World}{c:Code}(h:c.wpIn F n P (Exit.noGoto Q) a w):(Code.scope c).wpIn F n P Q a w:=by
 intro b k cs T4 hb hr
 have h0:(lone (b.atR a (.code (.scope c)::k)) cs w).fenced P F:=fenced_calm hb hr rfl
 obtain⟨e,a1,w1,hq,hx⟩:=h b (.inScope c::k) cs T4 hb hr
 cases e with
 |normal=>exact⟨.normal,a1,w1,hq,.head h0 mf (StepsIn.trans hx (.one (fenced_calm hb hr rfl) Ba))⟩
 |exit i=>
  have e1:exitTo i (.inScope c::k)=exitTo i k:=by simp[exitTo]
  exact⟨.exit i,a1,w1,hq,λk' hk=> .head h0 mf (hx.1 k' (e1.trans hk)),λh1 hk=>let⟨k2,h2,h3⟩:=hx.2 h1 (e1.trans hk);⟨k2,h2,.head h0 mf h3⟩⟩
 |goto l=>exact hq.elim
 |ret=>exact⟨_,a1,w1,hq,.of_steps (.one h0 mf) hx⟩
 |panic ch=>exact⟨_,a1,w1,hq,.of_steps (.one h0 mf) hx⟩
 |outgrown=>exact⟨_,a1,w1,hq,.of_steps (.one h0 mf) hx⟩
theorem rG{rd:Option Nat}{m:Nat}{R:Type}{r:R}{b:Code}{nrm:AS->Out AS}{nrmX:Exit->AS->Out AS}{body:AS->(Exit->AS->Option R)->Option R}
  (hn:∀s s1 a w,gm C s a w->(nrm s).eval=some s1->gm C s1 a w) (hx:∀e s s1 a w,gm C s a w->(nrmX e s).eval=some s1->gm C s1 a w)
  (hb:∀(s:AS) (a:Act) (w:World) (k:Exit->AS->Option R) (Q:Exit->Act->World->Prop),gm C s a w->body s k=some r->(∀e s' a' w',gm C s' a' w'->k e s'=some r->Q e a' w')->b.wpIn (Fr rd) m P Q a w)
  {k:Exit->AS->Option R} {Q:Exit->Act->World->Prop} (hk:∀e s' a' w',gm C s' a' w'->k e s'=some r->Q e a' w'):
  ∀(n:Nat) (s:AS) (a:Act) (w:World),gm C s a w->xU nrm nrmX body n s k=some r->Code.roundsIn (Fr rd) m P b Q n a w
 | 0,s,a,w,_,h=>by simp[xU]at h
 |n+1,s,a,w,hs,h=>by
  simp only[xU]at h
  rw[roundsIn_succ]
  refine hb s a w _ _ hs h λe s' a' w' hs' PT=> ?_
  have exits:∀e,(nrmX e s').run (k e)=some r->Q e a' w':=λe PT=>by
   obtain⟨s1,h1,h2⟩:=il.1 PT
   exact hk e s1 a' w' (hx e s' s1 a' w' hs' h1) h2
  cases e with
  |normal=>
   simp only at PT
   obtain⟨s1,h1,h2⟩:=il.1 PT
   exact rG hn hx hb hk n s1 a' w' (hn s' s1 a' w' hs' h1) h2
  |_=>exact exits _ PT
theorem vJ{rd:Option Nat}{n:Nat}(hC:C.ok){j:Option vi}{run: {R:Type}->(Exit->AS->Option R)->Option R}{c:Code}{a:Act}{w:World}
  (kU:∀ {R:Type} {r:R} (k:Exit->AS->Option R) (Q:Exit->Act->World->Prop),run k=some r->(∀e s' a' w',gm C s' a' w'->k e s'=some r->Q e a' w')->c.wpIn (Fr rd) n P Q a w)
  {R:Type} {r:R} {k:Exit->AS->Option R} {Q:Exit->Act->World->Prop} (h:xf P j run k=some r) (hk:∀e s' a' w',gm C s' a' w'->k e s'=some r->Q e a' w'):c.wpIn (Fr rd) n P Q a w:=by
 cases j with
 |none=>exact kU k Q h hk
 |some j=>
  simp only[xf]at h
  cases hx:run λe s=>(norm P j.an s).run (j.N8 e) with
  |none=>rw[hx]at h;cases h
  |some x=>
   rw[hx]at h
   simp only[aB]at h
   obtain⟨y,hy,h⟩:=il.1 h
   refine kU _ Q hx λe s' a' w' hs' hK=> ?_
   obtain⟨s1,h1,h2⟩:=il.1 hK
   have he:=j.ok _ _ _ h2
   rw[hy,au]at he
   subst he
   exact hk e s1 a' w' (kI hC hs' h1) h
theorem Inv.Hq{g:Nat->jW}{β:Id->Option Pl}{s:AS}{a:Act}{w:World}(h:Inv C g β s a w):
  Inv C (j2 g w.heap.size (.own .dH 0)) β s {a with defers:=ns w.heap.size::a.defers} (w.alloc (.deferred (some []))):=by
 have ht:=Trans.alloc w g (.deferred (some [])) (.own .dH 0)
 have he:cD (s.env w g β) (s.env (w.alloc (.deferred (some []))) (j2 g w.heap.size (.own .dH 0)) β):=cD.same ht
 have h1:=h.step rfl ht he (gK.same h.bE he λi ver fr c pl hi hp=>by
  have hl:=((h.bE i ver fr c hi).label (pl:=pl) hp).1
  have hl':pl.b < w.heap.size:=hl
  exact⟨lr w _ hl',eJ _ _ _ (by omega)⟩)
 refine⟨⟨c8.2 ⟨λhm=> ?_,h1.defers.1⟩,λd hd=> ?_⟩,h1.size,h1.b8,h1.bE,h1.trans,h1.le⟩
 ·obtain⟨D,e,_,hh,_⟩:=h.defers.2 _ hm
  have e:Deferred.mk (.collected w.heap.size) #[]=Deferred.mk (.collected D) #[]:=e
  injection e with e _
  injection e with e
  have:=(bB.1 hh).1
  omega
 ·rcases bY.1 hd with rfl | hd
  ·exact⟨w.heap.size,rfl,h.trans.size,mw w _,eQ _ _ _⟩
  ·exact h1.defers.2 d hd
theorem uB:∀l:List aw,(pF l).list=l
 |[]=>rfl
 |a::l=>by simp[pF,aw.list,uB l]
theorem qZ(bA:List Nat):∀(i:Nat) (l:List aw),(dS bA i l).length=l.length
 |_,[]=>rfl
 |i,_::l=>by simp[dS,qZ bA (i+1) l]
theorem ua(bA:List Nat):∀(l:List aw) (i j:Nat),(dS bA i l).getD j .undef=l.getD j .undef\/(dS bA i l).getD j .undef= .undef
 |[],_,_=> .inl rfl
 |v::l,i,0=>by
  simp only[dS,jx]
  split
  ·exact .inl rfl
  ·exact .inr rfl
 |v::l,i,j+1=>by simpa[dS]using ua bA l (i+1) j
theorem Inv.frame{g:Nat->jW}{β:Id->Option Pl}{s:AS}{a:Act}{w:World}(h:Inv C g β s a w)(bA:List Nat):rn (s.env w g β) (pF (dS bA 0 s.b8)) a.tmps:=by
 refine⟨by rw[uB,qZ,h.size],λi=> ?_⟩
 rw[uB]
 rcases ua bA s.b8 0 i with e | e
 ·rw[e];exact h.b8 i
 ·rw[e];exact VS.undef
theorem LV(a:Act)(q:Nat)(x:Value):(a.put (some q) x).put (some q) (a.tmps.getD q undef)=a:=by
 obtain⟨t,d⟩:=a
 simp only[Act.put]
 congr 1
 apply lM
 intro i
 simp only[dy,Array.size_setIfInBounds]
 by_cases h:q=i
 ·subst h
  by_cases hl:q < t.size
  ·simp[hl]
  ·simp[hl]
 ·simp[h]
theorem wc{g:Nat->jW}{β:Id->Option Pl}{s s':AS}{a:Act}{w:World}{q p:Nat}(h:Inv C g β s a w)(he:s.xq q p=some s'):∃pl r,β (.dw 0)=some pl/\(s.env w g β).cur (.dw 0) 0/\w.heap[pl.b]? =some (.loop r)/\Ez q r.state r.pending/\
  ∀r':Loop,r'.params=r.params->r'.assign=r.assign->r'.body=r.body->r'.tmps=r.tmps->Ez p r'.state r'.pending->Inv C g β s' a (w.putObj pl.b (.loop r')):=by
 unfold AS.xq at he
 split at he
 rotate_left
 ·cases he
 rename_i c f q' cI
 split at he
 rotate_left
 ·cases he
 rename_i hq
 obtain rfl:q=q':=ei hq
 obtain rfl:=ba he
 obtain⟨pl,r,hp,hb,hg,⟨q1,q2,q3⟩,I2,mj⟩:=h.bE (.dw 0) 0 false _ cI
 have hp:β (.dw 0)=some pl:=hp
 have hb:w.heap[pl.b]? =some (.loop r):=hb
 have hg:g pl.b= .own (.id (.dw 0)) 0:=hg
 refine⟨pl,r,hp,⟨false,_,cI⟩,hb,mj,λr' e1 e2 e3 e4 hs'=> ?_⟩
 have gV:pl.b < w.heap.size:=(bB.1 hb).1
 have hother:∀b',b'≠pl.b->(w.putObj pl.b (.loop r')).heap[b']? =w.heap[b']? :=λb' gS=>World.putObj_heap_other gS
 have ht:Trans w (w.putObj pl.b (.loop r')) g g:=by
  refine⟨rfl,rfl,⟨rfl,az _⟩,by simp,λb' _=> ?_⟩
  by_cases he:b'=pl.b
  ·subst he
   rw[hg]
   exact⟨.inr ⟨_,0,rfl,az _⟩,λ_ _ hh=>by omega⟩
  ·rw[hother b' he]
   cases yu:g b' with
   |free=>exact⟨rfl,rfl⟩
   |own o' k=>cases o' with
    |dH=>exact⟨rfl,rfl⟩
    |id i'=>exact⟨.inr ⟨i',k,rfl,az _⟩,λoff v _ hv=>by simpa only[World.cell?,hother b' he]using hv⟩
 have hle:cD (s.env w g β) ((s.aL (.dw 0) (.obj 0 false (.ow c f p))).env (w.putObj pl.b (.loop r')) g β):=cD.aL cI (az _) ht (λ_ _=>rfl) (λ_=>rfl)
 refine h.step (cX _ _ _) ht hle (gK.aL h.bE (by rw[cI];simp) hle (λ_ _=>rfl) (λi ver fr c pl2 hi zp BH=>⟨hother _ (h.apart hg hi zp BH),rfl⟩) ?_ (vM cI))
 exact⟨pl,r',hp,World.putObj_heap_same gV,hg,⟨e1.trans q1,e2.trans q2,e3.trans q3⟩,by rw[e4];exact I2.mono hle,hs'⟩
theorem yD{n:Nat}(hΓ:Sound P Γ){f:Operand}{ps:Array Tmp}{as b:Code}{R:Type}{r:R}{k:Exit->AS->Option R}{Q:Exit->Act->World->Prop}{s:AS}{a:Act}{w:World}(h:gm C s a w)
  (he:rR P Γ an s f ps as b k=some r) (hk:∀e s' a' w',gm C s' a' w'->k e s'=some r->Q e a' w'):(Code.rangeFunc f ps as b).wpIn (Fr none) n P Q a w:=by
 obtain⟨g,β,h⟩:=h
 unfold rR at he
 split at he
 rotate_left
 ·cases he
 rename_i y bA h0 caps T3 UC hF
 split at he
 rotate_left
 ·cases he
 rename_i en PD IZ
 simp only[ah]at PD
 obtain⟨⟨⟨HS,JP⟩,hq⟩,gV⟩:=PD
 have hd:=(hΓ _ _ _ IZ).1 gV
 obtain⟨s3,JD,he⟩:=il.1 he
 generalize UB:ps.getD 0 0=q at JP hq JD he IZ
 have hq:q < s.b8.length:=fx hq
 obtain⟨vs,hy,QX⟩:=Bx (hF▸h.ev f)
 refine wpIn_rangeFunc λfn _=> ?_
 have cI:=run_enterLoop_outer (P:=P) (w:=w) fn a.tmps ps as b
 have i1:=h.Hq
 generalize Ub:w.alloc (.deferred (some []))=w1 at i1 cI
 have mE:w1.heap.size=w.heap.size+1:=by rw[<-Ub];exact World.size_alloc ..
 generalize R8:({state:= .ready,pending:=none,fn,tmps:=a.tmps,params:=ps,assign:=as,body:=b,defers:=w.heap.size}:Loop)=r0 at cI
 have ht:=Trans.alloc w1 (j2 g w.heap.size (.own .dH 0)) (.loop r0) (.own (.id (.new q 0)) 0)
 obtain⟨i2,e2⟩:=i1.wO JP (c:= .ow ⟨y,ps,as,b⟩ (pF (dS bA 0 s.b8)) 0) (p:=some ⟨w1.heap.size,0⟩) ht (λb hb=>⟨lr w1 _ hb,eJ _ _ _ (by omega)⟩) (λhe=>
  ⟨⟨w1.heap.size,0⟩,r0,iI _ _ _,mw w1 _,eQ _ _ _,by subst R8;exact⟨rfl,rfl,rfl⟩,by subst R8;exact(i1.frame bA).mono he,by subst R8;exact⟨rfl,rfl⟩⟩)
 generalize j2 (j2 g w.heap.size (.own .dH 0)) w1.heap.size (.own (.id (.new q 0)) 0)=g2 at i2 e2
 generalize hβ2:tj β (.new q 0) (some ⟨w1.heap.size,0⟩)=β2 at i2 e2
 generalize I3:w1.alloc (.loop r0)=w2 at i2 e2 cI
 have Tg:VS ((s.born q [.obj 0 false (.ow ⟨y,ps,as,b⟩ (pF (dS bA 0 s.b8)) 0)]).env w2 g2 β2) (.yl (.new q 0) 0) (.func (.yield w1.heap.size) #[] #[]):=by
  refine⟨[.func (.yield w1.heap.size) #[] #[]],?_,rfl⟩
  simp only[V]
  exact⟨_,rfl,kT JP _ _ _ _,λ_=>⟨⟨w1.heap.size,0⟩,by rw[<-hβ2];exact iI _ _ _,rfl⟩⟩
 have i3:=i2.put (some q) Tg
 have hF2:(s.born q [.obj 0 false (.ow ⟨y,ps,as,b⟩ (pF (dS bA 0 s.b8)) 0)]).ev f= .fn h0 caps:=by rw[<-hF];cases f <;> rfl
 obtain⟨vs2,OW,Sl⟩:=Bx (hF2▸i2.ev f)
 have vH:vs2=vs:=by
  have e:Value.func (.func h0) #[] vs2.toArray= .func (.func h0) #[] vs.toArray:=by rw[<-OW,<-hy];cases f <;> rfl
  injection e with _ _ e
  simpa using congrArg Array.toList e
 subst vH
 have zl:qi (((s.born q [.obj 0 false (.ow ⟨y,ps,as,b⟩ (pF (dS bA 0 s.b8)) 0)]).put (some q) (.yl (.new q 0) 0)).env w2 g2 β2) (.yl (.new q 0) 0::caps.list) (.func (.yield w1.heap.size) #[] #[]::vs2):=by
  rw[Co]
  exact⟨Tg,Fc Sl⟩
 unfold AS.call at JD
 obtain⟨r2,h1,h2⟩:=ak.1 JD
 obtain⟨g',i4,e4,_,f1⟩:=fb r2.2 i3
 obtain⟨x,hx,k1,k2,key⟩:=wV (o:= {(default:Oper) with dst:=none}) i4 (sO _ _) (sI rfl i3.bE e4 _ _ _ r2 zl h1 f1) h2
 have SY:∀args:Array Value,(callFunc h0 args).run P w2= .ok (.enter h0 args) w2:=λargs=>by
  unfold EB at HS
  split at HS
  ·rename_i fn' NJ
   simp only[ah,bC,beq_eq_false_iff_ne]at HS
   obtain⟨c,hc⟩:=bS.1 HS.2
   unfold callFunc
   simp[NJ,HS.1,hc]
  ·cases HS
 have post:∀ {w3:World} {v:Value},gm C s3 ((({a with defers:=ns w.heap.size::a.defers}:Act).put (some q) (.func (.yield w1.heap.size) #[] #[])).put none v) w3->∀ {c:nf} {fr:aw} {p:Nat},s3.bT (.new q 0)=some (.obj 0 false (.ow c fr p))->s3.slot q= .yl (.new q 0) 0->p≠1->
   ∃jump w4,(Instr.endLoop w1.heap.size).run P w3= .ok jump w4/\Ez p (if p=0 then .ready else .done) jump/\gm C ((s3.aL (.new q 0) .dead).put (some q) .undef) {a with defers:=ns w.heap.size::a.defers} w4:=by
  intro w3 v NZ c fr p zn JM OS
  obtain⟨g3,β3,i5⟩:=NZ
  obtain⟨pl,r3,hp,hb,hg,_,_,mj⟩:=i5.bE (.new q 0) 0 false _ zn
  have hp:β3 (.new q 0)=some pl:=hp
  have hb:w3.heap[pl.b]? =some (.loop r3):=hb
  have hg:g3 pl.b= .own (.id (.new q 0)) 0:=hg
  have MI:=i5.b8 q
  rw[JM]at MI
  obtain⟨cs,hV,hO⟩:=MI
  simp only[V]at hV
  obtain⟨l,rfl,_,eK⟩:=hV
  obtain⟨pl',hp',rfl⟩:=eK ⟨false,_,zn⟩
  have hp':β3 (.new q 0)=some pl':=hp'
  rw[hp]at hp'
  obtain rfl:pl=pl':=by simpa using hp'
  have hO: [Value.func (.yield pl.b) #[] #[]]=[((({a with defers:=ns w.heap.size::a.defers}:Act).put (some q) (.func (.yield w1.heap.size) #[] #[])).put none v).tmps.getD q undef]:=hO
  have yx:q < ({a with defers:=ns w.heap.size::a.defers}:Act).tmps.size:=by show q < a.tmps.size;rw[h.size];exact hq
  have hO2:((({a with defers:=ns w.heap.size::a.defers}:Act).put (some q) (.func (.yield w1.heap.size) #[] #[])).put none v).tmps.getD q undef= .func (.yield w1.heap.size) #[] #[]:=by
   show((({a with defers:=ns w.heap.size::a.defers}:Act).put (some q) (.func (.yield w1.heap.size) #[] #[]))).tmps.getD q undef=_
   rw[EV,if_pos ⟨rfl,yx⟩]
  rw[hO2]at hO
  have hl:pl.b=w1.heap.size:=by simpa using hO
  have PC:r3.state≠ .busy:=by
   match p,mj,OS with
   | 0,mj,_=>rw[mj.1];simp
   | 1,_,h=>exact absurd rfl h
   | 2,mj,_=>rw[mj.1];simp
   |_+3,mj,_=>rw[mj.1];simp
  have gV:pl.b < w3.heap.size:=(bB.1 hb).1
  refine⟨r3.pending,_,by rw[<-hl];exact run_endLoop hb PC,?_,?_⟩
  ·match p,mj,OS with
   | 0,mj,_=>exact⟨rfl,mj.2⟩
   | 1,_,h=>exact absurd rfl h
   | 2,mj,_=>exact⟨rfl,mj.2⟩
   |_+3,mj,_=>exact⟨rfl,mj.2⟩
  ·have i6:=i5.kill zn hg (w':=w3.putObj pl.b (.loop {r3 with state:= .exhausted})) rfl rfl ⟨rfl,az _⟩ (by simp) (λb' hb'=>World.putObj_heap_other hb')
   have i7:=i6.put (some q) (v:= .undef) (x:=({a with defers:=ns w.heap.size::a.defers}:Act).tmps.getD q undef) VS.undef
   have e:=LV {a with defers:=ns w.heap.size::a.defers} q (.func (.yield w1.heap.size) #[] #[])
   refine⟨j2 g3 pl.b .free,β3,?_⟩
   simp only[Act.put]at e i7
   rw[e]at i7
   exact i7
 have hc:Calls P h0 (.func (.yield w1.heap.size) #[] #[]::vs2).toArray w2 λe w'=>∃v,e= .returned v/\gm C s3 ((({a with defers:=ns w.heap.size::a.defers}:Act).put (some q) (.func (.yield w1.heap.size) #[] #[])).put none v) w':=by
  rcases hd _ _ _ _ _ _ _ k1 k2 hx with⟨_,hc⟩ | ⟨v,w',QW,_⟩
  ·exact hc.mono λe w' ⟨v,he,ha⟩=>⟨v,he,key v w' ha⟩
  ·rw[SY]at QW;cases QW
 refine⟨w1.heap.size,[ns w.heap.size],w2,⟨.fn (.func h0) vs2.toArray,#[.func (.yield w1.heap.size) #[] #[]]⟩,w2,h0,(.func (.yield w1.heap.size) #[] #[]::vs2).toArray,w2,?_,?_,λ_ _=>trivial,?_,λh=>(by cases h),?_⟩
 ·rw[mE];exact cI
 ·have e:resolve a.eval (rangeCall f w1.heap.size) 0=Deferred.ofValue (a.eval f) #[.func (.yield w1.heap.size) #[] #[]]:=by simp[resolve,rangeCall,Act.eval]
  rw[e,hy]
  simp[Deferred.ofValue]
 ·have e:(#[.func (.yield w1.heap.size) #[] #[]]++vs2.toArray:Array Value)=(.func (.yield w1.heap.size) #[] #[]::vs2).toArray:=by simp
  rw[<-SY,<-e]
  rfl
 ·have h1:CallsIn (Fr none) (n - 1) P h0 (.func (.yield w1.heap.size) #[] #[]::vs2).toArray w2 _:=callsIn_wide.2 hc
  refine h1.mono λe w3 ⟨v,HU,NZ⟩=> ?_
  subst HU
  show ∃jump w4,_/\_
  split at he
  rotate_left
  ·cases he
  rename_i c3 fr3 p3 q' zn JM
  split at he
  ·rename_i hq'
   obtain rfl:q'=q:=ei hq'
   obtain⟨jump,w4,JE,mj,P7⟩:=post NZ zn JM (by decide)
   obtain⟨_,rfl⟩:=mj
   exact⟨none,w4,JE,hk _ _ _ _ P7 he⟩
  ·rename_i hq'
   obtain rfl:q'=q:=ei hq'
   obtain⟨jump,w4,JE,mj,P7⟩:=post NZ zn JM (by decide)
   obtain⟨_,rfl⟩:=mj
   exact⟨_,w4,JE,wpIn_ret (hk _ _ _ _ P7 he)⟩
  ·rename_i i hq'
   obtain rfl:q'=q:=ei hq'
   obtain⟨jump,w4,JE,mj,P7⟩:=post NZ zn JM (by simp)
   obtain⟨_,rfl⟩:=mj
   exact⟨_,w4,JE,wpIn_exit (hk _ _ _ _ P7 he)⟩
  ·cases he
theorem j6{rd:Option Nat}{n:Nat}(hm:P.follows .mixedOrders=true)(hΓ:Sound P Γ)(hC:C.ok){N:Nat}(HX:rd=none\/an.mS.isSome=true):∀(c:Code),lP P Γ an N (jh c)->∀ {R:Type} {r:R} (s:AS) (a:Act) (w:World) (k:Exit->AS->Option R) (Q:Exit->Act->World->Prop),
  gm C s a w->ev P Γ an N c s k=some r->(∀e s' a' w',gm C s' a' w'->k e s'=some r->Q e a' w')->c.wpIn (Fr rd) n P Q a w
 | .skip,hL,_,_,s,a,w,k,Q,hs,h,hk=>wpIn_skip (hk _ _ _ _ hs h)
 | .region id ops draw,hL,_,_,s,a,w,k,Q,hs,h,hk=>by
  simp only[ev]at h
  refine vJ hC (λk Q h hk=> ?_) h hk
  cases draw with
  |true=>
   simp only at h
   split at h
   ·rename_i hE
    exact EA hm hΓ hs hE h λs' a' w' hs' hk'=>hk _ _ _ _ hs' hk'
   ·cases h
  |false=>exact wpIn_region_list (xM hΓ ops.toList hs h λs' a' w' hs' hk'=>hk _ _ _ _ hs' hk')
 | .seq x y,hL,_,_,s,a,w,k,Q,hs,h,hk=>by
  simp only[ev]at h
  refine wpIn_seq (vJ hC (λk Q h hk=>j6 hm hΓ hC HX x hL.append.1 s a w k Q hs h hk) h λe s' a' w' hs' hk'=> ?_)
  cases e with
  |normal=>exact j6 hm hΓ hC HX y hL.append.2 s' a' w' k Q hs' hk' hk
  |_=>exact hk _ s' a' w' hs' hk'
 | .cond c x y,hL,_,_,s,a,w,k,Q,hs,h,hk=>by
  simp only[ev]at h
  split at h
  ·rename_i b hb
   have hc:a.eval c= .bool b:=by
    obtain⟨g,β,hi⟩:=hs
    have:=hi.ev c
    rw[hb]at this
    exact yH this
   refine wpIn_cond hc ?_
   cases b with
   |true=>exact j6 hm hΓ hC HX x hL.append.1 s a w k Q hs h hk
   |false=>exact j6 hm hΓ hC HX y hL.append.2 s a w k Q hs h hk
  ·cases h
 | .block id b,hL,_,_,s,a,w,k,Q,hs,h,hk=>by
  simp only[ev]at h
  refine wpIn_block (j6 hm hΓ hC HX b hL s a w _ _ hs h λe s' a' w' hs' hk'=> ?_)
  cases e with
  |exit i=>
   simp only at hk'
   simp only[Exit.inBlock]
   by_cases hi:i=id
   ·rw[if_pos hi]
    simp only[hi,decide_true]at hk'
    exact hk _ s' a' w' hs' hk'
   ·rw[if_neg hi]
    simp only[hi,decide_false]at hk'
    exact hk _ s' a' w' hs' hk'
  |_=>exact hk _ s' a' w' hs' hk'
 | .loop b,hL,R,r,s,a,w,k,Q,hs,h,hk=>by
  simp only[ev]at h
  obtain⟨s1,h1,h⟩:=il.1 h
  have AH:=kI hC hs h1
  obtain⟨hL1,hL2⟩:=(hL:IX P Γ an N b/\lP P Γ an N (jh b))
  split at h
  ·rename_i le hle
   unfold KK at h
   cases CA:le.set with
   |some S=>
    rw[CA]at h
    simp only at h
    obtain⟨h2,h3⟩:=HH h
    obtain⟨n,hn⟩:=(hL1 le hle).2 S CA s1 h2
    refine wpIn_loop_rounds n (rG (λs s1 a w hs hn=>kI hC hs hn) (λe s s1 a w hs hn=>kI hC hs hn) (λs a w k Q hs hb hk=>j6 hm hΓ hC HX b hL2 s a w k Q hs hb hk) (λe s' a' w' hs' he=> ?_) n s1 a w AH hn)
    obtain⟨x,MK,Qg⟩:=Kh he
    obtain⟨y,hy,h4⟩:=il.1 (h3 x MK)
    rw[Qg,au]at hy
    subst hy
    exact hk _ _ _ _ hs' h4
   |none=>
   rw[CA]at h
   simp only at h
   cases hr:le.run s1 with
   |none=>rw[hr]at h;cases h
   |some x=>
    rw[hr]at h
    simp only[aB]at h
    obtain⟨y,hy,h⟩:=il.1 h
    obtain⟨n,hn⟩:=(hL1 le hle).1 CA s1 x hr
    rw[hy]at hn
    refine wpIn_loop_rounds n (rG (λs s1 a w hs hn=>kI hC hs hn) (λe s s1 a w hs hn=>kI hC hs hn) (λs a w k Q hs hb hk=>j6 hm hΓ hC HX b hL2 s a w k Q hs hb hk) (λe s' a' w' hs' he=> ?_) n s1 a w AH hn)
    simp only[au]at he
    subst he
    exact hk e s' a' w' hs' h
  ·exact wpIn_loop_rounds N (rG (λs s1 a w hs hn=>kI hC hs hn) (λe s s1 a w hs hn=>kI hC hs hn) (λs a w k Q hs hb hk=>j6 hm hΓ hC HX b hL2 s a w k Q hs hb hk) hk N s1 a w AH h)
 | .exit id,hL,_,_,s,a,w,k,Q,hs,h,hk=>wpIn_exit (hk _ _ _ _ hs h)
 | .ret,hL,_,_,s,a,w,k,Q,hs,h,hk=>wpIn_ret (hk _ _ _ _ hs h)
 | .rangeFunc f ps as b,_,_,_,s,a,w,k,Q,hs,h,hk=>by
  simp only[ev]at h
  rcases HX with rfl | HX
  ·exact yD hΓ hs h hk
  ·unfold rR at h
   split at h
   ·rename_i h0 _ _;rw[h0]at HX;cases HX
   ·cases h
 | .scope b,hL,_,_,s,a,w,k,Q,hs,h,hk=>by
  simp only[ev]at h
  refine tT (j6 hm hΓ hC HX b hL s a w _ _ hs h λe s' a' w' hs' hk'=> ?_)
  cases e with
  |goto l=>cases hk'
  |_=>exact hk _ s' a' w' hs' hk'
 | .label _,hL,_,_,s,a,w,k,Q,hs,h,hk=>wpIn_label (hk _ _ _ _ hs h)
 | .goto _,_,_,_,_,_,_,_,_,_,h,_=>by simp[ev]at h
 | .refuse _,_,_,_,_,_,_,_,_,_,h,_=>by simp[ev]at h
variable {g:Nat->jW} {β:Id->Option Pl} {s:AS} {a:Act} {w:World}
def Ac(tmps:Array Value)(r:ResultVar):Sem Value:=
 match r with
 | .tmp t=>pure (tmps.getD t undef)
 | .cell a t=>do loadVar t (<-asAddr (tmps.getD a undef))
theorem wi(h:Inv C g β s a w){r:ResultVar}{v:aw}(he:(Ae P s r).eval=some v):∃x,(Ac a.tmps r).run P w= .ok x w/\VS (s.env w g β) v x:=by
 cases r with
 |tmp t=>
  simp only[Ae]at he
  obtain rfl:=aq.1 he
  exact⟨_,by simp[Ac],h.b8 t⟩
 |cell t T=>
  simp only[Ae]at he
  obtain⟨ad,z,hy,hr,hv⟩:=zG h (h.b8 t) he
  exact⟨z,by simp[Ac,hy,asAddr,hr],hv⟩
theorem wh(h:Inv C g β s a w){r:ResultVar}{o:Option Ty}{y:AS×aw}(he:(Ad P s r o).eval=some y):
  ∃x g',(Ac a.tmps r).run P w= .ok x w/\Inv C g' β y.1 a w/\cD (s.env w g β) (y.1.env w g' β)/\VS (y.1.env w g' β) y.2 x:=by
 cases o with
 |none=>
  simp only[Ad]at he
  obtain⟨v,h1,h2⟩:=ak.1 he
  obtain rfl:=aq.1 h2
  obtain⟨x,hx,hv⟩:=wi h h1
  exact⟨x,g,hx,h,cD.refl _,hv⟩
 |some t=>
  simp only[Ad]at he
  obtain⟨v,h1,h2⟩:=ak.1 he
  obtain⟨d,h3,h4⟩:=ak.1 h2
  obtain rfl:=aq.1 h4
  obtain⟨x,hx,hv⟩:=wi h h1
  obtain⟨g',i1,e1,_,cs,hR,hO⟩:=qc h hv h3
  exact⟨x,g',hx,i1,e1,VS.of (a:= .d t d) (cs:=cs) (by simpa only[V]using hR) hO⟩
theorem ud:∀(l:List ResultVar) (ts:List (Option Ty)) {s:AS} {g:Nat->jW} (_:Inv C g β s a w) {y:AS×aw},(wj P s l ts).eval=some y->
  ∃(xs:List Value) (g':Nat->jW),(l.mapM (Ac a.tmps)).run P w= .ok xs w/\Inv C g' β y.1 a w/\cD (s.env w g β) (y.1.env w g' β)/\VC (y.1.env w g' β) y.2 xs/\xs.length=l.length
 |[],ts,s,g,h,y,he=>by
  simp only[wj]at he
  obtain rfl:=aq.1 he
  exact⟨[],g,by simp,h,cD.refl _,by simp[VC],rfl⟩
 |r::l,ts,s,g,h,y,he=>by
  simp only[wj]at he
  obtain⟨u,h1,h2⟩:=ak.1 he
  obtain⟨hc,h2⟩:=aA.1 h2
  obtain⟨us,h3,h4⟩:=ak.1 h2
  obtain rfl:=aq.1 h4
  obtain⟨x,g1,hx,i1,e1,hv⟩:=wh h h1
  obtain⟨xs,g2,E4,i2,e2,vH,hl⟩:=ud l ts.tail i1 h3
  obtain⟨cs,hV,hO⟩:=(hv.mono e2).dZ hc
  refine⟨x::xs,g2,?_,i2,e1.trans e2,by simp only[VC];exact⟨x,xs,cs,rfl,hV,hO,vH⟩,by simp[hl]⟩
  simp only[List.mapM_cons,Sem.run_bind,hx,Result.andThen_ok,E4,Sem.run_pure]
theorem Jb{E:Env}{v:aw}{xs:List Value}(h:VC E v xs):VS E v (.tuple xs.toArray):=by
 cases v <;> first
  | (simp only[VC]at h;done)
  |exact⟨xs,rfl,h⟩
  | (simp only[VC]at h;subst h;rfl)
theorem A7(h:Inv C g β s a w){fn:Func}{ts:List (Option Ty)}{y:AS×aw}(he:(CP P fn ts s).eval=some y):
  ∃x g',(results fn a.tmps).run P w= .ok x w/\Inv C g' β y.1 a w/\VS (y.1.env w g' β) y.2 x:=by
 have key:∀xs:List Value,(fn.results.toList.mapM (Ac a.tmps)).run P w= .ok xs w->(results fn a.tmps).run P w= .ok (if h:xs.length=1 then xs[0] else .tuple xs.toArray) w:=λxs E4=>by
  have e:results fn a.tmps=(do
   let vs <-fn.results.mapM (Ac a.tmps)
   pure (if h:vs.size=1 then vs[0] else .tuple vs)):=rfl
  rw[e,Array.mapM_eq_mapM_toList]
  simp only[map_eq_pure_bind,Sem.run_bind,E4,Result.andThen_ok,Sem.run_pure]
  congr 1
 unfold CP at he
 split at he
 ·rename_i r hr
  obtain⟨x,g',hx,hi,_,hv⟩:=wh h he
  refine⟨x,g',?_,hi,hv⟩
  rw[key [x] (by simp[hr,hx])]
  simp
 ·rename_i rs gS
  obtain⟨xs,g',hx,hi,_,hv,hl⟩:=ud _ _ h he
  refine⟨.tuple xs.toArray,g',?_,hi,Jb hv⟩
  rw[key xs hx,dif_neg]
  rw[hl]
  intro h1
  obtain⟨r,hr⟩:=List.length_eq_one_iff.1 h1
  exact gS r hr
end
end Go.Ab
namespace Go.Ab
def nq(ids:List Id):jW->jW
 | .own (.id (.new i j)) k=> .own (.id (match idxOf (.new i j) ids with | some m=> .new 0 m | none=> .new 1 0)) k
 |l=>l
def Kl(β:Id->Option Pl)(ids:List Id):Id->Option Pl
 | .dw k=>β (.dw k)
 | .new 0 m=>(ids[m]?).bind β
 | .new (_+1) _=>none
theorem H6{ids:List Id}{g:Nat->jW}{b off:Nat}(h:mY g b off):mY (λb=>nq ids (g b)) b off:=by
 unfold mY at*
 simp only
 cases hg:g b with
 |free=>simp[nq]
 |own o k=>
  rw[hg]at h
  cases o with
  |dH=>exact h
  |id i=>cases i <;> exact h
theorem Cs(s:AS)(v:aw):(s.wW v).Nodup:=(oe s _ _ _ (by simp)).filter _
theorem FH{s:AS}{v:aw}{id:Id}(h:id∈s.wW v):∃i j,id= .new i j:=by
 unfold AS.wW at h
 have:=(dP.1 h).2
 cases id with
 |dw k=>simp[Id.MO]at this
 |new i j=>exact⟨i,j,rfl⟩
section
variable {P:Program} {Γ:ov} {C:Ctx} {g:Nat->jW} {β:Id->Option Pl} {s:AS} {a:Act} {w:World}
theorem Bw(h:Inv C g β s a w)(hC:C.ok){v:aw}{x:Value}(hv:VS (s.env w g β) v x):oI C.E (s.fin v) x w:=by
 unfold AS.fin
 have hn:=Cs s v
 have tP:∀id∈s.wW v,∃i j,id= .new i j:=λid cZ=>FH cZ
 generalize s.wW v=ids at hn tP
 generalize hG:s.Mr ids v=G
 have pN:G.val=v.gJ (uH ids):=by rw[<-hG];rfl
 have hold:∀k,G.st.bT (.dw k)=(s.bT (.dw k)).map (dv.fin ids):=λk=>by
  rw[<-hG]
  show(s.cj.map (dv.fin ids))[k]? =_
  rw[ez];rfl
 have Tb:∀m,G.st.bT (.new 0 m)=(ids[m]?).map λid=>((s.bT id).getD .dead).fin ids:=λm=>by
  rw[<-hG]
  show(ids.map λid=>((s.bT id).getD .dead).fin ids)[m]? =_
  rw[ez]
 have TW:∀i m,G.st.bT (.new (i+1) m)=none:=λi m=>by simp[jA.st,AS.bT]
 let g':Nat->jW:=λb=>nq ids (g b)
 let β':=Kl β ids
 have HV:∀e ver fr c,dv.fin ids e= .obj ver fr c->∃c0,e= .obj ver fr c0/\c=c0.gJ (uH ids):=λe ver fr c he=>by
  cases e with
  |dead=>cases he
  |obj v0 fr0 c0=>
   simp only[dv.fin,dv.obj.injEq]at he
   obtain⟨rfl,rfl,rfl⟩:=he
   exact⟨c0,rfl,rfl⟩
 have hle:qm (uH ids) (s.env w g β) (G.st.env w g' β'):=by
  refine⟨⟨λb off v ⟨h1,h2⟩=>⟨h1,H6 h2⟩,λb ob h1 h2=>⟨by show nq ids (g b)= .free;have h1:g b= .free:=h1;rw[h1];rfl,h2⟩⟩,λid ver r hr hb=> ?_⟩
  obtain⟨wH,yK⟩:=hb
  have wH:s.bT id≠none:=wH
  have yK:∀v fr c,s.bT id=some (.obj v fr c)->ver<=v:=yK
  cases id with
  |dw k=>
   simp only[uH,au]at hr
   subst hr
   refine⟨⟨?_,λv fr c hh=> ?_⟩,λ⟨fr,c,hh⟩=>⟨?_,rfl⟩⟩
   ·show G.st.bT (.dw k)≠none
    rw[hold];simpa using wH
   ·have hh:G.st.bT (.dw k)=some (.obj v fr c):=hh
    rw[hold,eG]at hh
    obtain⟨e,he,hh⟩:=hh
    obtain⟨c0,rfl,_⟩:=HV _ _ _ _ hh
    exact yK v fr c0 he
   ·have hh:G.st.bT (.dw k)=some (.obj ver fr c):=hh
    rw[hold,eG]at hh
    obtain⟨e,he,hh⟩:=hh
    obtain⟨c0,rfl,_⟩:=HV _ _ _ _ hh
    exact⟨fr,c0,he⟩
  |new i j=>
   simp only[uH]at hr
   split at hr
   ·rename_i m hm
    simp only[au]at hr
    subst hr
    have cZ:=lY hm
    obtain⟨e,he⟩:=Option.ne_none_iff_exists'.1 wH
    have hg:G.st.bT (.new 0 m)=some (e.fin ids):=by rw[Tb,cZ];simp[he]
    refine⟨⟨?_,λv fr c hh=> ?_⟩,λ⟨fr,c,hh⟩=>⟨?_,?_⟩⟩
    ·show G.st.bT (.new 0 m)≠none
     rw[hg];simp
    ·have hh:G.st.bT (.new 0 m)=some (.obj v fr c):=hh
     rw[hg,au]at hh
     obtain⟨c0,rfl,_⟩:=HV _ _ _ _ hh
     exact yK v fr c0 he
    ·have hh:G.st.bT (.new 0 m)=some (.obj ver fr c):=hh
     rw[hg,au]at hh
     obtain⟨c0,rfl,_⟩:=HV _ _ _ _ hh
     exact⟨fr,c0,he⟩
    ·show(ids[m]?).bind β=β (.new i j)
     rw[cZ];rfl
   ·cases hr
 have FU:Trans C.E.w w C.E.g g':=by
  have h0:=h.trans
  refine⟨h0.os,h0.tape,h0.output,h0.size,λb hb=> ?_⟩
  have h1:=h0.wN b hb
  show match C.E.g b with | .free=>nq ids (g b)= .free/\_ | .own .dH k=>nq ids (g b)= .own .dH k/\_ | .own (.id _) k=>(nq ids (g b)= .free\/∃i k',nq ids (g b)= .own (.id i) k'/\k<=k')/\_
  cases yu:C.E.g b with
  |free=>simp only[yu]at h1 ⊢;rw[h1.1];exact⟨rfl,h1.2⟩
  |own o k=>cases o with
   |dH=>simp only[yu]at h1 ⊢;rw[h1.1];exact⟨rfl,h1.2⟩
   |id i=>
    simp only[yu]at h1 ⊢
    refine⟨?_,h1.2⟩
    rcases h1.1 with h2 | ⟨i',k',h2,h3⟩
    ·rw[h2];exact .inl rfl
    ·rw[h2]
     right
     cases i' with
     |dw m=>exact⟨_,k',rfl,h3⟩
     |new i j=>exact⟨_,k',rfl,h3⟩
 have Lx:gK (G.st.env w g' β'):=by
  intro id ver fr c cZ
  have cZ:G.st.bT id=some (.obj ver fr c):=cZ
  cases id with
  |dw k=>
   rw[hold,eG]at cZ
   obtain⟨e,he,cZ⟩:=cZ
   obtain⟨c0,rfl,rfl⟩:=HV _ _ _ _ cZ
   refine nP hle (h.bE (.dw k) ver fr c0 he) rfl λpl _=>⟨rfl,λn hg=> ?_,λhg=> ?_⟩
   ·have hg:g pl.b= .own (.id (.dw k)) n:=hg
    show nq ids (g pl.b)=_
    rw[hg];rfl
   ·have hg:g pl.b= .free:=hg
    show nq ids (g pl.b)=_
    rw[hg];rfl
  |new i m=>
   cases i with
   |succ i=>rw[TW]at cZ;cases cZ
   |zero=>
    rw[Tb,eG]at cZ
    obtain⟨id0,NO,cZ⟩:=cZ
    obtain⟨c0,he,rfl⟩:=HV _ _ _ _ cZ
    have cI:s.bT id0=some (.obj ver fr c0):=by
     cases hs:s.bT id0 with
     |none=>rw[hs]at he;cases he
     |some e=>rw[hs]at he;simp only[eu]at he;rw[he]
    obtain⟨i0,j0,rfl⟩:=tP id0 (cR NO)
    refine nP hle (h.bE (.new i0 j0) ver fr c0 cI) (by show(ids[m]?).bind β=_;rw[NO];rfl) λpl _=>⟨rfl,λn hg=> ?_,λhg=> ?_⟩
    ·have hg:g pl.b= .own (.id (.new i0 j0)) n:=hg
     show nq ids (g pl.b)=_
     rw[hg]
     simp only[nq,qs hn NO]
    ·have hg:g pl.b= .free:=hg
     show nq ids (g pl.b)=_
     rw[hg];rfl
 have ho:∀id ver,C.E.r9 id ver->∃k,id= .dw k:=λid ver hb=>by
  cases id with
  |dw k=>exact⟨k,rfl⟩
  |new i j=>exact absurd (hC.1 i j) hb.1
 refine⟨g',β',by rw[pN];exact uk hle hv,Lx,FU,Trans.mem (E:=C.E) (E':=G.st.env w g' β') FU,λid ver hb=> ?_,λid ver hb hc=> ?_⟩
 ·obtain⟨k,rfl⟩:=ho id ver hb
  exact(hle.ref (.dw k) ver (.dw k,ver) rfl (h.le.r9 _ _ hb)).1
 ·obtain⟨k,rfl⟩:=ho id ver hb
  obtain⟨h1,h2⟩:=(hle.ref (.dw k) ver (.dw k,ver) rfl (h.le.r9 _ _ hb)).2 hc
  obtain⟨h3,h4⟩:=h.le.cur _ _ hb h1
  exact⟨h3,h2.trans h4⟩
theorem qi.len{E:Env}:∀ {as:List aw} {vs:List Value},qi E as vs->as.length=vs.length
 |[],[],_=>rfl
 |_::_,_::_,⟨_,h⟩=>by simp[qi.len h]
 |[],_::_,h=>h.elim
 |_::_,[],h=>h.elim
theorem qi.get{E:Env}:∀ {as:List aw} {vs:List Value},qi E as vs->∀i,VS E (as.getD i .undef) (vs.getD i undef)
 |[],[],_,i=>by simpa using VS.undef
 |_::_,_::_,⟨h,_⟩,0=>by simpa using h
 |_::_,_::_,⟨_,h⟩,i+1=>by simpa using qi.get h i
 |[],_::_,h,_=>h.elim
 |_::_,[],h,_=>h.elim
theorem II{w:World}{g:Nat->jW}{β:Id->Option Pl}{fn:Func}{args:List aw}{cj:List dv}{jr:List Value}(hv:qi ((fm cj).env w g β) args jr)(ho:gK ((fm cj).env w g β)):
  Inv ⟨(fm cj).env w g β⟩ g β (start fn args cj) {tmps:=jr.toArray++Array.replicate (fn.ntmps - jr.toArray.size) undef,defers:=[]} w:=by
 have hl:=hv.len
 have cI:(start fn args cj).bT=(fm cj).bT:=by
  funext id
  cases id with
  |dw k=>rfl
  |new i j=>
   simp only[start,fm,AS.bT,aC,List.getElem?_replicate]
   split <;> simp
 have FO:(start fn args cj).env w g β=(fm cj).env w g β:=by simp only[AS.env,cI]
 refine⟨⟨iL,λ_ h=>by cases h⟩,by simp[start,hl],λi=> ?_,by rw[FO];exact ho,Trans.refl _ _,by rw[FO];exact cD.refl _⟩
 rw[FO]
 have h1:(start fn args cj).slot i=args.getD i .undef:=by
  simp only[start,AS.slot,aC,List.getElem?_append,List.getElem?_replicate]
  split
  ·rfl
  ·rw[dn (l:=args) (by omega)]
   split <;> rfl
 have h2:(jr.toArray++Array.replicate (fn.ntmps - jr.toArray.size) undef).getD i undef=jr.getD i undef:=by
  simp only[cv,aC,iT,Array.getElem?_replicate]
  simp only[fX,List.getElem?_toArray]
  split
  ·rfl
  ·rw[dn (l:=jr) (by omega)]
   split <;> rfl
 rw[h1,h2]
 exact hv.get i
theorem Inv.Oz{C:Ctx}{g:Nat->jW}{β:Id->Option Pl}{s:AS}{a:Act}{w:World}(h:Inv C g β s a w){D:Nat}{ds:List Deferred}(hd:a.defers=ns D::ds):
  (Instr.takeDeferred D).run P w= .ok [] (w.putObj D (.deferred none))/\Inv C g β s {a with defers:=ds} (w.putObj D (.deferred none)):=by
 obtain⟨hn,rC⟩:=h.defers
 rw[hd]at hn rC
 obtain⟨D',e,hD,hh,hg⟩:=rC _ (aK ..)
 have e:Deferred.mk (.collected D) #[]=Deferred.mk (.collected D') #[]:=e
 injection e with e _
 injection e with e
 subst e
 have gV:=(bB.1 hh).1
 refine⟨run_takeDeferred hh,?_⟩
 have other:∀b,b≠D->(w.putObj D (.deferred none)).heap[b]? =w.heap[b]? :=λb hb=>World.putObj_heap_other hb
 have qY:∀b off v,w.cell? ⟨b,off,none⟩=some v->b≠D:=λb off v hv e=>by
  subst e
  simp[World.cell?,hh]at hv
 have qJ:mr (s.env w g β) (s.env (w.putObj D (.deferred none)) g β):=by
  refine⟨λb off v ⟨h1,h2⟩=>⟨?_,h2⟩,λb ob h1 h2=>⟨h1,?_⟩⟩
  ·have h1:w.cell? ⟨b,off,none⟩=some v:=h1
   show(w.putObj D (.deferred none)).cell? ⟨b,off,none⟩=some v
   rw[World.cell?_of_block (other b (qY b off v h1))]
   exact h1
  ·have h1:g b= .free:=h1
   have h2:w.heap[b]? =some ob:=h2
   show(w.putObj D (.deferred none)).heap[b]? =some ob
   rw[other b λe=>by rw[e,hg]at h1;cases h1]
   exact h2
 have hle:cD (s.env w g β) (s.env (w.putObj D (.deferred none)) g β):=⟨qJ,λ_ _ h=>h,λ_ _ _ h=>⟨h,rfl⟩⟩
 have gS:∀ {id:Id} {v:Nat} {fr:Bool} {c:aw} {pl:Pl},s.bT id=some (.obj v fr c)->β id=some pl->pl.b≠D:=λhs hp e=>by
  have:=((h.bE _ _ _ _ hs).label hp).2
  have this:(∃k,g _= .own (.id _) k)\/(_/\g _= .free):=this
  rw[e,hg]at this
  rcases this with⟨k,hk⟩ | ⟨_,hk⟩
  ·cases hk
  ·cases hk
 refine⟨⟨(c8.1 hn).2,λd hd'=> ?_⟩,h.size,λi=>(h.b8 i).mono hle,λid ver fr c hs=> ?_,?_,h.le.trans hle⟩
 ·obtain⟨D2,e1,e2,e3,e4⟩:=rC d (aH _ hd')
  refine⟨D2,e1,e2,?_,e4⟩
  rw[other D2 λe=>(c8.1 hn).1 (by rw[<-e,<-e1];exact hd')]
  exact e3
 ·exact nO.mono hle (h.bE id ver fr c hs) rfl (λpl hp=>⟨other _ (gS hs hp),rfl⟩) λq vq k v l hq _=>⟨⟨k,v,l,hq⟩,λpl hp=>⟨other _ (gS hq hp),rfl⟩⟩
 ·have ht:=h.trans
  refine⟨ht.os,ht.tape,ht.output,?_,λb hb=> ?_⟩
  ·have:=ht.size
   simpa[World.putObj]using this
  ·have h1:=ht.wN b hb
   have hbD:b≠D:=by omega
   have hc:∀off v,w.cell? ⟨b,off,none⟩=some v->(w.putObj D (.deferred none)).cell? ⟨b,off,none⟩=some v:=λoff v hv=>by
    rw[World.cell?_of_block (other b hbD)];exact hv
   rw[other b hbD]
   split at h1
   ·exact h1
   ·exact h1
   ·exact⟨h1.1,λoff v ho hv=>hc off v (h1.2 off v ho hv)⟩
theorem xX{C:Ctx}{g:Nat->jW}{β:Id->Option Pl}{s:AS}{fn:Func}{R:Ending->World->Prop}:∀(ds:List Deferred) {a:Act} {w:World},Inv C g β s a w->a.defers=ds->
  (∀a2 w2,Inv C g β s a2 w2->a2.tmps=a.tmps->∃v,(results fn a.tmps).run P w2= .ok v w2/\R (.returned v) w2)->LeavesInM Fence.wide 0 P fn a.tmps R ds .returning w
 |[],a,w,h,hd,hk=>hk a w h rfl
 |d::ds,a,w,h,hd,hk=>by
  obtain⟨D,e,_⟩:=h.defers.2 d (by rw[hd];exact aK ..)
  subst e
  obtain⟨h1,h2⟩:=h.Oz (P:=P) hd
  exact⟨by simp,.inl ⟨D,_,rfl,h1,xX (fn:=fn) (R:=R) ds (a:= {a with defers:=ds}) h2 rfl hk⟩⟩
theorem DE{cj:List dv}{w:World}{g:Nat->jW}{β:Id->Option Pl}(h:cj.all dv.first=true){k v:Nat}{fr:Bool}{c:aw}(hk:((fm cj).env w g β).s (.dw k)=some (.obj v fr c)):v=0:=by
 have hk:cj[k]? =some (.obj v fr c):=by simpa[AS.env,fm,AS.bT]using hk
 have:=cY.1 h _ (cR hk)
 exact ei this
theorem lb.rK(hm:P.follows .mixedOrders=true)(hΓ:Sound P Γ){f:FuncId}{fn:Func}(hf:P.funcs[f]? =some fn)(hb:fn.body.isSome=true)(sN:(fn.name== "runtime.NumGoroutine")=false){en:Entry}{an:tV}{N:Nat}(hL:∀c,fn.body=some c->lP P Γ an N (jh c))
  (h:∀args cj x,en.run args cj=some x->Ht P Γ an N fn args cj some=some (en.out args cj x)) (KT:an.mS=none):lb P f en:=by
 intro w g β args cj jr x hv ho hx
 left
 obtain⟨c,hc⟩:=bS.1 hb
 refine⟨?_,?_⟩
 ·unfold callFunc
  have hname':¬fn.name= "runtime.NumGoroutine" :=by simpa using sN
  simp[hf,hname',hc]
 ·have hN:=h args cj x hx
  unfold Ht at hN
  rw[KT,hc]at hN
  simp only at hN
  split at hN
  ·cases hN
  rename_i hF
  have hC:(Ctx.mk ((fm cj).env w g β)).ok:=⟨λi j=>by simp[AS.env,fm,AS.bT],λk v fr c hk=>DE hF hk⟩
  refine callsIn_wide.1 (callsIn_of_wp_marks (F:=Fence.wide) (n:=0) hf hc trivial (j6 (rd:=none) (C:=⟨(fm cj).env w g β⟩) hm hΓ hC (.inl rfl) c (hL c hc) _ _ w _ _ ⟨g,β,II hv ho⟩ hN λe s' a' w' hs' hk'=> ?_))
  have fin:(finish P an fn s').run (λv=>some v)=some (en.out args cj x)->LeavesInM Fence.wide 0 P fn a'.tmps (λe w'=>∃v,e= .returned v/\oI ((fm cj).env w g β) (en.out args cj x) v w') a'.defers .returning w':=λhr=>by
   obtain⟨G,h1,h2⟩:=il.1 hr
   simp only[au]at h2
   subst h2
   unfold finish at h1
   obtain⟨sd,Rp,h1⟩:=ak.1 h1
   obtain⟨s2,h3,h4⟩:=ak.1 h1
   obtain⟨s3,Tv,h4⟩:=ak.1 h4
   obtain⟨s4,Tw,h4⟩:=ak.1 h4
   obtain⟨y,h5,h6⟩:=ak.1 h4
   obtain⟨g1,β1,MA⟩:=hs'
   refine xX a'.defers MA rfl λa2 w2 RH T7=> ?_
   obtain⟨g0,β0,Lt⟩:=pH _ ⟨g1,β1,RH⟩ Rp
   obtain⟨g',β',hi⟩:=vc _ (ki hC _ ⟨g0,β0,Lt.drop _⟩ h3) Tv
   have hi:=rr hC _ hi Tw
   obtain⟨z,g2,h7,h8,h9⟩:=A7 hi h5
   refine⟨z,by rw[<-T7];exact h7,z,rfl,?_⟩
   rw[<-aq.1 h6]
   exact Bw h8 hC h9
  cases e with
  |normal=>exact fin hk'
  |ret=>exact fin hk'
  |_=>cases hk'
theorem ue:∀(l:List (Tmp×Value)) (t:Array Value),(l.foldl (λtmps (x:Tmp×Value)=>tmps.setIfInBounds x.1 x.2) t).size=t.size
 |[],_=>rfl
 |x::l,t=>by rw[cG,ue l];simp
theorem s9:∀(l:List (Tmp×aw)) (fs:List aw),(ph l fs).length=fs.length
 |[],_=>rfl
 |x::l,fs=>by rw[ph,s9 l];simp
theorem uf{E:Env}:∀(ps:List Tmp) (vs:List aw) (us:List Value) (fs:List aw) (t:Array Value),qi E vs us->fs.length=t.size->(∀i,VS E (fs.getD i .undef) (t.getD i undef))->
  ∀i,VS E ((ph (ps.zip vs) fs).getD i .undef) (((ps.zip us).foldl (λtmps (x:Tmp×Value)=>tmps.setIfInBounds x.1 x.2) t).getD i undef)
 |[],_,_,fs,t,_,_,h=>by simpa[ph]using h
 |_::_,[],[],fs,t,_,_,h=>by simpa[ph]using h
 |_::_,[],_::_,_,_,h,_,_=>h.elim
 |_::_,_::_,[],_,_,h,_,_=>h.elim
 |p::ps,v::vs,u::us,fs,t,⟨h1,h2⟩,hl,h=>by
  simp only[List.zip_cons_cons,ph,cG]
  refine uf ps vs us _ _ h2 (by simpa using hl) λi=> ?_
  simp only[aC,cv,List.getElem?_set,dy,hl]
  have hi:=h i
  simp only[aC,cv]at hi
  split
  ·split
   ·simpa using h1
   ·simpa using VS.undef
  ·exact hi
theorem qi.split{E:Env}:∀(n:Nat) {as:List aw} {us ts:List Value},us.length=n->qi E as (us++ts)->qi E (as.take n) us/\qi E (as.drop n) ts
 | 0,as,[],ts,_,h=>by simpa using⟨trivial,h⟩
 | 0,as,_::_,ts,hn,h=>by simp at hn
 |n+1,as,[],ts,hn,h=>by simp at hn
 |n+1,[],u::us,ts,_,h=>h.elim
 |n+1,a::as,u::us,ts,hn,⟨h1,h2⟩=>by
  have:=qi.split n (by simpa using hn) h2
  exact⟨⟨h1,this.1⟩,this.2⟩
theorem Gx{w:World}{g:Nat->jW}{β:Id->Option Pl}{ps:Array Tmp}{args:List aw}{cj:List dv}{us ts:List Value}(hl:us.length=ps.size)(hv:qi ((fm cj).env w g β) args (us++ts))(ho:gK ((fm cj).env w g β)):
  Inv ⟨(fm cj).env w g β⟩ g β (Ao ps.toList args cj) {tmps:=(ps.zip us.toArray).foldl (λtmps (t,a)=>tmps.setIfInBounds t a) ts.toArray,defers:=[]} w:=by
 obtain⟨h1,h2⟩:=qi.split ps.toList.length (by simpa using hl) hv
 have cI:(Ao ps.toList args cj).bT=(fm cj).bT:=by
  funext id
  cases id with
  |dw k=>rfl
  |new i j=>
   simp only[Ao,fm,AS.bT,aC,List.getElem?_replicate]
   split <;> simp
 have FO:(Ao ps.toList args cj).env w g β=(fm cj).env w g β:=by simp only[AS.env,cI]
 have e:(ps.zip us.toArray).foldl (λtmps (x:Tmp×Value)=>tmps.setIfInBounds x.1 x.2) ts.toArray=(ps.toList.zip us).foldl (λtmps (x:Tmp×Value)=>tmps.setIfInBounds x.1 x.2) ts.toArray:=by
  rw[<-Array.foldl_toList,Array.toList_zip]
 have e':(ps.zip us.toArray).foldl (λtmps (t,a)=>tmps.setIfInBounds t a) ts.toArray=(ps.toList.zip us).foldl (λtmps (x:Tmp×Value)=>tmps.setIfInBounds x.1 x.2) ts.toArray:=e
 rw[e']
 refine⟨⟨iL,λ_ h=>by cases h⟩,?_,λi=> ?_,by rw[FO];exact ho,Trans.refl _ _,by rw[FO];exact cD.refl _⟩
 ·show Array.size _=(ph _ _).length
  rw[ue,s9]
  simpa using h2.len.symm
 ·rw[FO]
  exact uf ps.toList _ us _ _ h1 (by simpa using h2.len) (λi=>by simpa[cv,aC]using h2.get i) i
theorem xC.rK(hm:P.follows .mixedOrders=true)(hΓ:Sound P Γ){y:Nat}{fn:Func}{en:Entry}{an:tV}{N:Nat}(hL:lP P Γ an N (jh (rV P y).as++jh (rV P y).b))
  (h:∀args cj x,en.run args cj=some x->Ht P Γ an N fn args cj some=some (en.out args cj x)) (KT:an.mS=some y):xC P y en:=by
 intro w g β args cj jr x hv ho hx l us ts f rd n Qc mE
 have hN:=h args cj x hx
 unfold Ht at hN
 rw[KT]at hN
 simp only at hN
 unfold Kt at hN
 split at hN
 rotate_left
 ·cases hN
 rename_i args
 split at hN
 ·cases hN
 rename_i hF
 subst Qc
 obtain⟨N2,xO⟩:=hv
 have hC:(Ctx.mk ((fm cj).env w g β)).ok:=⟨λi j=>by simp[AS.env,fm,AS.bT],λk v fr c hk=>DE hF hk⟩
 obtain⟨cs,hV,hO⟩:=N2
 simp only[V]at hV
 obtain⟨l',rfl,HR,eK⟩:=hV
 have hl:l'=l:=by simpa[eW,aw.agg]using hO
 subst hl
 have at_l:∀ {s:AS} {g1:Nat->jW} {β1:Id->Option Pl} {a:Act} {w1:World} {pl:Pl},Inv ⟨(fm cj).env w g β⟩ g1 β1 s a w1->(s.env w1 g1 β1).cur (.dw 0) 0->β1 (.dw 0)=some pl->pl.b=l':=by
  intro s g1 β1 a w1 pl hi hc hp
  obtain⟨c1,c2⟩:=hi.le.cur _ _ HR hc
  obtain⟨pl',hp',rfl⟩:=eK c1
  have c2:β1 (.dw 0)=β (.dw 0):=c2
  have hp':β (.dw 0)=some pl':=hp'
  rw[c2,hp']at hp
  exact(congrArg Pl.b (ba hp)).symm
 refine roundIn_of_wpIn (F:=Fr rd) trivial ?_
 have FT:some l'=none\/an.mS.isSome=true:= .inr (by rw[KT];rfl)
 refine j6 (rd:=some l') hm hΓ hC FT _ hL.append.1 _ _ w _ _ ⟨g,β,Gx mE xO ho⟩ hN λe s1 a1 w1 AH G2=> ?_
 cases e with
 |normal=>
  simp only at G2
  cases h1:s1.xq 0 1 with
  |none=>rw[h1]at G2;cases G2
  |some s2=>
   rw[h1]at G2
   simp only[aB]at G2
   obtain⟨g1,β1,MA⟩:=AH
   obtain⟨pl,r,hp,hc,hb,mj,PZ⟩:=wc MA h1
   have:=at_l MA hc hp
   subst this
   refine⟨_,run_beginRound hb mj.1,?_⟩
   have RH:=PZ {r with state:= .busy} rfl rfl rfl rfl rfl
   refine j6 (rd:=some pl.b) hm hΓ hC FT _ hL.append.2 _ _ _ _ _ ⟨_,_,RH⟩ G2 λe s3 a3 w3 NZ Lu=> ?_
   cases Mx:Mq e with
   |none=>rw[Mx]at Lu;cases Lu
   |some p=>
    rw[Mx]at Lu
    simp only[aB]at Lu
    cases h4:s3.xq 1 p with
    |none=>rw[h4]at Lu;cases Lu
    |some s4=>
     rw[h4]at Lu
     simp only at Lu
     obtain⟨g3,β3,S4⟩:=NZ
     obtain⟨pl3,r3,TX,Mu,SX,T6,hnext3⟩:=wc S4 h4
     have S8:=at_l S4 Mu TX
     rw[S8]at SX hnext3
     have fin:∀(jump:Option Code) (b:Bool),Nat.beq p 0=jump.isNone->Ez p (if jump.isNone then .ready else .done) jump->
       ∃v w',(Instr.endRound pl.b jump).run P w3= .ok v w'/\∃v',Ending.returned v= .returned v'/\oI ((fm cj).env w g β) (en.out (.yl (.dw 0) 0::args) cj x) v' w':=λjump b hb hr=>by
      have TL:=hnext3 {r3 with state:=if jump.isNone then .ready else .done,pending:=jump} rfl rfl rfl rfl hr
      refine⟨_,_,run_endRound jump SX,_,rfl,?_⟩
      obtain⟨G,k1,k2⟩:=il.1 Lu
      simp only[au]at k2
      subst k2
      unfold GU at k1
      obtain⟨sd,m1,k1⟩:=ak.1 k1
      obtain⟨s5,m2,k1⟩:=ak.1 k1
      obtain⟨s6,m3,k1⟩:=ak.1 k1
      obtain⟨s7,m4,k1⟩:=ak.1 k1
      obtain⟨g0,β0,Lt⟩:=pH _ ⟨_,_,TL⟩ m1
      obtain⟨g',β',hi⟩:=vc _ (ki hC _ ⟨g0,β0,Lt.drop _⟩ m2) m3
      have hi:=rr hC _ hi m4
      rw[<-aq.1 k1,hb]
      exact Bw hi hC (nE _)
     cases e with
     |normal=>
      obtain rfl:=ba Mx
      exact fin none true rfl ⟨rfl,rfl⟩
     |ret=>
      obtain rfl:=ba Mx
      exact fin (some .ret) false rfl ⟨rfl,rfl⟩
     |exit i=>
      obtain rfl:=ba Mx
      exact fin (some (.exit i)) false rfl ⟨rfl,rfl⟩
     |goto _=>cases Mx
     |panic _=>cases Mx
     |outgrown=>cases Mx
 |_=>cases G2
end
end Go.Ab
namespace Go.Ab
def eo(k:IntKind)(n:Int):Int:=k.wrap n
def bQ(k:IntKind)(x y:Int):Int:=k.wrap (x+y)
def dC(k:IntKind)(x y:Int):Int:=k.wrap (x - y)
def iv(k:IntKind)(x y:Int):Int:=k.wrap (x*y)
def qK(k:IntKind)(x y:Int):Int:=k.wrap (x.tdiv y)
def o9(x y:Int):Int:=x.tmod y
def mX(k:IntKind)(x y:Int):Int:=k.wrap (x*2^(min y.toNat k.bits))
def cH(k:IntKind)(x y:Int):Int:=x.fdiv (2^(min y.toNat k.bits))
def xS(x y:Int):Bool:=x==y
def sx(x y:Int):Bool:=x !=y
def iX(x y:Int):Bool:=decide (x < y)
def zt(x y:Int):Bool:=decide (x<=y)
def ri(x y:Int):Bool:=decide (x > y)
def qT(x y:Int):Bool:=decide (x>=y)
def seq(x y:ByteArray):Bool:=x.toList==y.toList
def EF(a:ByteArray)(i:Int):Int:=((a.data.toList.getD i.toNat 0).toNat:Int)
def mh(x y:Int):Int:=if y < x then y else x
def imax(x y:Int):Int:=if x < y then y else x
def gw(i n:Int):Bool:=decide (0<=i/\i < n)
def inc(i n:Int):Bool:=decide (0<=i/\i<=n)
def mJ(y:Int):Bool:=decide (0<=y)
def lJ(y:Int):Bool:= !(decide (y=0))
open Classical in
def eR.of{D X:Type}(st:D->AS)(bf:D->Prop)(F:D->X)(out:X->Out (Exit×AS)):eR:=
 {X,run:=λs=>if h:∃d,st d=s/\bf d then some (F h.choose) else none,out}
open Classical in
theorem eR.rK{D X:Type}{st:D->AS}{bf:D->Prop}{F:D->X}{out:X->Out (Exit×AS)}(Cx:∀d d',st d=st d'->d=d'){d:D}(h:bf d):(eR.of st bf F out).run (st d)=some (F d):=by
 have hex:∃d',st d'=st d/\bf d':=⟨d,rfl,h⟩
 show(if h:∃d',st d'=st d/\bf d' then some (F h.choose) else none)=_
 rw[dif_pos hex,Cx _ _ hex.choose_spec.1]
open Classical in
def vi.of{X:Type}(an:km)(st:X->AS):vi:=
 {an,X,N8:=λe s=>if h:e= .normal/\∃x,st x=s then some h.2.choose else none,out:=λx=> .ok (.normal,st x),
  ok:=λe s x h=>by
   by_cases h1:e= .normal/\∃x,st x=s
   ·rw[dif_pos h1]at h
    have h2:=h1.2.choose_spec
    rw[ba h]at h2
    rw[h1.1,<-h2]
    rfl
   ·rw[dif_neg h1]at h;cases h}
open Classical in
theorem vi.Kg{X:Type}{an:km}{st:X->AS}(Cx:∀d d',st d=st d'->d=d')(x:X):(vi.of an st).N8 .normal (st x)=some x:=by
 have hex:Exit.normal= .normal/\∃y,st y=st x:=⟨rfl,x,rfl⟩
 show(if h:Exit.normal= .normal/\∃y,st y=st x then some h.2.choose else none)=_
 rw[dif_pos hex,Cx _ _ hex.2.choose_spec]
open Classical in
theorem IX.of{P:Program}{Γ:ov}{an:tV}{N:Nat}{fn:Func}{i:Nat}{D X:Type}{st:D->AS}{bf:D->Prop}{F:D->X}{out:X->Out (Exit×AS)}
  (hle:an.jl (dD (lW fn i))=some (eR.of st bf F out)) (h:∀d,bf d->∃n,Ed P Γ an N fn i n (st d) (λe s=>some (e,s))=(out (F d)).eval):IX P Γ an N (lW fn i):=by
 intro le hle'
 rw[hle]at hle'
 simp only[au]at hle'
 subst hle'
 refine⟨λ_ s x hx=> ?_,λS hS=>by cases hS⟩
 change (if h:∃d',st d'=s/\bf d' then some (F h.choose) else none)=some x at hx
 split at hx
 ·rename_i hex
  obtain rfl:=ba hx
  obtain⟨h1,h2⟩:=hex.choose_spec
  obtain⟨n,hn⟩:=h _ h2
  refine⟨n,?_⟩
  show Ed P Γ an N fn i n s _=_
  rw[h1]at hn
  exact hn
 ·cases hx
theorem BJ(P:Program)(Γ:ov)(an:tV)(N:Nat)(fn:Func)(i:Nat){R:Type}(n:Nat)(s:AS)(k:Exit->AS->Option R):
  Ed P Γ an N fn i (n+1) s k=xh P Γ an N fn i s (λs1=>Ed P Γ an N fn i n s1 k) k:=rfl
theorem Hc{P:Program}{Γ:ov}{an:tV}{N:Nat}{fn:Func}{i:Nat}{D X:Type}{st:D->AS}{bf:D->Prop}{F:D->X}{out:X->Out (Exit×AS)}(μ:D->Nat)
  (h:∀d,bf d->(∃d',bf d'/\μ d' < μ d/\F d'=F d/\∀ {R:Type} (kn:AS->Option R) (kx:Exit->AS->Option R),xh P Γ an N fn i (st d) kn kx=kn (st d'))\/
   (∃r,(out (F d)).eval=some r/\∀ {R:Type} (kn:AS->Option R) (kx:Exit->AS->Option R),xh P Γ an N fn i (st d) kn kx=kx r.1 r.2)):
  ∀d,bf d->∃n,Ed P Γ an N fn i n (st d) (λe s=>some (e,s))=(out (F d)).eval:=by
 have key:∀m d,μ d=m->bf d->∃n,Ed P Γ an N fn i n (st d) (λe s=>some (e,s))=(out (F d)).eval:=by
  intro m
  induction m using Nat.strongRecOn with
  |_ m ih=>
   intro d hm hp
   rcases h d hp with⟨d',hp',gV,hF,hr⟩ | ⟨r,hr,hx⟩
   ·obtain⟨n,hn⟩:=ih (μ d') (by omega) d' rfl hp'
    exact⟨n+1,by rw[BJ,hr,hn,hF]⟩
   ·exact⟨1,by rw[BJ,hx,hr]⟩
 exact λd hp=>key _ d rfl hp
open Classical in
theorem J5{P:Program}{Γ:ov}{an:tV}{N:Nat}{fn:Func}{i:Nat}{D X:Type}{st:D->AS}{bf:D->Prop}{F:D->X}{ex:X->Exit×AS}(μ:D->Nat)
  (h:∀d,bf d->(∃d',bf d'/\μ d' < μ d/\F d'=F d/\∀ {R:Type} (kn:AS->Option R) (kx:Exit->AS->Option R),xh P Γ an N fn i (st d) kn kx=kn (st d'))\/
   (∀ {R:Type} (kn:AS->Option R) (kx:Exit->AS->Option R),xh P Γ an N fn i (st d) kn kx=kx (ex (F d)).1 (ex (F d)).2)):
  ∀d,bf d->∃n,Ed P Γ an N fn i n (st d) (λe s=>some (e,s))=(Out.ok (ex (F d))).eval:=
 Hc (out:=λx=> .ok (ex x)) μ λd hp=>(h d hp).imp id λh=>⟨_,rfl,h⟩
open Classical in
def Entry.of{D X:Type}(params:List (Option Ty))(st:D->List aw×List dv)(bf:D->Prop)(F:D->X)(out:X->jA):Entry:=
 {params,X,run:=λargs cj=>if h:∃d,st d=(args,cj)/\bf d then some (F h.choose) else none,out:=λ_ _=>out}
open Classical in
theorem Entry.rK{D X:Type}{params:List (Option Ty)}{st:D->List aw×List dv}{bf:D->Prop}{F:D->X}{out:X->jA}(Cx:∀d d',st d=st d'->d=d'){d:D}(h:bf d):
  (Entry.of params st bf F out).run (st d).1 (st d).2=some (F d):=by
 have hex:∃d',st d'=((st d).1,(st d).2)/\bf d':=⟨d,rfl,h⟩
 show(if h:∃d',st d'=((st d).1,(st d).2)/\bf d' then some (F h.choose) else none)=_
 rw[dif_pos hex,Cx _ _ hex.choose_spec.1]
open Classical in
theorem Hf{D X:Type}{params:List (Option Ty)}{st:D->List aw×List dv}{bf:D->Prop}{F:D->X}{out:X->jA}{args:List aw}{cj:List dv}{x:X}(hx:(Entry.of params st bf F out).run args cj=some x):∃d,st d=(args,cj)/\bf d/\x=F d:=by
 change (if h:∃d',st d'=(args,cj)/\bf d' then some (F h.choose) else none)=some x at hx
 split at hx
 ·rename_i hex
  obtain rfl:=ba hx
  exact⟨_,hex.choose_spec.1,hex.choose_spec.2,rfl⟩
 ·cases hx
theorem lb.of{P:Program}{Γ:ov}(hm:P.follows .mixedOrders=true)(hΓ:Sound P Γ){f:FuncId}{fn:Func}(hf:P.funcs[f]? =some fn)(hb:fn.body.isSome=true)(sN:(fn.name== "runtime.NumGoroutine")=false){an:tV}{N:Nat}
  (hL:∀c,fn.body=some c->lP P Γ an N (jh c)) {D X:Type} {params:List (Option Ty)} {st:D->List aw×List dv} {bf:D->Prop} {F:D->X} {out:X->jA}
  (h:∀d,bf d->Ht P Γ an N fn (st d).1 (st d).2 some=some (out (F d))) (KT:an.mS=none:=by exact rfl):lb P f (Entry.of params st bf F out):=by
 refine lb.rK hm hΓ hf hb sN hL (λargs cj x hx=> ?_) KT
 obtain⟨d,e1,e2,rfl⟩:=Hf hx
 have:=h d e2
 rw[e1]at this
 exact this
def KQ(P:Program)(Γ:ov)(an:tV)(N:Nat)(fn:Func):Nat->Nat->Prop
 | 0,_=>True
 |n+1,i=>IX P Γ an N (lW fn i)/\KQ P Γ an N fn n (i+1)
theorem KQ.get{P:Program}{Γ:ov}{an:tV}{N:Nat}{fn:Func}:∀ {n i:Nat},KQ P Γ an N fn n i->∀j,j < n->IX P Γ an N (lW fn (i+j))
 | 0,_,_,j,hj=>by omega
 |n+1,i,h,0,_=>h.1
 |n+1,i,h,j+1,hj=>by
  have:=KQ.get h.2 j (by omega)
  rwa[show i+1+j=i+(j+1) by omega]at this
theorem lP.Kf{P:Program}{Γ:ov}{an:tV}{N:Nat}:∀(l:List Code),(∀j,j < l.length->IX P Γ an N (l.getD j .skip))->lP P Γ an N l
 |[],_=>trivial
 |b::l,h=>⟨h 0 (by simp),lP.Kf l λj hj=>by have:=h (j+1) (by simpa using hj);simpa using this⟩
theorem lP.fn{P:Program}{Γ:ov}{an:tV}{N:Nat}{fn:Func}(n:Nat)(hn:(match fn.body with | some c=>(jh c).length | none=>0)=n)(h:KQ P Γ an N fn n 0):∀c,fn.body=some c->lP P Γ an N (jh c):=by
 intro c hc
 refine lP.Kf _ λj hj=> ?_
 rw[hc]at hn
 simp only at hn
 have:=h.get j (by omega)
 unfold lW at this
 rw[hc]at this
 simpa using this
theorem IX.none{P:Program}{Γ:ov}{an:tV}{N:Nat}{fn:Func}{i:Nat}(h:an.jl (dD (lW fn i))=none):IX P Γ an N (lW fn i):=λle hle=>by
 rw[h]at hle;cases hle
def Pp:ov:=λ_ _=>none
theorem Sound.nil(P:Program):Sound P Pp:=λ_ _ _ h=>by cases h
def JB(f:FuncId)(p:List aw->Bool)(en:Entry)(Γ:ov):ov:=λg vs=>match Nat.beq g f with | true=>(match p vs with | true=>some en | false=>Γ g vs) | false=>Γ g vs
theorem Sound.cons{P:Program}{f:FuncId}{p:List aw->Bool}{en:Entry}{Γ:ov}(h:oJ P f en)(hΓ:Sound P Γ):Sound P (JB f p en Γ):=λg vs e hg=>by
 unfold JB at hg
 split at hg
 ·rename_i he
  have:g=f:=ei he
  split at hg
  ·simp only[au]at hg
   subst hg this
   exact h
  ·exact hΓ g vs e hg
 ·exact hΓ g vs e hg
theorem Mp{t:Ty}{x y:t.den}(h:aw.d t x=aw.d t y):x=y:=by
 injection h with _ h
theorem Me{e:TypeId}{t:Ty}{x y:List t.den}(h:aw.vec e t x=aw.vec e t y):x=y:=by
 injection h with _ _ h
def yG:List aw->Bool:=λ_=>true
def Ik:List aw->Bool | .dp::_=>true | _=>false
def IH:List aw->Bool | .cO .. ::_=>true | _=>false
@[simp] theorem ag{α:Type}(x y:Option α):aN true x y=x:=rfl
@[simp] theorem ai{α:Type}(x y:Option α):aN false x y=y:=rfl
@[simp] theorem ae{α β:Type}(x:α)(f:α->Option β):aB (some x) f=f x:=rfl
@[simp] theorem IB{α:Type}(c:nf)(x:Option α):same c c x=x:=by simp[same]
@[simp] theorem tF{α:Type}(x:Option α):nd x x=x:=by simp[nd]
structure SG(P:Program) where
 f:FuncId
 p:List aw->Bool
 e:Entry
 h:oJ P f e
def mR{P:Program}:List (SG P)->ov
 |[]=>Pp
 |a::l=>JB a.f a.p a.e (mR l)
theorem Sound.mR{P:Program}:∀l:List (SG P),Sound P (mR l)
 |[]=>Sound.nil P
 |a::l=>Sound.cons a.h (Sound.mR l)
abbrev SA:=List aw×List dv
def KZ(P:Program)(G:ov)(an:tV)(N:Nat)(fn:Func){D:Type}(st:D->SA){R:Type}(d:D)(k:jA->Option R):Option R:=Ht P G an N fn (st d).1 (st d).2 k
def iN(P:Program)(G:ov)(an:tV)(N:Nat)(fn:Func)(i:Nat){D:Type}(st:D->AS){R:Type}(d:D)(kn:AS->Option R)(kx:Exit->AS->Option R):Option R:=xh P G an N fn i (st d) kn kx
abbrev O8{D X Y:Type}(A: {R:Type}->D->(jA->Option R)->Option R)(bf:D->Prop)(add:D->Y->X)(F:D->Y)(out:X->jA):Prop:=
 ∀d,bf d->A d some=some (out (add d (F d)))
abbrev oS(P:Program)(G:ov)(an:tV)(N:Nat)(fn:Func)(i:Nat){D X Y:Type}(st:D->AS)(bf:D->Prop)(add:D->Y->X)(F:D->Y)(out:X->Out (Exit×AS)):Prop:=
 ∀d,bf d->∃n,Ed P G an N fn i n (st d) (λe s=>some (e,s))=(out (add d (F d))).eval
abbrev Q6{D X Y:Type}(R: {R:Type}->D->(AS->Option R)->(Exit->AS->Option R)->Option R)(st:D->AS)(bf:D->Prop)(add:D->Y->X)(F:D->Y)(ex:X->Exit×AS)(C:Prop):Prop:=
 ∀μ:D->Nat,(∀d,bf d->(∃d',bf d'/\μ d' < μ d/\add d' (F d')=add d (F d)/\∀ {T:Type} (kn:AS->Option T) (kx:Exit->AS->Option T),R d kn kx=kn (st d'))\/
  (∀ {T:Type} (kn:AS->Option T) (kx:Exit->AS->Option T),R d kn kx=kx (ex (add d (F d))).1 (ex (add d (F d))).2))->C
abbrev qh{D X Y:Type}(R: {R:Type}->D->(AS->Option R)->(Exit->AS->Option R)->Option R)(st:D->AS)(bf:D->Prop)(add:D->Y->X)(F:D->Y)(out:X->Out (Exit×AS))(C:Prop):Prop:=
 ∀μ:D->Nat,(∀d,bf d->(∃d',bf d'/\μ d' < μ d/\add d' (F d')=add d (F d)/\∀ {T:Type} (kn:AS->Option T) (kx:Exit->AS->Option T),R d kn kx=kn (st d'))\/
  (∃r,(out (add d (F d))).eval=some r/\∀ {T:Type} (kn:AS->Option T) (kx:Exit->AS->Option T),R d kn kx=kx r.1 r.2))->C
theorem qH{P:Program}{G:ov}{an:tV}{N:Nat}{fn:Func}{i:Nat}{D X Y:Type}{st:D->AS}{bf:D->Prop}{add:D->Y->X}{F:D->Y}{out:X->Out (Exit×AS)}:
  qh (iN P G an N fn i st) st bf add F out (oS P G an N fn i st bf add F out):=λ μ h=>Hc (F:=λd=>add d (F d)) (out:=out) μ h
def qu:List (Nat×km)->Nat->km
 |[],_=> {}
 |a::l,r=>bif Nat.beq r a.1 then a.2 else qu l r
def qt:List (Nat×km×km)->Nat->Bool->km
 |[],_,_=> {}
 |a::l,r,b=>bif Nat.beq r a.1 then(bif b then a.2.2 else a.2.1) else qt l r b
def qU.{v} {α:Type v}:List (Nat×α)->Nat->Option α
 |[],_=>none
 |a::l,r=>bif Nat.beq r a.1 then some a.2 else qU l r
inductive Lf where
 |d (t:Ty)
 |n
@[reducible] def Lf.den:Lf->Type
 | .d t=>t.den
 | .n=>Nat
@[reducible] def Lf.IP:List Lf->Type
 |[]=>Unit
 |[a]=>a.den
 |a::b::l=>a.den×Lf.IP (b::l)
abbrev Pb:=List (Sigma Lf.den)
def Lf.mk:(ts:List Lf)->Lf.IP ts->Pb
 |[],_=> []
 |[a],x=> [⟨a,x⟩]
 |a::b::l,x=>⟨a,x.1⟩::Lf.mk (b::l) x.2
theorem Lf.mk_inj:∀(ts:List Lf) (x y:Lf.IP ts),Lf.mk ts x=Lf.mk ts y->x=y
 |[],_,_,_=>rfl
 |[a],x,y,h=>by
  injection h with h _
  injection h
 |a::b::l,(x,u),(y,v),h=>by
  injection h with h h2
  injection h with _ h
  have h:x=y:=h
  rw[h,Lf.mk_inj (b::l) u v h2]
def aw.leaves:aw->Pb
 | .d .unit _=> []
 | .d (.arr _ t) l=> [⟨.d (.slice t),l⟩]
 | .d t x=> [⟨.d t,x⟩]
 | .eS t x=> [⟨.d t,x⟩]
 | .vec _ t l=> [⟨.d (.slice t),l⟩]
 | .mp k v l=> [⟨.d (.slice (.pair k v)),l⟩]
 | .ml _ _ k v l _=> [⟨.d (.slice (.pair k v)),l⟩]
 | .ow _ f _=>f.leaves
 | .cO _ _ _ _ _ n=> [⟨.n,n⟩]
 | .pr a b=>a.leaves++b.leaves
 | .cons a b=>a.leaves++b.leaves
 | .fn _ c=>c.leaves
 | .bx _ _ c=>c.leaves
 |_=> []
def dv.leaves:dv->Pb
 | .obj _ _ c=>c.leaves
 | .dead=> []
def SA.leaves(s:SA):Pb:=s.1.flatMap aw.leaves++s.2.flatMap dv.leaves
def AS.leaves(s:AS):Pb:=s.b8.flatMap aw.leaves++(s.cj.flatMap dv.leaves++s.news.flatMap (·.flatMap dv.leaves))
theorem Ss(ts:List Lf){st:Lf.IP ts->SA}(h:∀d,SA.leaves (st d)=Lf.mk ts d)(d d':Lf.IP ts)(e:st d=st d'):d=d':=Lf.mk_inj ts d d' (by rw[<-h,<-h,e])
theorem o8(ts:List Lf){st:Lf.IP ts->AS}(h:∀d,AS.leaves (st d)=Lf.mk ts d)(d d':Lf.IP ts)(e:st d=st d'):d=d':=Lf.mk_inj ts d d' (by rw[<-h,<-h,e])
def Entry.iY{D X Y:Type}(params:List (Option Ty))(st:D->SA)(bf:D->Prop)(add:D->Y->X)(F:D->Y)(out:X->jA):Entry:=Entry.of params st bf (λd=>add d (F d)) out
def eR.iY{D X Y:Type}(st:D->AS)(bf:D->Prop)(add:D->Y->X)(F:D->Y)(out:X->Out (Exit×AS)):eR:=eR.of st bf (λd=>add d (F d)) out
def Mo{D:Type}(E:Entry)(st:D->SA):D->Option E.X:=λd=>E.run (st d).1 (st d).2
def kE{D:Type}(E:eR)(st:D->AS):D->Option E.X:=λd=>E.run (st d)
abbrev ng{D X Y:Type}(call:D->Option X)(bf:D->Prop)(add:D->Y->X)(F:D->Y):Prop:=∀ {d:D},bf d->call d=some (add d (F d))
theorem SH{D X Y:Type}{params:List (Option Ty)}{st:D->SA}{bf:D->Prop}{add:D->Y->X}{F:D->Y}{out:X->jA}(Cx:∀d d',st d=st d'->d=d'):
  ng (Mo (Entry.iY params st bf add F out) st) bf add F:=λh=>Entry.rK Cx h
theorem ql{D X Y:Type}{st:D->AS}{bf:D->Prop}{add:D->Y->X}{F:D->Y}{out:X->Out (Exit×AS)}(Cx:∀d d',st d=st d'->d=d'):
  ng (kE (eR.iY st bf add F out) st) bf add F:=λh=>eR.rK Cx h
def Lj(P:Program)(fn:Func):Bool:=P.follows .mixedOrders && fn.body.isSome && !(fn.name== "runtime.NumGoroutine")
def JA(fn:Func):Nat:=match fn.body with | some c=>(jh c).length | none=>0
theorem lb.fn{P:Program}{l:List (SG P)}{f:FuncId}{fn:Func}{an:tV}{N:Nat}{D X Y:Type}{params:List (Option Ty)}{st:D->SA}{bf:D->Prop}{add:D->Y->X}{F:D->Y}{out:X->jA}(n:Nat)
  (hc:(P.funcs[f]?,Lj P fn,JA fn)=(some fn,true,n))
  (h:O8 (@KZ P (mR l) an N fn D st) bf add F out)
  (hL:KQ P (mR l) an N fn n 0) (KT:an.mS=none:=by exact rfl):lb P f (Entry.iY params st bf add F out):=by
 injection hc with h1 h2
 injection h2 with h2 h3
 unfold Lj at h2
 simp only[ah,bC]at h2
 exact lb.of h2.1.1 (Sound.mR l) h1 h2.1.2 h2.2 (lP.fn n h3 hL) h KT
theorem xC.fn{P:Program}{l:List (SG P)}{y:Nat}{an:tV}{N:Nat}{D X Y:Type}{params:List (Option Ty)}{st:D->SA}{bf:D->Prop}{add:D->Y->X}{F:D->Y}{out:X->jA}(n:Nat)
  (hc:(P.follows .mixedOrders,JA (M4 P y))=(true,n))
  (h:O8 (@KZ P (mR l) an N (M4 P y) D st) bf add F out)
  (hL:KQ P (mR l) an N (M4 P y) n 0) (KT:an.mS=some y):xC P y (Entry.iY params st bf add F out):=by
 injection hc with h1 h2
 refine xC.rK h1 (Sound.mR l) (fn:=M4 P y) (lP.fn (fn:=M4 P y) n h2 hL _ rfl) (λargs cj x hx=> ?_) KT
 obtain⟨d,e1,e2,rfl⟩:=Hf hx
 have:=h d e2
 unfold KZ at this
 rw[e1]at this
 exact this
theorem IX.iY{P:Program}{Γ:ov}{an:tV}{N:Nat}{fn:Func}{i:Nat}{D X Y:Type}{st:D->AS}{bf:D->Prop}{add:D->Y->X}{F:D->Y}{out:X->Out (Exit×AS)}
  (h:oS P Γ an N fn i st bf add F out) (hle:an.jl (dD (lW fn i))=some (eR.iY st bf add F out):=by kernel_rfl):IX P Γ an N (lW fn i):=IX.of hle h
abbrev K1(R:Type):=jA->Option R
abbrev K2(R:Type):=AS->Option R
abbrev K3(R:Type):=Exit->AS->Option R
@[reducible] def bV{D Y:Type}(_:D)(y:Y):Y:=y
structure Ls{D Y X:Type}(bf:D->Prop)(add:D->Y->X)(F:D->Y) where
 st:D->AS
 ex:X->Exit×AS
noncomputable def ra{D Y X:Type}{bf:D->Prop}{add:D->Y->X}{F:D->Y}(st:D->AS)(ex:X->Exit×AS):Ls bf add F:=⟨st,ex⟩
section
variable {D Y X:Type} {bf:D->Prop} {add:D->Y->X} {F:D->Y} (L:Ls bf add F)
def Ls.out:X->Out (Exit×AS):=λx=> .ok (L.ex x)
def Ls.E:eR:=eR.iY L.st bf add F L.out
def Ls.call:D->Option X:=kE L.E L.st
abbrev Ls.go{R:Type}(kx:K3 R)(x:X):Option R:=kx (L.ex x).1 (L.ex x).2
abbrev Ls.RS:Prop:=ng L.call bf add F
end
theorem rL(ts:List Lf){Y X:Type}{bf:Lf.IP ts->Prop}{add:Lf.IP ts->Y->X}{F:Lf.IP ts->Y}(L:Ls bf add F)(h:∀d,AS.leaves (L.st d)=Lf.mk ts d:=by exact λ_=>by kernel_rfl):ng L.call bf add F:=ql (o8 ts h)
structure Fs(P:Program){D Y X:Type}(bf:D->Prop)(add:D->Y->X)(F:D->Y) where
 i:FuncId
 fn:Func
 st:D->SA
 out:X->jA
 ps:List (Option Ty)
 G:List (SG P)
 an:tV
 N:Nat
noncomputable def gf{P:Program}{D Y X:Type}{bf:D->Prop}{add:D->Y->X}{F:D->Y}(i:FuncId)(fn:Func)(st:D->SA)(out:X->jA)(ps:List (Option Ty))(G:List (SG P):=[])(an:tV:= {})(N:Nat:=0):Fs P bf add F:=⟨i,fn,st,out,ps,G,an,N⟩
section
variable {P:Program} {D Y X:Type} {bf:D->Prop} {add:D->Y->X} {F:D->Y} (f:Fs P bf add F) {D' Y' X':Type} {Pre':D'->Prop} {add':D'->Y'->X'} {F':D'->Y'}
def Fs.A{R:Type}(d:D)(k:K1 R):Option R:=KZ P (mR f.G) f.an f.N f.fn f.st d k
def Fs.R(i:Nat)(L:Ls Pre' add' F'){R:Type}(d:D')(kn:K2 R)(kx:K3 R):Option R:=iN P (mR f.G) f.an f.N f.fn i L.st d kn kx
abbrev Fs.Ok:Prop:=∀d,bf d->f.A d some=some (f.out (add d (F d)))
abbrev Fs.lP(i:Nat)(L:Ls Pre' add' F'):Prop:=oS P (mR f.G) f.an f.N f.fn i L.st Pre' add' F' L.out
def Fs.E:Entry:=Entry.iY f.ps f.st bf add F f.out
def Fs.call:D->Option X:=Mo f.E f.st
theorem Fs.mS(i:Nat)(L:Ls Pre' add' F'):Q6 (@Fs.R P D Y X bf add F f D' Y' X' Pre' add' F' i L) L.st Pre' add' F' L.ex (f.lP i L):=λ μ h=>J5 (F:=λd=>add' d (F' d)) μ h
abbrev Fs.RS:Prop:=ng f.call bf add F
def Fs.SI(p:List aw->Bool)(ok:f.Ok)(n:Nat:=0)(hL:KQ P (mR f.G) f.an f.N f.fn n 0:=by exact trivial)(hc:(P.funcs[f.i]?,Lj P f.fn,JA f.fn)=(some f.fn,true,n):=by kernel_rfl)(hy:Nat.blt f.i yB=true:=by exact rfl)(hn:f.an.mS=none:=by exact rfl):SG P:=⟨f.i,p,f.E,.of (lb.fn n hc ok hL hn) hy⟩
def Fs.Uj(ok:f.Ok)(n:Nat:=0)(hL:KQ P (mR f.G) f.an f.N f.fn n 0:=by exact trivial)(hc:(P.follows .mixedOrders,JA (M4 P f.i))=(true,n):=by kernel_rfl)(hf:f.fn=M4 P f.i:=by exact rfl)(hy:Nat.ble yB f.i=true:=by exact rfl)(hn:f.an.mS=some f.i:=by exact rfl):SG P:=
 ⟨f.i,yG,f.E,.Uf (xC.fn n hc (by have:=ok;unfold Fs.Ok Fs.A at this;rw[hf]at this;exact this) (by rw[<-hf];exact hL) hn) hy⟩
def Fs.gk(ok:f.Ok)(n:Nat:=0)(hL:KQ P (mR f.G) f.an f.N f.fn n 0:=by exact trivial)(hc:(P.funcs[f.i]?,Lj P f.fn,JA f.fn)=(some f.fn,true,n):=by kernel_rfl)(hy:Nat.blt f.i yB=true:=by exact rfl)(hn:f.an.mS=none:=by exact rfl):SG P:=f.SI yG ok n hL hc hy hn
end
theorem rE(ts:List Lf){P:Program}{Y X:Type}{bf:Lf.IP ts->Prop}{add:Lf.IP ts->Y->X}{F:Lf.IP ts->Y}(f:Fs P bf add F)(h:∀d,SA.leaves (f.st d)=Lf.mk ts d:=by exact λ_=>by kernel_rfl):ng f.call bf add F:=SH (Ss ts h)
abbrev tu:Ty:=(.int .u64)
abbrev ti:Ty:=(.int .i64)
abbrev tb:Ty:=(.int .u8)
abbrev tB:Ty:=(.slice tb)
abbrev Bs:=(List Int)
abbrev tH:Ty:=(.arr 32 tb)
abbrev tU:Ty:=(.slice tu)
abbrev gz:Ty:=(.pair tH (.pair ti .unit))
abbrev jm:=(Bs×(Int×Unit))
abbrev I7:Ty:=(.pair tu (.pair tu .unit))
abbrev Sg:=(Int×(Int×Unit))
abbrev Qy:Ty:=(.pair ti (.pair (.slice I7) (.pair tu .unit)))
abbrev Fg:=(Int×((List Sg)×(Int×Unit)))
abbrev kL:Ty:=(.pair gz (.pair Qy .unit))
abbrev jO:=(jm×(Fg×Unit))
abbrev mU:Ty:=(.pair tU (.pair ti (.pair ti (.pair tu .unit))))
abbrev tl:=(Bs×(Int×(Int×(Int×Unit))))
abbrev re:Ty:=(.pair (.slice mU) .unit)
abbrev Lk:=((List tl)×Unit)
abbrev mZ:Ty:=(.pair ti (.pair re .unit))
abbrev na:=(Int×(Lk×Unit))
abbrev px:Ty:=(.pair (.slice kL) (.pair (.slice mZ) (.pair ti .unit)))
abbrev ke:=((List jO)×((List na)×(Int×Unit)))
abbrev OF:=(Bs×(Bool×Unit))
end Go.Ab
namespace Go.Ab
theorem pO{n:Int}(h1: -9223372036854775808<=n)(h2:n<=9223372036854775807):IntKind.i64.wrap n=n:=by
 simp[IntKind.wrap,IntKind.bits,IntKind.signed]
 split <;> omega
theorem dL{x y:Int}(h1: -9223372036854775808<=x+y)(h2:x+y<=9223372036854775807):bQ .i64 x y=x+y:=pO h1 h2
theorem ee{x y:Int}(h1: -9223372036854775808<=x - y)(h2:x - y<=9223372036854775807):dC .i64 x y=x - y:=pO h1 h2
theorem pP{x y:Int}(h1: -9223372036854775808<=x*y)(h2:x*y<=9223372036854775807):iv .i64 x y=x*y:=pO h1 h2
theorem G4{x:Int}(h1: -9223372036854775808<=x)(h2:x<=9223372036854775807):eo .i64 x=x:=pO h1 h2
def vw{n:Nat}(w:BitVec n):Int:=(w.toNat:Int)
theorem kc(n:Nat)(x:Int):vw (BitVec.ofInt n x)=x%((2^n:Nat):Int):=by
 unfold vw
 rw[lN]
 have:0<=x%((2^n:Nat):Int):=jb _ (by have:=Nat.two_pow_pos n;omega)
 omega
theorem B9{n:Nat}(w:BitVec n):0<=vw w:=Int.natCast_nonneg _
theorem M1{n:Nat}(w:BitVec n):vw w < ((2^n:Nat):Int):=by have:=w.isLt;unfold vw;omega
theorem nZ{n:Nat}(w:BitVec n):BitVec.ofInt n (vw w)=w:=by
 apply BitVec.eq_of_toNat_eq
 have:=kc n (vw w)
 unfold vw at this ⊢
 have h:=w.isLt
 rw[Int.emod_eq_of_lt (Int.natCast_nonneg _) (by omega)]at this
 omega
theorem wrap_u32(x:Int):IntKind.u32.wrap x=vw (BitVec.ofInt 32 x):=by rw[kc];simp[IntKind.wrap,IntKind.bits,IntKind.signed]
theorem wrap_u64(x:Int):IntKind.u64.wrap x=vw (BitVec.ofInt 64 x):=by rw[kc];simp[IntKind.wrap,IntKind.bits,IntKind.signed]
theorem wrap_u8(x:Int):IntKind.u8.wrap x=vw (BitVec.ofInt 8 x):=by rw[kc];simp[IntKind.wrap,IntKind.bits,IntKind.signed]
theorem ofInt_add(n:Nat)(x y:Int):BitVec.ofInt n (x+y)=BitVec.ofInt n x+BitVec.ofInt n y:=BitVec.ofInt_add ..
theorem zs(x y:BitVec 32):bQ .u32 (vw x) (vw y)=vw (x+y):=by rw[bQ,wrap_u32,BitVec.ofInt_add,nZ,nZ]
theorem Lz(x:Int):eo .u32 x=vw (BitVec.ofInt 32 x):=wrap_u32 x
theorem LA(x:Int):eo .u64 x=vw (BitVec.ofInt 64 x):=wrap_u64 x
theorem CB(x:Int):eo .u8 x=vw (BitVec.ofInt 8 x):=wrap_u8 x
theorem Kc{n:Nat}(x:BitVec n):BitVec.ofInt n ((x.toNat:Nat):Int)=x:=nZ x
theorem tq(op:BinOp)(x y:BitVec 32):dF op .u32 (vw x) (vw y)=vw (match op with | .and=>x &&& y | .or=>x ||| y | .xor=>x^^^y | _=>x &&& ~~~y):=by
 unfold dF
 split <;> (simp only[IntKind.bits,nZ,wrap_u32,Kc];rfl)
theorem Hw(op:BinOp)(x y:BitVec 64):dF op .u64 (vw x) (vw y)=vw (match op with | .and=>x &&& y | .or=>x ||| y | .xor=>x^^^y | _=>x &&& ~~~y):=by
 unfold dF
 split <;> (simp only[IntKind.bits,nZ,wrap_u64,Kc];rfl)
theorem Jx(x y:Nat):Int.fdiv (x:Int) (y:Int)=((x / y:Nat):Int):=by
 rw[Int.fdiv_eq_ediv_of_nonneg _ (Int.natCast_nonneg _)]
 rfl
theorem wE(k:Nat):(2:Int)^k=((2^k:Nat):Int):=by simp
theorem On{n:Nat}(w:BitVec n)(k:Nat):Int.fdiv (vw w) (2^(min k n))=vw (w >>> k):=by
 rw[wE]
 unfold vw
 rw[Jx,BitVec.toNat_ushiftRight,Nat.shiftRight_eq_div_pow]
 congr 1
 rcases Nat.le_total k n with hk | hk
 ·rw[dQ hk]
 ·rw[Nat.min_eq_right hk,Nat.div_eq_of_lt w.isLt,Nat.div_eq_of_lt]
  exact lR w.isLt (Nat.pow_le_pow_right (by omega) hk)
theorem zA(w:BitVec 32)(k:Int):cH .u32 (vw w) k=vw (w >>> k.toNat):=On w k.toNat
theorem Om{n:Nat}(w:BitVec n)(k:Nat):BitVec.ofInt n (vw w*2^(min k n))=w <<< k:=by
 apply BitVec.eq_of_toNat_eq
 rw[lN,BitVec.toNat_shiftLeft,Nat.shiftLeft_eq]
 unfold vw
 rw[wE]
 have e:((w.toNat:Int)*((2^min k n:Nat):Int))=((w.toNat*2^min k n:Nat):Int):=by simp
 rw[e]
 have:(((w.toNat*2^min k n:Nat):Int)%((2^n:Nat):Int)).toNat=(w.toNat*2^min k n)%2^n:=by omega
 rw[this]
 rcases Nat.le_total k n with hk | hk
 ·rw[dQ hk]
 ·rw[Nat.min_eq_right hk,Nat.mul_mod_left]
  obtain⟨m,rfl⟩:=Nat.exists_eq_add_of_le hk
  rw[Nat.pow_add,<-Nat.mul_assoc,Nat.mul_right_comm,Nat.mul_mod_left]
theorem D6(w:BitVec 32)(k:Int):mX .u32 (vw w) k=vw (w <<< k.toNat):=by rw[mX,wrap_u32];congr 1;exact Om w k.toNat
theorem bt{i n:Int}(h1:0<=i)(h2:i < n):gw i n=true:=by simp[gw,h1,h2]
theorem gO{i n:Int}(h1:0<=i)(h2:i<=n):inc i n=true:=by simp[inc,h1,h2]
theorem aU{x y:Int}(h:x < y):iX x y=true:=by simp[iX,h]
theorem aW{x y:Int}(h:¬x < y):iX x y=false:=by simp[iX];omega
theorem hZ{x y:Int}(h:x<=y):zt x y=true:=by simp[zt,h]
theorem fO{x y:Int}(h:¬x<=y):zt x y=false:=by simp[zt];omega
theorem dA{x y:Int}(h:x > y):ri x y=true:=by simp[ri];omega
theorem di{x y:Int}(h:¬x > y):ri x y=false:=by simp[ri];omega
theorem fC{x y:Int}(h:x>=y):qT x y=true:=by simp[qT];omega
theorem ea{x y:Int}(h:¬x>=y):qT x y=false:=by simp[qT];omega
theorem gq{x y:Int}(h:x=y):xS x y=true:=by simp[xS,h]
theorem gB{x y:Int}(h:¬x=y):xS x y=false:=by simp[xS,h]
theorem fj{x y:Int}(h:¬x=y):sx x y=true:=by simp[sx,h]
theorem cU{x y:Int}(h:x=y):sx x y=false:=by simp[sx,h]
theorem qw{x:Int}(h:0<=x):mJ x=true:=by simp[mJ,h]
theorem aX{p:Prop} [Decidable p] (h:p):decide p=true:=by simp[h]
theorem cC{p:Prop} [Decidable p] (h:¬p):decide p=false:=by simp[h]
theorem fh{n b:Nat}(h:n*b<=140737488355328)(h2:n<=9223372036854775807):dX n b=true:=by simp[dX,h,h2]
def from_{α:Type}(f:Nat->α->α)(t:Nat)(l:List α):List α:=l.mapIdx λi x=>if i < t then x else f i x
theorem Bz{α:Type}(f:Nat->α->α)(l:List α)(t:Nat)(h:t < l.length):from_ f (t+1) (l.set t (f t l[t]))=from_ f t l:=by
 unfold from_
 apply List.ext_getElem (by simp)
 intro i h1 h2
 simp only[List.getElem_mapIdx,List.getElem_set]
 by_cases hi:t=i
 ·subst hi;simp
 ·simp only[if_neg hi]
  by_cases h3:i < t
  ·rw[if_pos (by omega),if_pos h3]
  ·rw[if_neg (by omega),if_neg h3]
theorem DL{α:Type}(f:Nat->α->α)(l:List α)(t:Nat)(h:l.length<=t):from_ f t l=l:=by
 unfold from_
 apply List.ext_getElem (by simp)
 intro i h1 h2
 simp only[List.getElem_mapIdx]
 rw[if_pos (by omega)]
theorem zh{α:Type}(f:Nat->α->α)(n:Nat)(x:α):from_ f 0 (List.replicate n x)=(List.range n).map λi=>f i x:=by
 unfold from_
 apply List.ext_getElem (by simp)
 intro i h1 h2
 simp
theorem dq{t:Ty}{l:List t.den}{i:Nat}(h:i < l.length):nth t l i=l[i]:=by simp[nth,h]
end Go.Ab
namespace Go.Ab.N
section
variable {α:Type} {x y:Option α} {a b n:Nat} {i j:Int}
theorem lt:aN (iX i j) x y=if i < j then x else y:=by unfold iX;split <;> rename_i h <;> simp[h]
theorem le:aN (zt i j) x y=if i<=j then x else y:=by unfold zt;split <;> rename_i h <;> simp[h]
theorem gt:aN (ri i j) x y=if j < i then x else y:=by unfold ri;split <;> rename_i h <;> simp[h]
theorem ge:aN (qT i j) x y=if j<=i then x else y:=by unfold qT;split <;> rename_i h <;> simp[h]
theorem eq:aN (xS i j) x y=if i=j then x else y:=by
 by_cases h:i=j
 ·rw[gq h,if_pos h];rfl
 ·rw[gB h,if_neg h];rfl
theorem ne:aN (sx i j) x y=if i=j then y else x:=by
 by_cases h:i=j
 ·rw[cU h,if_pos h];rfl
 ·rw[fj h,if_neg h];rfl
theorem ib:aN (gw i j) x y=if 0<=i/\i < j then x else y:=by unfold gw;split <;> rename_i h <;> simp[h]
theorem ic:aN (inc i j) x y=if 0<=i/\i<=j then x else y:=by unfold inc;split <;> rename_i h <;> simp[h]
theorem nn:aN (mJ i) x y=if 0<=i then x else y:=by unfold mJ;split <;> rename_i h <;> simp[h]
theorem nz:aN (lJ i) x y=if i=0 then y else x:=by unfold lJ;split <;> rename_i h <;> simp[h]
theorem dc{p:Prop} [Decidable p]:aN (decide p) x y=if p then x else y:=by split <;> rename_i h <;> simp[h]
theorem rm:aN (dX n b) x y=if n*b<=140737488355328/\n<=9223372036854775807 then x else y:=by unfold dX;exact dc
theorem an{c d:Bool}:aN (c && d) x y=aN c (aN d x y) y:=by cases c <;> rfl
theorem or{c d:Bool}:aN (c || d) x y=aN c x (aN d x y):=by cases c <;> rfl
theorem no{c:Bool}:aN (!c) x y=aN c y x:=by cases c <;> rfl
theorem QH(h:a+b<=9223372036854775807):bQ .i64 (a:Int) (b:Int)=((a+b:Nat):Int):=by rw[dL (by omega) (by omega)];omega
theorem py(h:a+OfNat.ofNat n<=9223372036854775807):bQ .i64 (a:Int) (no_index (OfNat.ofNat n))=((a+OfNat.ofNat n:Nat):Int):=QH h
theorem SS(h:OfNat.ofNat n+a<=9223372036854775807):bQ .i64 (no_index (OfNat.ofNat n)) (a:Int)=((OfNat.ofNat n+a:Nat):Int):=QH h
theorem QZ(h:b<=a)(h2:a<=9223372036854775807):dC .i64 (a:Int) (b:Int)=((a - b:Nat):Int):=by rw[ee (by omega) (by omega)];omega
theorem Tn(h:OfNat.ofNat n<=a)(h2:a<=9223372036854775807):dC .i64 (a:Int) (no_index (OfNat.ofNat n))=((a - OfNat.ofNat n:Nat):Int):=QZ h h2
theorem Tm(h:a<=OfNat.ofNat n)(h2:(OfNat.ofNat n:Nat)<=9223372036854775807):dC .i64 (no_index (OfNat.ofNat n)) (a:Int)=((OfNat.ofNat n - a:Nat):Int):=QZ h h2
theorem QY(h:a*b<=9223372036854775807):iv .i64 (a:Int) (b:Int)=((a*b:Nat):Int):=by
 have e:(a:Int)*(b:Int)=((a*b:Nat):Int):=by simp
 rw[pP (by omega) (by omega),e]
theorem Tj(h:a*OfNat.ofNat n<=9223372036854775807):iv .i64 (a:Int) (no_index (OfNat.ofNat n))=((a*OfNat.ofNat n:Nat):Int):=QY h
theorem Ti(h:OfNat.ofNat n*a<=9223372036854775807):iv .i64 (no_index (OfNat.ofNat n)) (a:Int)=((OfNat.ofNat n*a:Nat):Int):=QY h
theorem Sx(h:a<=9223372036854775807):qK .i64 (a:Int) (b:Int)=((a / b:Nat):Int):=by
 have:(a:Int).tdiv (b:Int)=((a / b:Nat):Int):=by rw[iK (by omega)];simp
 have hl:a / b<=a:=Nat.div_le_self a b
 unfold qK
 rw[this]
 generalize a / b=c at hl
 exact pO (by omega) (by omega)
theorem Tk(h:a<=9223372036854775807):qK .i64 (a:Int) (no_index (OfNat.ofNat n))=((a / OfNat.ofNat n:Nat):Int):=Sx h
theorem Sy:o9 (a:Int) (b:Int)=((a%b:Nat):Int):=by
 unfold o9
 rw[fT (by omega)]
 simp
theorem Tl:o9 (a:Int) (no_index (OfNat.ofNat n))=((a%OfNat.ofNat n:Nat):Int):=Sy
theorem cN(h:a<=9223372036854775807):eo .i64 (a:Int)=(a:Int):=G4 (by omega) (by omega)
theorem cL(h:(OfNat.ofNat n:Nat)<=9223372036854775807):eo .i64 (no_index (OfNat.ofNat n))=OfNat.ofNat n:=cN h
theorem tL:Int.toNat (no_index (OfNat.ofNat n))=OfNat.ofNat n:=rfl
end
end Go.Ab.N
namespace Go.Ab
section
variable {P:Program}
theorem Ju{E E':Env}(h1:E'.w=E.w)(h2:E'.g=E.g)(h3:E'.β=E.β)(h4:E'.s=E.s):E'=E:=by
 obtain⟨a,b,c,d⟩:=E
 obtain⟨a',b',c',d'⟩:=E'
 simp only at h1 h2 h3 h4
 subst h1 h2 h3 h4
 rfl
theorem oI.same{w:World}{g:Nat->jW}{β:Id->Option Pl}{cj:List dv}{a:aw}{v:Value}(hv:VS ((fm cj).env w g β) a v)(ho:gK ((fm cj).env w g β)):
  oI ((fm cj).env w g β) ⟨a,cj,[]⟩ v w:=by
 have hE:(jA.st ⟨a,cj,[]⟩).env w g β=(fm cj).env w g β:=by
  refine Ju rfl rfl rfl ?_
  funext id
  cases id with
  |dw k=>rfl
  |new i j=>
   show([([]:List dv)].getD i [])[j]? =(([]:List (List dv)).getD i [])[j]?
   cases i <;> rfl
 refine⟨g,β,?_⟩
 rw[hE]
 exact⟨hv,ho,Trans.refl w g,cD.refl _⟩
theorem lb.extern{f:FuncId}{fn:Func}{e:Array Value->Sem Value}(hf:P.funcs[f]? =some fn)(sN:(fn.name== "runtime.NumGoroutine")=false)(hb:fn.body.isNone=true)(hn:Extern.findNext fn=none)(he:Extern.find fn=some e){en:Entry}
  (h:∀w g β args cj jr x,qi ((fm cj).env w g β) args jr->gK ((fm cj).env w g β)->en.run args cj=some x->∃v,(e jr.toArray).run P w= .ok v w/\oI ((fm cj).env w g β) (en.out args cj x) v w):lb P f en:=by
 intro w g β args cj jr x h1 h2 h3
 obtain⟨v,h4,h5⟩:=h w g β args cj jr x h1 h2 h3
 refine .inr ⟨v,w,?_,h5⟩
 rw[run_callFunc_extern hf sN hb hn he,h4]
 rfl
def MT.E:Entry:= {params:=[none],X:=Unit,run:=λargs _=>match args with | [_]=>some () | _=>none,out:=λargs cj _=>⟨args.headD .undef,cj,[]⟩}
theorem MT.of{f:FuncId}{fn:Func}(hf:P.funcs[f]? =some fn)(sN:(fn.name== "runtime.NumGoroutine")=false)(hb:fn.body.isNone=true)(hn:Extern.findNext fn=none)(he:Extern.find fn=some Extern.AbiNoEscape.same):lb P f MT.E:=by
 refine lb.extern hf sN hb hn he λw g β args cj jr x h1 h2 h3=> ?_
 cases args with
 |nil=>cases h3
 |cons a as=>
  cases as with
  |cons _ _=>cases h3
  |nil=>
   cases jr with
   |nil=>exact h1.elim
   |cons v vs=>
    obtain⟨h4,h5⟩:=h1
    cases vs with
    |cons _ _=>exact h5.elim
    |nil=>exact⟨v,rfl,oI.same h4 h2⟩
theorem B0{w:World}:∀(xs:List Int) (a:Addr) (acc:ByteArray),(∀j x,xs[j]? =some x->w.cell? (a.add j)=some (.int .u8 x))->
  (Extern.Bytes.loadBytes a xs.length acc).run P w= .ok ⟨acc.data++(xs.map λn=>UInt8.ofNat n.toNat).toArray⟩ w
 |[],a,acc,_=>by simp[Extern.Bytes.loadBytes]
 |x::l,a,acc,h=>by
  have h0:w.cell? a=some (.int .u8 x):=by
   have:=h 0 x rfl
   simpa[Addr.add]using this
  have ih:=B0 l (a.add 1) (acc.push x.toNat.toUInt8) (λj y hy=>by
   have:=h (j+1) y (by simpa using hy)
   have e:(a.add 1).add j=a.add (j+1):=by
    unfold Addr.add
    by_cases hj:j=0
    ·subst hj;simp
    ·simp[hj];omega
   rw[e];exact this)
  simp only[aG,Extern.Bytes.loadBytes,Sem.run_bind,run_load,h0,Result.andThen]
  rw[ih]
  congr 1
  apply ByteArray.ext
  simp[ByteArray.push]
theorem Ah{E:Env}{l:List Int}{y:Value}(h:VS E (.d (.slice (.int .u8)) l) y):(Extern.Bytes.bytesOf y).run P E.w= .ok (eI l) E.w:=by
 obtain⟨a,cap,vs,rfl,_,hs,oE,nH⟩:=mO h
 have vH:=nR (k:= .u8) (vs:=vs) (l:=l) nH
 cases a with
 |none=>
  have hl:l=[]:=by
   cases l with
   |nil=>rfl
   |cons _ _=>simp at hs
  subst hl
  rfl
 |some ad=>
  have JG:=B0 (P:=P) (w:=E.w) l ad .empty λj x hx=>by
   obtain⟨b,off,e,hh⟩:=oE j (.int .u8 x) (by rw[vH];simp[hx])
   have e:ad=⟨b,off,none⟩:=by simpa using e
   subst e
   have h1:=hh.1
   unfold Addr.add
   by_cases hj:j=0
   ·subst hj;simpa using h1
   ·simpa[hj]using h1
  show(Extern.Bytes.loadBytes ad l.length .empty).run P E.w=_
  rw[JG]
  congr 1
  apply ByteArray.ext
  simp[eI]
def y7(a b:List Int):Int:=Extern.BytealgCompare.cmp (eI a) (eI b)
def GN.E:Entry:=Entry.of (D:=List Int×List Int) (X:=Int) [some (.slice (.int .u8)),some (.slice (.int .u8))] (λd=>([.d (.slice (.int .u8)) d.1,.d (.slice (.int .u8)) d.2],[])) (λ_=>True) (λd=>y7 d.1 d.2) (λx=>⟨.d (.int .i64) x,[],[]⟩)
theorem GN.inj:∀d d':List Int×List Int,(([aw.d (.slice (.int .u8)) d.1,aw.d (.slice (.int .u8)) d.2],([]:List dv)):List aw×List dv)=([.d (.slice (.int .u8)) d'.1,.d (.slice (.int .u8)) d'.2],[])->d=d':=by
 rintro⟨a,b⟩ ⟨a',b'⟩ h
 have e1:a=a':=Mp (t:= .slice (.int .u8)) (congrArg (λs:List aw×List dv=>s.1.getD 0 .undef) h)
 have e2:b=b':=Mp (t:= .slice (.int .u8)) (congrArg (λs:List aw×List dv=>s.1.getD 1 .undef) h)
 rw[e1,e2]
def GN.call:List Int×List Int->Option Int:=λd=>GN.E.run [.d (.slice (.int .u8)) d.1,.d (.slice (.int .u8)) d.2] []
theorem GN.run(d:List Int×List Int):GN.call d=some (y7 d.1 d.2):=Entry.rK (d:=d) GN.inj trivial
theorem GN.of{f:FuncId}{fn:Func}(hf:P.funcs[f]? =some fn)(sN:(fn.name== "runtime.NumGoroutine")=false)(hb:fn.body.isNone=true)(hn:Extern.findNext fn=none)(he:Extern.find fn=some Extern.BytealgCompare.compare):lb P f GN.E:=by
 refine lb.extern hf sN hb hn he λw g β args cj jr x h1 h2 h3=> ?_
 have hx:∃d:List Int×List Int,(([aw.d (.slice (.int .u8)) d.1,aw.d (.slice (.int .u8)) d.2],([]:List dv)):List aw×List dv)=(args,cj):=by
  by_cases hh:∃d:List Int×List Int,(([aw.d (.slice (.int .u8)) d.1,aw.d (.slice (.int .u8)) d.2],([]:List dv)):List aw×List dv)=(args,cj)
  ·exact hh
  ·exfalso
   have hn:GN.E.run args cj=none:=dif_neg λ⟨d,h,_⟩=>hh ⟨d,h⟩
   rw[hn]at h3
   cases h3
 obtain⟨d,hd⟩:=hx
 simp only[cE]at hd
 obtain⟨rfl,rfl⟩:=hd
 have hr:=GN.run d
 have hx:x=y7 d.1 d.2:=ba (h3.symm.trans hr)
 subst hx
 match jr,h1 with
 |[u,v],⟨h4,h5,_⟩=>
  refine⟨.int .i64 (y7 d.1 d.2),?_,oI.same (jn _ _) h2⟩
  have e1:=Ah (P:=P) h4
  have e2:=Ah (P:=P) h5
  have e1:(Extern.Bytes.bytesOf u).run P w= .ok (eI d.1) w:=e1
  have e2:(Extern.Bytes.bytesOf v).run P w= .ok (eI d.2) w:=e2
  have NI:Extern.BytealgCompare.compare [u,v].toArray=(do let a <-Extern.Bytes.bytesOf u;let b <-Extern.Bytes.bytesOf v;pure (goInt (Extern.BytealgCompare.cmp a b))):=rfl
  rw[NI]
  simp[e1,e2,goInt,y7]
def Ra{X Y:Type} [Inhabited Y] (x:Option X):Option (X×Y):=aB x λy=>some (y,default)
def Rb{X Y:Type} [Inhabited X] (x:Option Y):Option (X×Y):=aB x λy=>some (default,y)
@[simp] theorem OG{X Y:Type} [Inhabited Y] (x:X):Ra (Y:=Y) (some x)=some (x,default):=rfl
@[simp] theorem OH{X Y:Type} [Inhabited X] (x:Y):Rb (X:=X) (some x)=some (default,x):=rfl
def Entry.half(params:List (Option Ty)){X Z:Type}(run:List aw->List dv->Option X)(out:List aw->List dv->X->jA)(i:Z->X)(p:X->Option Z):Entry:=
 {params,X:=Z,run:=λa o=>(run a o).bind p,out:=λa o z=>out a o (i z)}
def nc{X Z:Type}(p:X->Option Z)(x:Option X):Option Z:=x.bind p
theorem lb.half{f:FuncId}{params:List (Option Ty)}{X Z:Type}{run:List aw->List dv->Option X}{out:List aw->List dv->X->jA}{i:Z->X}{p:X->Option Z}(hp:∀x z,p x=some z->x=i z)
  (h:lb P f {params,X,run,out}):lb P f (Entry.half params run out i p):=by
 intro w g β args cj jr z h3 h4 h5
 have h5:(run args cj).bind p=some z:=h5
 cases hr:run args cj with
 |none=>rw[hr]at h5;cases h5
 |some x=>
  rw[hr]at h5
  obtain rfl:=hp x z h5
  exact h w g β args cj jr (i z) h3 h4 hr
end
theorem S1:(type_of% @N.lt)/\(type_of% @N.le)/\(type_of% @N.gt)/\(type_of% @N.ge)/\(type_of% @N.eq)/\(type_of% @N.ne)/\(type_of% @N.ib)/\(type_of% @N.ic)/\(type_of% @N.nn)/\(type_of% @N.nz)/\(type_of% @N.dc)/\(type_of% @N.rm)/\(type_of% @N.an)/\(type_of% @N.or)/\(type_of% @N.no)/\(type_of% @ag)/\(type_of% @ai)/\(type_of% @ae):=⟨@N.lt,@N.le,@N.gt,@N.ge,@N.eq,@N.ne,@N.ib,@N.ic,@N.nn,@N.nz,@N.dc,@N.rm,@N.an,@N.or,@N.no,@ag,@ai,@ae⟩
theorem S2:(type_of% @ae)/\(type_of% @N.QH)/\(type_of% @N.py)/\(type_of% @N.SS)/\(type_of% @N.QZ)/\(type_of% @N.Tn)/\(type_of% @N.Tm)/\(type_of% @N.QY)/\(type_of% @N.Tj)/\(type_of% @N.Ti)/\(type_of% @N.Sx)/\(type_of% @N.Tk)/\(type_of% @N.Sy)/\(type_of% @N.Tl)/\(type_of% @N.cN)/\(type_of% @N.cL)/\(type_of% @N.tL)/\(type_of% @aa)/\(type_of% @and_self)/\(type_of% @true_and)/\(type_of% @and_true):=⟨@ae,@N.QH,@N.py,@N.SS,@N.QZ,@N.Tn,@N.Tm,@N.QY,@N.Tj,@N.Ti,@N.Sx,@N.Tk,@N.Sy,@N.Tl,@N.cN,@N.cL,@N.tL,@aa,@and_self,@true_and,@and_true⟩
end Go.Ab
namespace Go.Ab
open Go.ChangeShapes Go.WideShapes Go.ChangeAt Go.RowKit Go.Deep
def E2:(t:Ty)->t.den->Prop
 | .int k,x=>(Lit.int k x).wf=true
 | .bool,_=>True
 | .str,s=>(s:ByteArray).size<=maxLen
 | .slice t,l=>(l:List t.den).length<=maxLen/\∀x∈(l:List t.den),E2 t x
 | .unit,_=>True
 | .pair a b,x=>E2 a x.1/\E2 b x.2
 | .arr n t,l=>(l:List t.den).length=n/\∀x∈(l:List t.den),E2 t x
 | .gj _,_ | .mD _,_=>False
def pJ(P:Program)(rd:TypeId->Ty->Bool):Nat->List Field->Ty->Bool
 |_,[],.unit=>true
 |off,f::fs,.pair a b=>Nat.beq f.offset off && (rd f.type a && (Nat.beq (P.cellsOf f.type) a.size && pJ P rd (off+a.size) fs b))
 |_,_,_=>false
def qO(P:Program):Nat->TypeId->Ty->Bool
 | 0,_,_=>false
 |n+1,T,ty=>
  match P.underlying T,ty with
  |some (.int k),.int k'=>decide (k=k')
  |some .bool,.bool=>true
  |some .string,.str=>true
  |some (.slice e),.slice t=>qO P n e t && Nat.beq (P.cellsOf e) t.size
  |some (.array k e),.arr k' t=>Nat.beq k k' && (qO P n e t && (Nat.beq (P.cellsOf e) t.size && Nat.beq (P.cellsOf T) (k*t.size)))
  |some (.struct fs),ty=>pJ P (qO P n) 0 fs.toList ty && Nat.beq (P.cellsOf T) ty.size
  |_,_=>false
theorem K7{a b:Nat}:(Nat.beq a b=true)=(a=b):=propext ⟨ei,λh=>by subst h;exact Nat.beq_refl a⟩
theorem Ef{α β:Type}{f:α->Option β}:∀ {l:List α} {r:List β},l.mapM f=some r->r.length=l.length/\∀(i:Nat) (x:α),l[i]? =some x->f x=r[i]?
 |[],r,h=>by
  simp only[List.mapM_nil,Option.pure_def,au]at h
  subst h
  exact⟨rfl,λi x h=>by simp at h⟩
 |y::l,r,h=>by
  simp only[List.mapM_cons,Option.bind_eq_bind,Option.pure_def,Option.bind_eq_some_iff,au]at h
  obtain⟨b,hb,r',hr,rfl⟩:=h
  obtain⟨h1,h2⟩:=Ef hr
  refine⟨by simp[h1],λi x hi=> ?_⟩
  cases i with
  |zero=>
   simp only[eV,au]at hi
   subst hi
   simpa using hb
  |succ i=>
   simp only[jF]at hi ⊢
   exact h2 i x hi
theorem HD{w:World}{base:Nat}{a:Addr}{n:Nat}{cs:List Value}(h:w.cells? base a n=some cs):cs.length=n/\∀i,i < n->w.cell? (a.add i)=cs[i]? :=by
 unfold World.cells? at h
 split at h
 ·obtain⟨h1,h2⟩:=Ef h
  exact⟨by simpa using h1,λi hi=>h2 i i (by simp[hi])⟩
 ·cases h
theorem add_add(a:Addr)(x y:Nat):(a.add x).add y=a.add (x+y):=by
 unfold Addr.add
 by_cases hx:x=0 <;> by_cases hy:y=0 <;> simp[hx,hy,dJ]
theorem IG{w:World}{a:Addr}{v:Value}(h:w.cell? a=some v):a.spot=none:=by
 unfold World.cell? at h
 split at h
 ·split at h
  ·cases h
  ·rename_i hs
   cases hh:a.spot with
   |none=>rfl
   |some _=>simp[hh]at hs
 ·cases h
theorem Oj{E:Env}(hg:∀b,E.g b= .free){a:Addr}{vs:List Value}(h:∀i,i < vs.length->E.w.cell? (a.add i)=vs[i]?):rZ E (some a) vs:=by
 intro i v hv
 have hi:i < vs.length:=(dj.1 hv).1
 have h0:=h 0 (by omega)
 rw[cd (by omega)]at h0
 have hs:a.spot=none:=IG (a:=a) (by simpa[Addr.add]using h0)
 obtain⟨b,off,sp⟩:=a
 simp only at hs
 subst hs
 refine⟨b,off,rfl,?_,?_⟩
 ·have:=h i hi
  rw[hv]at this
  rw[<-this]
  unfold Addr.add
  split
  ·rename_i h;subst h;rfl
  ·rfl
 ·unfold mY
  rw[hg b]
  trivial
section
variable {H:Type} {enc:TypeId×Value->H} {P:Program} {base:Nat} {spare:Nat->Bool} {held:Bool} {E:Env}
theorem Hi{t:Ty}{R:List Value->t.den->Prop}{G:t.den->Prop}{w:World}{a:Addr}{z:Nat}(hR:∀c x,R c x->c.length=z):∀(len:Nat),(∀i,i < len->∃c x,R c x/\G x/\∀j,j < z->w.cell? (a.add (i*z+j))=c[j]?)->
  ∃(vs:List Value) (l:List t.den),vs.length=len*z/\l.length=len/\(∀i,i < vs.length->w.cell? (a.add i)=vs[i]?)/\aV R vs l/\∀x∈l,G x
 | 0,_=>⟨[],[],by simp,rfl,λi h=>by simp at h,rfl,λ_ h=>by cases h⟩
 |len+1,h=>by
  obtain⟨vs,l,h1,h2,h3,h4,h5⟩:=Hi hR len λi hi=>h i (by omega)
  obtain⟨c,x,g1,g2,g3⟩:=h len (by omega)
  have hc:=hR c x g1
  refine⟨vs++c,l++ [x],by rw[av,h1,hc,dI,jP],by rw[av,h2];rfl,λi hi=> ?_,aV.append h4 ⟨c,[],by simp,g1,rfl⟩,λy hy=> ?_⟩
  ·rw[av,h1,hc]at hi
   by_cases hl:i < vs.length
   ·rw[h3 i hl,eE hl]
   ·rw[List.getElem?_append_right (by omega),h1,<-g3 (i - len*z) (by omega),show len*z+(i - len*z)=i by omega]
  ·rcases bp.1 hy with hy | hy
   ·exact h5 y hy
   ·rw[bO.1 hy];exact g2
theorem Bm{t:Ty}{R:List Value->t.den->Prop}{G:t.den->Prop}{z:Nat}:∀(n:Nat) (cs:List Value),cs.length=n*z->(∀i,i < n->∃x,R ((cs.drop (i*z)).take z) x/\G x)->
  ∃l:List t.den,l.length=n/\aV R cs l/\∀x∈l,G x
 | 0,cs,h,_=>⟨[],rfl,aQ (by simpa using h),λ_ h=>by cases h⟩
 |n+1,cs,h,hi=>by
  obtain⟨x,g1,g2⟩:=hi 0 (by omega)
  obtain⟨l,h1,h2,h3⟩:=Bm (R:=R) (G:=G) (z:=z) n (cs.drop z) (by rw[cq,h,dI];omega) λi PR=>by
   obtain⟨y,k1,k2⟩:=hi (i+1) (by omega)
   refine⟨y,?_,k2⟩
   rw[eN,show z+i*z=(i+1)*z by rw[dI];omega]
   exact k1
  refine⟨x::l,by simp[h1],⟨cs.take z,cs.drop z,(cK z cs).symm,by simpa using g1,h2⟩,λy hy=> ?_⟩
  rcases bY.1 hy with rfl | hy
  ·exact g2
  ·exact h3 y hy
theorem yi{rd:TypeId->Ty->Bool}{cs:List Value}:∀(fs:List Field) (off:Nat) (ty:Ty),pJ P rd off fs ty=true->off+ty.size<=cs.length->
  (∀f∈fs,∀t,rd f.type t=true->P.cellsOf f.type=t.size->∃v,cT E t ((cs.drop f.offset).take (P.cellsOf f.type)) v/\E2 t v)->∃v,cT E ty ((cs.drop off).take ty.size) v/\E2 ty v
 |[],off,ty,h,hl,_=>by
  cases ty <;> simp only[pJ]at h <;> first | cases h | skip
  exact⟨(),by simp[cT,Ty.size],trivial⟩
 |f::fs,off,ty,h,hl,hf=>by
  cases ty <;> simp only[pJ]at h <;> first | cases h | skip
  rename_i a b
  simp only[ah,K7]at h
  obtain⟨h1,h2,h3,h4⟩:=h
  have hl:off+(a.size+b.size)<=cs.length:=hl
  obtain⟨v,k1,k2⟩:=hf f (aK ..) a h2 h3
  obtain⟨u,k3,k4⟩:=yi fs (off+a.size) b h4 (by omega) λf' hf'=>hf f' (aH _ hf')
  refine⟨(v,u),⟨(cs.drop off).take a.size,(cs.drop (off+a.size)).take b.size,?_,?_,k3⟩,k2,k4⟩
  ·rw[show Ty.size (.pair a b)=a.size+b.size from rfl,List.take_add,eN]
  ·rw[h1,h3]at k1;exact k1
theorem wb(hg:∀b,E.g b= .free):∀(n:Nat) (T:TypeId) (ty:Ty),qO P n T ty=true->∀ {fuel:Nat} {cs:List Value} {x:DataW H×List MemPlace},DataW.trod enc P E.w base spare held fuel T cs=some x->∃v,cT E ty cs v/\E2 ty v
 | 0,_,_,h,_,_,_,_=>by simp[qO]at h
 |n+1,T,ty,h,fuel,cs,x,hx=>by
  unfold qO at h
  split at h
  ·rename_i k k' hu
   obtain rfl:=of_decide_eq_true h
   obtain⟨m,rfl,_,hw⟩:=DataW.trod_int hu hx
   exact⟨m,rfl,hw⟩
  ·rename_i hu
   obtain⟨b,rfl,_⟩:=DataW.trod_bool hu hx
   exact⟨b,rfl,trivial⟩
  ·rename_i hu
   obtain⟨s,rfl,_,hs⟩:=DataW.trod_string hu hx
   exact⟨s,rfl,hs⟩
  ·rename_i e t hu
   simp only[ah,K7]at h
   obtain⟨h1,h2⟩:=h
   rcases open_slice hu hx with⟨rfl,_⟩ | ⟨a,len,cap,m,f,D,Pl,rfl,_,hl,hm,OQ,_,he⟩
   ·exact⟨([]:List t.den),⟨none,0,[],rfl,az _,λh=>by simp at h,λi v hv=>by simp at hv,rfl⟩,aP _,λ_ h=>by cases h⟩
   ·have QR:len<=m:=by rw[OQ];split <;> omega
    obtain⟨vs,l,k1,k2,k3,k4,k5⟩:=Hi (t:=t) (R:=cT E t) (G:=E2 t) (w:=E.w) (a:=a) (z:=t.size) (λc x h=>cT.size h) len λi hi=>by
     obtain⟨cs',g1,g2⟩:=he i (by omega)
     obtain⟨v,g3,g4⟩:=wb hg n e t h1 g2
     obtain⟨g5,g6⟩:=HD g1
     refine⟨cs',v,g3,g4,λj hj=> ?_⟩
     rw[<-g6 j (by omega),add_add,h2]
    refine⟨l,⟨some a,cap,vs,by rw[k2],by rw[k2];exact hl,λ_=>rfl,Oj hg k3,k4⟩,by rw[k2];omega,k5⟩
  ·rename_i k e k' t hu
   simp only[ah,K7]at h
   obtain⟨rfl,h1,h2,h3⟩:=h
   obtain⟨xs,m,rfl,_,hl,KV,he⟩:=DataW.trod_array hu hx
   obtain⟨l,k1,k2,k3⟩:=Bm (t:=t) (R:=cT E t) (G:=E2 t) (z:=t.size) k cs (by rw[hl,h3]) λi hi=>by
    have:=he i hi
    rw[cd (by omega),h2]at this
    exact wb hg n e t h1 this
   exact⟨l,⟨k1,k2⟩,k1,k3⟩
  ·rename_i ty fs hu
   simp only[ah,K7]at h
   obtain⟨h1,h2⟩:=h
   obtain⟨xs,m,rfl,_,hl,KV,he⟩:=DataW.trod_struct hu hx
   obtain⟨v,k1,k2⟩:=yi (E:=E) (cs:=cs) fs.toList 0 _ h1 (by rw[hl,h2];omega) λf hf t ht hc=>by
    obtain⟨i,hi,TH⟩:=List.mem_iff_getElem.1 hf
    have hi':i < fs.size:=by simpa using hi
    have:=he i f (by rw[<-TH];simp[hi'])
    rw[cd (by omega)]at this
    exact wb hg n f.type t ht this
   refine⟨v,?_,k2⟩
   rwa[aI,bg (by omega)]at k1
  ·cases h
end
end Go.Ab
namespace Go.Ab
open Go.ChangeShapes Go.WideShapes Go.ChangeAt Go.RowKit Go.Deep
section
variable {H:Type} {enc:TypeId×Value->H} {P:Program} {base b0:Nat} {spare:Nat->Bool} {held:Bool} {E:Env} {W:World}
theorem FG{rd:TypeId->Ty->Bool}{fs:List Field}{off:Nat}{ty:Ty}(h:pJ P rd off fs ty=true):ty.agg=true:=by
 cases fs <;> cases ty <;> first | rfl | (simp[pJ]at h)
theorem Kp(hw:E.w=W)(hg:∀b,E.g b= .free){n:Nat}{t:TypeId}{ty:Ty}(h:qO P n t ty=true){v:Value}{d:DataW H}{ps:List MemPlace}(pN:Value.okWide P W .any base t v)(hd:DataW.Trod enc P W b0 spare held t v d ps):
  ∃x:ty.den,VS E (.d ty x) v/\E2 ty x:=by
 subst hw
 obtain⟨fuel,hf⟩:=hd
 obtain⟨x,h1,h2⟩:=wb hg n t ty h hf
 refine⟨x,⟨v.cells.toList,h1,?_⟩,h2⟩
 cases n with
 |zero=>simp[qO]at h
 |succ n=>
  unfold qO at h
  split at h
  ·rename_i k k' hu
   obtain⟨m,rfl⟩:=okWide_int hu pN
   rfl
  ·rename_i hu
   obtain⟨m,rfl⟩:=okWide_bool hu pN
   rfl
  ·rename_i hu
   obtain⟨m,rfl⟩:=okWide_string hu pN
   rfl
  ·rename_i hu
   obtain⟨a,len,cap,rfl⟩:=okWide_slice hu pN
   rfl
  ·rename_i hu
   simp only[Value.okWide,hu]at pN
   obtain⟨cs,rfl,_⟩:=pN
   show _=_
   simp[Value.cells]
  ·rename_i fs hu
   simp only[Value.okWide,hu]at pN
   obtain⟨cs,rfl,_⟩:=pN
   simp only[ah]at h
   have:=FG h.1
   simp only[aw.agg,this,eW,Value.cells,Array.toArray_toList]
  ·cases h
def DV:List Ty->Type
 |[]=>Unit
 |t::ts=>t.den×DV ts
def DV.jr:(ts:List Ty)->DV ts->List aw
 |[],_=> []
 |t::ts,x=> .d t x.1::DV.jr ts x.2
def DV.SF:(ts:List Ty)->DV ts->Prop
 |[],_=>True
 |t::ts,x=>E2 t x.1/\DV.SF ts x.2
def nJ(P:Program)(n:Nat):List TypeId->List Ty->Bool
 |[],[]=>true
 |T::Ts,t::ts=>qO P n T t && nJ P n Ts ts
 |_,_=>false
theorem BV(hw:E.w=W)(hg:∀b,E.g b= .free){n:Nat}:∀ {Ts:List TypeId} {ts:List Ty} {vs:List Value} {ds:List (DataW H)} {ps:List MemPlace},nJ P n Ts ts=true->
  (∀(j:Nat) t v,Ts[j]? =some t->vs[j]? =some v->Value.okWide P W .any base t v)->DataW.TrodAll enc P W b0 spare held Ts vs ds ps->∃x:DV ts,qi E (DV.jr ts x) vs/\DV.SF ts x
 |[],[],vs,ds,ps,_,_,h=>by
  obtain⟨rfl,rfl,rfl⟩:=trodAll_nil h
  exact⟨(),trivial,trivial⟩
 |T::Ts,[],_,_,_,h,_,_=>by simp[nJ]at h
 |[],t::ts,_,_,_,h,_,_=>by simp[nJ]at h
 |T::Ts,t::ts,vs,ds,ps,h,pN,hd=>by
  simp only[nJ,ah]at h
  obtain⟨v,vs',d,ds',p,q,rfl,rfl,rfl,h1,h2⟩:=trodAll_cons hd
  obtain⟨x,k1,k2⟩:=Kp hw hg h.1 (pN 0 T v rfl rfl) h1
  obtain⟨y,k3,k4⟩:=BV hw hg h.2 (λj t v hj hv=>pN (j+1) t v (by simpa using hj) (by simpa using hv)) h2
  exact⟨(x,y),⟨k1,k3⟩,⟨k2,k4⟩⟩
def og(P:Program)(Ts:List TypeId):Bool:=Ts.all λt=>P.readableRec t && decide (t < P.types.size)
theorem uh(hl:laidOutB P=true){W':World}(hb:Below W.heap.size W W')(sp:Nat->Bool):∀ {Ts:List TypeId} {vs:List Value} {ds:List (DataW H)} {ps:List MemPlace},og P Ts=true->(∀p∈ps,p.block < W.heap.size)->(∀p∈ps,sp p.block=true)->
  DataW.TrodAll enc P W 0 (λ_=>true) true Ts vs ds ps->DataW.TrodAll enc P W' 0 sp true Ts vs ds ps
 |[],vs,ds,ps,_,_,_,h=>by
  obtain⟨rfl,rfl,rfl⟩:=trodAll_nil h
  exact trodAll_mk0
 |T::Ts,vs,ds,ps,hr,gV,hs,h=>by
  obtain⟨v,vs',d,ds',p,q,rfl,rfl,rfl,h1,h2⟩:=trodAll_cons h
  simp only[og,gH,ah,decide_eq_true_eq]at hr
  have h3:=WideElems.Trod_stays hl hr.1.1 hr.1.2 h1 (λx hx=>hb.same (gV x (bp.2 (.inl hx)))) (λx hx=>hs x (bp.2 (.inl hx)))
  exact⟨p,q,h3,uh hl hb sp (by simpa[og]using hr.2) (λx hx=>gV x (bp.2 (.inr hx))) (λx hx=>hs x (bp.2 (.inr hx))) h2,rfl⟩
end
theorem tf{H:Type}{enc:TypeId×Value->H}{P:Program}{W:World}{b0:Nat}{spare:Nat->Bool}{held:Bool}:∀ {Ts:List TypeId} {vs:List Value} {ds:List (DataW H)} {ps:List MemPlace},DataW.TrodAll enc P W b0 spare held Ts vs ds ps->ds.length=Ts.length
 |[],_,_,_,h=>by
  obtain⟨_,rfl,_⟩:=trodAll_nil h
  rfl
 |_::_,_,_,_,h=>by
  obtain⟨v,vs',d,ds',p,q,rfl,rfl,rfl,h1,h2⟩:=trodAll_cons h
  simp[tf h2]
theorem Ev{H:Type}{enc:TypeId×Value->H}{P:Program}{f:Func}{s:ChangeSpec}{W W':World}{args:Array Value}{v:Value}{ds gs:List (DataW H)}{before:List MemPlace}{tb:TypeId}
  (hl:laidOutB P=true) (E3:og P f.params.toList=true) (DZ:s.vars=[]) (Sf:f.resultTypes= #[tb]) (Sj:P.underlying tb=some .bool)
  (hW:DataW.Whole enc P f.params.toList s.vars false W args.toList ds gs before) (NJ:s.fn H (ds++gs)= {results:=[.lit (.bool true)],args:=ds}) (hb:Below W.heap.size W W') (hv:v= .bool true):
  s.post enc P f false true false false W args v W':=by
 subst hv
 have hW':=hW
 have hold:∀p∈before,(λb=>decide (b < W.heap.size)) p.block=true:=λp hp=>by simpa using hW.lt p hp
 obtain⟨p,q,hA,hV,rfl,hz,_⟩:=hW
 rw[DZ]at hV
 obtain⟨rfl,rfl⟩:=trodVars_none hV
 have gV:∀x∈p,x.block < W.heap.size:=λx hx=>hW'.lt x (bp.2 (.inl hx))
 have zl:∀sp:Nat->Bool,(∀x∈p,sp x.block=true)->DataW.TrodAll enc P W' 0 sp true f.params.toList args.toList (s.fn H (ds++ [])).args p:=λsp hs=>by
  rw[NJ]
  exact uh hl hb sp E3 gV hs hA
 have Sb:∀(b:Nat) (sp:Nat->Bool) (hd:Bool),DataW.TrodAll enc P W' b sp hd f.resultTypes.toList ((Value.bool true).resultList f.resultTypes.size) (s.fn H (ds++ [])).results []:=λb sp hd=>by
  rw[NJ,Sf]
  exact trodAll_mk1 (shut_bool Sj _)
 have vH:∀sp:Nat->Bool,DataW.TrodVars enc P W' sp s.vars (s.fn H (ds++ [])).vars []:=λsp=>by
  rw[NJ,DZ]
  rfl
 refine⟨ds,[],p++ [],[],p,[],hW',Sb _ _ _,zl _ (λx hx=>hold x (bp.2 (.inl hx))),vH _,hb.frame _,λh=>by cases h⟩
theorem sW{P:Program}{n:Nat}:∀ {Ts:List TypeId} {ts:List Ty},nJ P n Ts ts=true->Ts.length=ts.length
 |[],[],_=>rfl
 |[],_::_,h=>by simp[nJ]at h
 |_::_,[],h=>by simp[nJ]at h
 |_::_,_::_,h=>by
  simp only[nJ,ah]at h
  simp[sW h.2]
theorem H7{H:Type}{enc:TypeId×Value->H}{P:Program}{f:FuncId}{fn:Func}{en:Entry}{s:ChangeSpec}{tb:TypeId}(n:Nat)(tys:List Ty)(hD:lb P f en)(hf:P.funcs[f]? =some fn)(PB:fn.body.isSome=true)(sN:(fn.name== "runtime.NumGoroutine")=false)
  (hl:laidOutB P=true) (MH:nJ P n fn.params.toList tys=true) (E3:og P fn.params.toList=true) (DZ:s.vars=[]) (Sf:fn.resultTypes= #[tb]) (Sj:P.underlying tb=some .bool)
  (NJ:∀ds:List (DataW H),ds.length=tys.length->s.fn H (ds++ [])= {results:=[.lit (.bool true)],args:=ds})
  (kU:∀x:DV tys,DV.SF tys x->∃r,en.run (DV.jr tys x) []=some r/\en.out (DV.jr tys x) [] r=⟨.d .bool true,[],[]⟩)
  {W:World} {base:Nat} {args:Array Value} {ds gs:List (DataW H)} {before:List MemPlace}
  (pN:∀(j:Nat) t v,fn.params[j]? =some t->args[j]? =some v->Value.okWide P W .any base t v)
  (hW:DataW.Whole enc P fn.params.toList s.vars false W args.toList ds gs before):
  Calls P f args W λe W'=>∃v,e= .returned v/\s.post enc P fn false true false false W args v W':=by
 have hW':=hW
 obtain⟨p,q,hA,hV,_,_,_⟩:=hW
 rw[DZ]at hV
 obtain⟨rfl,rfl⟩:=trodVars_none hV
 obtain⟨x,MK,Qg⟩:=BV (E:=(fm []).env W (λ_=> .free) (λ_=>none)) rfl (λ_=>rfl) MH (λj t v hj hv=>pN j t v (by simpa using hj) (by simpa using hv)) hA
 obtain⟨r,NX,FT⟩:=kU x Qg
 have cI:(callFunc f args).run P W= .ok (.enter f args) W:=by
  unfold callFunc
  obtain⟨c,hc⟩:=bS.1 PB
  have hname':¬fn.name= "runtime.NumGoroutine" :=by simpa using sN
  simp[hf,hname',hc]
 have hlen:ds.length=tys.length:=by rw[tf hA,sW MH]
 have ho:gK ((fm []).env W (λ_=> .free) (λ_=>none)):=λid ver fr c h=>by
  exfalso
  cases id with
  |dw k=>simp[AS.env,AS.bT,fm]at h
  |new i j=>simp[AS.env,AS.bT,fm]at h
 rcases hD W (λ_=> .free) (λ_=>none) (DV.jr tys x) [] args.toList r MK ho NX with⟨_,hc⟩ | ⟨v,w',hc,_⟩
 ·refine hc.mono λe w' he=> ?_
  obtain⟨v,rfl,g',β',h1,_,h2,_⟩:=he
  rw[FT]at h1
  refine⟨v,rfl,Ev hl E3 DZ Sf Sj hW' (NJ ds hlen) ⟨h2.os,h2.tape,h2.output.1,h2.size,λb hb=>(h2.wN b hb).2⟩ ?_⟩
  obtain⟨cs,k1,k2⟩:=h1
  have k1:cs=[.bool true]:=k1
  subst k1
  have k2: [Value.bool true]=[v]:=k2
  simpa using k2.symm
 ·rw[show args.toList.toArray=args from Array.toArray_toList ..,cI]at hc
  cases hc
end Go.Ab
namespace Go.Ab
abbrev W:=BitVec 32
def tR(w:W)(k:Nat):W:=w <<< (32 - k) ||| w >>> k
def QI(a b c d:Int):W:=BitVec.ofInt 32 a <<< 24 ||| BitVec.ofInt 32 b <<< 16 ||| BitVec.ofInt 32 c <<< 8 ||| BitVec.ofInt 32 d
def be(l:List Int)(i:Nat):W:=QI (l.getD (4*i) 0) (l.getD (4*i+1) 0) (l.getD (4*i+2) 0) (l.getD (4*i+3) 0)
structure St where
 a:W
 b:W
 c:W
 d:W
 e:W
 f:W
 g:W
 h:W
def St.l(s:St):List Int:=[vw s.a,vw s.b,vw s.c,vw s.d,vw s.e,vw s.f,vw s.g,vw s.h]
def SK(x:W):W:=tR x 7^^^tR x 18^^^x >>> 3
def SL(y:W):W:=tR y 17^^^tR y 19^^^y >>> 10
def MS(l:List W)(i:Nat):W:=l.getD (i - 16) 0+SK (l.getD (i - 15) 0)+l.getD (i - 7) 0+SL (l.getD (i - 2) 0)
def ext(l:List W):List W:=l++ [MS l l.length]
def QA(m:List W):Nat->List W
 | 0=>m
 |n+1=>ext (QA m n)
def words(b:List Int):List W:=(List.range 16).map (be b)
def sched(b:List Int):List W:=QA (words b) 48
def kl:List Nat:=[
  0x428a2f98,0x71374491,0xb5c0fbcf,0xe9b5dba5,0x3956c25b,0x59f111f1,0x923f82a4,0xab1c5ed5,
  0xd807aa98,0x12835b01,0x243185be,0x550c7dc3,0x72be5d74,0x80deb1fe,0x9bdc06a7,0xc19bf174,
  0xe49b69c1,0xefbe4786,0x0fc19dc6,0x240ca1cc,0x2de92c6f,0x4a7484aa,0x5cb0a9dc,0x76f988da,
  0x983e5152,0xa831c66d,0xb00327c8,0xbf597fc7,0xc6e00bf3,0xd5a79147,0x06ca6351,0x14292967,
  0x27b70a85,0x2e1b2138,0x4d2c6dfc,0x53380d13,0x650a7354,0x766a0abb,0x81c2c92e,0x92722c85,
  0xa2bfe8a1,0xa81a664b,0xc24b8b70,0xc76c51a3,0xd192e819,0xd6990624,0xf40e3585,0x106aa070,
  0x19a4c116,0x1e376c08,0x2748774c,0x34b0bcb5,0x391c0cb3,0x4ed8aa4a,0x5b9cca4f,0x682e6ff3,
  0x748f82ee,0x78a5636f,0x84c87814,0x8cc70208,0x90befffa,0xa4506ceb,0xbef9a3f7,0xc67178f2]
def kw(i:Nat):W:=BitVec.ofNat 32 (kl.getD i 0)
def D7:List Int:=kl.map λ(n:Nat)=>(n:Int)
def mS(s:St)(k w:W):St:=
 let t:=s.h+(tR s.e 6^^^tR s.e 11^^^tR s.e 25)+(s.g^^^s.e &&& (s.f^^^s.g))+k+w
 let r:=tR s.a 2^^^tR s.a 13^^^tR s.a 22
 let most:=s.a &&& s.b ||| s.c &&& (s.a ||| s.b)
 ⟨t+r+most,s.a,s.b,s.c,s.d+t,s.e,s.f,s.g⟩
def rounds(ws:List W)(s:St):Nat->St
 | 0=>s
 |n+1=>mS (rounds ws s n) (kw n) (ws.getD n 0)
def Ic(s:St)(b:List Int):St:=
 let v:=rounds (sched b) s 64
 ⟨v.a+s.a,v.b+s.b,v.c+s.c,v.d+s.d,v.e+s.e,v.f+s.f,v.g+s.g,v.h+s.h⟩
def pK:St:=⟨0x6a09e667,0xbb67ae85,0x3c6ef372,0xa54ff53a,0x510e527f,0x9b05688c,0x1f83d9ab,0x5be0cd19⟩
def qo:Nat->St->List Int->St
 | 0,s,_=>s
 |n+1,s,l=>qo n (Ic s (l.take 64)) (l.drop 64)
def blocks(s:St)(l:List Int):St:=qo (l.length / 64) s l
def QJ(w:W)(k:Nat):Int:=vw ((w >>> (24 - 8*k)).setWidth 8)
def K9(w:W):List Int:=[QJ w 0,QJ w 1,QJ w 2,QJ w 3]
def LO(s:St):List Int:=K9 s.a++K9 s.b++K9 s.c++K9 s.d++K9 s.e++K9 s.f++K9 s.g++K9 s.h
def qF(n:Int):List Int:=[n / 2^56%256,n / 2^48%256,n / 2^40%256,n / 2^32%256,n / 2^24%256,n / 2^16%256,n / 2^8%256,n%256]
def v7(n:Nat):Nat:=(119 - n%64)%64
def pad(b:List Int):List Int:=b++128::(List.replicate (v7 b.length) 0++qF (8*b.length))
def O5(b:List Int):List Int:=LO (blocks pK (pad b))
def po(parts:List (List Int)):List Int:=parts.flatMap λp=>qF p.length++p
def Bb(name:List Int)(parts:List (List Int)):List Int:=qF name.length++name++po parts
def tag(name:List Int)(parts:List (List Int)):List Int:=O5 (Bb name parts)
theorem Gr(b:List Int):(O5 b).length=32:=rfl
theorem dM(n:Int):(qF n).length=8:=rfl
theorem FE(l:List W):(ext l).length=l.length+1:=by simp[ext]
theorem vg(m:List W):∀n,(QA m n).length=m.length+n
 | 0=>rfl
 |n+1=>by rw[QA,FE,vg m n];omega
theorem mQ(b:List Int):(words b).length=16:=by simp[words]
theorem sC:∀(n:Nat) (s:St) (a b:List Int),a.length=64*n->∀m,qo (n+m) s (a++b)=qo m (qo n s a) b
 | 0,s,a,b,h,m=>by
  have:a=[]:=aQ (by omega)
  subst this
  simp[qo]
 |n+1,s,a,b,h,m=>by
  rw[show n+1+m=(n+m)+1 by omega,qo,qo]
  rw[eB (by omega),List.drop_append_of_le_length (by omega)]
  exact sC n _ _ _ (by simp;omega) m
theorem tW(s:St)(a b:List Int)(h:a.length%64=0):blocks s (a++b)=blocks (blocks s a) b:=by
 unfold blocks
 have e:(a++b).length / 64=a.length / 64+b.length / 64:=by simp;omega
 rw[e]
 exact sC _ _ _ _ (by omega) _
theorem xF(s:St)(l:List Int)(h:64<=l.length):blocks s l=blocks (Ic s (l.take 64)) (l.drop 64):=by
 unfold blocks
 rw[show l.length / 64=(l.drop 64).length / 64+1 by simp;omega]
 rfl
theorem uo(s:St)(l:List Int)(h:l.length < 64):blocks s l=s:=by
 unfold blocks
 rw[show l.length / 64=0 by omega]
 rfl
def Ho(x:Int):Prop:=0<=x/\x < 256
def Bytes(l:List Int):Prop:=∀x∈l,Ho x
theorem La(w:BitVec 8):Ho (vw w):=⟨B9 w,M1 w⟩
theorem Ho.vw{x:Int}(h:Ho x):x=vw (BitVec.ofInt 8 x):=by
 rw[kc]
 obtain⟨h1,h2⟩:=h
 omega
theorem Fo(s:St):Bytes (LO s):=by
 intro x hx
 simp only[LO,K9,bp,bY,gA,or_false]at hx
 rcases hx with((((((hx | hx) | hx) | hx) | hx) | hx) | hx) | hx <;> rcases hx with rfl | rfl | rfl | rfl <;> exact La _
theorem HA(b:List Int):Bytes (O5 b):=Fo _
end Go.Ab
end
