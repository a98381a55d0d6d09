/-
  Made short by a program of mine (wip/tools/mini.py).
-/
import Derived.Test.YtlpebgkekjfhaaaGreatS23x2
import Derived.Scope
import Derived.Laws.Externs
import Derived.KernelRfl
import Derived.ProofKit
import Derived.OpenShut
import Derived.Deep.Slices
import Derived.Carry
set_option linter.unusedVariables false
set_option linter.unusedSimpArgs false
set_option maxRecDepth 100000
set_option synthInstance.maxSize 5000
noncomputable section
namespace Go.Ab
section
variable {P:Program} {Γ:nG} {an:th} {C:Ctx}
open Classical in
def RG(p:Prop):Option Unit:=if p then some () else none
theorem Jw{p:Prop}(h:RG p=some ()):p:=by
 unfold RG at h
 split at h
 ·assumption
 ·cases h
theorem Hb{X R:Type}{S:X->Prop}{k:X->Option R}{r:R}(h:Mr S k=some r):(∃x,S x)/\∀x,S x->k x=some r:=by
 unfold Mr at h
 split at h
 ·rename_i hx
  obtain rfl:=aP h
  exact hx.choose_spec
 ·cases h
def Ie(P:Program)(Γ:nG)(an:th)(N:Nat)(b:Code):Prop:=
 ∀le,an.jP (dj b)=some le->
  (le.set=none->∀s x,le.run s=some x->∃n,xc (norm P (an.loops (dj b))) (λe=>norm P (an.outs (dj b) (Du e))) (ev P Γ an N b) n s (λe s'=>some (e,s'))=(le.out x).eval)/\
  ∀S,le.set=some S->∀s,(∃x,S s x)->∃n,xc (norm P (an.loops (dj b))) (λe=>norm P (an.outs (dj b) (Du e))) (ev P Γ an N b) n s (λe s'=>RG (∃x,S s x/\(le.out x).eval=some (e,s')))=some ()
def mO(P:Program)(Γ:nG)(an:th)(N:Nat):List Code->Prop
 |[]=>True
 |b::l=>Ie P Γ an N b/\mO P Γ an N l
theorem mO.append{N:Nat}:∀ {l l':List Code},mO P Γ an N (l++l')->mO P Γ an N l/\mO P Γ an N l'
 |[],_,h=>⟨trivial,h⟩
 |_::_,_,⟨h1,h2⟩=>⟨⟨h1,(mO.append h2).1⟩,(mO.append h2).2⟩
theorem lM{c:Code}{b:Frame}{a:Act}{k:List Item}{cs:List Frame}{w:World}:step P (lone (b.atR a (.code (.scope c)::k)) cs w)= .next (lone (b.atR a (.code c:: .inScope c::k)) cs w):=
 step_lone_go (by simp[stepG,stepG.exec,Frame.atR])
theorem Ar{c:Code}{b:Frame}{a:Act}{k:List Item}{cs:List Frame}{w:World}:step P (lone (b.atR a (.inScope c::k)) cs w)= .next (lone (b.atR a k) cs w):=
 step_lone_go (by simp[stepG,stepG.exec,Frame.atR])
theorem tg{F:Fence}{n:Nat}{Q:Exit->Act->World->Prop}{a:Act}{w:World}{c:Code}(h:c.wpIn F n P (Exit.noGoto Q) a w):(Code.scope c).wpIn F n P Q a w:=by
 intro b k cs Tn hb hr
 have h0:(lone (b.atR a (.code (.scope c)::k)) cs w).fenced P F:=fenced_calm hb hr rfl
 obtain⟨e,a1,w1,hq,hx⟩:=h b (.inScope c::k) cs Tn hb hr
 cases e with
 |normal=>exact⟨.normal,a1,w1,hq,.head h0 lM (StepsIn.trans hx (.one (fenced_calm hb hr rfl) Ar))⟩
 |exit i=>
  have e1:exitTo i (.inScope c::k)=exitTo i k:=by simp[exitTo]
  exact⟨.exit i,a1,w1,hq,λk' hk=> .head h0 lM (hx.1 k' (e1.trans hk)),λh1 hk=>let⟨k2,h2,h3⟩:=hx.2 h1 (e1.trans hk);⟨k2,h2,.head h0 lM h3⟩⟩
 |goto l=>exact hq.elim
 |ret=>exact⟨_,a1,w1,hq,.of_steps (.one h0 lM) hx⟩
 |panic ch=>exact⟨_,a1,w1,hq,.of_steps (.one h0 lM) hx⟩
 |outgrown=>exact⟨_,a1,w1,hq,.of_steps (.one h0 lM) hx⟩
theorem qS{rd:Option Nat}{m:Nat}{R:Type}{r:R}{b:Code}{nrm:AS->Out AS}{nrmX:Exit->AS->Out AS}{body:AS->(Exit->AS->Option R)->Option R}
  (hn:∀s s1 a w,fF C s a w->(nrm s).eval=some s1->fF C s1 a w) (hx:∀e s s1 a w,fF C s a w->(nrmX e s).eval=some s1->fF C s1 a w)
  (hb:∀(s:AS) (a:Act) (w:World) (k:Exit->AS->Option R) (Q:Exit->Act->World->Prop),fF C s a w->body s k=some r->(∀e s' a' w',fF C s' a' w'->k e s'=some r->Q e a' w')->b.wpIn (Fr rd) m P Q a w)
  {k:Exit->AS->Option R} {Q:Exit->Act->World->Prop} (hk:∀e s' a' w',fF C s' a' w'->k e s'=some r->Q e a' w'):
  ∀(n:Nat) (s:AS) (a:Act) (w:World),fF C s a w->xc nrm nrmX body n s k=some r->Code.roundsIn (Fr rd) m P b Q n a w
 | 0,s,a,w,_,h=>by simp[xc]at h
 |n+1,s,a,w,hs,h=>by
  simp only[xc]at h
  rw[roundsIn_succ]
  refine hb s a w _ _ hs h λe s' a' w' hs' O1=> ?_
  have exits:∀e,(nrmX e s').run (k e)=some r->Q e a' w':=λe O1=>by
   obtain⟨s1,h1,h2⟩:=gm.1 O1
   exact hk e s1 a' w' (hx e s' s1 a' w' hs' h1) h2
  cases e with
  |normal=>
   simp only at O1
   obtain⟨s1,h1,h2⟩:=gm.1 O1
   exact qS hn hx hb hk n s1 a' w' (hn s' s1 a' w' hs' h1) h2
  |_=>exact exits _ O1
theorem uV{rd:Option Nat}{n:Nat}(hC:C.ok){j:Option yd}{run: {R:Type}->(Exit->AS->Option R)->Option R}{c:Code}{a:Act}{w:World}
  (kj:∀ {R:Type} {r:R} (k:Exit->AS->Option R) (Q:Exit->Act->World->Prop),run k=some r->(∀e s' a' w',fF C s' a' w'->k e s'=some r->Q e a' w')->c.wpIn (Fr rd) n P Q a w)
  {R:Type} {r:R} {k:Exit->AS->Option R} {Q:Exit->Act->World->Prop} (h:wo P j run k=some r) (hk:∀e s' a' w',fF C s' a' w'->k e s'=some r->Q e a' w'):c.wpIn (Fr rd) n P Q a w:=by
 cases j with
 |none=>exact kj k Q h hk
 |some j=>
  simp only[wo]at h
  cases hx:run λe s=>(norm P j.an s).run (j.N6 e) with
  |none=>rw[hx]at h;cases h
  |some x=>
   rw[hx]at h
   simp only[aA]at h
   obtain⟨y,hy,h⟩:=gm.1 h
   refine kj _ Q hx λe s' a' w' hs' hK=> ?_
   obtain⟨s1,h1,h2⟩:=gm.1 hK
   have he:=j.ok _ _ _ h2
   rw[hy,ao]at he
   subst he
   exact hk e s1 a' w' (j7 hC hs' h1) h
theorem Inv.GV{g:Nat->jm}{β:Id->Option Pl}{s:AS}{a:Act}{w:World}(h:Inv C g β s a w):
  Inv C (jv g w.heap.size (.own .dx 0)) β s {a with defers:=mG w.heap.size::a.defers} (w.alloc (.deferred (some []))):=by
 have ht:=Trans.alloc w g (.deferred (some [])) (.own .dx 0)
 have he:b6 (s.env w g β) (s.env (w.alloc (.deferred (some []))) (jv g w.heap.size (.own .dx 0)) β):=b6.same ht
 have h1:=h.step rfl ht he (fT.same h.bo he λi ver fr c pl hi hp=>by
  have hl:=((h.bo i ver fr c hi).label (pl:=pl) hp).1
  have hl':pl.b < w.heap.size:=hl
  exact⟨kH w _ hl',ee _ _ _ (by omega)⟩)
 refine⟨⟨cV.2 ⟨λhm=> ?_,h1.defers.1⟩,λd hd=> ?_⟩,h1.size,h1.bR,h1.bo,h1.trans,h1.le⟩
 ·obtain⟨D,e,_,hh,_⟩:=h.defers.2 _ hm
  have e:Deferred.mk (.collected w.heap.size) #[]=Deferred.mk (.collected D) #[]:=e
  injection e with e _
  injection e with e
  have:=(bk.1 hh).1
  omega
 ·rcases cv.1 hd with rfl | hd
  ·exact⟨w.heap.size,rfl,h.trans.size,lV w _,ew _ _ _⟩
  ·exact h1.defers.2 d hd
theorem tO:∀l:List av,(oU l).list=l
 |[]=>rfl
 |a::l=>by simp[oU,av.list,tO l]
theorem qu(bI:List Nat):∀(i:Nat) (l:List av),(dG bI i l).length=l.length
 |_,[]=>rfl
 |i,_::l=>by simp[dG,qu bI (i+1) l]
theorem tp(bI:List Nat):∀(l:List av) (i j:Nat),(dG bI i l).getD j .undef=l.getD j .undef\/(dG bI i l).getD j .undef= .undef
 |[],_,_=> .inl rfl
 |v::l,i,0=>by
  simp only[dG,iL]
  split
  ·exact .inl rfl
  ·exact .inr rfl
 |v::l,i,j+1=>by simpa[dG]using tp bI l (i+1) j
theorem Inv.frame{g:Nat->jm}{β:Id->Option Pl}{s:AS}{a:Act}{w:World}(h:Inv C g β s a w)(bI:List Nat):qG (s.env w g β) (oU (dG bI 0 s.bR)) a.tmps:=by
 refine⟨by rw[tO,qu,h.size],λi=> ?_⟩
 rw[tO]
 rcases tp bI s.bR 0 i with e | e
 ·rw[e];exact h.bR i
 ·rw[e];exact VS.undef
theorem KV(a:Act)(q:Nat)(x:Value):(a.put (some q) x).put (some q) (a.tmps.getD q undef)=a:=by
 obtain⟨t,d⟩:=a
 simp only[Act.put]
 congr 1
 apply la
 intro i
 simp only[df,Array.size_setIfInBounds]
 by_cases h:q=i
 ·subst h
  by_cases hl:q < t.size
  ·simp[hl]
  ·simp[hl]
 ·simp[h]
theorem vl{g:Nat->jm}{β:Id->Option Pl}{s s':AS}{a:Act}{w:World}{q p:Nat}(h:Inv C g β s a w)(he:s.wE q p=some s'):∃pl r,β (.dd 0)=some pl/\(s.env w g β).cur (.dd 0) 0/\w.heap[pl.b]? =some (.loop r)/\D3 q r.state r.pending/\
  ∀r':Loop,r'.params=r.params->r'.assign=r.assign->r'.body=r.body->r'.tmps=r.tmps->D3 p r'.state r'.pending->Inv C g β s' a (w.putObj pl.b (.loop r')):=by
 unfold AS.wE at he
 split at he
 rotate_left
 ·cases he
 rename_i c f q' cj
 split at he
 rotate_left
 ·cases he
 rename_i hq
 obtain rfl:q=q':=dO hq
 obtain rfl:=aP he
 obtain⟨pl,r,hp,hb,hg,⟨q1,q2,q3⟩,Dn,lQ⟩:=h.bo (.dd 0) 0 false _ cj
 have hp:β (.dd 0)=some pl:=hp
 have hb:w.heap[pl.b]? =some (.loop r):=hb
 have hg:g pl.b= .own (.id (.dd 0)) 0:=hg
 refine⟨pl,r,hp,⟨false,_,cj⟩,hb,lQ,λr' e1 e2 e3 e4 hs'=> ?_⟩
 have iC:pl.b < w.heap.size:=(bk.1 hb).1
 have hother:∀b',b'≠pl.b->(w.putObj pl.b (.loop r')).heap[b']? =w.heap[b']? :=λb' ga=>World.putObj_heap_other ga
 have ht:Trans w (w.putObj pl.b (.loop r')) g g:=by
  refine⟨rfl,rfl,⟨rfl,ax _⟩,by simp,λb' _=> ?_⟩
  by_cases he:b'=pl.b
  ·subst he
   rw[hg]
   exact⟨.inr ⟨_,0,rfl,ax _⟩,λ_ _ hh=>by omega⟩
  ·rw[hother b' he]
   cases xy:g b' with
   |free=>exact⟨rfl,rfl⟩
   |own o' k=>cases o' with
    |dx=>exact⟨rfl,rfl⟩
    |id i'=>exact⟨.inr ⟨i',k,rfl,ax _⟩,λoff v _ hv=>by simpa only[World.cell?,hother b' he]using hv⟩
 have hle:b6 (s.env w g β) ((s.aH (.dd 0) (.obj 0 false (.nH c f p))).env (w.putObj pl.b (.loop r')) g β):=b6.aH cj (ax _) ht (λ_ _=>rfl) (λ_=>rfl)
 refine h.step (cK _ _ _) ht hle (fT.aH h.bo (by rw[cj];simp) hle (λ_ _=>rfl) (λi ver fr c pl2 hi yK A0=>⟨hother _ (h.apart hg hi yK A0),rfl⟩) ?_ (uY cj))
 exact⟨pl,r',hp,World.putObj_heap_same iC,hg,⟨e1.trans q1,e2.trans q2,e3.trans q3⟩,by rw[e4];exact Dn.mono hle,hs'⟩
theorem xF{n:Nat}(hΓ:Sound P Γ){f:Operand}{ps:Array Tmp}{as b:Code}{R:Type}{r:R}{k:Exit->AS->Option R}{Q:Exit->Act->World->Prop}{s:AS}{a:Act}{w:World}(h:fF C s a w)
  (he:ra P Γ an s f ps as b k=some r) (hk:∀e s' a' w',fF C s' a' w'->k e s'=some r->Q e a' w'):(Code.rangeFunc f ps as b).wpIn (Fr none) n P Q a w:=by
 obtain⟨g,β,h⟩:=h
 unfold ra at he
 split at he
 rotate_left
 ·cases he
 rename_i y bI h0 caps Tm TY hF
 split at he
 rotate_left
 ·cases he
 rename_i en ON Ig
 simp only[ag]at ON
 obtain⟨⟨⟨Hk,I5⟩,hq⟩,iC⟩:=ON
 have hd:=(hΓ _ _ _ Ig).1 iC
 obtain⟨s3,IW,he⟩:=gm.1 he
 generalize TX:ps.getD 0 0=q at I5 hq IW he Ig
 have hq:q < s.bR.length:=eW hq
 obtain⟨vs,hy,P7⟩:=AO (hF▸h.ev f)
 refine wpIn_rangeFunc λfn _=> ?_
 have cj:=run_enterLoop_outer (P:=P) (w:=w) fn a.tmps ps as b
 have i1:=h.GV
 generalize Tv:w.alloc (.deferred (some []))=w1 at i1 cj
 have l8:w1.heap.size=w.heap.size+1:=by rw[<-Tv];exact World.size_alloc ..
 generalize Rj:({state:= .ready,pending:=none,fn,tmps:=a.tmps,params:=ps,assign:=as,body:=b,defers:=w.heap.size}:Loop)=r0 at cj
 have ht:=Trans.alloc w1 (jv g w.heap.size (.own .dx 0)) (.loop r0) (.own (.id (.new q 0)) 0)
 obtain⟨i2,e2⟩:=i1.vT I5 (c:= .nH ⟨y,ps,as,b⟩ (oU (dG bI 0 s.bR)) 0) (p:=some ⟨w1.heap.size,0⟩) ht (λb hb=>⟨kH w1 _ hb,ee _ _ _ (by omega)⟩) (λhe=>
  ⟨⟨w1.heap.size,0⟩,r0,gN _ _ _,lV w1 _,ew _ _ _,by subst Rj;exact⟨rfl,rfl,rfl⟩,by subst Rj;exact(i1.frame bI).mono he,by subst Rj;exact⟨rfl,rfl⟩⟩)
 generalize jv (jv g w.heap.size (.own .dx 0)) w1.heap.size (.own (.id (.new q 0)) 0)=g2 at i2 e2
 generalize hβ2:sG β (.new q 0) (some ⟨w1.heap.size,0⟩)=β2 at i2 e2
 generalize Ik:w1.alloc (.loop r0)=w2 at i2 e2 cj
 have Sp:VS ((s.born q [.obj 0 false (.nH ⟨y,ps,as,b⟩ (oU (dG bI 0 s.bR)) 0)]).env w2 g2 β2) (.yl (.new q 0) 0) (.func (.yield w1.heap.size) #[] #[]):=by
  refine⟨[.func (.yield w1.heap.size) #[] #[]],?_,rfl⟩
  simp only[V]
  exact⟨_,rfl,kh I5 _ _ _ _,λ_=>⟨⟨w1.heap.size,0⟩,by rw[<-hβ2];exact gN _ _ _,rfl⟩⟩
 have i3:=i2.put (some q) Sp
 have hF2:(s.born q [.obj 0 false (.nH ⟨y,ps,as,b⟩ (oU (dG bI 0 s.bR)) 0)]).ev f= .fn h0 caps:=by rw[<-hF];cases f <;> rfl
 obtain⟨vs2,N4,Rw⟩:=AO (hF2▸i2.ev f)
 have uT:vs2=vs:=by
  have e:Value.func (.func h0) #[] vs2.toArray= .func (.func h0) #[] vs.toArray:=by rw[<-N4,<-hy];cases f <;> rfl
  injection e with _ _ e
  simpa using congrArg Array.toList e
 subst uT
 have yE:pF (((s.born q [.obj 0 false (.nH ⟨y,ps,as,b⟩ (oU (dG bI 0 s.bR)) 0)]).put (some q) (.yl (.new q 0) 0)).env w2 g2 β2) (.yl (.new q 0) 0::caps.list) (.func (.yield w1.heap.size) #[] #[]::vs2):=by
  rw[BJ]
  exact⟨Sp,EG Rw⟩
 unfold AS.call at IW
 obtain⟨r2,h1,h2⟩:=ak.1 IW
 obtain⟨g',i4,e4,_,f1⟩:=eK r2.2 i3
 obtain⟨x,hx,k1,k2,key⟩:=wa (o:= {(default:Oper) with dst:=none}) i4 (sa _ _) (rV rfl i3.bo e4 _ _ _ r2 yE h1 f1) h2
 have R5:∀args:Array Value,(callFunc h0 args).run P w2= .ok (.enter h0 args) w2:=λargs=>by
  unfold D5 at Hk
  split at Hk
  ·rename_i fn' MP
   simp only[ag,bp,beq_eq_false_iff_ne]at Hk
   obtain⟨c,hc⟩:=bF.1 Hk.2
   unfold callFunc
   simp[MP,Hk.1,hc]
  ·cases Hk
 have post:∀ {w3:World} {v:Value},fF C s3 ((({a with defers:=mG w.heap.size::a.defers}:Act).put (some q) (.func (.yield w1.heap.size) #[] #[])).put none v) w3->∀ {c:mA} {fr:av} {p:Nat},s3.bG (.new q 0)=some (.obj 0 false (.nH c fr p))->s3.slot q= .yl (.new q 0) 0->p≠1->
   ∃jump w4,(Instr.endLoop w1.heap.size).run P w3= .ok jump w4/\D3 p (if p=0 then .ready else .done) jump/\fF C ((s3.aH (.new q 0) .dead).put (some q) .undef) {a with defers:=mG w.heap.size::a.defers} w4:=by
  intro w3 v M8 c fr p yH I3 NZ
  obtain⟨g3,β3,i5⟩:=M8
  obtain⟨pl,r3,hp,hb,hg,_,_,lQ⟩:=i5.bo (.new q 0) 0 false _ yH
  have hp:β3 (.new q 0)=some pl:=hp
  have hb:w3.heap[pl.b]? =some (.loop r3):=hb
  have hg:g3 pl.b= .own (.id (.new q 0)) 0:=hg
  have LK:=i5.bR q
  rw[I3]at LK
  obtain⟨cs,hV,hO⟩:=LK
  simp only[V]at hV
  obtain⟨l,rfl,_,ef⟩:=hV
  obtain⟨pl',hp',rfl⟩:=ef ⟨false,_,yH⟩
  have hp':β3 (.new q 0)=some pl':=hp'
  rw[hp]at hp'
  obtain rfl:pl=pl':=by simpa using hp'
  have hO: [Value.func (.yield pl.b) #[] #[]]=[((({a with defers:=mG w.heap.size::a.defers}:Act).put (some q) (.func (.yield w1.heap.size) #[] #[])).put none v).tmps.getD q undef]:=hO
  have yJ:q < ({a with defers:=mG w.heap.size::a.defers}:Act).tmps.size:=by show q < a.tmps.size;rw[h.size];exact hq
  have hO2:((({a with defers:=mG w.heap.size::a.defers}:Act).put (some q) (.func (.yield w1.heap.size) #[] #[])).put none v).tmps.getD q undef= .func (.yield w1.heap.size) #[] #[]:=by
   show((({a with defers:=mG w.heap.size::a.defers}:Act).put (some q) (.func (.yield w1.heap.size) #[] #[]))).tmps.getD q undef=_
   rw[En,if_pos ⟨rfl,yJ⟩]
  rw[hO2]at hO
  have hl:pl.b=w1.heap.size:=by simpa using hO
  have OM:r3.state≠ .busy:=by
   match p,lQ,NZ with
   | 0,lQ,_=>rw[lQ.1];simp
   | 1,_,h=>exact absurd rfl h
   | 2,lQ,_=>rw[lQ.1];simp
   |_+3,lQ,_=>rw[lQ.1];simp
  have iC:pl.b < w3.heap.size:=(bk.1 hb).1
  refine⟨r3.pending,_,by rw[<-hl];exact run_endLoop hb OM,?_,?_⟩
  ·match p,lQ,NZ with
   | 0,lQ,_=>exact⟨rfl,lQ.2⟩
   | 1,_,h=>exact absurd rfl h
   | 2,lQ,_=>exact⟨rfl,lQ.2⟩
   |_+3,lQ,_=>exact⟨rfl,lQ.2⟩
  ·have i6:=i5.kill yH hg (w':=w3.putObj pl.b (.loop {r3 with state:= .exhausted})) rfl rfl ⟨rfl,ax _⟩ (by simp) (λb' hb'=>World.putObj_heap_other hb')
   have i7:=i6.put (some q) (v:= .undef) (x:=({a with defers:=mG w.heap.size::a.defers}:Act).tmps.getD q undef) VS.undef
   have e:=KV {a with defers:=mG w.heap.size::a.defers} q (.func (.yield w1.heap.size) #[] #[])
   refine⟨jv g3 pl.b .free,β3,?_⟩
   simp only[Act.put]at e i7
   rw[e]at i7
   exact i7
 have hc:Calls P h0 (.func (.yield w1.heap.size) #[] #[]::vs2).toArray w2 λe w'=>∃v,e= .returned v/\fF C s3 ((({a with defers:=mG w.heap.size::a.defers}:Act).put (some q) (.func (.yield w1.heap.size) #[] #[])).put none v) w':=by
  rcases hd _ _ _ _ _ _ _ k1 k2 hx with⟨_,hc⟩ | ⟨v,w',P6,_⟩
  ·exact hc.mono λe w' ⟨v,he,ha⟩=>⟨v,he,key v w' ha⟩
  ·rw[R5]at P6;cases P6
 refine⟨w1.heap.size,[mG w.heap.size],w2,⟨.fn (.func h0) vs2.toArray,#[.func (.yield w1.heap.size) #[] #[]]⟩,w2,h0,(.func (.yield w1.heap.size) #[] #[]::vs2).toArray,w2,?_,?_,λ_ _=>trivial,?_,λh=>(by cases h),?_⟩
 ·rw[l8];exact cj
 ·have e:resolve a.eval (rangeCall f w1.heap.size) 0=Deferred.ofValue (a.eval f) #[.func (.yield w1.heap.size) #[] #[]]:=by simp[resolve,rangeCall,Act.eval]
  rw[e,hy]
  simp[Deferred.ofValue]
 ·have e:(#[.func (.yield w1.heap.size) #[] #[]]++vs2.toArray:Array Value)=(.func (.yield w1.heap.size) #[] #[]::vs2).toArray:=by simp
  rw[<-R5,<-e]
  rfl
 ·have h1:CallsIn (Fr none) (n - 1) P h0 (.func (.yield w1.heap.size) #[] #[]::vs2).toArray w2 _:=callsIn_wide.2 hc
  refine h1.mono λe w3 ⟨v,Hm,M8⟩=> ?_
  subst Hm
  show ∃jump w4,_/\_
  split at he
  rotate_left
  ·cases he
  rename_i c3 fr3 p3 q' yH I3
  split at he
  ·rename_i hq'
   obtain rfl:q'=q:=dO hq'
   obtain⟨jump,w4,IX,lQ,Pf⟩:=post M8 yH I3 (by decide)
   obtain⟨_,rfl⟩:=lQ
   exact⟨none,w4,IX,hk _ _ _ _ Pf he⟩
  ·rename_i hq'
   obtain rfl:q'=q:=dO hq'
   obtain⟨jump,w4,IX,lQ,Pf⟩:=post M8 yH I3 (by decide)
   obtain⟨_,rfl⟩:=lQ
   exact⟨_,w4,IX,wpIn_ret (hk _ _ _ _ Pf he)⟩
  ·rename_i i hq'
   obtain rfl:q'=q:=dO hq'
   obtain⟨jump,w4,IX,lQ,Pf⟩:=post M8 yH I3 (by simp)
   obtain⟨_,rfl⟩:=lQ
   exact⟨_,w4,IX,wpIn_exit (hk _ _ _ _ Pf he)⟩
  ·cases he
theorem jA{rd:Option Nat}{n:Nat}(hm:P.follows .mixedOrders=true)(hΓ:Sound P Γ)(hC:C.ok){N:Nat}(Hp:rd=none\/an.oG.isSome=true):∀(c:Code),mO P Γ an N (iv c)->∀ {R:Type} {r:R} (s:AS) (a:Act) (w:World) (k:Exit->AS->Option R) (Q:Exit->Act->World->Prop),
  fF C s a w->ev P Γ an N c s k=some r->(∀e s' a' w',fF C s' a' w'->k e s'=some r->Q e a' w')->c.wpIn (Fr rd) n P Q a w
 | .skip,hL,_,_,s,a,w,k,Q,hs,h,hk=>wpIn_skip (hk _ _ _ _ hs h)
 | .region id ops draw,hL,_,_,s,a,w,k,Q,hs,h,hk=>by
  simp only[ev]at h
  refine uV hC (λk Q h hk=> ?_) h hk
  cases draw with
  |true=>
   simp only at h
   split at h
   ·rename_i hE
    exact D4 hm hΓ hs hE h λs' a' w' hs' hk'=>hk _ _ _ _ hs' hk'
   ·cases h
  |false=>exact wpIn_region_list (wZ hΓ ops.toList hs h λs' a' w' hs' hk'=>hk _ _ _ _ hs' hk')
 | .seq x y,hL,_,_,s,a,w,k,Q,hs,h,hk=>by
  simp only[ev]at h
  refine wpIn_seq (uV hC (λk Q h hk=>jA hm hΓ hC Hp x hL.append.1 s a w k Q hs h hk) h λe s' a' w' hs' hk'=> ?_)
  cases e with
  |normal=>exact jA hm hΓ hC Hp y hL.append.2 s' a' w' k Q hs' hk' hk
  |_=>exact hk _ s' a' w' hs' hk'
 | .cond c x y,hL,_,_,s,a,w,k,Q,hs,h,hk=>by
  simp only[ev]at h
  split at h
  ·rename_i b hb
   have hc:a.eval c= .bool b:=by
    obtain⟨g,β,hi⟩:=hs
    have:=hi.ev c
    rw[hb]at this
    exact xK this
   refine wpIn_cond hc ?_
   cases b with
   |true=>exact jA hm hΓ hC Hp x hL.append.1 s a w k Q hs h hk
   |false=>exact jA hm hΓ hC Hp y hL.append.2 s a w k Q hs h hk
  ·cases h
 | .block id b,hL,_,_,s,a,w,k,Q,hs,h,hk=>by
  simp only[ev]at h
  refine wpIn_block (jA hm hΓ hC Hp b hL s a w _ _ hs h λe s' a' w' hs' hk'=> ?_)
  cases e with
  |exit i=>
   simp only at hk'
   simp only[Exit.inBlock]
   by_cases hi:i=id
   ·rw[if_pos hi]
    simp only[hi,decide_true]at hk'
    exact hk _ s' a' w' hs' hk'
   ·rw[if_neg hi]
    simp only[hi,decide_false]at hk'
    exact hk _ s' a' w' hs' hk'
  |_=>exact hk _ s' a' w' hs' hk'
 | .loop b,hL,R,r,s,a,w,k,Q,hs,h,hk=>by
  simp only[ev]at h
  obtain⟨s1,h1,h⟩:=gm.1 h
  have xA:=j7 hC hs h1
  obtain⟨hL1,hL2⟩:=(hL:Ie P Γ an N b/\mO P Γ an N (iv b))
  split at h
  ·rename_i le hle
   unfold JX at h
   cases BV:le.set with
   |some S=>
    rw[BV]at h
    simp only at h
    obtain⟨h2,h3⟩:=Hb h
    obtain⟨n,hn⟩:=(hL1 le hle).2 S BV s1 h2
    refine wpIn_loop_rounds n (qS (λs s1 a w hs hn=>j7 hC hs hn) (λe s s1 a w hs hn=>j7 hC hs hn) (λs a w k Q hs hb hk=>jA hm hΓ hC Hp b hL2 s a w k Q hs hb hk) (λe s' a' w' hs' he=> ?_) n s1 a w xA hn)
    obtain⟨x,Ry,Rz⟩:=Jw he
    obtain⟨y,hy,h4⟩:=gm.1 (h3 x Ry)
    rw[Rz,ao]at hy
    subst hy
    exact hk _ _ _ _ hs' h4
   |none=>
   rw[BV]at h
   simp only at h
   cases hr:le.run s1 with
   |none=>rw[hr]at h;cases h
   |some x=>
    rw[hr]at h
    simp only[aA]at h
    obtain⟨y,hy,h⟩:=gm.1 h
    obtain⟨n,hn⟩:=(hL1 le hle).1 BV s1 x hr
    rw[hy]at hn
    refine wpIn_loop_rounds n (qS (λs s1 a w hs hn=>j7 hC hs hn) (λe s s1 a w hs hn=>j7 hC hs hn) (λs a w k Q hs hb hk=>jA hm hΓ hC Hp b hL2 s a w k Q hs hb hk) (λe s' a' w' hs' he=> ?_) n s1 a w xA hn)
    simp only[ao]at he
    subst he
    exact hk e s' a' w' hs' h
  ·exact wpIn_loop_rounds N (qS (λs s1 a w hs hn=>j7 hC hs hn) (λe s s1 a w hs hn=>j7 hC hs hn) (λs a w k Q hs hb hk=>jA hm hΓ hC Hp b hL2 s a w k Q hs hb hk) hk N s1 a w xA h)
 | .exit id,hL,_,_,s,a,w,k,Q,hs,h,hk=>wpIn_exit (hk _ _ _ _ hs h)
 | .ret,hL,_,_,s,a,w,k,Q,hs,h,hk=>wpIn_ret (hk _ _ _ _ hs h)
 | .rangeFunc f ps as b,_,_,_,s,a,w,k,Q,hs,h,hk=>by
  simp only[ev]at h
  rcases Hp with rfl | Hp
  ·exact xF hΓ hs h hk
  ·unfold ra at h
   split at h
   ·rename_i h0 _ _;rw[h0]at Hp;cases Hp
   ·cases h
 | .scope b,hL,_,_,s,a,w,k,Q,hs,h,hk=>by
  simp only[ev]at h
  refine tg (jA hm hΓ hC Hp b hL s a w _ _ hs h λe s' a' w' hs' hk'=> ?_)
  cases e with
  |goto l=>cases hk'
  |_=>exact hk _ s' a' w' hs' hk'
 | .label _,hL,_,_,s,a,w,k,Q,hs,h,hk=>wpIn_label (hk _ _ _ _ hs h)
 | .goto _,_,_,_,_,_,_,_,_,_,h,_=>by simp[ev]at h
 | .refuse _,_,_,_,_,_,_,_,_,_,h,_=>by simp[ev]at h
variable {g:Nat->jm} {β:Id->Option Pl} {s:AS} {a:Act} {w:World}
def zo(tmps:Array Value)(r:ResultVar):Sem Value:=
 match r with
 | .tmp t=>pure (tmps.getD t undef)
 | .cell a t=>do loadVar t (<-asAddr (tmps.getD a undef))
theorem vp(h:Inv C g β s a w){r:ResultVar}{v:av}(he:(zq P s r).eval=some v):∃x,(zo a.tmps r).run P w= .ok x w/\VS (s.env w g β) v x:=by
 cases r with
 |tmp t=>
  simp only[zq]at he
  obtain rfl:=al.1 he
  exact⟨_,by simp[zo],h.bR t⟩
 |cell t T=>
  simp only[zq]at he
  obtain⟨ad,z,hy,hr,hv⟩:=yZ h (h.bR t) he
  exact⟨z,by simp[zo,hy,asAddr,hr],hv⟩
theorem vo(h:Inv C g β s a w){r:ResultVar}{o:Option Ty}{y:AS×av}(he:(zp P s r o).eval=some y):
  ∃x g',(zo a.tmps r).run P w= .ok x w/\Inv C g' β y.1 a w/\b6 (s.env w g β) (y.1.env w g' β)/\VS (y.1.env w g' β) y.2 x:=by
 cases o with
 |none=>
  simp only[zp]at he
  obtain⟨v,h1,h2⟩:=ak.1 he
  obtain rfl:=al.1 h2
  obtain⟨x,hx,hv⟩:=vp h h1
  exact⟨x,g,hx,h,b6.refl _,hv⟩
 |some t=>
  simp only[zp]at he
  obtain⟨v,h1,h2⟩:=ak.1 he
  obtain⟨d,h3,h4⟩:=ak.1 h2
  obtain rfl:=al.1 h4
  obtain⟨x,hx,hv⟩:=vp h h1
  obtain⟨g',i1,e1,_,cs,hR,hO⟩:=pq h hv h3
  exact⟨x,g',hx,i1,e1,VS.of (a:= .d t d) (cs:=cs) (by simpa only[V]using hR) hO⟩
theorem tv:∀(l:List ResultVar) (ts:List (Option Ty)) {s:AS} {g:Nat->jm} (_:Inv C g β s a w) {y:AS×av},(vu P s l ts).eval=some y->
  ∃(xs:List Value) (g':Nat->jm),(l.mapM (zo a.tmps)).run P w= .ok xs w/\Inv C g' β y.1 a w/\b6 (s.env w g β) (y.1.env w g' β)/\VC (y.1.env w g' β) y.2 xs/\xs.length=l.length
 |[],ts,s,g,h,y,he=>by
  simp only[vu]at he
  obtain rfl:=al.1 he
  exact⟨[],g,by simp,h,b6.refl _,by simp[VC],rfl⟩
 |r::l,ts,s,g,h,y,he=>by
  simp only[vu]at he
  obtain⟨u,h1,h2⟩:=ak.1 he
  obtain⟨hc,h2⟩:=aw.1 h2
  obtain⟨us,h3,h4⟩:=ak.1 h2
  obtain rfl:=al.1 h4
  obtain⟨x,g1,hx,i1,e1,hv⟩:=vo h h1
  obtain⟨xs,g2,Ex,i2,e2,uT,hl⟩:=tv l ts.tail i1 h3
  obtain⟨cs,hV,hO⟩:=(hv.mono e2).dK hc
  refine⟨x::xs,g2,?_,i2,e1.trans e2,by simp only[VC];exact⟨x,xs,cs,rfl,hV,hO,uT⟩,by simp[hl]⟩
  simp only[List.mapM_cons,Sem.run_bind,hx,Result.andThen_ok,Ex,Sem.run_pure]
theorem Is{E:Env}{v:av}{xs:List Value}(h:VC E v xs):VS E v (.tuple xs.toArray):=by
 cases v <;> first
  | (simp only[VC]at h;done)
  |exact⟨xs,rfl,h⟩
  | (simp only[VC]at h;subst h;rfl)
theorem Ap(h:Inv C g β s a w){fn:Func}{ts:List (Option Ty)}{y:AS×av}(he:(Cd P fn ts s).eval=some y):
  ∃x g',(results fn a.tmps).run P w= .ok x w/\Inv C g' β y.1 a w/\VS (y.1.env w g' β) y.2 x:=by
 have key:∀xs:List Value,(fn.results.toList.mapM (zo a.tmps)).run P w= .ok xs w->(results fn a.tmps).run P w= .ok (if h:xs.length=1 then xs[0] else .tuple xs.toArray) w:=λxs Ex=>by
  have e:results fn a.tmps=(do
   let vs <-fn.results.mapM (zo a.tmps)
   pure (if h:vs.size=1 then vs[0] else .tuple vs)):=rfl
  rw[e,Array.mapM_eq_mapM_toList]
  simp only[map_eq_pure_bind,Sem.run_bind,Ex,Result.andThen_ok,Sem.run_pure]
  congr 1
 unfold Cd at he
 split at he
 ·rename_i r hr
  obtain⟨x,g',hx,hi,_,hv⟩:=vo h he
  refine⟨x,g',?_,hi,hv⟩
  rw[key [x] (by simp[hr,hx])]
  simp
 ·rename_i rs ga
  obtain⟨xs,g',hx,hi,_,hv,hl⟩:=tv _ _ h he
  refine⟨.tuple xs.toArray,g',?_,hi,Is hv⟩
  rw[key xs hx,dif_neg]
  rw[hl]
  intro h1
  obtain⟨r,hr⟩:=List.length_eq_one_iff.1 h1
  exact ga r hr
end
end Go.Ab
namespace Go.Ab
def mF(ids:List Id):jm->jm
 | .own (.id (.new i j)) k=> .own (.id (match idxOf (.new i j) ids with | some m=> .new 0 m | none=> .new 1 0)) k
 |l=>l
def JA(β:Id->Option Pl)(ids:List Id):Id->Option Pl
 | .dd k=>β (.dd k)
 | .new 0 m=>(ids[m]?).bind β
 | .new (_+1) _=>none
theorem Hv{ids:List Id}{g:Nat->jm}{b off:Nat}(h:mr g b off):mr (λb=>mF ids (g b)) b off:=by
 unfold mr at*
 simp only
 cases hg:g b with
 |free=>simp[mF]
 |own o k=>
  rw[hg]at h
  cases o with
  |dx=>exact h
  |id i=>cases i <;> exact h
theorem BN(s:AS)(v:av):(s.wb v).Nodup:=(nv s _ _ _ (by simp)).filter _
theorem E7{s:AS}{v:av}{id:Id}(h:id∈s.wb v):∃i j,id= .new i j:=by
 unfold AS.wb at h
 have:=(dE.1 h).2
 cases id with
 |dd k=>simp[Id.LP]at this
 |new i j=>exact⟨i,j,rfl⟩
section
variable {P:Program} {Γ:nG} {C:Ctx} {g:Nat->jm} {β:Id->Option Pl} {s:AS} {a:Act} {w:World}
theorem AN(h:Inv C g β s a w)(hC:C.ok){v:av}{x:Value}(hv:VS (s.env w g β) v x):nR C.E (s.fin v) x w:=by
 unfold AS.fin
 have hn:=BN s v
 have tc:∀id∈s.wb v,∃i j,id= .new i j:=λid cP=>E7 cP
 generalize s.wb v=ids at hn tc
 generalize hG:s.Lq ids v=G
 have o7:G.val=v.fS (tV ids):=by rw[<-hG];rfl
 have hold:∀k,G.st.bG (.dd k)=(s.bG (.dd k)).map (de.fin ids):=λk=>by
  rw[<-hG]
  show(s.bT.map (de.fin ids))[k]? =_
  rw[dU];rfl
 have Si:∀m,G.st.bG (.new 0 m)=(ids[m]?).map λid=>((s.bG id).getD .dead).fin ids:=λm=>by
  rw[<-hG]
  show(ids.map λid=>((s.bG id).getD .dead).fin ids)[m]? =_
  rw[dU]
 have Tg:∀i m,G.st.bG (.new (i+1) m)=none:=λi m=>by simp[iO.st,AS.bG]
 let g':Nat->jm:=λb=>mF ids (g b)
 let β':=JA β ids
 have Hn:∀e ver fr c,de.fin ids e= .obj ver fr c->∃c0,e= .obj ver fr c0/\c=c0.fS (tV ids):=λe ver fr c he=>by
  cases e with
  |dead=>cases he
  |obj v0 fr0 c0=>
   simp only[de.fin,de.obj.injEq]at he
   obtain⟨rfl,rfl,rfl⟩:=he
   exact⟨c0,rfl,rfl⟩
 have hle:pI (tV ids) (s.env w g β) (G.st.env w g' β'):=by
  refine⟨⟨λb off v ⟨h1,h2⟩=>⟨h1,Hv h2⟩,λb ob h1 h2=>⟨by show mF ids (g b)= .free;have h1:g b= .free:=h1;rw[h1];rfl,h2⟩⟩,λid ver r hr hb=> ?_⟩
  obtain⟨vN,xN⟩:=hb
  have vN:s.bG id≠none:=vN
  have xN:∀v fr c,s.bG id=some (.obj v fr c)->ver<=v:=xN
  cases id with
  |dd k=>
   simp only[tV,ao]at hr
   subst hr
   refine⟨⟨?_,λv fr c hh=> ?_⟩,λ⟨fr,c,hh⟩=>⟨?_,rfl⟩⟩
   ·show G.st.bG (.dd k)≠none
    rw[hold];simpa using vN
   ·have hh:G.st.bG (.dd k)=some (.obj v fr c):=hh
    rw[hold,ea]at hh
    obtain⟨e,he,hh⟩:=hh
    obtain⟨c0,rfl,_⟩:=Hn _ _ _ _ hh
    exact xN v fr c0 he
   ·have hh:G.st.bG (.dd k)=some (.obj ver fr c):=hh
    rw[hold,ea]at hh
    obtain⟨e,he,hh⟩:=hh
    obtain⟨c0,rfl,_⟩:=Hn _ _ _ _ hh
    exact⟨fr,c0,he⟩
  |new i j=>
   simp only[tV]at hr
   split at hr
   ·rename_i m hm
    simp only[ao]at hr
    subst hr
    have cP:=lz hm
    obtain⟨e,he⟩:=Option.ne_none_iff_exists'.1 vN
    have hg:G.st.bG (.new 0 m)=some (e.fin ids):=by rw[Si,cP];simp[he]
    refine⟨⟨?_,λv fr c hh=> ?_⟩,λ⟨fr,c,hh⟩=>⟨?_,?_⟩⟩
    ·show G.st.bG (.new 0 m)≠none
     rw[hg];simp
    ·have hh:G.st.bG (.new 0 m)=some (.obj v fr c):=hh
     rw[hg,ao]at hh
     obtain⟨c0,rfl,_⟩:=Hn _ _ _ _ hh
     exact xN v fr c0 he
    ·have hh:G.st.bG (.new 0 m)=some (.obj ver fr c):=hh
     rw[hg,ao]at hh
     obtain⟨c0,rfl,_⟩:=Hn _ _ _ _ hh
     exact⟨fr,c0,he⟩
    ·show(ids[m]?).bind β=β (.new i j)
     rw[cP];rfl
   ·cases hr
 have Fh:Trans C.E.w w C.E.g g':=by
  have h0:=h.trans
  refine⟨h0.os,h0.tape,h0.output,h0.size,λb hb=> ?_⟩
  have h1:=h0.vS b hb
  show match C.E.g b with | .free=>mF ids (g b)= .free/\_ | .own .dx k=>mF ids (g b)= .own .dx k/\_ | .own (.id _) k=>(mF ids (g b)= .free\/∃i k',mF ids (g b)= .own (.id i) k'/\k<=k')/\_
  cases xy:C.E.g b with
  |free=>simp only[xy]at h1 ⊢;rw[h1.1];exact⟨rfl,h1.2⟩
  |own o k=>cases o with
   |dx=>simp only[xy]at h1 ⊢;rw[h1.1];exact⟨rfl,h1.2⟩
   |id i=>
    simp only[xy]at h1 ⊢
    refine⟨?_,h1.2⟩
    rcases h1.1 with h2 | ⟨i',k',h2,h3⟩
    ·rw[h2];exact .inl rfl
    ·rw[h2]
     right
     cases i' with
     |dd m=>exact⟨_,k',rfl,h3⟩
     |new i j=>exact⟨_,k',rfl,h3⟩
 have KA:fT (G.st.env w g' β'):=by
  intro id ver fr c cP
  have cP:G.st.bG id=some (.obj ver fr c):=cP
  cases id with
  |dd k=>
   rw[hold,ea]at cP
   obtain⟨e,he,cP⟩:=cP
   obtain⟨c0,rfl,rfl⟩:=Hn _ _ _ _ cP
   refine nc hle (h.bo (.dd k) ver fr c0 he) rfl λpl _=>⟨rfl,λn hg=> ?_,λhg=> ?_⟩
   ·have hg:g pl.b= .own (.id (.dd k)) n:=hg
    show mF ids (g pl.b)=_
    rw[hg];rfl
   ·have hg:g pl.b= .free:=hg
    show mF ids (g pl.b)=_
    rw[hg];rfl
  |new i m=>
   cases i with
   |succ i=>rw[Tg]at cP;cases cP
   |zero=>
    rw[Si,ea]at cP
    obtain⟨id0,MV,cP⟩:=cP
    obtain⟨c0,he,rfl⟩:=Hn _ _ _ _ cP
    have cj:s.bG id0=some (.obj ver fr c0):=by
     cases hs:s.bG id0 with
     |none=>rw[hs]at he;cases he
     |some e=>rw[hs]at he;simp only[dR]at he;rw[he]
    obtain⟨i0,j0,rfl⟩:=tc id0 (cE MV)
    refine nc hle (h.bo (.new i0 j0) ver fr c0 cj) (by show(ids[m]?).bind β=_;rw[MV];rfl) λpl _=>⟨rfl,λn hg=> ?_,λhg=> ?_⟩
    ·have hg:g pl.b= .own (.id (.new i0 j0)) n:=hg
     show mF ids (g pl.b)=_
     rw[hg]
     simp only[mF,pM hn MV]
    ·have hg:g pl.b= .free:=hg
     show mF ids (g pl.b)=_
     rw[hg];rfl
 have ho:∀id ver,C.E.rp id ver->∃k,id= .dd k:=λid ver hb=>by
  cases id with
  |dd k=>exact⟨k,rfl⟩
  |new i j=>exact absurd (hC.1 i j) hb.1
 refine⟨g',β',by rw[o7];exact tF hle hv,KA,Fh,Trans.mem (E:=C.E) (E':=G.st.env w g' β') Fh,λid ver hb=> ?_,λid ver hb hc=> ?_⟩
 ·obtain⟨k,rfl⟩:=ho id ver hb
  exact(hle.ref (.dd k) ver (.dd k,ver) rfl (h.le.rp _ _ hb)).1
 ·obtain⟨k,rfl⟩:=ho id ver hb
  obtain⟨h1,h2⟩:=(hle.ref (.dd k) ver (.dd k,ver) rfl (h.le.rp _ _ hb)).2 hc
  obtain⟨h3,h4⟩:=h.le.cur _ _ hb h1
  exact⟨h3,h2.trans h4⟩
theorem pF.len{E:Env}:∀ {as:List av} {vs:List Value},pF E as vs->as.length=vs.length
 |[],[],_=>rfl
 |_::_,_::_,⟨_,h⟩=>by simp[pF.len h]
 |[],_::_,h=>h.elim
 |_::_,[],h=>h.elim
theorem pF.get{E:Env}:∀ {as:List av} {vs:List Value},pF E as vs->∀i,VS E (as.getD i .undef) (vs.getD i undef)
 |[],[],_,i=>by simpa using VS.undef
 |_::_,_::_,⟨h,_⟩,0=>by simpa using h
 |_::_,_::_,⟨_,h⟩,i+1=>by simpa using pF.get h i
 |[],_::_,h,_=>h.elim
 |_::_,[],h,_=>h.elim
theorem H2{w:World}{g:Nat->jm}{β:Id->Option Pl}{fn:Func}{args:List av}{bT:List de}{iE:List Value}(hv:pF ((eN bT).env w g β) args iE)(ho:fT ((eN bT).env w g β)):
  Inv ⟨(eN bT).env w g β⟩ g β (start fn args bT) {tmps:=iE.toArray++Array.replicate (fn.ntmps - iE.toArray.size) undef,defers:=[]} w:=by
 have hl:=hv.len
 have cj:(start fn args bT).bG=(eN bT).bG:=by
  funext id
  cases id with
  |dd k=>rfl
  |new i j=>
   simp only[start,eN,AS.bG,ay,List.getElem?_replicate]
   split <;> simp
 have Fe:(start fn args bT).env w g β=(eN bT).env w g β:=by simp only[AS.env,cj]
 refine⟨⟨gQ,λ_ h=>by cases h⟩,by simp[start,hl],λi=> ?_,by rw[Fe];exact ho,Trans.refl _ _,by rw[Fe];exact b6.refl _⟩
 rw[Fe]
 have h1:(start fn args bT).slot i=args.getD i .undef:=by
  simp only[start,AS.slot,ay,List.getElem?_append,List.getElem?_replicate]
  split
  ·rfl
  ·rw[c7 (l:=args) (by omega)]
   split <;> rfl
 have h2:(iE.toArray++Array.replicate (fn.ntmps - iE.toArray.size) undef).getD i undef=iE.getD i undef:=by
  simp only[bY,ay,hJ,Array.getElem?_replicate]
  simp only[fx,List.getElem?_toArray]
  split
  ·rfl
  ·rw[c7 (l:=iE) (by omega)]
   split <;> rfl
 rw[h1,h2]
 exact hv.get i
theorem Inv.NF{C:Ctx}{g:Nat->jm}{β:Id->Option Pl}{s:AS}{a:Act}{w:World}(h:Inv C g β s a w){D:Nat}{ds:List Deferred}(hd:a.defers=mG D::ds):
  (Instr.takeDeferred D).run P w= .ok [] (w.putObj D (.deferred none))/\Inv C g β s {a with defers:=ds} (w.putObj D (.deferred none)):=by
 obtain⟨hn,qO⟩:=h.defers
 rw[hd]at hn qO
 obtain⟨D',e,hD,hh,hg⟩:=qO _ (aG ..)
 have e:Deferred.mk (.collected D) #[]=Deferred.mk (.collected D') #[]:=e
 injection e with e _
 injection e with e
 subst e
 have iC:=(bk.1 hh).1
 refine⟨run_takeDeferred hh,?_⟩
 have other:∀b,b≠D->(w.putObj D (.deferred none)).heap[b]? =w.heap[b]? :=λb hb=>World.putObj_heap_other hb
 have qt:∀b off v,w.cell? ⟨b,off,none⟩=some v->b≠D:=λb off v hv e=>by
  subst e
  simp[World.cell?,hh]at hv
 have pZ:lU (s.env w g β) (s.env (w.putObj D (.deferred none)) g β):=by
  refine⟨λb off v ⟨h1,h2⟩=>⟨?_,h2⟩,λb ob h1 h2=>⟨h1,?_⟩⟩
  ·have h1:w.cell? ⟨b,off,none⟩=some v:=h1
   show(w.putObj D (.deferred none)).cell? ⟨b,off,none⟩=some v
   rw[World.cell?_of_block (other b (qt b off v h1))]
   exact h1
  ·have h1:g b= .free:=h1
   have h2:w.heap[b]? =some ob:=h2
   show(w.putObj D (.deferred none)).heap[b]? =some ob
   rw[other b λe=>by rw[e,hg]at h1;cases h1]
   exact h2
 have hle:b6 (s.env w g β) (s.env (w.putObj D (.deferred none)) g β):=⟨pZ,λ_ _ h=>h,λ_ _ _ h=>⟨h,rfl⟩⟩
 have ga:∀ {id:Id} {v:Nat} {fr:Bool} {c:av} {pl:Pl},s.bG id=some (.obj v fr c)->β id=some pl->pl.b≠D:=λhs hp e=>by
  have:=((h.bo _ _ _ _ hs).label hp).2
  have this:(∃k,g _= .own (.id _) k)\/(_/\g _= .free):=this
  rw[e,hg]at this
  rcases this with⟨k,hk⟩ | ⟨_,hk⟩
  ·cases hk
  ·cases hk
 refine⟨⟨(cV.1 hn).2,λd hd'=> ?_⟩,h.size,λi=>(h.bR i).mono hle,λid ver fr c hs=> ?_,?_,h.le.trans hle⟩
 ·obtain⟨D2,e1,e2,e3,e4⟩:=qO d (aF _ hd')
  refine⟨D2,e1,e2,?_,e4⟩
  rw[other D2 λe=>(cV.1 hn).1 (by rw[<-e,<-e1];exact hd')]
  exact e3
 ·exact nb.mono hle (h.bo id ver fr c hs) rfl (λpl hp=>⟨other _ (ga hs hp),rfl⟩) λq vq k v l hq _=>⟨⟨k,v,l,hq⟩,λpl hp=>⟨other _ (ga hq hp),rfl⟩⟩
 ·have ht:=h.trans
  refine⟨ht.os,ht.tape,ht.output,?_,λb hb=> ?_⟩
  ·have:=ht.size
   simpa[World.putObj]using this
  ·have h1:=ht.vS b hb
   have hbD:b≠D:=by omega
   have hc:∀off v,w.cell? ⟨b,off,none⟩=some v->(w.putObj D (.deferred none)).cell? ⟨b,off,none⟩=some v:=λoff v hv=>by
    rw[World.cell?_of_block (other b hbD)];exact hv
   rw[other b hbD]
   split at h1
   ·exact h1
   ·exact h1
   ·exact⟨h1.1,λoff v ho hv=>hc off v (h1.2 off v ho hv)⟩
theorem xf{C:Ctx}{g:Nat->jm}{β:Id->Option Pl}{s:AS}{fn:Func}{R:Ending->World->Prop}:∀(ds:List Deferred) {a:Act} {w:World},Inv C g β s a w->a.defers=ds->
  (∀a2 w2,Inv C g β s a2 w2->a2.tmps=a.tmps->∃v,(results fn a.tmps).run P w2= .ok v w2/\R (.returned v) w2)->LeavesInM Fence.wide 0 P fn a.tmps R ds .returning w
 |[],a,w,h,hd,hk=>hk a w h rfl
 |d::ds,a,w,h,hd,hk=>by
  obtain⟨D,e,_⟩:=h.defers.2 d (by rw[hd];exact aG ..)
  subst e
  obtain⟨h1,h2⟩:=h.NF (P:=P) hd
  exact⟨by simp,.inl ⟨D,_,rfl,h1,xf (fn:=fn) (R:=R) ds (a:= {a with defers:=ds}) h2 rfl hk⟩⟩
theorem C2{bT:List de}{w:World}{g:Nat->jm}{β:Id->Option Pl}(h:bT.all de.first=true){k v:Nat}{fr:Bool}{c:av}(hk:((eN bT).env w g β).s (.dd k)=some (.obj v fr c)):v=0:=by
 have hk:bT[k]? =some (.obj v fr c):=by simpa[AS.env,eN,AS.bG]using hk
 have:=cM.1 h _ (cE hk)
 exact dO this
theorem ky.qW(hm:P.follows .mixedOrders=true)(hΓ:Sound P Γ){f:FuncId}{fn:Func}(hf:P.funcs[f]? =some fn)(hb:fn.body.isSome=true)(rZ:(fn.name== "runtime.NumGoroutine")=false){en:Entry}{an:th}{N:Nat}(hL:∀c,fn.body=some c->mO P Γ an N (iv c))
  (h:∀args bT x,en.run args bT=some x->GY P Γ an N fn args bT some=some (en.out args bT x)) (J3:an.oG=none):ky P f en:=by
 intro w g β args bT iE x hv ho hx
 left
 obtain⟨c,hc⟩:=bF.1 hb
 refine⟨?_,?_⟩
 ·unfold callFunc
  have hname':¬fn.name= "runtime.NumGoroutine" :=by simpa using rZ
  simp[hf,hname',hc]
 ·have hN:=h args bT x hx
  unfold GY at hN
  rw[J3,hc]at hN
  simp only at hN
  split at hN
  ·cases hN
  rename_i hF
  have hC:(Ctx.mk ((eN bT).env w g β)).ok:=⟨λi j=>by simp[AS.env,eN,AS.bG],λk v fr c hk=>C2 hF hk⟩
  refine callsIn_wide.1 (callsIn_of_wp_marks (F:=Fence.wide) (n:=0) hf hc trivial (jA (rd:=none) (C:=⟨(eN bT).env w g β⟩) hm hΓ hC (.inl rfl) c (hL c hc) _ _ w _ _ ⟨g,β,H2 hv ho⟩ hN λe s' a' w' hs' hk'=> ?_))
  have fin:(finish P an fn s').run (λv=>some v)=some (en.out args bT x)->LeavesInM Fence.wide 0 P fn a'.tmps (λe w'=>∃v,e= .returned v/\nR ((eN bT).env w g β) (en.out args bT x) v w') a'.defers .returning w':=λhr=>by
   obtain⟨G,h1,h2⟩:=gm.1 hr
   simp only[ao]at h2
   subst h2
   unfold finish at h1
   obtain⟨sd,QA,h1⟩:=ak.1 h1
   obtain⟨s2,h3,h4⟩:=ak.1 h1
   obtain⟨s3,SI,h4⟩:=ak.1 h4
   obtain⟨s4,SJ,h4⟩:=ak.1 h4
   obtain⟨y,h5,h6⟩:=ak.1 h4
   obtain⟨g1,β1,LA⟩:=hs'
   refine xf a'.defers LA rfl λa2 w2 QS Tq=> ?_
   obtain⟨g0,β0,Kw⟩:=oW _ ⟨g1,β1,QS⟩ QA
   obtain⟨g',β',hi⟩:=uv _ (jM hC _ ⟨g0,β0,Kw.drop _⟩ h3) SI
   have hi:=qH hC _ hi SJ
   obtain⟨z,g2,h7,h8,h9⟩:=Ap hi h5
   refine⟨z,by rw[<-Tq];exact h7,z,rfl,?_⟩
   rw[<-al.1 h6]
   exact AN h8 hC h9
  cases e with
  |normal=>exact fin hk'
  |ret=>exact fin hk'
  |_=>cases hk'
theorem tw:∀(l:List (Tmp×Value)) (t:Array Value),(l.foldl (λtmps (x:Tmp×Value)=>tmps.setIfInBounds x.1 x.2) t).size=t.size
 |[],_=>rfl
 |x::l,t=>by rw[cU,tw l];simp
theorem sz:∀(l:List (Tmp×av)) (fs:List av),(oI l fs).length=fs.length
 |[],_=>rfl
 |x::l,fs=>by rw[oI,sz l];simp
theorem tx{E:Env}:∀(ps:List Tmp) (vs:List av) (us:List Value) (fs:List av) (t:Array Value),pF E vs us->fs.length=t.size->(∀i,VS E (fs.getD i .undef) (t.getD i undef))->
  ∀i,VS E ((oI (ps.zip vs) fs).getD i .undef) (((ps.zip us).foldl (λtmps (x:Tmp×Value)=>tmps.setIfInBounds x.1 x.2) t).getD i undef)
 |[],_,_,fs,t,_,_,h=>by simpa[oI]using h
 |_::_,[],[],fs,t,_,_,h=>by simpa[oI]using h
 |_::_,[],_::_,_,_,h,_,_=>h.elim
 |_::_,_::_,[],_,_,h,_,_=>h.elim
 |p::ps,v::vs,u::us,fs,t,⟨h1,h2⟩,hl,h=>by
  simp only[List.zip_cons_cons,oI,cU]
  refine tx ps vs us _ _ h2 (by simpa using hl) λi=> ?_
  simp only[ay,bY,List.getElem?_set,df,hl]
  have hi:=h i
  simp only[ay,bY]at hi
  split
  ·split
   ·simpa using h1
   ·simpa using VS.undef
  ·exact hi
theorem pF.split{E:Env}:∀(n:Nat) {as:List av} {us ts:List Value},us.length=n->pF E as (us++ts)->pF E (as.take n) us/\pF E (as.drop n) ts
 | 0,as,[],ts,_,h=>by simpa using⟨trivial,h⟩
 | 0,as,_::_,ts,hn,h=>by simp at hn
 |n+1,as,[],ts,hn,h=>by simp at hn
 |n+1,[],u::us,ts,_,h=>h.elim
 |n+1,a::as,u::us,ts,hn,⟨h1,h2⟩=>by
  have:=pF.split n (by simpa using hn) h2
  exact⟨⟨h1,this.1⟩,this.2⟩
theorem FX{w:World}{g:Nat->jm}{β:Id->Option Pl}{ps:Array Tmp}{args:List av}{bT:List de}{us ts:List Value}(hl:us.length=ps.size)(hv:pF ((eN bT).env w g β) args (us++ts))(ho:fT ((eN bT).env w g β)):
  Inv ⟨(eN bT).env w g β⟩ g β (zD ps.toList args bT) {tmps:=(ps.zip us.toArray).foldl (λtmps (t,a)=>tmps.setIfInBounds t a) ts.toArray,defers:=[]} w:=by
 obtain⟨h1,h2⟩:=pF.split ps.toList.length (by simpa using hl) hv
 have cj:(zD ps.toList args bT).bG=(eN bT).bG:=by
  funext id
  cases id with
  |dd k=>rfl
  |new i j=>
   simp only[zD,eN,AS.bG,ay,List.getElem?_replicate]
   split <;> simp
 have Fe:(zD ps.toList args bT).env w g β=(eN bT).env w g β:=by simp only[AS.env,cj]
 have e:(ps.zip us.toArray).foldl (λtmps (x:Tmp×Value)=>tmps.setIfInBounds x.1 x.2) ts.toArray=(ps.toList.zip us).foldl (λtmps (x:Tmp×Value)=>tmps.setIfInBounds x.1 x.2) ts.toArray:=by
  rw[<-Array.foldl_toList,Array.toList_zip]
 have e':(ps.zip us.toArray).foldl (λtmps (t,a)=>tmps.setIfInBounds t a) ts.toArray=(ps.toList.zip us).foldl (λtmps (x:Tmp×Value)=>tmps.setIfInBounds x.1 x.2) ts.toArray:=e
 rw[e']
 refine⟨⟨gQ,λ_ h=>by cases h⟩,?_,λi=> ?_,by rw[Fe];exact ho,Trans.refl _ _,by rw[Fe];exact b6.refl _⟩
 ·show Array.size _=(oI _ _).length
  rw[tw,sz]
  simpa using h2.len.symm
 ·rw[Fe]
  exact tx ps.toList _ us _ _ h1 (by simpa using h2.len) (λi=>by simpa[bY,ay]using h2.get i) i
theorem wP.qW(hm:P.follows .mixedOrders=true)(hΓ:Sound P Γ){y:Nat}{fn:Func}{en:Entry}{an:th}{N:Nat}(hL:mO P Γ an N (iv (rh P y).as++iv (rh P y).b))
  (h:∀args bT x,en.run args bT=some x->GY P Γ an N fn args bT some=some (en.out args bT x)) (J3:an.oG=some y):wP P y en:=by
 intro w g β args bT iE x hv ho hx l us ts f rd n Pm l8
 have hN:=h args bT x hx
 unfold GY at hN
 rw[J3]at hN
 simp only at hN
 unfold JI at hN
 split at hN
 rotate_left
 ·cases hN
 rename_i args
 split at hN
 ·cases hN
 rename_i hF
 subst Pm
 obtain⟨Nb,w6⟩:=hv
 have hC:(Ctx.mk ((eN bT).env w g β)).ok:=⟨λi j=>by simp[AS.env,eN,AS.bG],λk v fr c hk=>C2 hF hk⟩
 obtain⟨cs,hV,hO⟩:=Nb
 simp only[V]at hV
 obtain⟨l',rfl,Hj,ef⟩:=hV
 have hl:l'=l:=by simpa[eC,av.agg]using hO
 subst hl
 have at_l:∀ {s:AS} {g1:Nat->jm} {β1:Id->Option Pl} {a:Act} {w1:World} {pl:Pl},Inv ⟨(eN bT).env w g β⟩ g1 β1 s a w1->(s.env w1 g1 β1).cur (.dd 0) 0->β1 (.dd 0)=some pl->pl.b=l':=by
  intro s g1 β1 a w1 pl hi hc hp
  obtain⟨c1,c2⟩:=hi.le.cur _ _ Hj hc
  obtain⟨pl',hp',rfl⟩:=ef c1
  have c2:β1 (.dd 0)=β (.dd 0):=c2
  have hp':β (.dd 0)=some pl':=hp'
  rw[c2,hp']at hp
  exact(congrArg Pl.b (aP hp)).symm
 refine roundIn_of_wpIn (F:=Fr rd) trivial ?_
 have Fg:some l'=none\/an.oG.isSome=true:= .inr (by rw[J3];rfl)
 refine jA (rd:=some l') hm hΓ hC Fg _ hL.append.1 _ _ w _ _ ⟨g,β,FX l8 w6 ho⟩ hN λe s1 a1 w1 xA Gt=> ?_
 cases e with
 |normal=>
  simp only at Gt
  cases h1:s1.wE 0 1 with
  |none=>rw[h1]at Gt;cases Gt
  |some s2=>
   rw[h1]at Gt
   simp only[aA]at Gt
   obtain⟨g1,β1,LA⟩:=xA
   obtain⟨pl,r,hp,hc,hb,lQ,O7⟩:=vl LA h1
   have:=at_l LA hc hp
   subst this
   refine⟨_,run_beginRound hb lQ.1,?_⟩
   have QS:=O7 {r with state:= .busy} rfl rfl rfl rfl rfl
   refine jA (rd:=some pl.b) hm hΓ hC Fg _ hL.append.2 _ _ _ _ _ ⟨_,_,QS⟩ Gt λe s3 a3 w3 M8 Kx=> ?_
   cases Ly:Lp e with
   |none=>rw[Ly]at Kx;cases Kx
   |some p=>
    rw[Ly]at Kx
    simp only[aA]at Kx
    cases h4:s3.wE 1 p with
    |none=>rw[h4]at Kx;cases Kx
    |some s4=>
     rw[h4]at Kx
     simp only at Kx
     obtain⟨g3,β3,Sa⟩:=M8
     obtain⟨pl3,r3,Th,Lu,R4,Tp,hnext3⟩:=vl Sa h4
     have S8:=at_l Sa Lu Th
     rw[S8]at R4 hnext3
     have fin:∀(jump:Option Code) (b:Bool),Nat.beq p 0=jump.isNone->D3 p (if jump.isNone then .ready else .done) jump->
       ∃v w',(Instr.endRound pl.b jump).run P w3= .ok v w'/\∃v',Ending.returned v= .returned v'/\nR ((eN bT).env w g β) (en.out (.yl (.dd 0) 0::args) bT x) v' w':=λjump b hb hr=>by
      have S0:=hnext3 {r3 with state:=if jump.isNone then .ready else .done,pending:=jump} rfl rfl rfl rfl hr
      refine⟨_,_,run_endRound jump R4,_,rfl,?_⟩
      obtain⟨G,k1,k2⟩:=gm.1 Kx
      simp only[ao]at k2
      subst k2
      unfold Gk at k1
      obtain⟨sd,m1,k1⟩:=ak.1 k1
      obtain⟨s5,m2,k1⟩:=ak.1 k1
      obtain⟨s6,m3,k1⟩:=ak.1 k1
      obtain⟨s7,m4,k1⟩:=ak.1 k1
      obtain⟨g0,β0,Kw⟩:=oW _ ⟨_,_,S0⟩ m1
      obtain⟨g',β',hi⟩:=uv _ (jM hC _ ⟨g0,β0,Kw.drop _⟩ m2) m3
      have hi:=qH hC _ hi m4
      rw[<-al.1 k1,hb]
      exact AN hi hC (mP _)
     cases e with
     |normal=>
      obtain rfl:=aP Ly
      exact fin none true rfl ⟨rfl,rfl⟩
     |ret=>
      obtain rfl:=aP Ly
      exact fin (some .ret) false rfl ⟨rfl,rfl⟩
     |exit i=>
      obtain rfl:=aP Ly
      exact fin (some (.exit i)) false rfl ⟨rfl,rfl⟩
     |goto _=>cases Ly
     |panic _=>cases Ly
     |outgrown=>cases Ly
 |_=>cases Gt
end
end Go.Ab
namespace Go.Ab
def dP(k:IntKind)(n:Int):Int:=k.wrap n
def bN(k:IntKind)(x y:Int):Int:=k.wrap (x+y)
def dn(k:IntKind)(x y:Int):Int:=k.wrap (x - y)
def gz(k:IntKind)(x y:Int):Int:=k.wrap (x*y)
def qb(k:IntKind)(x y:Int):Int:=k.wrap (x.tdiv y)
def ov(x y:Int):Int:=x.tmod y
def mq(k:IntKind)(x y:Int):Int:=k.wrap (x*2^(min y.toNat k.bits))
def cg(k:IntKind)(x y:Int):Int:=x.fdiv (2^(min y.toNat k.bits))
def BX(x y:Int):Bool:=x==y
def uD(x y:Int):Bool:=x !=y
def iI(x y:Int):Bool:=decide (x < y)
def Ct(x y:Int):Bool:=decide (x<=y)
def ot(x y:Int):Bool:=decide (x > y)
def qP(x y:Int):Bool:=decide (x>=y)
def seq(x y:ByteArray):Bool:=x.toList==y.toList
def D8(a:ByteArray)(i:Int):Int:=((a.data.toList.getD i.toNat 0).toNat:Int)
def p9(x y:Int):Int:=if y < x then y else x
def imax(x y:Int):Int:=if x < y then y else x
def fa(i n:Int):Bool:=decide (0<=i/\i < n)
def inc(i n:Int):Bool:=decide (0<=i/\i<=n)
def mf(y:Int):Bool:=decide (0<=y)
def kY(y:Int):Bool:= !(decide (y=0))
open Classical in
def eE.of{D X:Type}(st:D->AS)(aY:D->Prop)(F:D->X)(out:X->Out (Exit×AS)):eE:=
 {X,run:=λs=>if h:∃d,st d=s/\aY d then some (F h.choose) else none,out}
open Classical in
theorem eE.qW{D X:Type}{st:D->AS}{aY:D->Prop}{F:D->X}{out:X->Out (Exit×AS)}(BS:∀d d',st d=st d'->d=d'){d:D}(h:aY d):(eE.of st aY F out).run (st d)=some (F d):=by
 have hex:∃d',st d'=st d/\aY d':=⟨d,rfl,h⟩
 show(if h:∃d',st d'=st d/\aY d' then some (F h.choose) else none)=_
 rw[dif_pos hex,BS _ _ hex.choose_spec.1]
open Classical in
def yd.of{X:Type}(an:jQ)(st:X->AS):yd:=
 {an,X,N6:=λe s=>if h:e= .normal/\∃x,st x=s then some h.2.choose else none,out:=λx=> .ok (.normal,st x),
  ok:=λe s x h=>by
   by_cases h1:e= .normal/\∃x,st x=s
   ·rw[dif_pos h1]at h
    have h2:=h1.2.choose_spec
    rw[aP h]at h2
    rw[h1.1,<-h2]
    rfl
   ·rw[dif_neg h1]at h;cases h}
open Classical in
theorem yd.Nr{X:Type}{an:jQ}{st:X->AS}(BS:∀d d',st d=st d'->d=d')(x:X):(yd.of an st).N6 .normal (st x)=some x:=by
 have hex:Exit.normal= .normal/\∃y,st y=st x:=⟨rfl,x,rfl⟩
 show(if h:Exit.normal= .normal/\∃y,st y=st x then some h.2.choose else none)=_
 rw[dif_pos hex,BS _ _ hex.2.choose_spec]
open Classical in
theorem Ie.of{P:Program}{Γ:nG}{an:th}{N:Nat}{fn:Func}{i:Nat}{D X:Type}{st:D->AS}{aY:D->Prop}{F:D->X}{out:X->Out (Exit×AS)}
  (hle:an.jP (dj (lu fn i))=some (eE.of st aY F out)) (h:∀d,aY d->∃n,DD P Γ an N fn i n (st d) (λe s=>some (e,s))=(out (F d)).eval):Ie P Γ an N (lu fn i):=by
 intro le hle'
 rw[hle]at hle'
 simp only[ao]at hle'
 subst hle'
 refine⟨λ_ s x hx=> ?_,λS hS=>by cases hS⟩
 change (if h:∃d',st d'=s/\aY d' then some (F h.choose) else none)=some x at hx
 split at hx
 ·rename_i hex
  obtain rfl:=aP hx
  obtain⟨h1,h2⟩:=hex.choose_spec
  obtain⟨n,hn⟩:=h _ h2
  refine⟨n,?_⟩
  show DD P Γ an N fn i n s _=_
  rw[h1]at hn
  exact hn
 ·cases hx
theorem A4(P:Program)(Γ:nG)(an:th)(N:Nat)(fn:Func)(i:Nat){R:Type}(n:Nat)(s:AS)(k:Exit->AS->Option R):
  DD P Γ an N fn i (n+1) s k=wu P Γ an N fn i s (λs1=>DD P Γ an N fn i n s1 k) k:=rfl
theorem GF{P:Program}{Γ:nG}{an:th}{N:Nat}{fn:Func}{i:Nat}{D X:Type}{st:D->AS}{aY:D->Prop}{F:D->X}{out:X->Out (Exit×AS)}(μ:D->Nat)
  (h:∀d,aY d->(∃d',aY d'/\μ d' < μ d/\F d'=F d/\∀ {R:Type} (kn:AS->Option R) (kx:Exit->AS->Option R),wu P Γ an N fn i (st d) kn kx=kn (st d'))\/
   (∃r,(out (F d)).eval=some r/\∀ {R:Type} (kn:AS->Option R) (kx:Exit->AS->Option R),wu P Γ an N fn i (st d) kn kx=kx r.1 r.2)):
  ∀d,aY d->∃n,DD P Γ an N fn i n (st d) (λe s=>some (e,s))=(out (F d)).eval:=by
 have key:∀m d,μ d=m->aY d->∃n,DD P Γ an N fn i n (st d) (λe s=>some (e,s))=(out (F d)).eval:=by
  intro m
  induction m using Nat.strongRecOn with
  |_ m ih=>
   intro d hm hp
   rcases h d hp with⟨d',hp',iC,hF,hr⟩ | ⟨r,hr,hx⟩
   ·obtain⟨n,hn⟩:=ih (μ d') (by omega) d' rfl hp'
    exact⟨n+1,by rw[A4,hr,hn,hF]⟩
   ·exact⟨1,by rw[A4,hx,hr]⟩
 exact λd hp=>key _ d rfl hp
open Classical in
theorem Jn{P:Program}{Γ:nG}{an:th}{N:Nat}{fn:Func}{i:Nat}{D X:Type}{st:D->AS}{aY:D->Prop}{F:D->X}{ex:X->Exit×AS}(μ:D->Nat)
  (h:∀d,aY d->(∃d',aY d'/\μ d' < μ d/\F d'=F d/\∀ {R:Type} (kn:AS->Option R) (kx:Exit->AS->Option R),wu P Γ an N fn i (st d) kn kx=kn (st d'))\/
   (∀ {R:Type} (kn:AS->Option R) (kx:Exit->AS->Option R),wu P Γ an N fn i (st d) kn kx=kx (ex (F d)).1 (ex (F d)).2)):
  ∀d,aY d->∃n,DD P Γ an N fn i n (st d) (λe s=>some (e,s))=(Out.ok (ex (F d))).eval:=
 GF (out:=λx=> .ok (ex x)) μ λd hp=>(h d hp).imp id λh=>⟨_,rfl,h⟩
open Classical in
def Entry.of{D X:Type}(params:List (Option Ty))(st:D->List av×List de)(aY:D->Prop)(F:D->X)(out:X->iO):Entry:=
 {params,X,run:=λargs bT=>if h:∃d,st d=(args,bT)/\aY d then some (F h.choose) else none,out:=λ_ _=>out}
open Classical in
theorem Entry.qW{D X:Type}{params:List (Option Ty)}{st:D->List av×List de}{aY:D->Prop}{F:D->X}{out:X->iO}(BS:∀d d',st d=st d'->d=d'){d:D}(h:aY d):
  (Entry.of params st aY F out).run (st d).1 (st d).2=some (F d):=by
 have hex:∃d',st d'=((st d).1,(st d).2)/\aY d':=⟨d,rfl,h⟩
 show(if h:∃d',st d'=((st d).1,(st d).2)/\aY d' then some (F h.choose) else none)=_
 rw[dif_pos hex,BS _ _ hex.choose_spec.1]
open Classical in
theorem GJ{D X:Type}{params:List (Option Ty)}{st:D->List av×List de}{aY:D->Prop}{F:D->X}{out:X->iO}{args:List av}{bT:List de}{x:X}(hx:(Entry.of params st aY F out).run args bT=some x):∃d,st d=(args,bT)/\aY d/\x=F d:=by
 change (if h:∃d',st d'=(args,bT)/\aY d' then some (F h.choose) else none)=some x at hx
 split at hx
 ·rename_i hex
  obtain rfl:=aP hx
  exact⟨_,hex.choose_spec.1,hex.choose_spec.2,rfl⟩
 ·cases hx
theorem ky.of{P:Program}{Γ:nG}(hm:P.follows .mixedOrders=true)(hΓ:Sound P Γ){f:FuncId}{fn:Func}(hf:P.funcs[f]? =some fn)(hb:fn.body.isSome=true)(rZ:(fn.name== "runtime.NumGoroutine")=false){an:th}{N:Nat}
  (hL:∀c,fn.body=some c->mO P Γ an N (iv c)) {D X:Type} {params:List (Option Ty)} {st:D->List av×List de} {aY:D->Prop} {F:D->X} {out:X->iO}
  (h:∀d,aY d->GY P Γ an N fn (st d).1 (st d).2 some=some (out (F d))) (J3:an.oG=none:=by exact rfl):ky P f (Entry.of params st aY F out):=by
 refine ky.qW hm hΓ hf hb rZ hL (λargs bT x hx=> ?_) J3
 obtain⟨d,e1,e2,rfl⟩:=GJ hx
 have:=h d e2
 rw[e1]at this
 exact this
def J0(P:Program)(Γ:nG)(an:th)(N:Nat)(fn:Func):Nat->Nat->Prop
 | 0,_=>True
 |n+1,i=>Ie P Γ an N (lu fn i)/\J0 P Γ an N fn n (i+1)
theorem J0.get{P:Program}{Γ:nG}{an:th}{N:Nat}{fn:Func}:∀ {n i:Nat},J0 P Γ an N fn n i->∀j,j < n->Ie P Γ an N (lu fn (i+j))
 | 0,_,_,j,hj=>by omega
 |n+1,i,h,0,_=>h.1
 |n+1,i,h,j+1,hj=>by
  have:=J0.get h.2 j (by omega)
  rwa[show i+1+j=i+(j+1) by omega]at this
theorem mO.Jv{P:Program}{Γ:nG}{an:th}{N:Nat}:∀(l:List Code),(∀j,j < l.length->Ie P Γ an N (l.getD j .skip))->mO P Γ an N l
 |[],_=>trivial
 |b::l,h=>⟨h 0 (by simp),mO.Jv l λj hj=>by have:=h (j+1) (by simpa using hj);simpa using this⟩
theorem mO.fn{P:Program}{Γ:nG}{an:th}{N:Nat}{fn:Func}(n:Nat)(hn:(match fn.body with | some c=>(iv c).length | none=>0)=n)(h:J0 P Γ an N fn n 0):∀c,fn.body=some c->mO P Γ an N (iv c):=by
 intro c hc
 refine mO.Jv _ λj hj=> ?_
 rw[hc]at hn
 simp only at hn
 have:=h.get j (by omega)
 unfold lu at this
 rw[hc]at this
 simpa using this
theorem Ie.none{P:Program}{Γ:nG}{an:th}{N:Nat}{fn:Func}{i:Nat}(h:an.jP (dj (lu fn i))=none):Ie P Γ an N (lu fn i):=λle hle=>by
 rw[h]at hle;cases hle
def Oz:nG:=λ_ _=>none
theorem Sound.nil(P:Program):Sound P Oz:=λ_ _ _ h=>by cases h
def IU(f:FuncId)(p:List av->Bool)(en:Entry)(Γ:nG):nG:=λg vs=>match Nat.beq g f with | true=>(match p vs with | true=>some en | false=>Γ g vs) | false=>Γ g vs
theorem Sound.cons{P:Program}{f:FuncId}{p:List av->Bool}{en:Entry}{Γ:nG}(h:nS P f en)(hΓ:Sound P Γ):Sound P (IU f p en Γ):=λg vs e hg=>by
 unfold IU at hg
 split at hg
 ·rename_i he
  have:g=f:=dO he
  split at hg
  ·simp only[ao]at hg
   subst hg this
   exact h
  ·exact hΓ g vs e hg
 ·exact hΓ g vs e hg
theorem Lo{t:Ty}{x y:t.den}(h:av.d t x=av.d t y):x=y:=by
 injection h with _ h
theorem Lb{e:TypeId}{t:Ty}{x y:List t.den}(h:av.vec e t x=av.vec e t y):x=y:=by
 injection h with _ _ h
def xJ:List av->Bool:=λ_=>true
def HG:List av->Bool | .db::_=>true | _=>false
def Bn:List av->Bool | .cD .. ::_=>true | _=>false
@[simp] theorem aj{α:Type}(x y:Option α):aK true x y=x:=rfl
@[simp] theorem au{α:Type}(x y:Option α):aK false x y=y:=rfl
@[simp] theorem ah{α β:Type}(x:α)(f:α->Option β):aA (some x) f=f x:=rfl
@[simp] theorem HV{α:Type}(c:mA)(x:Option α):same c c x=x:=by simp[same]
@[simp] theorem sS{α:Type}(x:Option α):nd x x=x:=by simp[nd]
structure SG(P:Program) where
 f:FuncId
 p:List av->Bool
 e:Entry
 h:nS P f e
def mR{P:Program}:List (SG P)->nG
 |[]=>Oz
 |a::l=>IU a.f a.p a.e (mR l)
theorem Sound.mR{P:Program}:∀l:List (SG P),Sound P (mR l)
 |[]=>Sound.nil P
 |a::l=>Sound.cons a.h (Sound.mR l)
abbrev SA:=List av×List de
def J8(P:Program)(G:nG)(an:th)(N:Nat)(fn:Func){D:Type}(st:D->SA){R:Type}(d:D)(k:iO->Option R):Option R:=GY P G an N fn (st d).1 (st d).2 k
def iA(P:Program)(G:nG)(an:th)(N:Nat)(fn:Func)(i:Nat){D:Type}(st:D->AS){R:Type}(d:D)(kn:AS->Option R)(kx:Exit->AS->Option R):Option R:=wu P G an N fn i (st d) kn kx
abbrev Oh{D X Y:Type}(A: {R:Type}->D->(iO->Option R)->Option R)(aY:D->Prop)(add:D->Y->X)(F:D->Y)(out:X->iO):Prop:=
 ∀d,aY d->A d some=some (out (add d (F d)))
abbrev pE(P:Program)(G:nG)(an:th)(N:Nat)(fn:Func)(i:Nat){D X Y:Type}(st:D->AS)(aY:D->Prop)(add:D->Y->X)(F:D->Y)(out:X->Out (Exit×AS)):Prop:=
 ∀d,aY d->∃n,DD P G an N fn i n (st d) (λe s=>some (e,s))=(out (add d (F d))).eval
abbrev Qh{D X Y:Type}(R: {R:Type}->D->(AS->Option R)->(Exit->AS->Option R)->Option R)(st:D->AS)(aY:D->Prop)(add:D->Y->X)(F:D->Y)(ex:X->Exit×AS)(C:Prop):Prop:=
 ∀μ:D->Nat,(∀d,aY d->(∃d',aY d'/\μ d' < μ d/\add d' (F d')=add d (F d)/\∀ {T:Type} (kn:AS->Option T) (kx:Exit->AS->Option T),R d kn kx=kn (st d'))\/
  (∀ {T:Type} (kn:AS->Option T) (kx:Exit->AS->Option T),R d kn kx=kx (ex (add d (F d))).1 (ex (add d (F d))).2))->C
abbrev qk{D X Y:Type}(R: {R:Type}->D->(AS->Option R)->(Exit->AS->Option R)->Option R)(st:D->AS)(aY:D->Prop)(add:D->Y->X)(F:D->Y)(out:X->Out (Exit×AS))(C:Prop):Prop:=
 ∀μ:D->Nat,(∀d,aY d->(∃d',aY d'/\μ d' < μ d/\add d' (F d')=add d (F d)/\∀ {T:Type} (kn:AS->Option T) (kx:Exit->AS->Option T),R d kn kx=kn (st d'))\/
  (∃r,(out (add d (F d))).eval=some r/\∀ {T:Type} (kn:AS->Option T) (kx:Exit->AS->Option T),R d kn kx=kx r.1 r.2))->C
theorem qI{P:Program}{G:nG}{an:th}{N:Nat}{fn:Func}{i:Nat}{D X Y:Type}{st:D->AS}{aY:D->Prop}{add:D->Y->X}{F:D->Y}{out:X->Out (Exit×AS)}:
  qk (iA P G an N fn i st) st aY add F out (pE P G an N fn i st aY add F out):=λ μ h=>GF (F:=λd=>add d (F d)) (out:=out) μ h
def rH:List (Nat×jQ)->Nat->jQ
 |[],_=> {}
 |a::l,r=>bif Nat.beq r a.1 then a.2 else rH l r
def rG:List (Nat×jQ×jQ)->Nat->Bool->jQ
 |[],_,_=> {}
 |a::l,r,b=>bif Nat.beq r a.1 then(bif b then a.2.2 else a.2.1) else rG l r b
def sh.{v} {α:Type v}:List (Nat×α)->Nat->Option α
 |[],_=>none
 |a::l,r=>bif Nat.beq r a.1 then some a.2 else sh l r
inductive Lf where
 |d (t:Ty)
 |n
@[reducible] def Lf.den:Lf->Type
 | .d t=>t.den
 | .n=>Nat
@[reducible] def Lf.H8:List Lf->Type
 |[]=>Unit
 |[a]=>a.den
 |a::b::l=>a.den×Lf.H8 (b::l)
abbrev Ol:=List (Sigma Lf.den)
def Lf.mk:(ts:List Lf)->Lf.H8 ts->Ol
 |[],_=> []
 |[a],x=> [⟨a,x⟩]
 |a::b::l,x=>⟨a,x.1⟩::Lf.mk (b::l) x.2
theorem Lf.mk_inj:∀(ts:List Lf) (x y:Lf.H8 ts),Lf.mk ts x=Lf.mk ts y->x=y
 |[],_,_,_=>rfl
 |[a],x,y,h=>by
  injection h with h _
  injection h
 |a::b::l,(x,u),(y,v),h=>by
  injection h with h h2
  injection h with _ h
  have h:x=y:=h
  rw[h,Lf.mk_inj (b::l) u v h2]
def av.leaves:av->Ol
 | .d .unit _=> []
 | .d (.arr _ t) l=> [⟨.d (.slice t),l⟩]
 | .d t x=> [⟨.d t,x⟩]
 | .eO t x=> [⟨.d t,x⟩]
 | .vec _ t l=> [⟨.d (.slice t),l⟩]
 | .mp k v l=> [⟨.d (.slice (.pair k v)),l⟩]
 | .lR _ _ k v l _=> [⟨.d (.slice (.pair k v)),l⟩]
 | .nH _ f _=>f.leaves
 | .cD _ _ _ _ _ n=> [⟨.n,n⟩]
 | .pr a b=>a.leaves++b.leaves
 | .cons a b=>a.leaves++b.leaves
 | .fn _ c=>c.leaves
 | .bx _ _ c=>c.leaves
 |_=> []
def de.leaves:de->Ol
 | .obj _ _ c=>c.leaves
 | .dead=> []
def SA.leaves(s:SA):Ol:=s.1.flatMap av.leaves++s.2.flatMap de.leaves
def AS.leaves(s:AS):Ol:=s.bR.flatMap av.leaves++(s.bT.flatMap de.leaves++s.news.flatMap (·.flatMap de.leaves))
theorem RD(ts:List Lf){st:Lf.H8 ts->SA}(h:∀d,SA.leaves (st d)=Lf.mk ts d)(d d':Lf.H8 ts)(e:st d=st d'):d=d':=Lf.mk_inj ts d d' (by rw[<-h,<-h,e])
theorem qa(ts:List Lf){st:Lf.H8 ts->AS}(h:∀d,AS.leaves (st d)=Lf.mk ts d)(d d':Lf.H8 ts)(e:st d=st d'):d=d':=Lf.mk_inj ts d d' (by rw[<-h,<-h,e])
def Entry.js{D X Y:Type}(params:List (Option Ty))(st:D->SA)(aY:D->Prop)(add:D->Y->X)(F:D->Y)(out:X->iO):Entry:=Entry.of params st aY (λd=>add d (F d)) out
def eE.js{D X Y:Type}(st:D->AS)(aY:D->Prop)(add:D->Y->X)(F:D->Y)(out:X->Out (Exit×AS)):eE:=eE.of st aY (λd=>add d (F d)) out
def Ln{D:Type}(E:Entry)(st:D->SA):D->Option E.X:=λd=>E.run (st d).1 (st d).2
def kJ{D:Type}(E:eE)(st:D->AS):D->Option E.X:=λd=>E.run (st d)
abbrev nI{D X Y:Type}(call:D->Option X)(aY:D->Prop)(add:D->Y->X)(F:D->Y):Prop:=∀ {d:D},aY d->call d=some (add d (F d))
theorem RP{D X Y:Type}{params:List (Option Ty)}{st:D->SA}{aY:D->Prop}{add:D->Y->X}{F:D->Y}{out:X->iO}(BS:∀d d',st d=st d'->d=d'):
  nI (Ln (Entry.js params st aY add F out) st) aY add F:=λh=>Entry.qW BS h
theorem qz{D X Y:Type}{st:D->AS}{aY:D->Prop}{add:D->Y->X}{F:D->Y}{out:X->Out (Exit×AS)}(BS:∀d d',st d=st d'->d=d'):
  nI (kJ (eE.js st aY add F out) st) aY add F:=λh=>eE.qW BS h
def Kn(P:Program)(fn:Func):Bool:=P.follows .mixedOrders && fn.body.isSome && !(fn.name== "runtime.NumGoroutine")
def IT(fn:Func):Nat:=match fn.body with | some c=>(iv c).length | none=>0
theorem ky.fn{P:Program}{l:List (SG P)}{f:FuncId}{fn:Func}{an:th}{N:Nat}{D X Y:Type}{params:List (Option Ty)}{st:D->SA}{aY:D->Prop}{add:D->Y->X}{F:D->Y}{out:X->iO}(n:Nat)
  (hc:(P.funcs[f]?,Kn P fn,IT fn)=(some fn,true,n))
  (h:Oh (@J8 P (mR l) an N fn D st) aY add F out)
  (hL:J0 P (mR l) an N fn n 0) (J3:an.oG=none:=by exact rfl):ky P f (Entry.js params st aY add F out):=by
 injection hc with h1 h2
 injection h2 with h2 h3
 unfold Kn at h2
 simp only[ag,bp]at h2
 exact ky.of h2.1.1 (Sound.mR l) h1 h2.1.2 h2.2 (mO.fn n h3 hL) h J3
theorem wP.fn{P:Program}{l:List (SG P)}{y:Nat}{an:th}{N:Nat}{D X Y:Type}{params:List (Option Ty)}{st:D->SA}{aY:D->Prop}{add:D->Y->X}{F:D->Y}{out:X->iO}(n:Nat)
  (hc:(P.follows .mixedOrders,IT (Mb P y))=(true,n))
  (h:Oh (@J8 P (mR l) an N (Mb P y) D st) aY add F out)
  (hL:J0 P (mR l) an N (Mb P y) n 0) (J3:an.oG=some y):wP P y (Entry.js params st aY add F out):=by
 injection hc with h1 h2
 refine wP.qW h1 (Sound.mR l) (fn:=Mb P y) (mO.fn (fn:=Mb P y) n h2 hL _ rfl) (λargs bT x hx=> ?_) J3
 obtain⟨d,e1,e2,rfl⟩:=GJ hx
 have:=h d e2
 unfold J8 at this
 rw[e1]at this
 exact this
theorem Ie.js{P:Program}{Γ:nG}{an:th}{N:Nat}{fn:Func}{i:Nat}{D X Y:Type}{st:D->AS}{aY:D->Prop}{add:D->Y->X}{F:D->Y}{out:X->Out (Exit×AS)}
  (h:pE P Γ an N fn i st aY add F out) (hle:an.jP (dj (lu fn i))=some (eE.js st aY add F out):=by kernel_rfl):Ie P Γ an N (lu fn i):=Ie.of hle h
abbrev K1(R:Type):=iO->Option R
abbrev K2(R:Type):=AS->Option R
abbrev K3(R:Type):=Exit->AS->Option R
@[reducible] def bU{D Y:Type}(_:D)(y:Y):Y:=y
structure Ls{D Y X:Type}(aY:D->Prop)(add:D->Y->X)(F:D->Y) where
 st:D->AS
 ex:X->Exit×AS
noncomputable def tq{D Y X:Type}{aY:D->Prop}{add:D->Y->X}{F:D->Y}(st:D->AS)(ex:X->Exit×AS):Ls aY add F:=⟨st,ex⟩
section
variable {D Y X:Type} {aY:D->Prop} {add:D->Y->X} {F:D->Y} (L:Ls aY add F)
def Ls.out:X->Out (Exit×AS):=λx=> .ok (L.ex x)
def Ls.E:eE:=eE.js L.st aY add F L.out
def Ls.call:D->Option X:=kJ L.E L.st
abbrev Ls.go{R:Type}(kx:K3 R)(x:X):Option R:=kx (L.ex x).1 (L.ex x).2
abbrev Ls.RS:Prop:=nI L.call aY add F
end
theorem rL(ts:List Lf){Y X:Type}{aY:Lf.H8 ts->Prop}{add:Lf.H8 ts->Y->X}{F:Lf.H8 ts->Y}(L:Ls aY add F)(h:∀d,AS.leaves (L.st d)=Lf.mk ts d:=by exact λ_=>by kernel_rfl):nI L.call aY add F:=qz (qa ts h)
structure Fs(P:Program){D Y X:Type}(aY:D->Prop)(add:D->Y->X)(F:D->Y) where
 i:FuncId
 fn:Func
 st:D->SA
 out:X->iO
 ps:List (Option Ty)
 G:List (SG P)
 an:th
 N:Nat
noncomputable def gh{P:Program}{D Y X:Type}{aY:D->Prop}{add:D->Y->X}{F:D->Y}(i:FuncId)(fn:Func)(st:D->SA)(out:X->iO)(ps:List (Option Ty))(G:List (SG P):=[])(an:th:= {})(N:Nat:=0):Fs P aY add F:=⟨i,fn,st,out,ps,G,an,N⟩
section
variable {P:Program} {D Y X:Type} {aY:D->Prop} {add:D->Y->X} {F:D->Y} (f:Fs P aY add F) {D' Y' X':Type} {Pre':D'->Prop} {add':D'->Y'->X'} {F':D'->Y'}
def Fs.A{R:Type}(d:D)(k:K1 R):Option R:=J8 P (mR f.G) f.an f.N f.fn f.st d k
def Fs.R(i:Nat)(L:Ls Pre' add' F'){R:Type}(d:D')(kn:K2 R)(kx:K3 R):Option R:=iA P (mR f.G) f.an f.N f.fn i L.st d kn kx
abbrev Fs.Ok:Prop:=∀d,aY d->f.A d some=some (f.out (add d (F d)))
abbrev Fs.mO(i:Nat)(L:Ls Pre' add' F'):Prop:=pE P (mR f.G) f.an f.N f.fn i L.st Pre' add' F' L.out
def Fs.E:Entry:=Entry.js f.ps f.st aY add F f.out
def Fs.call:D->Option X:=Ln f.E f.st
theorem Fs.oG(i:Nat)(L:Ls Pre' add' F'):Qh (@Fs.R P D Y X aY add F f D' Y' X' Pre' add' F' i L) L.st Pre' add' F' L.ex (f.mO i L):=λ μ h=>Jn (F:=λd=>add' d (F' d)) μ h
abbrev Fs.RS:Prop:=nI f.call aY add F
def Fs.Qb(p:List av->Bool)(ok:f.Ok)(n:Nat:=0)(hL:J0 P (mR f.G) f.an f.N f.fn n 0:=by exact trivial)(hc:(P.funcs[f.i]?,Kn P f.fn,IT f.fn)=(some f.fn,true,n):=by kernel_rfl)(hy:Nat.blt f.i yB=true:=by exact rfl)(hn:f.an.oG=none:=by exact rfl):SG P:=⟨f.i,p,f.E,.of (ky.fn n hc ok hL hn) hy⟩
def Fs.TE(ok:f.Ok)(n:Nat:=0)(hL:J0 P (mR f.G) f.an f.N f.fn n 0:=by exact trivial)(hc:(P.follows .mixedOrders,IT (Mb P f.i))=(true,n):=by kernel_rfl)(hf:f.fn=Mb P f.i:=by exact rfl)(hy:Nat.ble yB f.i=true:=by exact rfl)(hn:f.an.oG=some f.i:=by exact rfl):SG P:=
 ⟨f.i,xJ,f.E,.TA (wP.fn n hc (by have:=ok;unfold Fs.Ok Fs.A at this;rw[hf]at this;exact this) (by rw[<-hf];exact hL) hn) hy⟩
def Fs.gC(ok:f.Ok)(n:Nat:=0)(hL:J0 P (mR f.G) f.an f.N f.fn n 0:=by exact trivial)(hc:(P.funcs[f.i]?,Kn P f.fn,IT f.fn)=(some f.fn,true,n):=by kernel_rfl)(hy:Nat.blt f.i yB=true:=by exact rfl)(hn:f.an.oG=none:=by exact rfl):SG P:=f.Qb xJ ok n hL hc hy hn
end
theorem rE(ts:List Lf){P:Program}{Y X:Type}{aY:Lf.H8 ts->Prop}{add:Lf.H8 ts->Y->X}{F:Lf.H8 ts->Y}(f:Fs P aY add F)(h:∀d,SA.leaves (f.st d)=Lf.mk ts d:=by exact λ_=>by kernel_rfl):nI f.call aY add F:=RP (RD ts h)
abbrev tu:Ty:=(.int .u64)
abbrev ti:Ty:=(.int .i64)
abbrev tb:Ty:=(.int .u8)
abbrev tB:Ty:=(.slice tb)
abbrev Bs:=(List Int)
abbrev tH:Ty:=(.arr 32 tb)
abbrev tU:Ty:=(.slice tu)
abbrev fA:Ty:=(.pair tH (.pair ti .unit))
abbrev iK:=(Bs×(Int×Unit))
abbrev Io:Ty:=(.pair tu (.pair tu .unit))
abbrev Sg:=(Int×(Int×Unit))
abbrev PH:Ty:=(.pair ti (.pair (.slice Io) (.pair tu .unit)))
abbrev EJ:=(Int×((List Sg)×(Int×Unit)))
abbrev ka:Ty:=(.pair fA (.pair PH .unit))
abbrev jd:=(iK×(EJ×Unit))
abbrev pR:Ty:=(.pair tU (.pair ti (.pair ti (.pair tu .unit))))
abbrev uB:=(Bs×(Int×(Int×(Int×Unit))))
abbrev xI:Ty:=(.pair (.slice pR) .unit)
abbrev Lk:=((List uB)×Unit)
abbrev mu:Ty:=(.pair ti (.pair xI .unit))
abbrev mw:=(Int×(Lk×Unit))
abbrev oO:Ty:=(.pair (.slice ka) (.pair (.slice mu) (.pair ti .unit)))
abbrev jI:=((List jd)×((List mw)×(Int×Unit)))
abbrev NN:=(Bs×(Bool×Unit))
end Go.Ab
namespace Go.Ab
theorem o8{n:Int}(h1: -9223372036854775808<=n)(h2:n<=9223372036854775807):IntKind.i64.wrap n=n:=by
 simp[IntKind.wrap,IntKind.bits,IntKind.signed]
 split <;> omega
theorem eH{x y:Int}(h1: -9223372036854775808<=x+y)(h2:x+y<=9223372036854775807):bN .i64 x y=x+y:=o8 h1 h2
theorem dS{x y:Int}(h1: -9223372036854775808<=x - y)(h2:x - y<=9223372036854775807):dn .i64 x y=x - y:=o8 h1 h2
theorem o9{x y:Int}(h1: -9223372036854775808<=x*y)(h2:x*y<=9223372036854775807):gz .i64 x y=x*y:=o8 h1 h2
theorem Gw{x:Int}(h1: -9223372036854775808<=x)(h2:x<=9223372036854775807):dP .i64 x=x:=o8 h1 h2
def vw{n:Nat}(w:BitVec n):Int:=(w.toNat:Int)
theorem jH(n:Nat)(x:Int):vw (BitVec.ofInt n x)=x%((2^n:Nat):Int):=by
 unfold vw
 rw[lb]
 have:0<=x%((2^n:Nat):Int):=ij _ (by have:=Nat.two_pow_pos n;omega)
 omega
theorem Bu{n:Nat}(w:BitVec n):0<=vw w:=Int.natCast_nonneg _
theorem Ma{n:Nat}(w:BitVec n):vw w < ((2^n:Nat):Int):=by have:=w.isLt;unfold vw;omega
theorem nq{n:Nat}(w:BitVec n):BitVec.ofInt n (vw w)=w:=by
 apply BitVec.eq_of_toNat_eq
 have:=jH n (vw w)
 unfold vw at this ⊢
 have h:=w.isLt
 rw[Int.emod_eq_of_lt (Int.natCast_nonneg _) (by omega)]at this
 omega
theorem wrap_u32(x:Int):IntKind.u32.wrap x=vw (BitVec.ofInt 32 x):=by rw[jH];simp[IntKind.wrap,IntKind.bits,IntKind.signed]
theorem wrap_u64(x:Int):IntKind.u64.wrap x=vw (BitVec.ofInt 64 x):=by rw[jH];simp[IntKind.wrap,IntKind.bits,IntKind.signed]
theorem wrap_u8(x:Int):IntKind.u8.wrap x=vw (BitVec.ofInt 8 x):=by rw[jH];simp[IntKind.wrap,IntKind.bits,IntKind.signed]
theorem ofInt_add(n:Nat)(x y:Int):BitVec.ofInt n (x+y)=BitVec.ofInt n x+BitVec.ofInt n y:=BitVec.ofInt_add ..
theorem yN(x y:BitVec 32):bN .u32 (vw x) (vw y)=vw (x+y):=by rw[bN,wrap_u32,BitVec.ofInt_add,nq,nq]
theorem KC(x:Int):dP .u32 x=vw (BitVec.ofInt 32 x):=wrap_u32 x
theorem KD(x:Int):dP .u64 x=vw (BitVec.ofInt 64 x):=wrap_u64 x
theorem BW(x:Int):dP .u8 x=vw (BitVec.ofInt 8 x):=wrap_u8 x
theorem Js{n:Nat}(x:BitVec n):BitVec.ofInt n ((x.toNat:Nat):Int)=x:=nq x
theorem sJ(op:BinOp)(x y:BitVec 32):du op .u32 (vw x) (vw y)=vw (match op with | .and=>x &&& y | .or=>x ||| y | .xor=>x^^^y | _=>x &&& ~~~y):=by
 unfold du
 split <;> (simp only[IntKind.bits,nq,wrap_u32,Js];rfl)
theorem G0(op:BinOp)(x y:BitVec 64):du op .u64 (vw x) (vw y)=vw (match op with | .and=>x &&& y | .or=>x ||| y | .xor=>x^^^y | _=>x &&& ~~~y):=by
 unfold du
 split <;> (simp only[IntKind.bits,nq,wrap_u64,Js];rfl)
theorem IP(x y:Nat):Int.fdiv (x:Int) (y:Int)=((x / y:Nat):Int):=by
 rw[Int.fdiv_eq_ediv_of_nonneg _ (Int.natCast_nonneg _)]
 rfl
theorem vK(k:Nat):(2:Int)^k=((2^k:Nat):Int):=by simp
theorem Nw{n:Nat}(w:BitVec n)(k:Nat):Int.fdiv (vw w) (2^(min k n))=vw (w >>> k):=by
 rw[vK]
 unfold vw
 rw[IP,BitVec.toNat_ushiftRight,Nat.shiftRight_eq_div_pow]
 congr 1
 rcases Nat.le_total k n with hk | hk
 ·rw[ei hk]
 ·rw[Nat.min_eq_right hk,Nat.div_eq_of_lt w.isLt,Nat.div_eq_of_lt]
  exact lh w.isLt (Nat.pow_le_pow_right (by omega) hk)
theorem yT(w:BitVec 32)(k:Int):cg .u32 (vw w) k=vw (w >>> k.toNat):=Nw w k.toNat
theorem Nv{n:Nat}(w:BitVec n)(k:Nat):BitVec.ofInt n (vw w*2^(min k n))=w <<< k:=by
 apply BitVec.eq_of_toNat_eq
 rw[lb,BitVec.toNat_shiftLeft,Nat.shiftLeft_eq]
 unfold vw
 rw[vK]
 have e:((w.toNat:Int)*((2^min k n:Nat):Int))=((w.toNat*2^min k n:Nat):Int):=by simp
 rw[e]
 have:(((w.toNat*2^min k n:Nat):Int)%((2^n:Nat):Int)).toNat=(w.toNat*2^min k n)%2^n:=by omega
 rw[this]
 rcases Nat.le_total k n with hk | hk
 ·rw[ei hk]
 ·rw[Nat.min_eq_right hk,Nat.mul_mod_left]
  obtain⟨m,rfl⟩:=Nat.exists_eq_add_of_le hk
  rw[Nat.pow_add,<-Nat.mul_assoc,Nat.mul_right_comm,Nat.mul_mod_left]
theorem Dv(w:BitVec 32)(k:Int):mq .u32 (vw w) k=vw (w <<< k.toNat):=by rw[mq,wrap_u32];congr 1;exact Nv w k.toNat
theorem bJ{i n:Int}(h1:0<=i)(h2:i < n):fa i n=true:=by simp[fa,h1,h2]
theorem gV{i n:Int}(h1:0<=i)(h2:i<=n):inc i n=true:=by simp[inc,h1,h2]
theorem bA{x y:Int}(h:x < y):iI x y=true:=by simp[iI,h]
theorem bl{x y:Int}(h:¬x < y):iI x y=false:=by simp[iI];omega
theorem kO{x y:Int}(h:x<=y):Ct x y=true:=by simp[Ct,h]
theorem iW{x y:Int}(h:¬x<=y):Ct x y=false:=by simp[Ct];omega
theorem dv{x y:Int}(h:x > y):ot x y=true:=by simp[ot];omega
theorem cZ{x y:Int}(h:¬x > y):ot x y=false:=by simp[ot];omega
theorem fW{x y:Int}(h:x>=y):qP x y=true:=by simp[qP];omega
theorem eu{x y:Int}(h:¬x>=y):qP x y=false:=by simp[qP];omega
theorem j6{x y:Int}(h:x=y):BX x y=true:=by simp[BX,h]
theorem iV{x y:Int}(h:¬x=y):BX x y=false:=by simp[BX,h]
theorem iX{x y:Int}(h:¬x=y):uD x y=true:=by simp[uD,h]
theorem eX{x y:Int}(h:x=y):uD x y=false:=by simp[uD,h]
theorem pO{x:Int}(h:0<=x):mf x=true:=by simp[mf,h]
theorem aX{p:Prop} [Decidable p] (h:p):decide p=true:=by simp[h]
theorem cn{p:Prop} [Decidable p] (h:¬p):decide p=false:=by simp[h]
theorem fL{n b:Nat}(h:n*b<=140737488355328)(h2:n<=9223372036854775807):dT n b=true:=by simp[dT,h,h2]
def from_{α:Type}(f:Nat->α->α)(t:Nat)(l:List α):List α:=l.mapIdx λi x=>if i < t then x else f i x
theorem AQ{α:Type}(f:Nat->α->α)(l:List α)(t:Nat)(h:t < l.length):from_ f (t+1) (l.set t (f t l[t]))=from_ f t l:=by
 unfold from_
 apply List.ext_getElem (by simp)
 intro i h1 h2
 simp only[List.getElem_mapIdx,List.getElem_set]
 by_cases hi:t=i
 ·subst hi;simp
 ·simp only[if_neg hi]
  by_cases h3:i < t
  ·rw[if_pos (by omega),if_pos h3]
  ·rw[if_neg (by omega),if_neg h3]
theorem C9{α:Type}(f:Nat->α->α)(l:List α)(t:Nat)(h:l.length<=t):from_ f t l=l:=by
 unfold from_
 apply List.ext_getElem (by simp)
 intro i h1 h2
 simp only[List.getElem_mapIdx]
 rw[if_pos (by omega)]
theorem yz{α:Type}(f:Nat->α->α)(n:Nat)(x:α):from_ f 0 (List.replicate n x)=(List.range n).map λi=>f i x:=by
 unfold from_
 apply List.ext_getElem (by simp)
 intro i h1 h2
 simp
theorem dM{t:Ty}{l:List t.den}{i:Nat}(h:i < l.length):nth t l i=l[i]:=by simp[nth,h]
end Go.Ab
namespace Go.Ab.N
section
variable {α:Type} {x y:Option α} {a b n:Nat} {i j:Int}
theorem lt:aK (iI i j) x y=if i < j then x else y:=by unfold iI;split <;> rename_i h <;> simp[h]
theorem le:aK (Ct i j) x y=if i<=j then x else y:=by unfold Ct;split <;> rename_i h <;> simp[h]
theorem gt:aK (ot i j) x y=if j < i then x else y:=by unfold ot;split <;> rename_i h <;> simp[h]
theorem ge:aK (qP i j) x y=if j<=i then x else y:=by unfold qP;split <;> rename_i h <;> simp[h]
theorem eq:aK (BX i j) x y=if i=j then x else y:=by
 by_cases h:i=j
 ·rw[j6 h,if_pos h];rfl
 ·rw[iV h,if_neg h];rfl
theorem ne:aK (uD i j) x y=if i=j then y else x:=by
 by_cases h:i=j
 ·rw[eX h,if_pos h];rfl
 ·rw[iX h,if_neg h];rfl
theorem ib:aK (fa i j) x y=if 0<=i/\i < j then x else y:=by unfold fa;split <;> rename_i h <;> simp[h]
theorem ic:aK (inc i j) x y=if 0<=i/\i<=j then x else y:=by unfold inc;split <;> rename_i h <;> simp[h]
theorem nn:aK (mf i) x y=if 0<=i then x else y:=by unfold mf;split <;> rename_i h <;> simp[h]
theorem nz:aK (kY i) x y=if i=0 then y else x:=by unfold kY;split <;> rename_i h <;> simp[h]
theorem dc{p:Prop} [Decidable p]:aK (decide p) x y=if p then x else y:=by split <;> rename_i h <;> simp[h]
theorem rm:aK (dT n b) x y=if n*b<=140737488355328/\n<=9223372036854775807 then x else y:=by unfold dT;exact dc
theorem an{c d:Bool}:aK (c && d) x y=aK c (aK d x y) y:=by cases c <;> rfl
theorem or{c d:Bool}:aK (c || d) x y=aK c x (aK d x y):=by cases c <;> rfl
theorem no{c:Bool}:aK (!c) x y=aK c y x:=by cases c <;> rfl
theorem PR(h:a+b<=9223372036854775807):bN .i64 (a:Int) (b:Int)=((a+b:Nat):Int):=by rw[eH (by omega) (by omega)];omega
theorem rD(h:a+OfNat.ofNat n<=9223372036854775807):bN .i64 (a:Int) (no_index (OfNat.ofNat n))=((a+OfNat.ofNat n:Nat):Int):=PR h
theorem R1(h:OfNat.ofNat n+a<=9223372036854775807):bN .i64 (no_index (OfNat.ofNat n)) (a:Int)=((OfNat.ofNat n+a:Nat):Int):=PR h
theorem Qa(h:b<=a)(h2:a<=9223372036854775807):dn .i64 (a:Int) (b:Int)=((a - b:Nat):Int):=by rw[dS (by omega) (by omega)];omega
theorem Sx(h:OfNat.ofNat n<=a)(h2:a<=9223372036854775807):dn .i64 (a:Int) (no_index (OfNat.ofNat n))=((a - OfNat.ofNat n:Nat):Int):=Qa h h2
theorem Sw(h:a<=OfNat.ofNat n)(h2:(OfNat.ofNat n:Nat)<=9223372036854775807):dn .i64 (no_index (OfNat.ofNat n)) (a:Int)=((OfNat.ofNat n - a:Nat):Int):=Qa h h2
theorem P8(h:a*b<=9223372036854775807):gz .i64 (a:Int) (b:Int)=((a*b:Nat):Int):=by
 have e:(a:Int)*(b:Int)=((a*b:Nat):Int):=by simp
 rw[o9 (by omega) (by omega),e]
theorem Ss(h:a*OfNat.ofNat n<=9223372036854775807):gz .i64 (a:Int) (no_index (OfNat.ofNat n))=((a*OfNat.ofNat n:Nat):Int):=P8 h
theorem Sr(h:OfNat.ofNat n*a<=9223372036854775807):gz .i64 (no_index (OfNat.ofNat n)) (a:Int)=((OfNat.ofNat n*a:Nat):Int):=P8 h
theorem RH(h:a<=9223372036854775807):qb .i64 (a:Int) (b:Int)=((a / b:Nat):Int):=by
 have:(a:Int).tdiv (b:Int)=((a / b:Nat):Int):=by rw[gP (by omega)];simp
 have hl:a / b<=a:=Nat.div_le_self a b
 unfold qb
 rw[this]
 generalize a / b=c at hl
 exact o8 (by omega) (by omega)
theorem Su(h:a<=9223372036854775807):qb .i64 (a:Int) (no_index (OfNat.ofNat n))=((a / OfNat.ofNat n:Nat):Int):=RH h
theorem RI:ov (a:Int) (b:Int)=((a%b:Nat):Int):=by
 unfold ov
 rw[fu (by omega)]
 simp
theorem Sv:ov (a:Int) (no_index (OfNat.ofNat n))=((a%OfNat.ofNat n:Nat):Int):=RI
theorem cN(h:a<=9223372036854775807):dP .i64 (a:Int)=(a:Int):=Gw (by omega) (by omega)
theorem cL(h:(OfNat.ofNat n:Nat)<=9223372036854775807):dP .i64 (no_index (OfNat.ofNat n))=OfNat.ofNat n:=cN h
theorem tL:Int.toNat (no_index (OfNat.ofNat n))=OfNat.ofNat n:=rfl
end
end Go.Ab.N
namespace Go.Ab
section
variable {P:Program}
theorem IL{E E':Env}(h1:E'.w=E.w)(h2:E'.g=E.g)(h3:E'.β=E.β)(h4:E'.s=E.s):E'=E:=by
 obtain⟨a,b,c,d⟩:=E
 obtain⟨a',b',c',d'⟩:=E'
 simp only at h1 h2 h3 h4
 subst h1 h2 h3 h4
 rfl
theorem nR.same{w:World}{g:Nat->jm}{β:Id->Option Pl}{bT:List de}{a:av}{v:Value}(hv:VS ((eN bT).env w g β) a v)(ho:fT ((eN bT).env w g β)):
  nR ((eN bT).env w g β) ⟨a,bT,[]⟩ v w:=by
 have hE:(iO.st ⟨a,bT,[]⟩).env w g β=(eN bT).env w g β:=by
  refine IL rfl rfl rfl ?_
  funext id
  cases id with
  |dd k=>rfl
  |new i j=>
   show([([]:List de)].getD i [])[j]? =(([]:List (List de)).getD i [])[j]?
   cases i <;> rfl
 refine⟨g,β,?_⟩
 rw[hE]
 exact⟨hv,ho,Trans.refl w g,b6.refl _⟩
theorem ky.extern{f:FuncId}{fn:Func}{e:Array Value->Sem Value}(hf:P.funcs[f]? =some fn)(rZ:(fn.name== "runtime.NumGoroutine")=false)(hb:fn.body.isNone=true)(hn:Extern.findNext fn=none)(he:Extern.find fn=some e){en:Entry}
  (h:∀w g β args bT iE x,pF ((eN bT).env w g β) args iE->fT ((eN bT).env w g β)->en.run args bT=some x->∃v,(e iE.toArray).run P w= .ok v w/\nR ((eN bT).env w g β) (en.out args bT x) v w):ky P f en:=by
 intro w g β args bT iE x h1 h2 h3
 obtain⟨v,h4,h5⟩:=h w g β args bT iE x h1 h2 h3
 refine .inr ⟨v,w,?_,h5⟩
 rw[run_callFunc_extern hf rZ hb hn he,h4]
 rfl
def LV.E:Entry:= {params:=[none],X:=Unit,run:=λargs _=>match args with | [_]=>some () | _=>none,out:=λargs bT _=>⟨args.headD .undef,bT,[]⟩}
theorem LV.of{f:FuncId}{fn:Func}(hf:P.funcs[f]? =some fn)(rZ:(fn.name== "runtime.NumGoroutine")=false)(hb:fn.body.isNone=true)(hn:Extern.findNext fn=none)(he:Extern.find fn=some Extern.AbiNoEscape.same):ky P f LV.E:=by
 refine ky.extern hf rZ hb hn he λw g β args bT iE x h1 h2 h3=> ?_
 cases args with
 |nil=>cases h3
 |cons a as=>
  cases as with
  |cons _ _=>cases h3
  |nil=>
   cases iE with
   |nil=>exact h1.elim
   |cons v vs=>
    obtain⟨h4,h5⟩:=h1
    cases vs with
    |cons _ _=>exact h5.elim
    |nil=>exact⟨v,rfl,nR.same h4 h2⟩
theorem Bl{w:World}:∀(xs:List Int) (a:Addr) (acc:ByteArray),(∀j x,xs[j]? =some x->w.cell? (a.add j)=some (.int .u8 x))->
  (Extern.Bytes.loadBytes a xs.length acc).run P w= .ok ⟨acc.data++(xs.map λn=>UInt8.ofNat n.toNat).toArray⟩ w
 |[],a,acc,_=>by simp[Extern.Bytes.loadBytes]
 |x::l,a,acc,h=>by
  have h0:w.cell? a=some (.int .u8 x):=by
   have:=h 0 x rfl
   simpa[Addr.add]using this
  have ih:=Bl l (a.add 1) (acc.push x.toNat.toUInt8) (λj y hy=>by
   have:=h (j+1) y (by simpa using hy)
   have e:(a.add 1).add j=a.add (j+1):=by
    unfold Addr.add
    by_cases hj:j=0
    ·subst hj;simp
    ·simp[hj];omega
   rw[e];exact this)
  simp only[aD,Extern.Bytes.loadBytes,Sem.run_bind,run_load,h0,Result.andThen]
  rw[ih]
  congr 1
  apply ByteArray.ext
  simp[ByteArray.push]
theorem zw{E:Env}{l:List Int}{y:Value}(h:VS E (.d (.slice (.int .u8)) l) y):(Extern.Bytes.bytesOf y).run P E.w= .ok (ed l) E.w:=by
 obtain⟨a,cap,vs,rfl,_,hs,nN,mS⟩:=mj h
 have uT:=ng (k:= .u8) (vs:=vs) (l:=l) mS
 cases a with
 |none=>
  have hl:l=[]:=by
   cases l with
   |nil=>rfl
   |cons _ _=>simp at hs
  subst hl
  rfl
 |some ad=>
  have IY:=Bl (P:=P) (w:=E.w) l ad .empty λj x hx=>by
   obtain⟨b,off,e,hh⟩:=nN j (.int .u8 x) (by rw[uT];simp[hx])
   have e:ad=⟨b,off,none⟩:=by simpa using e
   subst e
   have h1:=hh.1
   unfold Addr.add
   by_cases hj:j=0
   ·subst hj;simpa using h1
   ·simpa[hj]using h1
  show(Extern.Bytes.loadBytes ad l.length .empty).run P E.w=_
  rw[IY]
  congr 1
  apply ByteArray.ext
  simp[ed]
def yi(a b:List Int):Int:=Extern.BytealgCompare.cmp (ed a) (ed b)
def Gg.E:Entry:=Entry.of (D:=List Int×List Int) (X:=Int) [some (.slice (.int .u8)),some (.slice (.int .u8))] (λd=>([.d (.slice (.int .u8)) d.1,.d (.slice (.int .u8)) d.2],[])) (λ_=>True) (λd=>yi d.1 d.2) (λx=>⟨.d (.int .i64) x,[],[]⟩)
theorem Gg.inj:∀d d':List Int×List Int,(([av.d (.slice (.int .u8)) d.1,av.d (.slice (.int .u8)) d.2],([]:List de)):List av×List de)=([.d (.slice (.int .u8)) d'.1,.d (.slice (.int .u8)) d'.2],[])->d=d':=by
 rintro⟨a,b⟩ ⟨a',b'⟩ h
 have e1:a=a':=Lo (t:= .slice (.int .u8)) (congrArg (λs:List av×List de=>s.1.getD 0 .undef) h)
 have e2:b=b':=Lo (t:= .slice (.int .u8)) (congrArg (λs:List av×List de=>s.1.getD 1 .undef) h)
 rw[e1,e2]
def Gg.call:List Int×List Int->Option Int:=λd=>Gg.E.run [.d (.slice (.int .u8)) d.1,.d (.slice (.int .u8)) d.2] []
theorem Gg.run(d:List Int×List Int):Gg.call d=some (yi d.1 d.2):=Entry.qW (d:=d) Gg.inj trivial
theorem Gg.of{f:FuncId}{fn:Func}(hf:P.funcs[f]? =some fn)(rZ:(fn.name== "runtime.NumGoroutine")=false)(hb:fn.body.isNone=true)(hn:Extern.findNext fn=none)(he:Extern.find fn=some Extern.BytealgCompare.compare):ky P f Gg.E:=by
 refine ky.extern hf rZ hb hn he λw g β args bT iE x h1 h2 h3=> ?_
 have hx:∃d:List Int×List Int,(([av.d (.slice (.int .u8)) d.1,av.d (.slice (.int .u8)) d.2],([]:List de)):List av×List de)=(args,bT):=by
  by_cases hh:∃d:List Int×List Int,(([av.d (.slice (.int .u8)) d.1,av.d (.slice (.int .u8)) d.2],([]:List de)):List av×List de)=(args,bT)
  ·exact hh
  ·exfalso
   have hn:Gg.E.run args bT=none:=dif_neg λ⟨d,h,_⟩=>hh ⟨d,h⟩
   rw[hn]at h3
   cases h3
 obtain⟨d,hd⟩:=hx
 simp only[cd]at hd
 obtain⟨rfl,rfl⟩:=hd
 have hr:=Gg.run d
 have hx:x=yi d.1 d.2:=aP (h3.symm.trans hr)
 subst hx
 match iE,h1 with
 |[u,v],⟨h4,h5,_⟩=>
  refine⟨.int .i64 (yi d.1 d.2),?_,nR.same (iB _ _) h2⟩
  have e1:=zw (P:=P) h4
  have e2:=zw (P:=P) h5
  have e1:(Extern.Bytes.bytesOf u).run P w= .ok (ed d.1) w:=e1
  have e2:(Extern.Bytes.bytesOf v).run P w= .ok (ed d.2) w:=e2
  have MO:Extern.BytealgCompare.compare [u,v].toArray=(do let a <-Extern.Bytes.bytesOf u;let b <-Extern.Bytes.bytesOf v;pure (goInt (Extern.BytealgCompare.cmp a b))):=rfl
  rw[MO]
  simp[e1,e2,goInt,yi]
def Ql{X Y:Type} [Inhabited Y] (x:Option X):Option (X×Y):=aA x λy=>some (y,default)
def Qm{X Y:Type} [Inhabited X] (x:Option Y):Option (X×Y):=aA x λy=>some (default,y)
@[simp] theorem NO{X Y:Type} [Inhabited Y] (x:X):Ql (Y:=Y) (some x)=some (x,default):=rfl
@[simp] theorem NP{X Y:Type} [Inhabited X] (x:Y):Qm (X:=X) (some x)=some (default,x):=rfl
def Entry.half(params:List (Option Ty)){X Z:Type}(run:List av->List de->Option X)(out:List av->List de->X->iO)(i:Z->X)(p:X->Option Z):Entry:=
 {params,X:=Z,run:=λa o=>(run a o).bind p,out:=λa o z=>out a o (i z)}
def mz{X Z:Type}(p:X->Option Z)(x:Option X):Option Z:=x.bind p
theorem ky.half{f:FuncId}{params:List (Option Ty)}{X Z:Type}{run:List av->List de->Option X}{out:List av->List de->X->iO}{i:Z->X}{p:X->Option Z}(hp:∀x z,p x=some z->x=i z)
  (h:ky P f {params,X,run,out}):ky P f (Entry.half params run out i p):=by
 intro w g β args bT iE z h3 h4 h5
 have h5:(run args bT).bind p=some z:=h5
 cases hr:run args bT with
 |none=>rw[hr]at h5;cases h5
 |some x=>
  rw[hr]at h5
  obtain rfl:=hp x z h5
  exact h w g β args bT iE (i z) h3 h4 hr
end
theorem S1:(type_of% @N.lt)/\(type_of% @N.le)/\(type_of% @N.gt)/\(type_of% @N.ge)/\(type_of% @N.eq)/\(type_of% @N.ne)/\(type_of% @N.ib)/\(type_of% @N.ic)/\(type_of% @N.nn)/\(type_of% @N.nz)/\(type_of% @N.dc)/\(type_of% @N.rm)/\(type_of% @N.an)/\(type_of% @N.or)/\(type_of% @N.no)/\(type_of% @aj)/\(type_of% @au)/\(type_of% @ah):=⟨@N.lt,@N.le,@N.gt,@N.ge,@N.eq,@N.ne,@N.ib,@N.ic,@N.nn,@N.nz,@N.dc,@N.rm,@N.an,@N.or,@N.no,@aj,@au,@ah⟩
theorem S2:(type_of% @ah)/\(type_of% @N.PR)/\(type_of% @N.rD)/\(type_of% @N.R1)/\(type_of% @N.Qa)/\(type_of% @N.Sx)/\(type_of% @N.Sw)/\(type_of% @N.P8)/\(type_of% @N.Ss)/\(type_of% @N.Sr)/\(type_of% @N.RH)/\(type_of% @N.Su)/\(type_of% @N.RI)/\(type_of% @N.Sv)/\(type_of% @N.cN)/\(type_of% @N.cL)/\(type_of% @N.tL)/\(type_of% @aa)/\(type_of% @and_self)/\(type_of% @true_and)/\(type_of% @and_true):=⟨@ah,@N.PR,@N.rD,@N.R1,@N.Qa,@N.Sx,@N.Sw,@N.P8,@N.Ss,@N.Sr,@N.RH,@N.Su,@N.RI,@N.Sv,@N.cN,@N.cL,@N.tL,@aa,@and_self,@true_and,@and_true⟩
end Go.Ab
namespace Go.Ab
open Go.ChangeShapes Go.WideShapes Go.ChangeAt Go.RowKit Go.Deep
def Ev:(t:Ty)->t.den->Prop
 | .int k,x=>(Lit.int k x).wf=true
 | .bool,_=>True
 | .str,s=>(s:ByteArray).size<=maxLen
 | .slice t,l=>(l:List t.den).length<=maxLen/\∀x∈(l:List t.den),Ev t x
 | .unit,_=>True
 | .pair a b,x=>Ev a x.1/\Ev b x.2
 | .arr n t,l=>(l:List t.den).length=n/\∀x∈(l:List t.den),Ev t x
 | .fD _,_ | .l6 _,_=>False
def oY(P:Program)(rd:TypeId->Ty->Bool):Nat->List Field->Ty->Bool
 |_,[],.unit=>true
 |off,f::fs,.pair a b=>Nat.beq f.offset off && (rd f.type a && (Nat.beq (P.cellsOf f.type) a.size && oY P rd (off+a.size) fs b))
 |_,_,_=>false
def qg(P:Program):Nat->TypeId->Ty->Bool
 | 0,_,_=>false
 |n+1,T,ty=>
  match P.underlying T,ty with
  |some (.int k),.int k'=>decide (k=k')
  |some .bool,.bool=>true
  |some .string,.str=>true
  |some (.slice e),.slice t=>qg P n e t && Nat.beq (P.cellsOf e) t.size
  |some (.array k e),.arr k' t=>Nat.beq k k' && (qg P n e t && (Nat.beq (P.cellsOf e) t.size && Nat.beq (P.cellsOf T) (k*t.size)))
  |some (.struct fs),ty=>oY P (qg P n) 0 fs.toList ty && Nat.beq (P.cellsOf T) ty.size
  |_,_=>false
theorem Kc{a b:Nat}:(Nat.beq a b=true)=(a=b):=propext ⟨dO,λh=>by subst h;exact Nat.beq_refl a⟩
theorem DG{α β:Type}{f:α->Option β}:∀ {l:List α} {r:List β},l.mapM f=some r->r.length=l.length/\∀(i:Nat) (x:α),l[i]? =some x->f x=r[i]?
 |[],r,h=>by
  simp only[List.mapM_nil,Option.pure_def,ao]at h
  subst h
  exact⟨rfl,λi x h=>by simp at h⟩
 |y::l,r,h=>by
  simp only[List.mapM_cons,Option.bind_eq_bind,Option.pure_def,Option.bind_eq_some_iff,ao]at h
  obtain⟨b,hb,r',hr,rfl⟩:=h
  obtain⟨h1,h2⟩:=DG hr
  refine⟨by simp[h1],λi x hi=> ?_⟩
  cases i with
  |zero=>
   simp only[eB,ao]at hi
   subst hi
   simpa using hb
  |succ i=>
   simp only[iR]at hi ⊢
   exact h2 i x hi
theorem G7{w:World}{base:Nat}{a:Addr}{n:Nat}{cs:List Value}(h:w.cells? base a n=some cs):cs.length=n/\∀i,i < n->w.cell? (a.add i)=cs[i]? :=by
 unfold World.cells? at h
 split at h
 ·obtain⟨h1,h2⟩:=DG h
  exact⟨by simpa using h1,λi hi=>h2 i i (by simp[hi])⟩
 ·cases h
theorem add_add(a:Addr)(x y:Nat):(a.add x).add y=a.add (x+y):=by
 unfold Addr.add
 by_cases hx:x=0 <;> by_cases hy:y=0 <;> simp[hx,hy,dz]
theorem H0{w:World}{a:Addr}{v:Value}(h:w.cell? a=some v):a.spot=none:=by
 unfold World.cell? at h
 split at h
 ·split at h
  ·cases h
  ·rename_i hs
   cases hh:a.spot with
   |none=>rfl
   |some _=>simp[hh]at hs
 ·cases h
theorem Nt{E:Env}(hg:∀b,E.g b= .free){a:Addr}{vs:List Value}(h:∀i,i < vs.length->E.w.cell? (a.add i)=vs[i]?):rn E (some a) vs:=by
 intro i v hv
 have hi:i < vs.length:=(c6.1 hv).1
 have h0:=h 0 (by omega)
 rw[bS (by omega)]at h0
 have hs:a.spot=none:=H0 (a:=a) (by simpa[Addr.add]using h0)
 obtain⟨b,off,sp⟩:=a
 simp only at hs
 subst hs
 refine⟨b,off,rfl,?_,?_⟩
 ·have:=h i hi
  rw[hv]at this
  rw[<-this]
  unfold Addr.add
  split
  ·rename_i h;subst h;rfl
  ·rfl
 ·unfold mr
  rw[hg b]
  trivial
section
variable {H:Type} {enc:TypeId×Value->H} {P:Program} {base:Nat} {spare:Nat->Bool} {held:Bool} {E:Env}
theorem GM{t:Ty}{R:List Value->t.den->Prop}{G:t.den->Prop}{w:World}{a:Addr}{z:Nat}(hR:∀c x,R c x->c.length=z):∀(len:Nat),(∀i,i < len->∃c x,R c x/\G x/\∀j,j < z->w.cell? (a.add (i*z+j))=c[j]?)->
  ∃(vs:List Value) (l:List t.den),vs.length=len*z/\l.length=len/\(∀i,i < vs.length->w.cell? (a.add i)=vs[i]?)/\aO R vs l/\∀x∈l,G x
 | 0,_=>⟨[],[],by simp,rfl,λi h=>by simp at h,rfl,λ_ h=>by cases h⟩
 |len+1,h=>by
  obtain⟨vs,l,h1,h2,h3,h4,h5⟩:=GM hR len λi hi=>h i (by omega)
  obtain⟨c,x,g1,g2,g3⟩:=h len (by omega)
  have hc:=hR c x g1
  refine⟨vs++c,l++ [x],by rw[aq,h1,hc,dy,je],by rw[aq,h2];rfl,λi hi=> ?_,aO.append h4 ⟨c,[],by simp,g1,rfl⟩,λy hy=> ?_⟩
  ·rw[aq,h1,hc]at hi
   by_cases hl:i < vs.length
   ·rw[h3 i hl,dY hl]
   ·rw[List.getElem?_append_right (by omega),h1,<-g3 (i - len*z) (by omega),show len*z+(i - len*z)=i by omega]
  ·rcases bf.1 hy with hy | hy
   ·exact h5 y hy
   ·rw[bM.1 hy];exact g2
theorem AF{t:Ty}{R:List Value->t.den->Prop}{G:t.den->Prop}{z:Nat}:∀(n:Nat) (cs:List Value),cs.length=n*z->(∀i,i < n->∃x,R ((cs.drop (i*z)).take z) x/\G x)->
  ∃l:List t.den,l.length=n/\aO R cs l/\∀x∈l,G x
 | 0,cs,h,_=>⟨[],rfl,aL (by simpa using h),λ_ h=>by cases h⟩
 |n+1,cs,h,hi=>by
  obtain⟨x,g1,g2⟩:=hi 0 (by omega)
  obtain⟨l,h1,h2,h3⟩:=AF (R:=R) (G:=G) (z:=z) n (cs.drop z) (by rw[cO,h,dy];omega) λi OZ=>by
   obtain⟨y,k1,k2⟩:=hi (i+1) (by omega)
   refine⟨y,?_,k2⟩
   rw[eF,show z+i*z=(i+1)*z by rw[dy];omega]
   exact k1
  refine⟨x::l,by simp[h1],⟨cs.take z,cs.drop z,(cW z cs).symm,by simpa using g1,h2⟩,λy hy=> ?_⟩
  rcases cv.1 hy with rfl | hy
  ·exact g2
  ·exact h3 y hy
theorem xn{rd:TypeId->Ty->Bool}{cs:List Value}:∀(fs:List Field) (off:Nat) (ty:Ty),oY P rd off fs ty=true->off+ty.size<=cs.length->
  (∀f∈fs,∀t,rd f.type t=true->P.cellsOf f.type=t.size->∃v,cG E t ((cs.drop f.offset).take (P.cellsOf f.type)) v/\Ev t v)->∃v,cG E ty ((cs.drop off).take ty.size) v/\Ev ty v
 |[],off,ty,h,hl,_=>by
  cases ty <;> simp only[oY]at h <;> first | cases h | skip
  exact⟨(),by simp[cG,Ty.size],trivial⟩
 |f::fs,off,ty,h,hl,hf=>by
  cases ty <;> simp only[oY]at h <;> first | cases h | skip
  rename_i a b
  simp only[ag,Kc]at h
  obtain⟨h1,h2,h3,h4⟩:=h
  have hl:off+(a.size+b.size)<=cs.length:=hl
  obtain⟨v,k1,k2⟩:=hf f (aG ..) a h2 h3
  obtain⟨u,k3,k4⟩:=xn fs (off+a.size) b h4 (by omega) λf' hf'=>hf f' (aF _ hf')
  refine⟨(v,u),⟨(cs.drop off).take a.size,(cs.drop (off+a.size)).take b.size,?_,?_,k3⟩,k2,k4⟩
  ·rw[show Ty.size (.pair a b)=a.size+b.size from rfl,List.take_add,eF]
  ·rw[h1,h3]at k1;exact k1
theorem vk(hg:∀b,E.g b= .free):∀(n:Nat) (T:TypeId) (ty:Ty),qg P n T ty=true->∀ {fuel:Nat} {cs:List Value} {x:DataW H×List MemPlace},DataW.trod enc P E.w base spare held fuel T cs=some x->∃v,cG E ty cs v/\Ev ty v
 | 0,_,_,h,_,_,_,_=>by simp[qg]at h
 |n+1,T,ty,h,fuel,cs,x,hx=>by
  unfold qg at h
  split at h
  ·rename_i k k' hu
   obtain rfl:=of_decide_eq_true h
   obtain⟨m,rfl,_,hw⟩:=DataW.trod_int hu hx
   exact⟨m,rfl,hw⟩
  ·rename_i hu
   obtain⟨b,rfl,_⟩:=DataW.trod_bool hu hx
   exact⟨b,rfl,trivial⟩
  ·rename_i hu
   obtain⟨s,rfl,_,hs⟩:=DataW.trod_string hu hx
   exact⟨s,rfl,hs⟩
  ·rename_i e t hu
   simp only[ag,Kc]at h
   obtain⟨h1,h2⟩:=h
   rcases open_slice hu hx with⟨rfl,_⟩ | ⟨a,len,cap,m,f,D,Pl,rfl,_,hl,hm,P2,_,he⟩
   ·exact⟨([]:List t.den),⟨none,0,[],rfl,ax _,λh=>by simp at h,λi v hv=>by simp at hv,rfl⟩,bh _,λ_ h=>by cases h⟩
   ·have P1:len<=m:=by rw[P2];split <;> omega
    obtain⟨vs,l,k1,k2,k3,k4,k5⟩:=GM (t:=t) (R:=cG E t) (G:=Ev t) (w:=E.w) (a:=a) (z:=t.size) (λc x h=>cG.size h) len λi hi=>by
     obtain⟨cs',g1,g2⟩:=he i (by omega)
     obtain⟨v,g3,g4⟩:=vk hg n e t h1 g2
     obtain⟨g5,g6⟩:=G7 g1
     refine⟨cs',v,g3,g4,λj hj=> ?_⟩
     rw[<-g6 j (by omega),add_add,h2]
    refine⟨l,⟨some a,cap,vs,by rw[k2],by rw[k2];exact hl,λ_=>rfl,Nt hg k3,k4⟩,by rw[k2];omega,k5⟩
  ·rename_i k e k' t hu
   simp only[ag,Kc]at h
   obtain⟨rfl,h1,h2,h3⟩:=h
   obtain⟨xs,m,rfl,_,hl,Fj,he⟩:=DataW.trod_array hu hx
   obtain⟨l,k1,k2,k3⟩:=AF (t:=t) (R:=cG E t) (G:=Ev t) (z:=t.size) k cs (by rw[hl,h3]) λi hi=>by
    have:=he i hi
    rw[bS (by omega),h2]at this
    exact vk hg n e t h1 this
   exact⟨l,⟨k1,k2⟩,k1,k3⟩
  ·rename_i ty fs hu
   simp only[ag,Kc]at h
   obtain⟨h1,h2⟩:=h
   obtain⟨xs,m,rfl,_,hl,Fj,he⟩:=DataW.trod_struct hu hx
   obtain⟨v,k1,k2⟩:=xn (E:=E) (cs:=cs) fs.toList 0 _ h1 (by rw[hl,h2];omega) λf hf t ht hc=>by
    obtain⟨i,hi,SV⟩:=List.mem_iff_getElem.1 hf
    have hi':i < fs.size:=by simpa using hi
    have:=he i f (by rw[<-SV];simp[hi'])
    rw[bS (by omega)]at this
    exact vk hg n f.type t ht this
   refine⟨v,?_,k2⟩
   rwa[aJ,bz (by omega)]at k1
  ·cases h
end
end Go.Ab
namespace Go.Ab
open Go.ChangeShapes Go.WideShapes Go.ChangeAt Go.RowKit Go.Deep
section
variable {H:Type} {enc:TypeId×Value->H} {P:Program} {base b0:Nat} {spare:Nat->Bool} {held:Bool} {E:Env} {W:World}
theorem E6{rd:TypeId->Ty->Bool}{fs:List Field}{off:Nat}{ty:Ty}(h:oY P rd off fs ty=true):ty.agg=true:=by
 cases fs <;> cases ty <;> first | rfl | (simp[oY]at h)
theorem JE(hw:E.w=W)(hg:∀b,E.g b= .free){n:Nat}{t:TypeId}{ty:Ty}(h:qg P n t ty=true){v:Value}{d:DataW H}{ps:List MemPlace}(o7:Value.okWide P W .any base t v)(hd:DataW.Trod enc P W b0 spare held t v d ps):
  ∃x:ty.den,VS E (.d ty x) v/\Ev ty x:=by
 subst hw
 obtain⟨fuel,hf⟩:=hd
 obtain⟨x,h1,h2⟩:=vk hg n t ty h hf
 refine⟨x,⟨v.cells.toList,h1,?_⟩,h2⟩
 cases n with
 |zero=>simp[qg]at h
 |succ n=>
  unfold qg at h
  split at h
  ·rename_i k k' hu
   obtain⟨m,rfl⟩:=okWide_int hu o7
   rfl
  ·rename_i hu
   obtain⟨m,rfl⟩:=okWide_bool hu o7
   rfl
  ·rename_i hu
   obtain⟨m,rfl⟩:=okWide_string hu o7
   rfl
  ·rename_i hu
   obtain⟨a,len,cap,rfl⟩:=okWide_slice hu o7
   rfl
  ·rename_i hu
   simp only[Value.okWide,hu]at o7
   obtain⟨cs,rfl,_⟩:=o7
   show _=_
   simp[Value.cells]
  ·rename_i fs hu
   simp only[Value.okWide,hu]at o7
   obtain⟨cs,rfl,_⟩:=o7
   simp only[ag]at h
   have:=E6 h.1
   simp only[av.agg,this,eC,Value.cells,Array.toArray_toList]
  ·cases h
def DV:List Ty->Type
 |[]=>Unit
 |t::ts=>t.den×DV ts
def DV.iE:(ts:List Ty)->DV ts->List av
 |[],_=> []
 |t::ts,x=> .d t x.1::DV.iE ts x.2
def DV.RO:(ts:List Ty)->DV ts->Prop
 |[],_=>True
 |t::ts,x=>Ev t x.1/\DV.RO ts x.2
def mW(P:Program)(n:Nat):List TypeId->List Ty->Bool
 |[],[]=>true
 |T::Ts,t::ts=>qg P n T t && mW P n Ts ts
 |_,_=>false
theorem Bg(hw:E.w=W)(hg:∀b,E.g b= .free){n:Nat}:∀ {Ts:List TypeId} {ts:List Ty} {vs:List Value} {ds:List (DataW H)} {ps:List MemPlace},mW P n Ts ts=true->
  (∀(j:Nat) t v,Ts[j]? =some t->vs[j]? =some v->Value.okWide P W .any base t v)->DataW.TrodAll enc P W b0 spare held Ts vs ds ps->∃x:DV ts,pF E (DV.iE ts x) vs/\DV.RO ts x
 |[],[],vs,ds,ps,_,_,h=>by
  obtain⟨rfl,rfl,rfl⟩:=trodAll_nil h
  exact⟨(),trivial,trivial⟩
 |T::Ts,[],_,_,_,h,_,_=>by simp[mW]at h
 |[],t::ts,_,_,_,h,_,_=>by simp[mW]at h
 |T::Ts,t::ts,vs,ds,ps,h,o7,hd=>by
  simp only[mW,ag]at h
  obtain⟨v,vs',d,ds',p,q,rfl,rfl,rfl,h1,h2⟩:=trodAll_cons hd
  obtain⟨x,k1,k2⟩:=JE hw hg h.1 (o7 0 T v rfl rfl) h1
  obtain⟨y,k3,k4⟩:=Bg hw hg h.2 (λj t v hj hv=>o7 (j+1) t v (by simpa using hj) (by simpa using hv)) h2
  exact⟨(x,y),⟨k1,k3⟩,⟨k2,k4⟩⟩
def nw(P:Program)(Ts:List TypeId):Bool:=Ts.all λt=>P.readableRec t && decide (t < P.types.size)
theorem tC(hl:laidOutB P=true){W':World}(hb:Below W.heap.size W W')(sp:Nat->Bool):∀ {Ts:List TypeId} {vs:List Value} {ds:List (DataW H)} {ps:List MemPlace},nw P Ts=true->(∀p∈ps,p.block < W.heap.size)->(∀p∈ps,sp p.block=true)->
  DataW.TrodAll enc P W 0 (λ_=>true) true Ts vs ds ps->DataW.TrodAll enc P W' 0 sp true Ts vs ds ps
 |[],vs,ds,ps,_,_,_,h=>by
  obtain⟨rfl,rfl,rfl⟩:=trodAll_nil h
  exact trodAll_mk0
 |T::Ts,vs,ds,ps,hr,iC,hs,h=>by
  obtain⟨v,vs',d,ds',p,q,rfl,rfl,rfl,h1,h2⟩:=trodAll_cons h
  simp only[nw,eJ,ag,decide_eq_true_eq]at hr
  have h3:=WideElems.Trod_stays hl hr.1.1 hr.1.2 h1 (λx hx=>hb.same (iC x (bf.2 (.inl hx)))) (λx hx=>hs x (bf.2 (.inl hx)))
  exact⟨p,q,h3,tC hl hb sp (by simpa[nw]using hr.2) (λx hx=>iC x (bf.2 (.inr hx))) (λx hx=>hs x (bf.2 (.inr hx))) h2,rfl⟩
end
theorem sD{H:Type}{enc:TypeId×Value->H}{P:Program}{W:World}{b0:Nat}{spare:Nat->Bool}{held:Bool}:∀ {Ts:List TypeId} {vs:List Value} {ds:List (DataW H)} {ps:List MemPlace},DataW.TrodAll enc P W b0 spare held Ts vs ds ps->ds.length=Ts.length
 |[],_,_,_,h=>by
  obtain⟨_,rfl,_⟩:=trodAll_nil h
  rfl
 |_::_,_,_,_,h=>by
  obtain⟨v,vs',d,ds',p,q,rfl,rfl,rfl,h1,h2⟩:=trodAll_cons h
  simp[sD h2]
theorem DY{H:Type}{enc:TypeId×Value->H}{P:Program}{f:Func}{s:ChangeSpec}{W W':World}{args:Array Value}{v:Value}{ds gs:List (DataW H)}{before:List MemPlace}{tb:TypeId}
  (hl:laidOutB P=true) (Ew:nw P f.params.toList=true) (Dp:s.vars=[]) (Rr:f.resultTypes= #[tb]) (Ru:P.underlying tb=some .bool)
  (hW:DataW.Whole enc P f.params.toList s.vars false W args.toList ds gs before) (MP:s.fn H (ds++gs)= {results:=[.lit (.bool true)],args:=ds}) (hb:Below W.heap.size W W') (hv:v= .bool true):
  s.post enc P f false true false false W args v W':=by
 subst hv
 have hW':=hW
 have hold:∀p∈before,(λb=>decide (b < W.heap.size)) p.block=true:=λp hp=>by simpa using hW.lt p hp
 obtain⟨p,q,hA,hV,rfl,hz,_⟩:=hW
 rw[Dp]at hV
 obtain⟨rfl,rfl⟩:=trodVars_none hV
 have iC:∀x∈p,x.block < W.heap.size:=λx hx=>hW'.lt x (bf.2 (.inl hx))
 have yE:∀sp:Nat->Bool,(∀x∈p,sp x.block=true)->DataW.TrodAll enc P W' 0 sp true f.params.toList args.toList (s.fn H (ds++ [])).args p:=λsp hs=>by
  rw[MP]
  exact tC hl hb sp Ew iC hs hA
 have Rm:∀(b:Nat) (sp:Nat->Bool) (hd:Bool),DataW.TrodAll enc P W' b sp hd f.resultTypes.toList ((Value.bool true).resultList f.resultTypes.size) (s.fn H (ds++ [])).results []:=λb sp hd=>by
  rw[MP,Rr]
  exact trodAll_mk1 (shut_bool Ru _)
 have uT:∀sp:Nat->Bool,DataW.TrodVars enc P W' sp s.vars (s.fn H (ds++ [])).vars []:=λsp=>by
  rw[MP,Dp]
  rfl
 refine⟨ds,[],p++ [],[],p,[],hW',Rm _ _ _,yE _ (λx hx=>hold x (bf.2 (.inl hx))),uT _,hb.frame _,λh=>by cases h⟩
theorem sw{P:Program}{n:Nat}:∀ {Ts:List TypeId} {ts:List Ty},mW P n Ts ts=true->Ts.length=ts.length
 |[],[],_=>rfl
 |[],_::_,h=>by simp[mW]at h
 |_::_,[],h=>by simp[mW]at h
 |_::_,_::_,h=>by
  simp only[mW,ag]at h
  simp[sw h.2]
theorem Hw{H:Type}{enc:TypeId×Value->H}{P:Program}{f:FuncId}{fn:Func}{en:Entry}{s:ChangeSpec}{tb:TypeId}(n:Nat)(tys:List Ty)(hD:ky P f en)(hf:P.funcs[f]? =some fn)(OL:fn.body.isSome=true)(rZ:(fn.name== "runtime.NumGoroutine")=false)
  (hl:laidOutB P=true) (LJ:mW P n fn.params.toList tys=true) (Ew:nw P fn.params.toList=true) (Dp:s.vars=[]) (Rr:fn.resultTypes= #[tb]) (Ru:P.underlying tb=some .bool)
  (MP:∀ds:List (DataW H),ds.length=tys.length->s.fn H (ds++ [])= {results:=[.lit (.bool true)],args:=ds})
  (kj:∀x:DV tys,DV.RO tys x->∃r,en.run (DV.iE tys x) []=some r/\en.out (DV.iE tys x) [] r=⟨.d .bool true,[],[]⟩)
  {W:World} {base:Nat} {args:Array Value} {ds gs:List (DataW H)} {before:List MemPlace}
  (o7:∀(j:Nat) t v,fn.params[j]? =some t->args[j]? =some v->Value.okWide P W .any base t v)
  (hW:DataW.Whole enc P fn.params.toList s.vars false W args.toList ds gs before):
  Calls P f args W λe W'=>∃v,e= .returned v/\s.post enc P fn false true false false W args v W':=by
 have hW':=hW
 obtain⟨p,q,hA,hV,_,_,_⟩:=hW
 rw[Dp]at hV
 obtain⟨rfl,rfl⟩:=trodVars_none hV
 obtain⟨x,Ry,Rz⟩:=Bg (E:=(eN []).env W (λ_=> .free) (λ_=>none)) rfl (λ_=>rfl) LJ (λj t v hj hv=>o7 j t v (by simpa using hj) (by simpa using hv)) hA
 obtain⟨r,M6,Fg⟩:=kj x Rz
 have cj:(callFunc f args).run P W= .ok (.enter f args) W:=by
  unfold callFunc
  obtain⟨c,hc⟩:=bF.1 OL
  have hname':¬fn.name= "runtime.NumGoroutine" :=by simpa using rZ
  simp[hf,hname',hc]
 have hlen:ds.length=tys.length:=by rw[sD hA,sw LJ]
 have ho:fT ((eN []).env W (λ_=> .free) (λ_=>none)):=λid ver fr c h=>by
  exfalso
  cases id with
  |dd k=>simp[AS.env,AS.bG,eN]at h
  |new i j=>simp[AS.env,AS.bG,eN]at h
 rcases hD W (λ_=> .free) (λ_=>none) (DV.iE tys x) [] args.toList r Ry ho M6 with⟨_,hc⟩ | ⟨v,w',hc,_⟩
 ·refine hc.mono λe w' he=> ?_
  obtain⟨v,rfl,g',β',h1,_,h2,_⟩:=he
  rw[Fg]at h1
  refine⟨v,rfl,DY hl Ew Dp Rr Ru hW' (MP ds hlen) ⟨h2.os,h2.tape,h2.output.1,h2.size,λb hb=>(h2.vS b hb).2⟩ ?_⟩
  obtain⟨cs,k1,k2⟩:=h1
  have k1:cs=[.bool true]:=k1
  subst k1
  have k2: [Value.bool true]=[v]:=k2
  simpa using k2.symm
 ·rw[show args.toList.toArray=args from Array.toArray_toList ..,cj]at hc
  cases hc
end Go.Ab
namespace Go.Ab
abbrev W:=BitVec 32
def te(w:W)(k:Nat):W:=w <<< (32 - k) ||| w >>> k
def PS(a b c d:Int):W:=BitVec.ofInt 32 a <<< 24 ||| BitVec.ofInt 32 b <<< 16 ||| BitVec.ofInt 32 c <<< 8 ||| BitVec.ofInt 32 d
def be(l:List Int)(i:Nat):W:=PS (l.getD (4*i) 0) (l.getD (4*i+1) 0) (l.getD (4*i+2) 0) (l.getD (4*i+3) 0)
structure St where
 a:W
 b:W
 c:W
 d:W
 e:W
 f:W
 g:W
 h:W
def St.l(s:St):List Int:=[vw s.a,vw s.b,vw s.c,vw s.d,vw s.e,vw s.f,vw s.g,vw s.h]
def RR(x:W):W:=te x 7^^^te x 18^^^x >>> 3
def RT(y:W):W:=te y 17^^^te y 19^^^y >>> 10
def LU(l:List W)(i:Nat):W:=l.getD (i - 16) 0+RR (l.getD (i - 15) 0)+l.getD (i - 7) 0+RT (l.getD (i - 2) 0)
def ext(l:List W):List W:=l++ [LU l l.length]
def PJ(m:List W):Nat->List W
 | 0=>m
 |n+1=>ext (PJ m n)
def words(b:List Int):List W:=(List.range 16).map (be b)
def sched(b:List Int):List W:=PJ (words b) 48
def kl:List Nat:=[
  0x428a2f98,0x71374491,0xb5c0fbcf,0xe9b5dba5,0x3956c25b,0x59f111f1,0x923f82a4,0xab1c5ed5,
  0xd807aa98,0x12835b01,0x243185be,0x550c7dc3,0x72be5d74,0x80deb1fe,0x9bdc06a7,0xc19bf174,
  0xe49b69c1,0xefbe4786,0x0fc19dc6,0x240ca1cc,0x2de92c6f,0x4a7484aa,0x5cb0a9dc,0x76f988da,
  0x983e5152,0xa831c66d,0xb00327c8,0xbf597fc7,0xc6e00bf3,0xd5a79147,0x06ca6351,0x14292967,
  0x27b70a85,0x2e1b2138,0x4d2c6dfc,0x53380d13,0x650a7354,0x766a0abb,0x81c2c92e,0x92722c85,
  0xa2bfe8a1,0xa81a664b,0xc24b8b70,0xc76c51a3,0xd192e819,0xd6990624,0xf40e3585,0x106aa070,
  0x19a4c116,0x1e376c08,0x2748774c,0x34b0bcb5,0x391c0cb3,0x4ed8aa4a,0x5b9cca4f,0x682e6ff3,
  0x748f82ee,0x78a5636f,0x84c87814,0x8cc70208,0x90befffa,0xa4506ceb,0xbef9a3f7,0xc67178f2]
def kw(i:Nat):W:=BitVec.ofNat 32 (kl.getD i 0)
def Dw:List Int:=kl.map λ(n:Nat)=>(n:Int)
def oG(s:St)(k w:W):St:=
 let t:=s.h+(te s.e 6^^^te s.e 11^^^te s.e 25)+(s.g^^^s.e &&& (s.f^^^s.g))+k+w
 let r:=te s.a 2^^^te s.a 13^^^te s.a 22
 let most:=s.a &&& s.b ||| s.c &&& (s.a ||| s.b)
 ⟨t+r+most,s.a,s.b,s.c,s.d+t,s.e,s.f,s.g⟩
def rounds(ws:List W)(s:St):Nat->St
 | 0=>s
 |n+1=>oG (rounds ws s n) (kw n) (ws.getD n 0)
def HA(s:St)(b:List Int):St:=
 let v:=rounds (sched b) s 64
 ⟨v.a+s.a,v.b+s.b,v.c+s.c,v.d+s.d,v.e+s.e,v.f+s.f,v.g+s.g,v.h+s.h⟩
def oZ:St:=⟨0x6a09e667,0xbb67ae85,0x3c6ef372,0xa54ff53a,0x510e527f,0x9b05688c,0x1f83d9ab,0x5be0cd19⟩
def pK:Nat->St->List Int->St
 | 0,s,_=>s
 |n+1,s,l=>pK n (HA s (l.take 64)) (l.drop 64)
def blocks(s:St)(l:List Int):St:=pK (l.length / 64) s l
def PT(w:W)(k:Nat):Int:=vw ((w >>> (24 - 8*k)).setWidth 8)
def Ke(w:W):List Int:=[PT w 0,PT w 1,PT w 2,PT w 3]
def KP(s:St):List Int:=Ke s.a++Ke s.b++Ke s.c++Ke s.d++Ke s.e++Ke s.f++Ke s.g++Ke s.h
def pU(n:Int):List Int:=[n / 2^56%256,n / 2^48%256,n / 2^40%256,n / 2^32%256,n / 2^24%256,n / 2^16%256,n / 2^8%256,n%256]
def vh(n:Nat):Nat:=(119 - n%64)%64
def pad(b:List Int):List Int:=b++128::(List.replicate (vh b.length) 0++pU (8*b.length))
def Od(b:List Int):List Int:=KP (blocks oZ (pad b))
def oM(parts:List (List Int)):List Int:=parts.flatMap λp=>pU p.length++p
def As(name:List Int)(parts:List (List Int)):List Int:=pU name.length++name++oM parts
def tag(name:List Int)(parts:List (List Int)):List Int:=Od (As name parts)
theorem FQ(b:List Int):(Od b).length=32:=rfl
theorem dB(n:Int):(pU n).length=8:=rfl
theorem E4(l:List W):(ext l).length=l.length+1:=by simp[ext]
theorem uA(m:List W):∀n,(PJ m n).length=m.length+n
 | 0=>rfl
 |n+1=>by rw[PJ,E4,uA m n];omega
theorem mm(b:List Int):(words b).length=16:=by simp[words]
theorem rP:∀(n:Nat) (s:St) (a b:List Int),a.length=64*n->∀m,pK (n+m) s (a++b)=pK m (pK n s a) b
 | 0,s,a,b,h,m=>by
  have:a=[]:=aL (by omega)
  subst this
  simp[pK]
 |n+1,s,a,b,h,m=>by
  rw[show n+1+m=(n+m)+1 by omega,pK,pK]
  rw[eR (by omega),List.drop_append_of_le_length (by omega)]
  exact rP n _ _ _ (by simp;omega) m
theorem tj(s:St)(a b:List Int)(h:a.length%64=0):blocks s (a++b)=blocks (blocks s a) b:=by
 unfold blocks
 have e:(a++b).length / 64=a.length / 64+b.length / 64:=by simp;omega
 rw[e]
 exact rP _ _ _ _ (by omega) _
theorem wR(s:St)(l:List Int)(h:64<=l.length):blocks s l=blocks (HA s (l.take 64)) (l.drop 64):=by
 unfold blocks
 rw[show l.length / 64=(l.drop 64).length / 64+1 by simp;omega]
 rfl
theorem tG(s:St)(l:List Int)(h:l.length < 64):blocks s l=s:=by
 unfold blocks
 rw[show l.length / 64=0 by omega]
 rfl
def GS(x:Int):Prop:=0<=x/\x < 256
def Bytes(l:List Int):Prop:=∀x∈l,GS x
theorem Kf(w:BitVec 8):GS (vw w):=⟨Bu w,Ma w⟩
theorem GS.vw{x:Int}(h:GS x):x=vw (BitVec.ofInt 8 x):=by
 rw[jH]
 obtain⟨h1,h2⟩:=h
 omega
theorem ER(s:St):Bytes (KP s):=by
 intro x hx
 simp only[KP,Ke,bf,cv,gK,or_false]at hx
 rcases hx with((((((hx | hx) | hx) | hx) | hx) | hx) | hx) | hx <;> rcases hx with rfl | rfl | rfl | rfl <;> exact Kf _
theorem G4(b:List Int):Bytes (Od b):=ER _
end Go.Ab
end
