/-
  Made short by a program of mine (wip/tools/mini.py).
-/
import Derived.Test.YtlpebgkekjfhaaaGreatS25x2
import Derived.Scope
import Derived.Laws.Externs
import Derived.KernelRfl
import Derived.ProofKit
import Derived.OpenShut
import Derived.Deep.Slices
import Derived.Carry
set_option linter.unusedVariables false
set_option linter.unusedSimpArgs false
set_option maxRecDepth 100000
set_option synthInstance.maxSize 5000
noncomputable section
namespace Go.Ab
section
variable {P:Program} {Γ:qd} {an:v7} {C:Ctx}
open Classical in
def Uq(p:Prop):Option Unit:=if p then some () else none
theorem Ms{p:Prop}(h:Uq p=some ()):p:=by
 unfold Uq at h
 split at h
 ·assumption
 ·cases h
theorem JU{X R:Type}{S:X->Prop}{k:X->Option R}{r:R}(h:Ph S k=some r):(∃x,S x)/\∀x,S x->k x=some r:=by
 unfold Ph at h
 split at h
 ·rename_i hx
  obtain rfl:=bB h
  exact hx.choose_spec
 ·cases h
def KX(P:Program)(Γ:qd)(an:v7)(N:Nat)(b:Code):Prop:=
 ∀le,an.iA (eB b)=some le->
  (le.set=none->∀s x,le.run s=some x->∃n,zV (norm P (an.loops (eB b))) (λe=>norm P (an.outs (eB b) (Ge e))) (ev P Γ an N b) n s (λe s'=>some (e,s'))=(le.out x).eval)/\
  ∀S,le.set=some S->∀s,(∃x,S s x)->∃n,zV (norm P (an.loops (eB b))) (λe=>norm P (an.outs (eB b) (Ge e))) (ev P Γ an N b) n s (λe s'=>Uq (∃x,S s x/\(le.out x).eval=some (e,s')))=some ()
def lE(P:Program)(Γ:qd)(an:v7)(N:Nat):List Code->Prop
 |[]=>True
 |b::l=>KX P Γ an N b/\lE P Γ an N l
theorem lE.append{N:Nat}:∀ {l l':List Code},lE P Γ an N (l++l')->lE P Γ an N l/\lE P Γ an N l'
 |[],_,h=>⟨trivial,h⟩
 |_::_,_,⟨h1,h2⟩=>⟨⟨h1,(lE.append h2).1⟩,(lE.append h2).2⟩
theorem oE{c:Code}{b:Frame}{a:Act}{k:List Item}{cs:List Frame}{w:World}:step P (lone (b.atR a (.code (.scope c)::k)) cs w)= .next (lone (b.atR a (.code c:: .inScope c::k)) cs w):=
 step_lone_go (by simp[stepG,stepG.exec,Frame.atR])
theorem C4{c:Code}{b:Frame}{a:Act}{k:List Item}{cs:List Frame}{w:World}:step P (lone (b.atR a (.inScope c::k)) cs w)= .next (lone (b.atR a k) cs w):=
 step_lone_go (by simp[stepG,stepG.exec,Frame.atR])
theorem wi{F:Fence}{n:Nat}{Q:Exit->Act->World->Prop}{a:Act}{w:World}{c:Code}(h:c.wpIn F n P (Exit.noGoto Q) a w):(Code.scope c).wpIn F n P Q a w:=by
 intro b k cs V3 hb hr
 have h0:(lone (b.atR a (.code (.scope c)::k)) cs w).fenced P F:=fenced_calm hb hr rfl
 obtain⟨e,a1,w1,hq,hx⟩:=h b (.inScope c::k) cs V3 hb hr
 cases e with
 |normal=>exact⟨.normal,a1,w1,hq,.head h0 oE (StepsIn.trans hx (.one (fenced_calm hb hr rfl) C4))⟩
 |exit i=>
  have e1:exitTo i (.inScope c::k)=exitTo i k:=by simp[exitTo]
  exact⟨.exit i,a1,w1,hq,λk' hk=> .head h0 oE (hx.1 k' (e1.trans hk)),λh1 hk=>let⟨k2,h2,h3⟩:=hx.2 h1 (e1.trans hk);⟨k2,h2,.head h0 oE h3⟩⟩
 |goto l=>exact hq.elim
 |ret=>exact⟨_,a1,w1,hq,.of_steps (.one h0 oE) hx⟩
 |panic ch=>exact⟨_,a1,w1,hq,.of_steps (.one h0 oE) hx⟩
 |outgrown=>exact⟨_,a1,w1,hq,.of_steps (.one h0 oE) hx⟩
theorem tZ{rd:Option Nat}{m:Nat}{R:Type}{r:R}{b:Code}{nrm:AS->Out AS}{nrmX:Exit->AS->Out AS}{body:AS->(Exit->AS->Option R)->Option R}
  (hn:∀s s1 a w,iN C s a w->(nrm s).eval=some s1->iN C s1 a w) (hx:∀e s s1 a w,iN C s a w->(nrmX e s).eval=some s1->iN C s1 a w)
  (hb:∀(s:AS) (a:Act) (w:World) (k:Exit->AS->Option R) (Q:Exit->Act->World->Prop),iN C s a w->body s k=some r->(∀e s' a' w',iN C s' a' w'->k e s'=some r->Q e a' w')->b.wpIn (Fr rd) m P Q a w)
  {k:Exit->AS->Option R} {Q:Exit->Act->World->Prop} (hk:∀e s' a' w',iN C s' a' w'->k e s'=some r->Q e a' w'):
  ∀(n:Nat) (s:AS) (a:Act) (w:World),iN C s a w->zV nrm nrmX body n s k=some r->Code.roundsIn (Fr rd) m P b Q n a w
 | 0,s,a,w,_,h=>by simp[zV]at h
 |n+1,s,a,w,hs,h=>by
  simp only[zV]at h
  rw[roundsIn_succ]
  refine hb s a w _ _ hs h λe s' a' w' hs' RO=> ?_
  have exits:∀e,(nrmX e s').run (k e)=some r->Q e a' w':=λe RO=>by
   obtain⟨s1,h1,h2⟩:=jx.1 RO
   exact hk e s1 a' w' (hx e s' s1 a' w' hs' h1) h2
  cases e with
  |normal=>
   simp only at RO
   obtain⟨s1,h1,h2⟩:=jx.1 RO
   exact tZ hn hx hb hk n s1 a' w' (hn s' s1 a' w' hs' h1) h2
  |_=>exact exits _ RO
theorem xP{rd:Option Nat}{n:Nat}(hC:C.ok){j:Option JD}{run: {R:Type}->(Exit->AS->Option R)->Option R}{c:Code}{a:Act}{w:World}
  (mU:∀ {R:Type} {r:R} (k:Exit->AS->Option R) (Q:Exit->Act->World->Prop),run k=some r->(∀e s' a' w',iN C s' a' w'->k e s'=some r->Q e a' w')->c.wpIn (Fr rd) n P Q a w)
  {R:Type} {r:R} {k:Exit->AS->Option R} {Q:Exit->Act->World->Prop} (h:zd P j run k=some r) (hk:∀e s' a' w',iN C s' a' w'->k e s'=some r->Q e a' w'):c.wpIn (Fr rd) n P Q a w:=by
 cases j with
 |none=>exact mU k Q h hk
 |some j=>
  simp only[zd]at h
  cases hx:run λe s=>(norm P j.an s).run (j.SZ e) with
  |none=>rw[hx]at h;cases h
  |some x=>
   rw[hx]at h
   simp only[av]at h
   obtain⟨y,hy,h⟩:=jx.1 h
   refine mU _ Q hx λe s' a' w' hs' hK=> ?_
   obtain⟨s1,h1,h2⟩:=jx.1 hK
   have he:=j.ok _ _ _ h2
   rw[hy,ax]at he
   subst he
   exact hk e s1 a' w' (mF hC hs' h1) h
theorem Inv.JE{g:Nat->lG}{β:Id->Option Pl}{s:AS}{a:Act}{w:World}(h:Inv C g β s a w):
  Inv C (lM g w.heap.size (.own .eL 0)) β s {a with defers:=pF w.heap.size::a.defers} (w.alloc (.deferred (some []))):=by
 have ht:=Trans.alloc w g (.deferred (some [])) (.own .eL 0)
 have he:c7 (s.env w g β) (s.env (w.alloc (.deferred (some []))) (lM g w.heap.size (.own .eL 0)) β):=c7.same ht
 have h1:=h.step rfl ht he (jd.same h.bU he λi ver fr c pl hi hp=>by
  have hl:=((h.bU i ver fr c hi).label (pl:=pl) hp).1
  have hl':pl.b < w.heap.size:=hl
  exact⟨nr w _ hl',fE _ _ _ (by omega)⟩)
 refine⟨⟨dK.2 ⟨λhm=> ?_,h1.defers.1⟩,λd hd=> ?_⟩,h1.size,h1.cO,h1.bU,h1.trans,h1.le⟩
 ·obtain⟨D,e,_,hh,_⟩:=h.defers.2 _ hm
  have e:Deferred.mk (.collected w.heap.size) #[]=Deferred.mk (.collected D) #[]:=e
  injection e with e _
  injection e with e
  have:=(bT.1 hh).1
  omega
 ·rcases dd.1 hd with rfl | hd
  ·exact⟨w.heap.size,rfl,h.trans.size,oP w _,fP _ _ _⟩
  ·exact h1.defers.2 d hd
theorem wQ:∀l:List az,(rU l).list=l
 |[]=>rfl
 |a::l=>by simp[rU,az.list,wQ l]
theorem tG(bm:List Nat):∀(i:Nat) (l:List az),(eZ bm i l).length=l.length
 |_,[]=>rfl
 |i,_::l=>by simp[eZ,tG bm (i+1) l]
theorem wA(bm:List Nat):∀(l:List az) (i j:Nat),(eZ bm i l).getD j .undef=l.getD j .undef\/(eZ bm i l).getD j .undef= .undef
 |[],_,_=> .inl rfl
 |v::l,i,0=>by
  simp only[eZ,jv]
  split
  ·exact .inl rfl
  ·exact .inr rfl
 |v::l,i,j+1=>by simpa[eZ]using wA bm l (i+1) j
theorem Inv.frame{g:Nat->lG}{β:Id->Option Pl}{s:AS}{a:Act}{w:World}(h:Inv C g β s a w)(bm:List Nat):tN (s.env w g β) (rU (eZ bm 0 s.cO)) a.tmps:=by
 refine⟨by rw[wQ,tG,h.size],λi=> ?_⟩
 rw[wQ]
 rcases wA bm s.cO 0 i with e | e
 ·rw[e];exact h.cO i
 ·rw[e];exact VS.undef
theorem N0(a:Act)(q:Nat)(x:Value):(a.put (some q) x).put (some q) (a.tmps.getD q undef)=a:=by
 obtain⟨t,d⟩:=a
 simp only[Act.put]
 congr 1
 apply nK
 intro i
 simp only[ee,Array.size_setIfInBounds]
 by_cases h:q=i
 ·subst h
  by_cases hl:q < t.size
  ·simp[hl]
  ·simp[hl]
 ·simp[h]
theorem yj{g:Nat->lG}{β:Id->Option Pl}{s s':AS}{a:Act}{w:World}{q p:Nat}(h:Inv C g β s a w)(he:s.zo q p=some s'):∃pl r,β (.dB 0)=some pl/\(s.env w g β).cur (.dB 0) 0/\w.heap[pl.b]? =some (.loop r)/\GM q r.state r.pending/\
  ∀r':Loop,r'.params=r.params->r'.assign=r.assign->r'.body=r.body->r'.tmps=r.tmps->GM p r'.state r'.pending->Inv C g β s' a (w.putObj pl.b (.loop r')):=by
 unfold AS.zo at he
 split at he
 rotate_left
 ·cases he
 rename_i c f q' db
 split at he
 rotate_left
 ·cases he
 rename_i hq
 obtain rfl:q=q':=fk hq
 obtain rfl:=bB he
 obtain⟨pl,r,hp,hb,hg,⟨q1,q2,q3⟩,Jd,oJ⟩:=h.bU (.dB 0) 0 false _ db
 have hp:β (.dB 0)=some pl:=hp
 have hb:w.heap[pl.b]? =some (.loop r):=hb
 have hg:g pl.b= .own (.id (.dB 0)) 0:=hg
 refine⟨pl,r,hp,⟨false,_,db⟩,hb,oJ,λr' e1 e2 e3 e4 hs'=> ?_⟩
 have jt:pl.b < w.heap.size:=(bT.1 hb).1
 have hother:∀b',b'≠pl.b->(w.putObj pl.b (.loop r')).heap[b']? =w.heap[b']? :=λb' jb=>World.putObj_heap_other jb
 have ht:Trans w (w.putObj pl.b (.loop r')) g g:=by
  refine⟨rfl,rfl,⟨rfl,ay _⟩,by simp,λb' _=> ?_⟩
  by_cases he:b'=pl.b
  ·subst he
   rw[hg]
   exact⟨.inr ⟨_,0,rfl,ay _⟩,λ_ _ hh=>by omega⟩
  ·rw[hother b' he]
   cases Aq:g b' with
   |free=>exact⟨rfl,rfl⟩
   |own o' k=>cases o' with
    |eL=>exact⟨rfl,rfl⟩
    |id i'=>exact⟨.inr ⟨i',k,rfl,ay _⟩,λoff v _ hv=>by simpa only[World.cell?,hother b' he]using hv⟩
 have hle:c7 (s.env w g β) ((s.aX (.dB 0) (.obj 0 false (.qK c f p))).env (w.putObj pl.b (.loop r')) g β):=c7.aX db (ay _) ht (λ_ _=>rfl) (λ_=>rfl)
 refine h.step (du _ _ _) ht hle (jd.aX h.bU (by rw[db];simp) hle (λ_ _=>rfl) (λi ver fr c pl2 hi Br CF=>⟨hother _ (h.apart hg hi Br CF),rfl⟩) ?_ (xT db))
 exact⟨pl,r',hp,World.putObj_heap_same jt,hg,⟨e1.trans q1,e2.trans q2,e3.trans q3⟩,by rw[e4];exact Jd.mono hle,hs'⟩
theorem Av{n:Nat}(hΓ:Sound P Γ){f:Operand}{ps:Array Tmp}{as b:Code}{R:Type}{r:R}{k:Exit->AS->Option R}{Q:Exit->Act->World->Prop}{s:AS}{a:Act}{w:World}(h:iN C s a w)
  (he:ui P Γ an s f ps as b k=some r) (hk:∀e s' a' w',iN C s' a' w'->k e s'=some r->Q e a' w'):(Code.rangeFunc f ps as b).wpIn (Fr none) n P Q a w:=by
 obtain⟨g,β,h⟩:=h
 unfold ui at he
 split at he
 rotate_left
 ·cases he
 rename_i y bm h0 caps V2 Wy hF
 split at he
 rotate_left
 ·cases he
 rename_i en RA KY
 simp only[ak]at RA
 obtain⟨⟨⟨J5,LS⟩,hq⟩,jt⟩:=RA
 have hd:=(hΓ _ _ _ KY).1 jt
 obtain⟨s3,LJ,he⟩:=jx.1 he
 generalize Wx:ps.getD 0 0=q at LS hq LJ he KY
 have hq:q < s.cO.length:=gJ hq
 obtain⟨vs,hy,SY⟩:=Dr (hF▸h.ev f)
 refine wpIn_rangeFunc λfn _=> ?_
 have db:=run_enterLoop_outer (P:=P) (w:=w) fn a.tmps ps as b
 have i1:=h.JE
 generalize Wa:w.alloc (.deferred (some []))=w1 at i1 db
 have oG:w1.heap.size=w.heap.size+1:=by rw[<-Wa];exact World.size_alloc ..
 generalize T5:({state:= .ready,pending:=none,fn,tmps:=a.tmps,params:=ps,assign:=as,body:=b,defers:=w.heap.size}:Loop)=r0 at db
 have ht:=Trans.alloc w1 (lM g w.heap.size (.own .eL 0)) (.loop r0) (.own (.id (.new q 0)) 0)
 obtain⟨i2,e2⟩:=i1.yP LS (c:= .qK ⟨y,ps,as,b⟩ (rU (eZ bm 0 s.cO)) 0) (p:=some ⟨w1.heap.size,0⟩) ht (λb hb=>⟨nr w1 _ hb,fE _ _ _ (by omega)⟩) (λhe=>
  ⟨⟨w1.heap.size,0⟩,r0,jP _ _ _,oP w1 _,fP _ _ _,by subst T5;exact⟨rfl,rfl,rfl⟩,by subst T5;exact(i1.frame bm).mono he,by subst T5;exact⟨rfl,rfl⟩⟩)
 generalize lM (lM g w.heap.size (.own .eL 0)) w1.heap.size (.own (.id (.new q 0)) 0)=g2 at i2 e2
 generalize hβ2:vF β (.new q 0) (some ⟨w1.heap.size,0⟩)=β2 at i2 e2
 generalize K6:w1.alloc (.loop r0)=w2 at i2 e2 db
 have Ve:VS ((s.born q [.obj 0 false (.qK ⟨y,ps,as,b⟩ (rU (eZ bm 0 s.cO)) 0)]).env w2 g2 β2) (.yl (.new q 0) 0) (.func (.yield w1.heap.size) #[] #[]):=by
  refine⟨[.func (.yield w1.heap.size) #[] #[]],?_,rfl⟩
  simp only[V]
  exact⟨_,rfl,mS LS _ _ _ _,λ_=>⟨⟨w1.heap.size,0⟩,by rw[<-hβ2];exact jP _ _ _,rfl⟩⟩
 have i3:=i2.put (some q) Ve
 have hF2:(s.born q [.obj 0 false (.qK ⟨y,ps,as,b⟩ (rU (eZ bm 0 s.cO)) 0)]).ev f= .fn h0 caps:=by rw[<-hF];cases f <;> rfl
 obtain⟨vs2,QS,Uh⟩:=Dr (hF2▸i2.ev f)
 have wx:vs2=vs:=by
  have e:Value.func (.func h0) #[] vs2.toArray= .func (.func h0) #[] vs.toArray:=by rw[<-QS,<-hy];cases f <;> rfl
  injection e with _ _ e
  simpa using congrArg Array.toList e
 subst wx
 have Bm:sO (((s.born q [.obj 0 false (.qK ⟨y,ps,as,b⟩ (rU (eZ bm 0 s.cO)) 0)]).put (some q) (.yl (.new q 0) 0)).env w2 g2 β2) (.yl (.new q 0) 0::caps.list) (.func (.yield w1.heap.size) #[] #[]::vs2):=by
  rw[En]
  exact⟨Ve,Hs Uh⟩
 unfold AS.call at LJ
 obtain⟨r2,h1,h2⟩:=au.1 LJ
 obtain⟨g',i4,e4,_,f1⟩:=gj r2.2 i3
 obtain⟨x,hx,k1,k2,key⟩:=yX (o:= {(default:Oper) with dst:=none}) i4 (va _ _) (uV rfl i3.bU e4 _ _ _ r2 Bm h1 f1) h2
 have UU:∀args:Array Value,(callFunc h0 args).run P w2= .ok (.enter h0 args) w2:=λargs=>by
  unfold GO at J5
  split at J5
  ·rename_i fn' PJ
   simp only[ak,bX,beq_eq_false_iff_ne]at J5
   obtain⟨c,hc⟩:=cv.1 J5.2
   unfold callFunc
   simp[PJ,J5.1,hc]
  ·cases J5
 have post:∀ {w3:World} {v:Value},iN C s3 ((({a with defers:=pF w.heap.size::a.defers}:Act).put (some q) (.func (.yield w1.heap.size) #[] #[])).put none v) w3->∀ {c:pv} {fr:az} {p:Nat},s3.cz (.new q 0)=some (.obj 0 false (.qK c fr p))->s3.slot q= .yl (.new q 0) 0->p≠1->
   ∃jump w4,(Instr.endLoop w1.heap.size).run P w3= .ok jump w4/\GM p (if p=0 then .ready else .done) jump/\iN C ((s3.aX (.new q 0) .dead).put (some q) .undef) {a with defers:=pF w.heap.size::a.defers} w4:=by
  intro w3 v P0 c fr p Bo LQ QO
  obtain⟨g3,β3,i5⟩:=P0
  obtain⟨pl,r3,hp,hb,hg,_,_,oJ⟩:=i5.bU (.new q 0) 0 false _ Bo
  have hp:β3 (.new q 0)=some pl:=hp
  have hb:w3.heap[pl.b]? =some (.loop r3):=hb
  have hg:g3 pl.b= .own (.id (.new q 0)) 0:=hg
  have OI:=i5.cO q
  rw[LQ]at OI
  obtain⟨cs,hV,hO⟩:=OI
  simp only[V]at hV
  obtain⟨l,rfl,_,fF⟩:=hV
  obtain⟨pl',hp',rfl⟩:=fF ⟨false,_,Bo⟩
  have hp':β3 (.new q 0)=some pl':=hp'
  rw[hp]at hp'
  obtain rfl:pl=pl':=by simpa using hp'
  have hO: [Value.func (.yield pl.b) #[] #[]]=[((({a with defers:=pF w.heap.size::a.defers}:Act).put (some q) (.func (.yield w1.heap.size) #[] #[])).put none v).tmps.getD q undef]:=hO
  have Bq:q < ({a with defers:=pF w.heap.size::a.defers}:Act).tmps.size:=by show q < a.tmps.size;rw[h.size];exact hq
  have hO2:((({a with defers:=pF w.heap.size::a.defers}:Act).put (some q) (.func (.yield w1.heap.size) #[] #[])).put none v).tmps.getD q undef= .func (.yield w1.heap.size) #[] #[]:=by
   show((({a with defers:=pF w.heap.size::a.defers}:Act).put (some q) (.func (.yield w1.heap.size) #[] #[]))).tmps.getD q undef=_
   rw[Ha,if_pos ⟨rfl,Bq⟩]
  rw[hO2]at hO
  have hl:pl.b=w1.heap.size:=by simpa using hO
  have Rz:r3.state≠ .busy:=by
   match p,oJ,QO with
   | 0,oJ,_=>rw[oJ.1];simp
   | 1,_,h=>exact absurd rfl h
   | 2,oJ,_=>rw[oJ.1];simp
   |_+3,oJ,_=>rw[oJ.1];simp
  have jt:pl.b < w3.heap.size:=(bT.1 hb).1
  refine⟨r3.pending,_,by rw[<-hl];exact run_endLoop hb Rz,?_,?_⟩
  ·match p,oJ,QO with
   | 0,oJ,_=>exact⟨rfl,oJ.2⟩
   | 1,_,h=>exact absurd rfl h
   | 2,oJ,_=>exact⟨rfl,oJ.2⟩
   |_+3,oJ,_=>exact⟨rfl,oJ.2⟩
  ·have i6:=i5.kill Bo hg (w':=w3.putObj pl.b (.loop {r3 with state:= .exhausted})) rfl rfl ⟨rfl,ay _⟩ (by simp) (λb' hb'=>World.putObj_heap_other hb')
   have i7:=i6.put (some q) (v:= .undef) (x:=({a with defers:=pF w.heap.size::a.defers}:Act).tmps.getD q undef) VS.undef
   have e:=N0 {a with defers:=pF w.heap.size::a.defers} q (.func (.yield w1.heap.size) #[] #[])
   refine⟨lM g3 pl.b .free,β3,?_⟩
   simp only[Act.put]at e i7
   rw[e]at i7
   exact i7
 have hc:Calls P h0 (.func (.yield w1.heap.size) #[] #[]::vs2).toArray w2 λe w'=>∃v,e= .returned v/\iN C s3 ((({a with defers:=pF w.heap.size::a.defers}:Act).put (some q) (.func (.yield w1.heap.size) #[] #[])).put none v) w':=by
  rcases hd _ _ _ _ _ _ _ k1 k2 hx with⟨_,hc⟩ | ⟨v,w',SX,_⟩
  ·exact hc.mono λe w' ⟨v,he,ha⟩=>⟨v,he,key v w' ha⟩
  ·rw[UU]at SX;cases SX
 refine⟨w1.heap.size,[pF w.heap.size],w2,⟨.fn (.func h0) vs2.toArray,#[.func (.yield w1.heap.size) #[] #[]]⟩,w2,h0,(.func (.yield w1.heap.size) #[] #[]::vs2).toArray,w2,?_,?_,λ_ _=>trivial,?_,λh=>(by cases h),?_⟩
 ·rw[oG];exact db
 ·have e:resolve a.eval (rangeCall f w1.heap.size) 0=Deferred.ofValue (a.eval f) #[.func (.yield w1.heap.size) #[] #[]]:=by simp[resolve,rangeCall,Act.eval]
  rw[e,hy]
  simp[Deferred.ofValue]
 ·have e:(#[.func (.yield w1.heap.size) #[] #[]]++vs2.toArray:Array Value)=(.func (.yield w1.heap.size) #[] #[]::vs2).toArray:=by simp
  rw[<-UU,<-e]
  rfl
 ·have h1:CallsIn (Fr none) (n - 1) P h0 (.func (.yield w1.heap.size) #[] #[]::vs2).toArray w2 _:=callsIn_wide.2 hc
  refine h1.mono λe w3 ⟨v,J8,P0⟩=> ?_
  subst J8
  show ∃jump w4,_/\_
  split at he
  rotate_left
  ·cases he
  rename_i c3 fr3 p3 q' Bo LQ
  split at he
  ·rename_i hq'
   obtain rfl:q'=q:=fk hq'
   obtain⟨jump,w4,LK,oJ,R3⟩:=post P0 Bo LQ (by decide)
   obtain⟨_,rfl⟩:=oJ
   exact⟨none,w4,LK,hk _ _ _ _ R3 he⟩
  ·rename_i hq'
   obtain rfl:q'=q:=fk hq'
   obtain⟨jump,w4,LK,oJ,R3⟩:=post P0 Bo LQ (by decide)
   obtain⟨_,rfl⟩:=oJ
   exact⟨_,w4,LK,wpIn_ret (hk _ _ _ _ R3 he)⟩
  ·rename_i i hq'
   obtain rfl:q'=q:=fk hq'
   obtain⟨jump,w4,LK,oJ,R3⟩:=post P0 Bo LQ (by simp)
   obtain⟨_,rfl⟩:=oJ
   exact⟨_,w4,LK,wpIn_exit (hk _ _ _ _ R3 he)⟩
  ·cases he
theorem lS{rd:Option Nat}{n:Nat}(hm:P.follows .mixedOrders=true)(hΓ:Sound P Γ)(hC:C.ok){N:Nat}(Kb:rd=none\/an.mr.isSome=true):∀(c:Code),lE P Γ an N (kk c)->∀ {R:Type} {r:R} (s:AS) (a:Act) (w:World) (k:Exit->AS->Option R) (Q:Exit->Act->World->Prop),
  iN C s a w->ev P Γ an N c s k=some r->(∀e s' a' w',iN C s' a' w'->k e s'=some r->Q e a' w')->c.wpIn (Fr rd) n P Q a w
 | .skip,hL,_,_,s,a,w,k,Q,hs,h,hk=>wpIn_skip (hk _ _ _ _ hs h)
 | .region id ops draw,hL,_,_,s,a,w,k,Q,hs,h,hk=>by
  simp only[ev]at h
  refine xP hC (λk Q h hk=> ?_) h hk
  cases draw with
  |true=>
   simp only at h
   split at h
   ·rename_i hE
    exact GN hm hΓ hs hE h λs' a' w' hs' hk'=>hk _ _ _ _ hs' hk'
   ·cases h
  |false=>exact wpIn_region_list (zO hΓ ops.toList hs h λs' a' w' hs' hk'=>hk _ _ _ _ hs' hk')
 | .seq x y,hL,_,_,s,a,w,k,Q,hs,h,hk=>by
  simp only[ev]at h
  refine wpIn_seq (xP hC (λk Q h hk=>lS hm hΓ hC Kb x hL.append.1 s a w k Q hs h hk) h λe s' a' w' hs' hk'=> ?_)
  cases e with
  |normal=>exact lS hm hΓ hC Kb y hL.append.2 s' a' w' k Q hs' hk' hk
  |_=>exact hk _ s' a' w' hs' hk'
 | .cond c x y,hL,_,_,s,a,w,k,Q,hs,h,hk=>by
  simp only[ev]at h
  split at h
  ·rename_i b hb
   have hc:a.eval c= .bool b:=by
    obtain⟨g,β,hi⟩:=hs
    have:=hi.ev c
    rw[hb]at this
    exact AA this
   refine wpIn_cond hc ?_
   cases b with
   |true=>exact lS hm hΓ hC Kb x hL.append.1 s a w k Q hs h hk
   |false=>exact lS hm hΓ hC Kb y hL.append.2 s a w k Q hs h hk
  ·cases h
 | .block id b,hL,_,_,s,a,w,k,Q,hs,h,hk=>by
  simp only[ev]at h
  refine wpIn_block (lS hm hΓ hC Kb b hL s a w _ _ hs h λe s' a' w' hs' hk'=> ?_)
  cases e with
  |exit i=>
   simp only at hk'
   simp only[Exit.inBlock]
   by_cases hi:i=id
   ·rw[if_pos hi]
    simp only[hi,decide_true]at hk'
    exact hk _ s' a' w' hs' hk'
   ·rw[if_neg hi]
    simp only[hi,decide_false]at hk'
    exact hk _ s' a' w' hs' hk'
  |_=>exact hk _ s' a' w' hs' hk'
 | .loop b,hL,R,r,s,a,w,k,Q,hs,h,hk=>by
  simp only[ev]at h
  obtain⟨s1,h1,h⟩:=jx.1 h
  have CG:=mF hC hs h1
  obtain⟨hL1,hL2⟩:=(hL:KX P Γ an N b/\lE P Γ an N (kk b))
  split at h
  ·rename_i le hle
   unfold MV at h
   cases EA:le.set with
   |some S=>
    rw[EA]at h
    simp only at h
    obtain⟨h2,h3⟩:=JU h
    obtain⟨n,hn⟩:=(hL1 le hle).2 S EA s1 h2
    refine wpIn_loop_rounds n (tZ (λs s1 a w hs hn=>mF hC hs hn) (λe s s1 a w hs hn=>mF hC hs hn) (λs a w k Q hs hb hk=>lS hm hΓ hC Kb b hL2 s a w k Q hs hb hk) (λe s' a' w' hs' he=> ?_) n s1 a w CG hn)
    obtain⟨x,Uj,Uk⟩:=Ms he
    obtain⟨y,hy,h4⟩:=jx.1 (h3 x Uj)
    rw[Uk,ax]at hy
    subst hy
    exact hk _ _ _ _ hs' h4
   |none=>
   rw[EA]at h
   simp only at h
   cases hr:le.run s1 with
   |none=>rw[hr]at h;cases h
   |some x=>
    rw[hr]at h
    simp only[av]at h
    obtain⟨y,hy,h⟩:=jx.1 h
    obtain⟨n,hn⟩:=(hL1 le hle).1 EA s1 x hr
    rw[hy]at hn
    refine wpIn_loop_rounds n (tZ (λs s1 a w hs hn=>mF hC hs hn) (λe s s1 a w hs hn=>mF hC hs hn) (λs a w k Q hs hb hk=>lS hm hΓ hC Kb b hL2 s a w k Q hs hb hk) (λe s' a' w' hs' he=> ?_) n s1 a w CG hn)
    simp only[ax]at he
    subst he
    exact hk e s' a' w' hs' h
  ·exact wpIn_loop_rounds N (tZ (λs s1 a w hs hn=>mF hC hs hn) (λe s s1 a w hs hn=>mF hC hs hn) (λs a w k Q hs hb hk=>lS hm hΓ hC Kb b hL2 s a w k Q hs hb hk) hk N s1 a w CG h)
 | .exit id,hL,_,_,s,a,w,k,Q,hs,h,hk=>wpIn_exit (hk _ _ _ _ hs h)
 | .ret,hL,_,_,s,a,w,k,Q,hs,h,hk=>wpIn_ret (hk _ _ _ _ hs h)
 | .rangeFunc f ps as b,_,_,_,s,a,w,k,Q,hs,h,hk=>by
  simp only[ev]at h
  rcases Kb with rfl | Kb
  ·exact Av hΓ hs h hk
  ·unfold ui at h
   split at h
   ·rename_i h0 _ _;rw[h0]at Kb;cases Kb
   ·cases h
 | .scope b,hL,_,_,s,a,w,k,Q,hs,h,hk=>by
  simp only[ev]at h
  refine wi (lS hm hΓ hC Kb b hL s a w _ _ hs h λe s' a' w' hs' hk'=> ?_)
  cases e with
  |goto l=>cases hk'
  |_=>exact hk _ s' a' w' hs' hk'
 | .label _,hL,_,_,s,a,w,k,Q,hs,h,hk=>wpIn_label (hk _ _ _ _ hs h)
 | .goto _,_,_,_,_,_,_,_,_,_,h,_=>by simp[ev]at h
 | .refuse _,_,_,_,_,_,_,_,_,_,h,_=>by simp[ev]at h
variable {g:Nat->lG} {β:Id->Option Pl} {s:AS} {a:Act} {w:World}
def Cb(tmps:Array Value)(r:ResultVar):Sem Value:=
 match r with
 | .tmp t=>pure (tmps.getD t undef)
 | .cell a t=>do loadVar t (<-asAddr (tmps.getD a undef))
theorem yo(h:Inv C g β s a w){r:ResultVar}{v:az}(he:(Cd P s r).eval=some v):∃x,(Cb a.tmps r).run P w= .ok x w/\VS (s.env w g β) v x:=by
 cases r with
 |tmp t=>
  simp only[Cd]at he
  obtain rfl:=aw.1 he
  exact⟨_,by simp[Cb],h.cO t⟩
 |cell t T=>
  simp only[Cd]at he
  obtain⟨ad,z,hy,hr,hv⟩:=BE h (h.cO t) he
  exact⟨z,by simp[Cb,hy,asAddr,hr],hv⟩
theorem yn(h:Inv C g β s a w){r:ResultVar}{o:Option Ty}{y:AS×az}(he:(Cc P s r o).eval=some y):
  ∃x g',(Cb a.tmps r).run P w= .ok x w/\Inv C g' β y.1 a w/\c7 (s.env w g β) (y.1.env w g' β)/\VS (y.1.env w g' β) y.2 x:=by
 cases o with
 |none=>
  simp only[Cc]at he
  obtain⟨v,h1,h2⟩:=au.1 he
  obtain rfl:=aw.1 h2
  obtain⟨x,hx,hv⟩:=yo h h1
  exact⟨x,g,hx,h,c7.refl _,hv⟩
 |some t=>
  simp only[Cc]at he
  obtain⟨v,h1,h2⟩:=au.1 he
  obtain⟨d,h3,h4⟩:=au.1 h2
  obtain rfl:=aw.1 h4
  obtain⟨x,hx,hv⟩:=yo h h1
  obtain⟨g',i1,e1,_,cs,hR,hO⟩:=sE h hv h3
  exact⟨x,g',hx,i1,e1,VS.of (a:= .d t d) (cs:=cs) (by simpa only[V]using hR) hO⟩
theorem wD:∀(l:List ResultVar) (ts:List (Option Ty)) {s:AS} {g:Nat->lG} (_:Inv C g β s a w) {y:AS×az},(yp P s l ts).eval=some y->
  ∃(xs:List Value) (g':Nat->lG),(l.mapM (Cb a.tmps)).run P w= .ok xs w/\Inv C g' β y.1 a w/\c7 (s.env w g β) (y.1.env w g' β)/\VC (y.1.env w g' β) y.2 xs/\xs.length=l.length
 |[],ts,s,g,h,y,he=>by
  simp only[yp]at he
  obtain rfl:=aw.1 he
  exact⟨[],g,by simp,h,c7.refl _,by simp[VC],rfl⟩
 |r::l,ts,s,g,h,y,he=>by
  simp only[yp]at he
  obtain⟨u,h1,h2⟩:=au.1 he
  obtain⟨hc,h2⟩:=aC.1 h2
  obtain⟨us,h3,h4⟩:=au.1 h2
  obtain rfl:=aw.1 h4
  obtain⟨x,g1,hx,i1,e1,hv⟩:=yn h h1
  obtain⟨xs,g2,Hj,i2,e2,wx,hl⟩:=wD l ts.tail i1 h3
  obtain⟨cs,hV,hO⟩:=(hv.mono e2).fg hc
  refine⟨x::xs,g2,?_,i2,e1.trans e2,by simp only[VC];exact⟨x,xs,cs,rfl,hV,hO,wx⟩,by simp[hl]⟩
  simp only[List.mapM_cons,Sem.run_bind,hx,Result.andThen_ok,Hj,Sem.run_pure]
theorem Lc{E:Env}{v:az}{xs:List Value}(h:VC E v xs):VS E v (.tuple xs.toArray):=by
 cases v <;> first
  | (simp only[VC]at h;done)
  |exact⟨xs,rfl,h⟩
  | (simp only[VC]at h;subst h;rfl)
theorem C2(h:Inv C g β s a w){fn:Func}{ts:List (Option Ty)}{y:AS×az}(he:(ER P fn ts s).eval=some y):
  ∃x g',(results fn a.tmps).run P w= .ok x w/\Inv C g' β y.1 a w/\VS (y.1.env w g' β) y.2 x:=by
 have key:∀xs:List Value,(fn.results.toList.mapM (Cb a.tmps)).run P w= .ok xs w->(results fn a.tmps).run P w= .ok (if h:xs.length=1 then xs[0] else .tuple xs.toArray) w:=λxs Hj=>by
  have e:results fn a.tmps=(do
   let vs <-fn.results.mapM (Cb a.tmps)
   pure (if h:vs.size=1 then vs[0] else .tuple vs)):=rfl
  rw[e,Array.mapM_eq_mapM_toList]
  simp only[map_eq_pure_bind,Sem.run_bind,Hj,Result.andThen_ok,Sem.run_pure]
  congr 1
 unfold ER at he
 split at he
 ·rename_i r hr
  obtain⟨x,g',hx,hi,_,hv⟩:=yn h he
  refine⟨x,g',?_,hi,hv⟩
  rw[key [x] (by simp[hr,hx])]
  simp
 ·rename_i rs jb
  obtain⟨xs,g',hx,hi,_,hv,hl⟩:=wD _ _ h he
  refine⟨.tuple xs.toArray,g',?_,hi,Lc hv⟩
  rw[key xs hx,dif_neg]
  rw[hl]
  intro h1
  obtain⟨r,hr⟩:=List.length_eq_one_iff.1 h1
  exact jb r hr
end
end Go.Ab
namespace Go.Ab
def pE(ids:List Id):lG->lG
 | .own (.id (.new i j)) k=> .own (.id (match idxOf (.new i j) ids with | some m=> .new 0 m | none=> .new 1 0)) k
 |l=>l
def Mw(β:Id->Option Pl)(ids:List Id):Id->Option Pl
 | .dB k=>β (.dB k)
 | .new 0 m=>(ids[m]?).bind β
 | .new (_+1) _=>none
theorem Kh{ids:List Id}{g:Nat->lG}{b off:Nat}(h:pj g b off):pj (λb=>pE ids (g b)) b off:=by
 unfold pj at*
 simp only
 cases hg:g b with
 |free=>simp[pE]
 |own o k=>
  rw[hg]at h
  cases o with
  |eL=>exact h
  |id i=>cases i <;> exact h
theorem Es(s:AS)(v:az):(s.yY v).Nodup:=(qC s _ _ _ (by simp)).filter _
theorem HR{s:AS}{v:az}{id:Id}(h:id∈s.yY v):∃i j,id= .new i j:=by
 unfold AS.yY at h
 have:=(eW.1 h).2
 cases id with
 |dB k=>simp[Id.OO]at this
 |new i j=>exact⟨i,j,rfl⟩
section
variable {P:Program} {Γ:qd} {C:Ctx} {g:Nat->lG} {β:Id->Option Pl} {s:AS} {a:Act} {w:World}
theorem Dq(h:Inv C g β s a w)(hC:C.ok){v:az}{x:Value}(hv:VS (s.env w g β) v x):qV C.E (s.fin v) x w:=by
 unfold AS.fin
 have hn:=Es s v
 have we:∀id∈s.yY v,∃i j,id= .new i j:=λid dz=>HR dz
 generalize s.yY v=ids at hn we
 generalize hG:s.Om ids v=G
 have r9:G.val=v.ja (wW ids):=by rw[<-hG];rfl
 have hold:∀k,G.st.cz (.dB k)=(s.cz (.dB k)).map (ea.fin ids):=λk=>by
  rw[<-hG]
  show(s.cT.map (ea.fin ids))[k]? =_
  rw[fv];rfl
 have U8:∀m,G.st.cz (.new 0 m)=(ids[m]?).map λid=>((s.cz id).getD .dead).fin ids:=λm=>by
  rw[<-hG]
  show(ids.map λid=>((s.cz id).getD .dead).fin ids)[m]? =_
  rw[fv]
 have VW:∀i m,G.st.cz (.new (i+1) m)=none:=λi m=>by simp[kr.st,AS.cz]
 let g':Nat->lG:=λb=>pE ids (g b)
 let β':=Mw β ids
 have J9:∀e ver fr c,ea.fin ids e= .obj ver fr c->∃c0,e= .obj ver fr c0/\c=c0.ja (wW ids):=λe ver fr c he=>by
  cases e with
  |dead=>cases he
  |obj v0 fr0 c0=>
   simp only[ea.fin,ea.obj.injEq]at he
   obtain⟨rfl,rfl,rfl⟩:=he
   exact⟨c0,rfl,rfl⟩
 have hle:sS (wW ids) (s.env w g β) (G.st.env w g' β'):=by
  refine⟨⟨λb off v ⟨h1,h2⟩=>⟨h1,Kh h2⟩,λb ob h1 h2=>⟨by show pE ids (g b)= .free;have h1:g b= .free:=h1;rw[h1];rfl,h2⟩⟩,λid ver r hr hb=> ?_⟩
  obtain⟨yI,AE⟩:=hb
  have yI:s.cz id≠none:=yI
  have AE:∀v fr c,s.cz id=some (.obj v fr c)->ver<=v:=AE
  cases id with
  |dB k=>
   simp only[wW,ax]at hr
   subst hr
   refine⟨⟨?_,λv fr c hh=> ?_⟩,λ⟨fr,c,hh⟩=>⟨?_,rfl⟩⟩
   ·show G.st.cz (.dB k)≠none
    rw[hold];simpa using yI
   ·have hh:G.st.cz (.dB k)=some (.obj v fr c):=hh
    rw[hold,fB]at hh
    obtain⟨e,he,hh⟩:=hh
    obtain⟨c0,rfl,_⟩:=J9 _ _ _ _ hh
    exact AE v fr c0 he
   ·have hh:G.st.cz (.dB k)=some (.obj ver fr c):=hh
    rw[hold,fB]at hh
    obtain⟨e,he,hh⟩:=hh
    obtain⟨c0,rfl,_⟩:=J9 _ _ _ _ hh
    exact⟨fr,c0,he⟩
  |new i j=>
   simp only[wW]at hr
   split at hr
   ·rename_i m hm
    simp only[ax]at hr
    subst hr
    have dz:=nY hm
    obtain⟨e,he⟩:=Option.ne_none_iff_exists'.1 yI
    have hg:G.st.cz (.new 0 m)=some (e.fin ids):=by rw[U8,dz];simp[he]
    refine⟨⟨?_,λv fr c hh=> ?_⟩,λ⟨fr,c,hh⟩=>⟨?_,?_⟩⟩
    ·show G.st.cz (.new 0 m)≠none
     rw[hg];simp
    ·have hh:G.st.cz (.new 0 m)=some (.obj v fr c):=hh
     rw[hg,ax]at hh
     obtain⟨c0,rfl,_⟩:=J9 _ _ _ _ hh
     exact AE v fr c0 he
    ·have hh:G.st.cz (.new 0 m)=some (.obj ver fr c):=hh
     rw[hg,ax]at hh
     obtain⟨c0,rfl,_⟩:=J9 _ _ _ _ hh
     exact⟨fr,c0,he⟩
    ·show(ids[m]?).bind β=β (.new i j)
     rw[dz];rfl
   ·cases hr
 have H3:Trans C.E.w w C.E.g g':=by
  have h0:=h.trans
  refine⟨h0.os,h0.tape,h0.output,h0.size,λb hb=> ?_⟩
  have h1:=h0.yO b hb
  show match C.E.g b with | .free=>pE ids (g b)= .free/\_ | .own .eL k=>pE ids (g b)= .own .eL k/\_ | .own (.id _) k=>(pE ids (g b)= .free\/∃i k',pE ids (g b)= .own (.id i) k'/\k<=k')/\_
  cases Aq:C.E.g b with
  |free=>simp only[Aq]at h1 ⊢;rw[h1.1];exact⟨rfl,h1.2⟩
  |own o k=>cases o with
   |eL=>simp only[Aq]at h1 ⊢;rw[h1.1];exact⟨rfl,h1.2⟩
   |id i=>
    simp only[Aq]at h1 ⊢
    refine⟨?_,h1.2⟩
    rcases h1.1 with h2 | ⟨i',k',h2,h3⟩
    ·rw[h2];exact .inl rfl
    ·rw[h2]
     right
     cases i' with
     |dB m=>exact⟨_,k',rfl,h3⟩
     |new i j=>exact⟨_,k',rfl,h3⟩
 have NH:jd (G.st.env w g' β'):=by
  intro id ver fr c dz
  have dz:G.st.cz id=some (.obj ver fr c):=dz
  cases id with
  |dB k=>
   rw[hold,fB]at dz
   obtain⟨e,he,dz⟩:=dz
   obtain⟨c0,rfl,rfl⟩:=J9 _ _ _ _ dz
   refine qg hle (h.bU (.dB k) ver fr c0 he) rfl λpl _=>⟨rfl,λn hg=> ?_,λhg=> ?_⟩
   ·have hg:g pl.b= .own (.id (.dB k)) n:=hg
    show pE ids (g pl.b)=_
    rw[hg];rfl
   ·have hg:g pl.b= .free:=hg
    show pE ids (g pl.b)=_
    rw[hg];rfl
  |new i m=>
   cases i with
   |succ i=>rw[VW]at dz;cases dz
   |zero=>
    rw[U8,fB]at dz
    obtain⟨id0,PO,dz⟩:=dz
    obtain⟨c0,he,rfl⟩:=J9 _ _ _ _ dz
    have db:s.cz id0=some (.obj ver fr c0):=by
     cases hs:s.cz id0 with
     |none=>rw[hs]at he;cases he
     |some e=>rw[hs]at he;simp only[fq]at he;rw[he]
    obtain⟨i0,j0,rfl⟩:=we id0 (dj PO)
    refine qg hle (h.bU (.new i0 j0) ver fr c0 db) (by show(ids[m]?).bind β=_;rw[PO];rfl) λpl _=>⟨rfl,λn hg=> ?_,λhg=> ?_⟩
    ·have hg:g pl.b= .own (.id (.new i0 j0)) n:=hg
     show pE ids (g pl.b)=_
     rw[hg]
     simp only[pE,sV hn PO]
    ·have hg:g pl.b= .free:=hg
     show pE ids (g pl.b)=_
     rw[hg];rfl
 have ho:∀id ver,C.E.uw id ver->∃k,id= .dB k:=λid ver hb=>by
  cases id with
  |dB k=>exact⟨k,rfl⟩
  |new i j=>exact absurd (hC.1 i j) hb.1
 refine⟨g',β',by rw[r9];exact wJ hle hv,NH,H3,Trans.mem (E:=C.E) (E':=G.st.env w g' β') H3,λid ver hb=> ?_,λid ver hb hc=> ?_⟩
 ·obtain⟨k,rfl⟩:=ho id ver hb
  exact(hle.ref (.dB k) ver (.dB k,ver) rfl (h.le.uw _ _ hb)).1
 ·obtain⟨k,rfl⟩:=ho id ver hb
  obtain⟨h1,h2⟩:=(hle.ref (.dB k) ver (.dB k,ver) rfl (h.le.uw _ _ hb)).2 hc
  obtain⟨h3,h4⟩:=h.le.cur _ _ hb h1
  exact⟨h3,h2.trans h4⟩
theorem sO.len{E:Env}:∀ {as:List az} {vs:List Value},sO E as vs->as.length=vs.length
 |[],[],_=>rfl
 |_::_,_::_,⟨_,h⟩=>by simp[sO.len h]
 |[],_::_,h=>h.elim
 |_::_,[],h=>h.elim
theorem sO.get{E:Env}:∀ {as:List az} {vs:List Value},sO E as vs->∀i,VS E (as.getD i .undef) (vs.getD i undef)
 |[],[],_,i=>by simpa using VS.undef
 |_::_,_::_,⟨h,_⟩,0=>by simpa using h
 |_::_,_::_,⟨_,h⟩,i+1=>by simpa using sO.get h i
 |[],_::_,h,_=>h.elim
 |_::_,[],h,_=>h.elim
theorem KO{w:World}{g:Nat->lG}{β:Id->Option Pl}{fn:Func}{args:List az}{cT:List ea}{kC:List Value}(hv:sO ((gw cT).env w g β) args kC)(ho:jd ((gw cT).env w g β)):
  Inv ⟨(gw cT).env w g β⟩ g β (start fn args cT) {tmps:=kC.toArray++Array.replicate (fn.ntmps - kC.toArray.size) undef,defers:=[]} w:=by
 have hl:=hv.len
 have db:(start fn args cT).cz=(gw cT).cz:=by
  funext id
  cases id with
  |dB k=>rfl
  |new i j=>
   simp only[start,gw,AS.cz,aF,List.getElem?_replicate]
   split <;> simp
 have HY:(start fn args cT).env w g β=(gw cT).env w g β:=by simp only[AS.env,db]
 refine⟨⟨jS,λ_ h=>by cases h⟩,by simp[start,hl],λi=> ?_,by rw[HY];exact ho,Trans.refl _ _,by rw[HY];exact c7.refl _⟩
 rw[HY]
 have h1:(start fn args cT).slot i=args.getD i .undef:=by
  simp only[start,AS.slot,aF,List.getElem?_append,List.getElem?_replicate]
  split
  ·rfl
  ·rw[dS (l:=args) (by omega)]
   split <;> rfl
 have h2:(kC.toArray++Array.replicate (fn.ntmps - kC.toArray.size) undef).getD i undef=kC.getD i undef:=by
  simp only[cY,aF,j1,Array.getElem?_replicate]
  simp only[ir,List.getElem?_toArray]
  split
  ·rfl
  ·rw[dS (l:=kC) (by omega)]
   split <;> rfl
 rw[h1,h2]
 exact hv.get i
theorem Inv.Qx{C:Ctx}{g:Nat->lG}{β:Id->Option Pl}{s:AS}{a:Act}{w:World}(h:Inv C g β s a w){D:Nat}{ds:List Deferred}(hd:a.defers=pF D::ds):
  (Instr.takeDeferred D).run P w= .ok [] (w.putObj D (.deferred none))/\Inv C g β s {a with defers:=ds} (w.putObj D (.deferred none)):=by
 obtain⟨hn,tW⟩:=h.defers
 rw[hd]at hn tW
 obtain⟨D',e,hD,hh,hg⟩:=tW _ (aN ..)
 have e:Deferred.mk (.collected D) #[]=Deferred.mk (.collected D') #[]:=e
 injection e with e _
 injection e with e
 subst e
 have jt:=(bT.1 hh).1
 refine⟨run_takeDeferred hh,?_⟩
 have other:∀b,b≠D->(w.putObj D (.deferred none)).heap[b]? =w.heap[b]? :=λb hb=>World.putObj_heap_other hb
 have tE:∀b off v,w.cell? ⟨b,off,none⟩=some v->b≠D:=λb off v hv e=>by
  subst e
  simp[World.cell?,hh]at hv
 have tf:oO (s.env w g β) (s.env (w.putObj D (.deferred none)) g β):=by
  refine⟨λb off v ⟨h1,h2⟩=>⟨?_,h2⟩,λb ob h1 h2=>⟨h1,?_⟩⟩
  ·have h1:w.cell? ⟨b,off,none⟩=some v:=h1
   show(w.putObj D (.deferred none)).cell? ⟨b,off,none⟩=some v
   rw[World.cell?_of_block (other b (tE b off v h1))]
   exact h1
  ·have h1:g b= .free:=h1
   have h2:w.heap[b]? =some ob:=h2
   show(w.putObj D (.deferred none)).heap[b]? =some ob
   rw[other b λe=>by rw[e,hg]at h1;cases h1]
   exact h2
 have hle:c7 (s.env w g β) (s.env (w.putObj D (.deferred none)) g β):=⟨tf,λ_ _ h=>h,λ_ _ _ h=>⟨h,rfl⟩⟩
 have jb:∀ {id:Id} {v:Nat} {fr:Bool} {c:az} {pl:Pl},s.cz id=some (.obj v fr c)->β id=some pl->pl.b≠D:=λhs hp e=>by
  have:=((h.bU _ _ _ _ hs).label hp).2
  have this:(∃k,g _= .own (.id _) k)\/(_/\g _= .free):=this
  rw[e,hg]at this
  rcases this with⟨k,hk⟩ | ⟨_,hk⟩
  ·cases hk
  ·cases hk
 refine⟨⟨(dK.1 hn).2,λd hd'=> ?_⟩,h.size,λi=>(h.cO i).mono hle,λid ver fr c hs=> ?_,?_,h.le.trans hle⟩
 ·obtain⟨D2,e1,e2,e3,e4⟩:=tW d (aL _ hd')
  refine⟨D2,e1,e2,?_,e4⟩
  rw[other D2 λe=>(dK.1 hn).1 (by rw[<-e,<-e1];exact hd')]
  exact e3
 ·exact qf.mono hle (h.bU id ver fr c hs) rfl (λpl hp=>⟨other _ (jb hs hp),rfl⟩) λq vq k v l hq _=>⟨⟨k,v,l,hq⟩,λpl hp=>⟨other _ (jb hq hp),rfl⟩⟩
 ·have ht:=h.trans
  refine⟨ht.os,ht.tape,ht.output,?_,λb hb=> ?_⟩
  ·have:=ht.size
   simpa[World.putObj]using this
  ·have h1:=ht.yO b hb
   have hbD:b≠D:=by omega
   have hc:∀off v,w.cell? ⟨b,off,none⟩=some v->(w.putObj D (.deferred none)).cell? ⟨b,off,none⟩=some v:=λoff v hv=>by
    rw[World.cell?_of_block (other b hbD)];exact hv
   rw[other b hbD]
   split at h1
   ·exact h1
   ·exact h1
   ·exact⟨h1.1,λoff v ho hv=>hc off v (h1.2 off v ho hv)⟩
theorem zY{C:Ctx}{g:Nat->lG}{β:Id->Option Pl}{s:AS}{fn:Func}{R:Ending->World->Prop}:∀(ds:List Deferred) {a:Act} {w:World},Inv C g β s a w->a.defers=ds->
  (∀a2 w2,Inv C g β s a2 w2->a2.tmps=a.tmps->∃v,(results fn a.tmps).run P w2= .ok v w2/\R (.returned v) w2)->LeavesInM Fence.wide 0 P fn a.tmps R ds .returning w
 |[],a,w,h,hd,hk=>hk a w h rfl
 |d::ds,a,w,h,hd,hk=>by
  obtain⟨D,e,_⟩:=h.defers.2 d (by rw[hd];exact aN ..)
  subst e
  obtain⟨h1,h2⟩:=h.Qx (P:=P) hd
  exact⟨by simp,.inl ⟨D,_,rfl,h1,zY (fn:=fn) (R:=R) ds (a:= {a with defers:=ds}) h2 rfl hk⟩⟩
theorem FT{cT:List ea}{w:World}{g:Nat->lG}{β:Id->Option Pl}(h:cT.all ea.first=true){k v:Nat}{fr:Bool}{c:az}(hk:((gw cT).env w g β).s (.dB k)=some (.obj v fr c)):v=0:=by
 have hk:cT[k]? =some (.obj v fr c):=by simpa[AS.env,gw,AS.cz]using hk
 have:=dw.1 h _ (dj hk)
 exact fk this
theorem mo.sq(hm:P.follows .mixedOrders=true)(hΓ:Sound P Γ){f:FuncId}{fn:Func}(hf:P.funcs[f]? =some fn)(hb:fn.body.isSome=true)(u5:(fn.name== "runtime.NumGoroutine")=false){en:Entry}{an:v7}{N:Nat}(hL:∀c,fn.body=some c->lE P Γ an N (kk c))
  (h:∀args cT x,en.run args cT=some x->JH P Γ an N fn args cT some=some (en.out args cT x)) (M3:an.mr=none):mo P f en:=by
 intro w g β args cT kC x hv ho hx
 left
 obtain⟨c,hc⟩:=cv.1 hb
 refine⟨?_,?_⟩
 ·unfold callFunc
  have hname':¬fn.name= "runtime.NumGoroutine" :=by simpa using u5
  simp[hf,hname',hc]
 ·have hN:=h args cT x hx
  unfold JH at hN
  rw[M3,hc]at hN
  simp only at hN
  split at hN
  ·cases hN
  rename_i hF
  have hC:(Ctx.mk ((gw cT).env w g β)).ok:=⟨λi j=>by simp[AS.env,gw,AS.cz],λk v fr c hk=>FT hF hk⟩
  refine callsIn_wide.1 (callsIn_of_wp_marks (F:=Fence.wide) (n:=0) hf hc trivial (lS (rd:=none) (C:=⟨(gw cT).env w g β⟩) hm hΓ hC (.inl rfl) c (hL c hc) _ _ w _ _ ⟨g,β,KO hv ho⟩ hN λe s' a' w' hs' hk'=> ?_))
  have fin:(finish P an fn s').run (λv=>some v)=some (en.out args cT x)->LeavesInM Fence.wide 0 P fn a'.tmps (λe w'=>∃v,e= .returned v/\qV ((gw cT).env w g β) (en.out args cT x) v w') a'.defers .returning w':=λhr=>by
   obtain⟨G,h1,h2⟩:=jx.1 hr
   simp only[ax]at h2
   subst h2
   unfold finish at h1
   obtain⟨sd,Tp,h1⟩:=au.1 h1
   obtain⟨s2,h3,h4⟩:=au.1 h1
   obtain⟨s3,Vq,h4⟩:=au.1 h4
   obtain⟨s4,Vr,h4⟩:=au.1 h4
   obtain⟨y,h5,h6⟩:=au.1 h4
   obtain⟨g1,β1,Oy⟩:=hs'
   refine zY a'.defers Oy rfl λa2 w2 TF V6=> ?_
   obtain⟨g0,β0,NB⟩:=rW _ ⟨g1,β1,TF⟩ Tp
   obtain⟨g',β',hi⟩:=xq _ (mc hC _ ⟨g0,β0,NB.drop _⟩ h3) Vq
   have hi:=tP hC _ hi Vr
   obtain⟨z,g2,h7,h8,h9⟩:=C2 hi h5
   refine⟨z,by rw[<-V6];exact h7,z,rfl,?_⟩
   rw[<-aw.1 h6]
   exact Dq h8 hC h9
  cases e with
  |normal=>exact fin hk'
  |ret=>exact fin hk'
  |_=>cases hk'
theorem wE:∀(l:List (Tmp×Value)) (t:Array Value),(l.foldl (λtmps (x:Tmp×Value)=>tmps.setIfInBounds x.1 x.2) t).size=t.size
 |[],_=>rfl
 |x::l,t=>by rw[cZ,wE l];simp
theorem vu:∀(l:List (Tmp×az)) (fs:List az),(rF l fs).length=fs.length
 |[],_=>rfl
 |x::l,fs=>by rw[rF,vu l];simp
theorem wF{E:Env}:∀(ps:List Tmp) (vs:List az) (us:List Value) (fs:List az) (t:Array Value),sO E vs us->fs.length=t.size->(∀i,VS E (fs.getD i .undef) (t.getD i undef))->
  ∀i,VS E ((rF (ps.zip vs) fs).getD i .undef) (((ps.zip us).foldl (λtmps (x:Tmp×Value)=>tmps.setIfInBounds x.1 x.2) t).getD i undef)
 |[],_,_,fs,t,_,_,h=>by simpa[rF]using h
 |_::_,[],[],fs,t,_,_,h=>by simpa[rF]using h
 |_::_,[],_::_,_,_,h,_,_=>h.elim
 |_::_,_::_,[],_,_,h,_,_=>h.elim
 |p::ps,v::vs,u::us,fs,t,⟨h1,h2⟩,hl,h=>by
  simp only[List.zip_cons_cons,rF,cZ]
  refine wF ps vs us _ _ h2 (by simpa using hl) λi=> ?_
  simp only[aF,cY,List.getElem?_set,ee,hl]
  have hi:=h i
  simp only[aF,cY]at hi
  split
  ·split
   ·simpa using h1
   ·simpa using VS.undef
  ·exact hi
theorem sO.split{E:Env}:∀(n:Nat) {as:List az} {us ts:List Value},us.length=n->sO E as (us++ts)->sO E (as.take n) us/\sO E (as.drop n) ts
 | 0,as,[],ts,_,h=>by simpa using⟨trivial,h⟩
 | 0,as,_::_,ts,hn,h=>by simp at hn
 |n+1,as,[],ts,hn,h=>by simp at hn
 |n+1,[],u::us,ts,_,h=>h.elim
 |n+1,a::as,u::us,ts,hn,⟨h1,h2⟩=>by
  have:=sO.split n (by simpa using hn) h2
  exact⟨⟨h1,this.1⟩,this.2⟩
theorem IE{w:World}{g:Nat->lG}{β:Id->Option Pl}{ps:Array Tmp}{args:List az}{cT:List ea}{us ts:List Value}(hl:us.length=ps.size)(hv:sO ((gw cT).env w g β) args (us++ts))(ho:jd ((gw cT).env w g β)):
  Inv ⟨(gw cT).env w g β⟩ g β (Co ps.toList args cT) {tmps:=(ps.zip us.toArray).foldl (λtmps (t,a)=>tmps.setIfInBounds t a) ts.toArray,defers:=[]} w:=by
 obtain⟨h1,h2⟩:=sO.split ps.toList.length (by simpa using hl) hv
 have db:(Co ps.toList args cT).cz=(gw cT).cz:=by
  funext id
  cases id with
  |dB k=>rfl
  |new i j=>
   simp only[Co,gw,AS.cz,aF,List.getElem?_replicate]
   split <;> simp
 have HY:(Co ps.toList args cT).env w g β=(gw cT).env w g β:=by simp only[AS.env,db]
 have e:(ps.zip us.toArray).foldl (λtmps (x:Tmp×Value)=>tmps.setIfInBounds x.1 x.2) ts.toArray=(ps.toList.zip us).foldl (λtmps (x:Tmp×Value)=>tmps.setIfInBounds x.1 x.2) ts.toArray:=by
  rw[<-Array.foldl_toList,Array.toList_zip]
 have e':(ps.zip us.toArray).foldl (λtmps (t,a)=>tmps.setIfInBounds t a) ts.toArray=(ps.toList.zip us).foldl (λtmps (x:Tmp×Value)=>tmps.setIfInBounds x.1 x.2) ts.toArray:=e
 rw[e']
 refine⟨⟨jS,λ_ h=>by cases h⟩,?_,λi=> ?_,by rw[HY];exact ho,Trans.refl _ _,by rw[HY];exact c7.refl _⟩
 ·show Array.size _=(rF _ _).length
  rw[wE,vu]
  simpa using h2.len.symm
 ·rw[HY]
  exact wF ps.toList _ us _ _ h1 (by simpa using h2.len) (λi=>by simpa[cY,aF]using h2.get i) i
theorem zF.sq(hm:P.follows .mixedOrders=true)(hΓ:Sound P Γ){y:Nat}{fn:Func}{en:Entry}{an:v7}{N:Nat}(hL:lE P Γ an N (kk (um P y).as++kk (um P y).b))
  (h:∀args cT x,en.run args cT=some x->JH P Γ an N fn args cT some=some (en.out args cT x)) (M3:an.mr=some y):zF P y en:=by
 intro w g β args cT kC x hv ho hx l us ts f rd n R8 oG
 have hN:=h args cT x hx
 unfold JH at hN
 rw[M3]at hN
 simp only at hN
 unfold MG at hN
 split at hN
 rotate_left
 ·cases hN
 rename_i args
 split at hN
 ·cases hN
 rename_i hF
 subst R8
 obtain⟨P3,zP⟩:=hv
 have hC:(Ctx.mk ((gw cT).env w g β)).ok:=⟨λi j=>by simp[AS.env,gw,AS.cz],λk v fr c hk=>FT hF hk⟩
 obtain⟨cs,hV,hO⟩:=P3
 simp only[V]at hV
 obtain⟨l',rfl,J4,fF⟩:=hV
 have hl:l'=l:=by simpa[gd,az.agg]using hO
 subst hl
 have at_l:∀ {s:AS} {g1:Nat->lG} {β1:Id->Option Pl} {a:Act} {w1:World} {pl:Pl},Inv ⟨(gw cT).env w g β⟩ g1 β1 s a w1->(s.env w1 g1 β1).cur (.dB 0) 0->β1 (.dB 0)=some pl->pl.b=l':=by
  intro s g1 β1 a w1 pl hi hc hp
  obtain⟨c1,c2⟩:=hi.le.cur _ _ J4 hc
  obtain⟨pl',hp',rfl⟩:=fF c1
  have c2:β1 (.dB 0)=β (.dB 0):=c2
  have hp':β (.dB 0)=some pl':=hp'
  rw[c2,hp']at hp
  exact(congrArg Pl.b (bB hp)).symm
 refine roundIn_of_wpIn (F:=Fr rd) trivial ?_
 have H2:some l'=none\/an.mr.isSome=true:= .inr (by rw[M3];rfl)
 refine lS (rd:=some l') hm hΓ hC H2 _ hL.append.1 _ _ w _ _ ⟨g,β,IE oG zP ho⟩ hN λe s1 a1 w1 CG Ja=> ?_
 cases e with
 |normal=>
  simp only at Ja
  cases h1:s1.zo 0 1 with
  |none=>rw[h1]at Ja;cases Ja
  |some s2=>
   rw[h1]at Ja
   simp only[av]at Ja
   obtain⟨g1,β1,Oy⟩:=CG
   obtain⟨pl,r,hp,hc,hb,oJ,RV⟩:=yj Oy h1
   have:=at_l Oy hc hp
   subst this
   refine⟨_,run_beginRound hb oJ.1,?_⟩
   have TF:=RV {r with state:= .busy} rfl rfl rfl rfl rfl
   refine lS (rd:=some pl.b) hm hΓ hC H2 _ hL.append.2 _ _ _ _ _ ⟨_,_,TF⟩ Ja λe s3 a3 w3 P0 ND=> ?_
   cases Ow:Ol e with
   |none=>rw[Ow]at ND;cases ND
   |some p=>
    rw[Ow]at ND
    simp only[av]at ND
    cases h4:s3.zo 1 p with
    |none=>rw[h4]at ND;cases ND
    |some s4=>
     rw[h4]at ND
     simp only at ND
     obtain⟨g3,β3,U0⟩:=P0
     obtain⟨pl3,r3,TY,Oq,UT,V5,hnext3⟩:=yj U0 h4
     have VN:=at_l U0 Oq TY
     rw[VN]at UT hnext3
     have fin:∀(jump:Option Code) (b:Bool),Nat.beq p 0=jump.isNone->GM p (if jump.isNone then .ready else .done) jump->
       ∃v w',(Instr.endRound pl.b jump).run P w3= .ok v w'/\∃v',Ending.returned v= .returned v'/\qV ((gw cT).env w g β) (en.out (.yl (.dB 0) 0::args) cT x) v' w':=λjump b hb hr=>by
      have VI:=hnext3 {r3 with state:=if jump.isNone then .ready else .done,pending:=jump} rfl rfl rfl rfl hr
      refine⟨_,_,run_endRound jump UT,_,rfl,?_⟩
      obtain⟨G,k1,k2⟩:=jx.1 ND
      simp only[ax]at k2
      subst k2
      unfold IZ at k1
      obtain⟨sd,m1,k1⟩:=au.1 k1
      obtain⟨s5,m2,k1⟩:=au.1 k1
      obtain⟨s6,m3,k1⟩:=au.1 k1
      obtain⟨s7,m4,k1⟩:=au.1 k1
      obtain⟨g0,β0,NB⟩:=rW _ ⟨_,_,VI⟩ m1
      obtain⟨g',β',hi⟩:=xq _ (mc hC _ ⟨g0,β0,NB.drop _⟩ m2) m3
      have hi:=tP hC _ hi m4
      rw[<-aw.1 k1,hb]
      exact Dq hi hC (pR _)
     cases e with
     |normal=>
      obtain rfl:=bB Ow
      exact fin none true rfl ⟨rfl,rfl⟩
     |ret=>
      obtain rfl:=bB Ow
      exact fin (some .ret) false rfl ⟨rfl,rfl⟩
     |exit i=>
      obtain rfl:=bB Ow
      exact fin (some (.exit i)) false rfl ⟨rfl,rfl⟩
     |goto _=>cases Ow
     |panic _=>cases Ow
     |outgrown=>cases Ow
 |_=>cases Ja
end
end Go.Ab
namespace Go.Ab
def dP(k:IntKind)(n:Int):Int:=k.wrap n
def bt(k:IntKind)(x y:Int):Int:=k.wrap (x+y)
def dp(k:IntKind)(x y:Int):Int:=k.wrap (x - y)
def eR(k:IntKind)(x y:Int):Int:=k.wrap (x*y)
def jX(k:IntKind)(x y:Int):Int:=k.wrap (x.tdiv y)
def gv(x y:Int):Int:=x.tmod y
def nk(k:IntKind)(x y:Int):Int:=k.wrap (x*2^(min y.toNat k.bits))
def cr(k:IntKind)(x y:Int):Int:=x.fdiv (2^(min y.toNat k.bits))
def NL(k:IntKind)(x:Int):Int:=cW .xor k (if k.signed then -1 else k.max) x
def wy(x y:Int):Bool:=x==y
def sR(x y:Int):Bool:=x !=y
def ik(x y:Int):Bool:=decide (x < y)
def zS(x y:Int):Bool:=decide (x<=y)
def nc(x y:Int):Bool:=decide (x > y)
def qQ(x y:Int):Bool:=decide (x>=y)
def seq(x y:ByteArray):Bool:=x.toList==y.toList
def GR(a:ByteArray)(i:Int):Int:=((a.data.toList.getD i.toNat 0).toNat:Int)
def sQ(x y:Int):Int:=if y < x then y else x
def imax(x y:Int):Int:=if x < y then y else x
def eY(i n:Int):Bool:=decide (0<=i/\i < n)
def inc(i n:Int):Bool:=decide (0<=i/\i<=n)
def kA(y:Int):Bool:=decide (0<=y)
def iK(y:Int):Bool:= !(decide (y=0))
open Classical in
def eO.of{D X:Type}(st:D->AS)(aU:D->Prop)(F:D->X)(out:X->Out (Exit×AS)):eO:=
 {X,run:=λs=>if h:∃d,st d=s/\aU d then some (F h.choose) else none,out}
open Classical in
theorem eO.sq{D X:Type}{st:D->AS}{aU:D->Prop}{F:D->X}{out:X->Out (Exit×AS)}(HZ:∀d d',st d=st d'->d=d'){d:D}(h:aU d):(eO.of st aU F out).run (st d)=some (F d):=by
 have hex:∃d',st d'=st d/\aU d':=⟨d,rfl,h⟩
 show(if h:∃d',st d'=st d/\aU d' then some (F h.choose) else none)=_
 rw[dif_pos hex,HZ _ _ hex.choose_spec.1]
open Classical in
def JD.of{X:Type}(an:mN)(st:X->AS):JD:=
 {an,X,SZ:=λe s=>if h:e= .normal/\∃x,st x=s then some h.2.choose else none,out:=λx=> .ok (.normal,st x),
  ok:=λe s x h=>by
   by_cases h1:e= .normal/\∃x,st x=s
   ·rw[dif_pos h1]at h
    have h2:=h1.2.choose_spec
    rw[bB h]at h2
    rw[h1.1,<-h2]
    rfl
   ·rw[dif_neg h1]at h;cases h}
open Classical in
open Classical in
theorem KX.of{P:Program}{Γ:qd}{an:v7}{N:Nat}{fn:Func}{i:Nat}{D X:Type}{st:D->AS}{aU:D->Prop}{F:D->X}{out:X->Out (Exit×AS)}
  (hle:an.iA (eB (nV fn i))=some (eO.of st aU F out)) (h:∀d,aU d->∃n,Gm P Γ an N fn i n (st d) (λe s=>some (e,s))=(out (F d)).eval):KX P Γ an N (nV fn i):=by
 intro le hle'
 rw[hle]at hle'
 simp only[ax]at hle'
 subst hle'
 refine⟨λ_ s x hx=> ?_,λS hS=>by cases hS⟩
 change (if h:∃d',st d'=s/\aU d' then some (F h.choose) else none)=some x at hx
 split at hx
 ·rename_i hex
  obtain rfl:=bB hx
  obtain⟨h1,h2⟩:=hex.choose_spec
  obtain⟨n,hn⟩:=h _ h2
  refine⟨n,?_⟩
  show Gm P Γ an N fn i n s _=_
  rw[h1]at hn
  exact hn
 ·cases hx
theorem DC(P:Program)(Γ:qd)(an:v7)(N:Nat)(fn:Func)(i:Nat){R:Type}(n:Nat)(s:AS)(k:Exit->AS->Option R):
  Gm P Γ an N fn i (n+1) s k=zf P Γ an N fn i s (λs1=>Gm P Γ an N fn i n s1 k) k:=rfl
theorem Ji{P:Program}{Γ:qd}{an:v7}{N:Nat}{fn:Func}{i:Nat}{D X:Type}{st:D->AS}{aU:D->Prop}{F:D->X}{out:X->Out (Exit×AS)}(μ:D->Nat)
  (h:∀d,aU d->(∃d',aU d'/\μ d' < μ d/\F d'=F d/\∀ {R:Type} (kn:AS->Option R) (kx:Exit->AS->Option R),zf P Γ an N fn i (st d) kn kx=kn (st d'))\/
   (∃r,(out (F d)).eval=some r/\∀ {R:Type} (kn:AS->Option R) (kx:Exit->AS->Option R),zf P Γ an N fn i (st d) kn kx=kx r.1 r.2)):
  ∀d,aU d->∃n,Gm P Γ an N fn i n (st d) (λe s=>some (e,s))=(out (F d)).eval:=by
 have key:∀m d,μ d=m->aU d->∃n,Gm P Γ an N fn i n (st d) (λe s=>some (e,s))=(out (F d)).eval:=by
  intro m
  induction m using Nat.strongRecOn with
  |_ m ih=>
   intro d hm hp
   rcases h d hp with⟨d',hp',jt,hF,hr⟩ | ⟨r,hr,hx⟩
   ·obtain⟨n,hn⟩:=ih (μ d') (by omega) d' rfl hp'
    exact⟨n+1,by rw[DC,hr,hn,hF]⟩
   ·exact⟨1,by rw[DC,hx,hr]⟩
 exact λd hp=>key _ d rfl hp
open Classical in
theorem Mg{P:Program}{Γ:qd}{an:v7}{N:Nat}{fn:Func}{i:Nat}{D X:Type}{st:D->AS}{aU:D->Prop}{F:D->X}{ex:X->Exit×AS}(μ:D->Nat)
  (h:∀d,aU d->(∃d',aU d'/\μ d' < μ d/\F d'=F d/\∀ {R:Type} (kn:AS->Option R) (kx:Exit->AS->Option R),zf P Γ an N fn i (st d) kn kx=kn (st d'))\/
   (∀ {R:Type} (kn:AS->Option R) (kx:Exit->AS->Option R),zf P Γ an N fn i (st d) kn kx=kx (ex (F d)).1 (ex (F d)).2)):
  ∀d,aU d->∃n,Gm P Γ an N fn i n (st d) (λe s=>some (e,s))=(Out.ok (ex (F d))).eval:=
 Ji (out:=λx=> .ok (ex x)) μ λd hp=>(h d hp).imp id λh=>⟨_,rfl,h⟩
open Classical in
def Entry.of{D X:Type}(params:List (Option Ty))(st:D->List az×List ea)(aU:D->Prop)(F:D->X)(out:X->kr):Entry:=
 {params,X,run:=λargs cT=>if h:∃d,st d=(args,cT)/\aU d then some (F h.choose) else none,out:=λ_ _=>out}
open Classical in
theorem Entry.sq{D X:Type}{params:List (Option Ty)}{st:D->List az×List ea}{aU:D->Prop}{F:D->X}{out:X->kr}(HZ:∀d d',st d=st d'->d=d'){d:D}(h:aU d):
  (Entry.of params st aU F out).run (st d).1 (st d).2=some (F d):=by
 have hex:∃d',st d'=((st d).1,(st d).2)/\aU d':=⟨d,rfl,h⟩
 show(if h:∃d',st d'=((st d).1,(st d).2)/\aU d' then some (F h.choose) else none)=_
 rw[dif_pos hex,HZ _ _ hex.choose_spec.1]
open Classical in
theorem Jo{D X:Type}{params:List (Option Ty)}{st:D->List az×List ea}{aU:D->Prop}{F:D->X}{out:X->kr}{args:List az}{cT:List ea}{x:X}(hx:(Entry.of params st aU F out).run args cT=some x):∃d,st d=(args,cT)/\aU d/\x=F d:=by
 change (if h:∃d',st d'=(args,cT)/\aU d' then some (F h.choose) else none)=some x at hx
 split at hx
 ·rename_i hex
  obtain rfl:=bB hx
  exact⟨_,hex.choose_spec.1,hex.choose_spec.2,rfl⟩
 ·cases hx
theorem mo.of{P:Program}{Γ:qd}(hm:P.follows .mixedOrders=true)(hΓ:Sound P Γ){f:FuncId}{fn:Func}(hf:P.funcs[f]? =some fn)(hb:fn.body.isSome=true)(u5:(fn.name== "runtime.NumGoroutine")=false){an:v7}{N:Nat}
  (hL:∀c,fn.body=some c->lE P Γ an N (kk c)) {D X:Type} {params:List (Option Ty)} {st:D->List az×List ea} {aU:D->Prop} {F:D->X} {out:X->kr}
  (h:∀d,aU d->JH P Γ an N fn (st d).1 (st d).2 some=some (out (F d))) (M3:an.mr=none:=by exact rfl):mo P f (Entry.of params st aU F out):=by
 refine mo.sq hm hΓ hf hb u5 hL (λargs cT x hx=> ?_) M3
 obtain⟨d,e1,e2,rfl⟩:=Jo hx
 have:=h d e2
 rw[e1]at this
 exact this
def MZ(P:Program)(Γ:qd)(an:v7)(N:Nat)(fn:Func):Nat->Nat->Prop
 | 0,_=>True
 |n+1,i=>KX P Γ an N (nV fn i)/\MZ P Γ an N fn n (i+1)
theorem MZ.get{P:Program}{Γ:qd}{an:v7}{N:Nat}{fn:Func}:∀ {n i:Nat},MZ P Γ an N fn n i->∀j,j < n->KX P Γ an N (nV fn (i+j))
 | 0,_,_,j,hj=>by omega
 |n+1,i,h,0,_=>h.1
 |n+1,i,h,j+1,hj=>by
  have:=MZ.get h.2 j (by omega)
  rwa[show i+1+j=i+(j+1) by omega]at this
theorem lE.Mr{P:Program}{Γ:qd}{an:v7}{N:Nat}:∀(l:List Code),(∀j,j < l.length->KX P Γ an N (l.getD j .skip))->lE P Γ an N l
 |[],_=>trivial
 |b::l,h=>⟨h 0 (by simp),lE.Mr l λj hj=>by have:=h (j+1) (by simpa using hj);simpa using this⟩
theorem lE.fn{P:Program}{Γ:qd}{an:v7}{N:Nat}{fn:Func}(n:Nat)(hn:(match fn.body with | some c=>(kk c).length | none=>0)=n)(h:MZ P Γ an N fn n 0):∀c,fn.body=some c->lE P Γ an N (kk c):=by
 intro c hc
 refine lE.Mr _ λj hj=> ?_
 rw[hc]at hn
 simp only at hn
 have:=h.get j (by omega)
 unfold nV at this
 rw[hc]at this
 simpa using this
theorem KX.none{P:Program}{Γ:qd}{an:v7}{N:Nat}{fn:Func}{i:Nat}(h:an.iA (eB (nV fn i))=none):KX P Γ an N (nV fn i):=λle hle=>by
 rw[h]at hle;cases hle
def PC:qd:=λ_ _=>none
theorem Sound.nil(P:Program):Sound P PC:=λ_ _ _ h=>by cases h
def I2(f:FuncId)(p:List az->Bool)(en:Entry)(Γ:qd):qd:=λg vs=>match Nat.beq g f with | true=>(match p vs with | true=>some en | false=>Γ g vs) | false=>Γ g vs
theorem Sound.cons{P:Program}{f:FuncId}{p:List az->Bool}{en:Entry}{Γ:qd}(h:qc P f en)(hΓ:Sound P Γ):Sound P (I2 f p en Γ):=λg vs e hg=>by
 unfold I2 at hg
 split at hg
 ·rename_i he
  have:g=f:=fk he
  split at hg
  ·simp only[ax]at hg
   subst hg this
   exact h
  ·exact hΓ g vs e hg
 ·exact hΓ g vs e hg
theorem Oj{t:Ty}{x y:t.den}(h:az.d t x=az.d t y):x=y:=by
 injection h with _ h
theorem Oa{e:TypeId}{t:Ty}{x y:List t.den}(h:az.vec e t x=az.vec e t y):x=y:=by
 injection h with _ _ h
def vH:List az->Bool:=λ_=>true
def Ks:List az->Bool | .df::_=>true | _=>false
def KN:List az->Bool | .cP .. ::_=>true | _=>false
@[simp] theorem ae{α:Type}(x y:Option α):aJ true x y=x:=rfl
@[simp] theorem ah{α:Type}(x y:Option α):aJ false x y=y:=rfl
@[simp] theorem ab{α β:Type}(x:α)(f:α->Option β):av (some x) f=f x:=rfl
@[simp] theorem KH{α:Type}(c:pv)(x:Option α):same c c x=x:=by simp[same]
@[simp] theorem vW{α:Type}(x:Option α):nd x x=x:=by simp[nd]
structure SG(P:Program) where
 f:FuncId
 p:List az->Bool
 e:Entry
 h:qc P f e
def lN{P:Program}:List (SG P)->qd
 |[]=>PC
 |a::l=>I2 a.f a.p a.e (lN l)
theorem Sound.lN{P:Program}:∀l:List (SG P),Sound P (lN l)
 |[]=>Sound.nil P
 |a::l=>Sound.cons a.h (Sound.lN l)
abbrev SA:=List az×List ea
def K9(P:Program)(G:qd)(an:v7)(N:Nat)(fn:Func){D:Type}(st:D->SA){R:Type}(d:D)(k:kr->Option R):Option R:=JH P G an N fn (st d).1 (st d).2 k
def gL(P:Program)(G:qd)(an:v7)(N:Nat)(fn:Func)(i:Nat){D:Type}(st:D->AS){R:Type}(d:D)(kn:AS->Option R)(kx:Exit->AS->Option R):Option R:=zf P G an N fn i (st d) kn kx
abbrev Q3{D X Y:Type}(A: {R:Type}->D->(kr->Option R)->Option R)(aU:D->Prop)(add:D->Y->X)(F:D->Y)(out:X->kr):Prop:=
 ∀d,aU d->A d some=some (out (add d (F d)))
abbrev nh(P:Program)(G:qd)(an:v7)(N:Nat)(fn:Func)(i:Nat){D X Y:Type}(st:D->AS)(aU:D->Prop)(add:D->Y->X)(F:D->Y)(out:X->Out (Exit×AS)):Prop:=
 ∀d,aU d->∃n,Gm P G an N fn i n (st d) (λe s=>some (e,s))=(out (add d (F d))).eval
abbrev S8{D X Y:Type}(R: {R:Type}->D->(AS->Option R)->(Exit->AS->Option R)->Option R)(st:D->AS)(aU:D->Prop)(add:D->Y->X)(F:D->Y)(ex:X->Exit×AS)(C:Prop):Prop:=
 ∀μ:D->Nat,(∀d,aU d->(∃d',aU d'/\μ d' < μ d/\add d' (F d')=add d (F d)/\∀ {T:Type} (kn:AS->Option T) (kx:Exit->AS->Option T),R d kn kx=kn (st d'))\/
  (∀ {T:Type} (kn:AS->Option T) (kx:Exit->AS->Option T),R d kn kx=kx (ex (add d (F d))).1 (ex (add d (F d))).2))->C
abbrev nM{D X Y:Type}(R: {R:Type}->D->(AS->Option R)->(Exit->AS->Option R)->Option R)(st:D->AS)(aU:D->Prop)(add:D->Y->X)(F:D->Y)(out:X->Out (Exit×AS))(C:Prop):Prop:=
 ∀μ:D->Nat,(∀d,aU d->(∃d',aU d'/\μ d' < μ d/\add d' (F d')=add d (F d)/\∀ {T:Type} (kn:AS->Option T) (kx:Exit->AS->Option T),R d kn kx=kn (st d'))\/
  (∃r,(out (add d (F d))).eval=some r/\∀ {T:Type} (kn:AS->Option T) (kx:Exit->AS->Option T),R d kn kx=kx r.1 r.2))->C
theorem oF{P:Program}{G:qd}{an:v7}{N:Nat}{fn:Func}{i:Nat}{D X Y:Type}{st:D->AS}{aU:D->Prop}{add:D->Y->X}{F:D->Y}{out:X->Out (Exit×AS)}:
  nM (gL P G an N fn i st) st aU add F out (nh P G an N fn i st aU add F out):=λ μ h=>Ji (F:=λd=>add d (F d)) (out:=out) μ h
def oM:List (Nat×mN)->Nat->mN
 |[],_=> {}
 |a::l,r=>bif Nat.beq r a.1 then a.2 else oM l r
def oL:List (Nat×mN×mN)->Nat->Bool->mN
 |[],_,_=> {}
 |a::l,r,b=>bif Nat.beq r a.1 then(bif b then a.2.2 else a.2.1) else oL l r b
def pq.{v} {α:Type v}:List (Nat×α)->Nat->Option α
 |[],_=>none
 |a::l,r=>bif Nat.beq r a.1 then some a.2 else pq l r
inductive Lf where
 |d (t:Ty)
 |n
@[reducible] def Lf.den:Lf->Type
 | .d t=>t.den
 | .n=>Nat
@[reducible] def Lf.KR:List Lf->Type
 |[]=>Unit
 |[a]=>a.den
 |a::b::l=>a.den×Lf.KR (b::l)
abbrev Q5:=List (Sigma Lf.den)
def Lf.mk:(ts:List Lf)->Lf.KR ts->Q5
 |[],_=> []
 |[a],x=> [⟨a,x⟩]
 |a::b::l,x=>⟨a,x.1⟩::Lf.mk (b::l) x.2
theorem Lf.mk_inj:∀(ts:List Lf) (x y:Lf.KR ts),Lf.mk ts x=Lf.mk ts y->x=y
 |[],_,_,_=>rfl
 |[a],x,y,h=>by
  injection h with h _
  injection h
 |a::b::l,(x,u),(y,v),h=>by
  injection h with h h2
  injection h with _ h
  have h:x=y:=h
  rw[h,Lf.mk_inj (b::l) u v h2]
def az.leaves:az->Q5
 | .d .unit _=> []
 | .d (.arr _ t) l=> [⟨.d (.slice t),l⟩]
 | .d t x=> [⟨.d t,x⟩]
 | .ed t x=> [⟨.d t,x⟩]
 | .vec _ t l=> [⟨.d (.slice t),l⟩]
 | .mp k v l=> [⟨.d (.slice (.pair k v)),l⟩]
 | .oK _ _ k v l _=> [⟨.d (.slice (.pair k v)),l⟩]
 | .qK _ f _=>f.leaves
 | .cP _ _ _ _ _ n=> [⟨.n,n⟩]
 | .pr a b=>a.leaves++b.leaves
 | .cons a b=>a.leaves++b.leaves
 | .fn _ c=>c.leaves
 | .bx _ _ c=>c.leaves
 |_=> []
def ea.leaves:ea->Q5
 | .obj _ _ c=>c.leaves
 | .dead=> []
def SA.leaves(s:SA):Q5:=s.1.flatMap az.leaves++s.2.flatMap ea.leaves
def AS.leaves(s:AS):Q5:=s.cO.flatMap az.leaves++(s.cT.flatMap ea.leaves++s.news.flatMap (·.flatMap ea.leaves))
theorem Sf(ts:List Lf){st:Lf.KR ts->SA}(h:∀d,SA.leaves (st d)=Lf.mk ts d)(d d':Lf.KR ts)(e:st d=st d'):d=d':=Lf.mk_inj ts d d' (by rw[<-h,<-h,e])
theorem oa(ts:List Lf){st:Lf.KR ts->AS}(h:∀d,AS.leaves (st d)=Lf.mk ts d)(d d':Lf.KR ts)(e:st d=st d'):d=d':=Lf.mk_inj ts d d' (by rw[<-h,<-h,e])
def Entry.hZ{D X Y:Type}(params:List (Option Ty))(st:D->SA)(aU:D->Prop)(add:D->Y->X)(F:D->Y)(out:X->kr):Entry:=Entry.of params st aU (λd=>add d (F d)) out
def eO.hZ{D X Y:Type}(st:D->AS)(aU:D->Prop)(add:D->Y->X)(F:D->Y)(out:X->Out (Exit×AS)):eO:=eO.of st aU (λd=>add d (F d)) out
def Lp{D:Type}(E:Entry)(st:D->SA):D->Option E.X:=λd=>E.run (st d).1 (st d).2
def jH{D:Type}(E:eO)(st:D->AS):D->Option E.X:=λd=>E.run (st d)
abbrev mq{D X Y:Type}(call:D->Option X)(aU:D->Prop)(add:D->Y->X)(F:D->Y):Prop:=∀ {d:D},aU d->call d=some (add d (F d))
theorem UC{D X Y:Type}{params:List (Option Ty)}{st:D->SA}{aU:D->Prop}{add:D->Y->X}{F:D->Y}{out:X->kr}(HZ:∀d d',st d=st d'->d=d'):
  mq (Lp (Entry.hZ params st aU add F out) st) aU add F:=λh=>Entry.sq HZ h
theorem oo{D X Y:Type}{st:D->AS}{aU:D->Prop}{add:D->Y->X}{F:D->Y}{out:X->Out (Exit×AS)}(HZ:∀d d',st d=st d'->d=d'):
  mq (jH (eO.hZ st aU add F out) st) aU add F:=λh=>eO.sq HZ h
def Nt(P:Program)(fn:Func):Bool:=P.follows .mixedOrders && fn.body.isSome && !(fn.name== "runtime.NumGoroutine")
def LH(fn:Func):Nat:=match fn.body with | some c=>(kk c).length | none=>0
theorem mo.fn{P:Program}{l:List (SG P)}{f:FuncId}{fn:Func}{an:v7}{N:Nat}{D X Y:Type}{params:List (Option Ty)}{st:D->SA}{aU:D->Prop}{add:D->Y->X}{F:D->Y}{out:X->kr}(n:Nat)
  (hc:(P.funcs[f]?,Nt P fn,LH fn)=(some fn,true,n))
  (h:Q3 (@K9 P (lN l) an N fn D st) aU add F out)
  (hL:MZ P (lN l) an N fn n 0) (M3:an.mr=none:=by exact rfl):mo P f (Entry.hZ params st aU add F out):=by
 injection hc with h1 h2
 injection h2 with h2 h3
 unfold Nt at h2
 simp only[ak,bX]at h2
 exact mo.of h2.1.1 (Sound.lN l) h1 h2.1.2 h2.2 (lE.fn n h3 hL) h M3
theorem zF.fn{P:Program}{l:List (SG P)}{y:Nat}{an:v7}{N:Nat}{D X Y:Type}{params:List (Option Ty)}{st:D->SA}{aU:D->Prop}{add:D->Y->X}{F:D->Y}{out:X->kr}(n:Nat)
  (hc:(P.follows .mixedOrders,LH (O1 P y))=(true,n))
  (h:Q3 (@K9 P (lN l) an N (O1 P y) D st) aU add F out)
  (hL:MZ P (lN l) an N (O1 P y) n 0) (M3:an.mr=some y):zF P y (Entry.hZ params st aU add F out):=by
 injection hc with h1 h2
 refine zF.sq h1 (Sound.lN l) (fn:=O1 P y) (lE.fn (fn:=O1 P y) n h2 hL _ rfl) (λargs cT x hx=> ?_) M3
 obtain⟨d,e1,e2,rfl⟩:=Jo hx
 have:=h d e2
 unfold K9 at this
 rw[e1]at this
 exact this
theorem KX.hZ{P:Program}{Γ:qd}{an:v7}{N:Nat}{fn:Func}{i:Nat}{D X Y:Type}{st:D->AS}{aU:D->Prop}{add:D->Y->X}{F:D->Y}{out:X->Out (Exit×AS)}
  (h:nh P Γ an N fn i st aU add F out) (hle:an.iA (eB (nV fn i))=some (eO.hZ st aU add F out):=by kernel_rfl):KX P Γ an N (nV fn i):=KX.of hle h
abbrev K1(R:Type):=kr->Option R
abbrev K2(R:Type):=AS->Option R
abbrev K3(R:Type):=Exit->AS->Option R
@[reducible] def bE{D Y:Type}(_:D)(y:Y):Y:=y
structure Ls{D Y X:Type}(aU:D->Prop)(add:D->Y->X)(F:D->Y) where
 st:D->AS
 ex:X->Exit×AS
noncomputable def pG{D Y X:Type}{aU:D->Prop}{add:D->Y->X}{F:D->Y}(st:D->AS)(ex:X->Exit×AS):Ls aU add F:=⟨st,ex⟩
section
variable {D Y X:Type} {aU:D->Prop} {add:D->Y->X} {F:D->Y} (L:Ls aU add F)
def Ls.out:X->Out (Exit×AS):=λx=> .ok (L.ex x)
def Ls.E:eO:=eO.hZ L.st aU add F L.out
def Ls.call:D->Option X:=jH L.E L.st
abbrev Ls.go{R:Type}(kx:K3 R)(x:X):Option R:=kx (L.ex x).1 (L.ex x).2
abbrev Ls.RS:Prop:=mq L.call aU add F
end
theorem rL(ts:List Lf){Y X:Type}{aU:Lf.KR ts->Prop}{add:Lf.KR ts->Y->X}{F:Lf.KR ts->Y}(L:Ls aU add F)(h:∀d,AS.leaves (L.st d)=Lf.mk ts d:=by exact λ_=>by kernel_rfl):mq L.call aU add F:=oo (oa ts h)
structure Fs(P:Program){D Y X:Type}(aU:D->Prop)(add:D->Y->X)(F:D->Y) where
 i:FuncId
 fn:Func
 st:D->SA
 out:X->kr
 ps:List (Option Ty)
 G:List (SG P)
 an:v7
 N:Nat
noncomputable def fK{P:Program}{D Y X:Type}{aU:D->Prop}{add:D->Y->X}{F:D->Y}(i:FuncId)(fn:Func)(st:D->SA)(out:X->kr)(ps:List (Option Ty))(G:List (SG P):=[])(an:v7:= {})(N:Nat:=0):Fs P aU add F:=⟨i,fn,st,out,ps,G,an,N⟩
section
variable {P:Program} {D Y X:Type} {aU:D->Prop} {add:D->Y->X} {F:D->Y} (f:Fs P aU add F) {D' Y' X':Type} {Pre':D'->Prop} {add':D'->Y'->X'} {F':D'->Y'}
def Fs.A{R:Type}(d:D)(k:K1 R):Option R:=K9 P (lN f.G) f.an f.N f.fn f.st d k
def Fs.R(i:Nat)(L:Ls Pre' add' F'){R:Type}(d:D')(kn:K2 R)(kx:K3 R):Option R:=gL P (lN f.G) f.an f.N f.fn i L.st d kn kx
abbrev Fs.Ok:Prop:=∀d,aU d->f.A d some=some (f.out (add d (F d)))
abbrev Fs.lE(i:Nat)(L:Ls Pre' add' F'):Prop:=nh P (lN f.G) f.an f.N f.fn i L.st Pre' add' F' L.out
def Fs.E:Entry:=Entry.hZ f.ps f.st aU add F f.out
def Fs.call:D->Option X:=Lp f.E f.st
theorem Fs.mr(i:Nat)(L:Ls Pre' add' F'):S8 (@Fs.R P D Y X aU add F f D' Y' X' Pre' add' F' i L) L.st Pre' add' F' L.ex (f.lE i L):=λ μ h=>Mg (F:=λd=>add' d (F' d)) μ h
abbrev Fs.RS:Prop:=mq f.call aU add F
def Fs.UD(p:List az->Bool)(ok:f.Ok)(n:Nat:=0)(hL:MZ P (lN f.G) f.an f.N f.fn n 0:=by exact trivial)(hc:(P.funcs[f.i]?,Nt P f.fn,LH f.fn)=(some f.fn,true,n):=by kernel_rfl)(hy:Nat.blt f.i yB=true:=by exact rfl)(hn:f.an.mr=none:=by exact rfl):SG P:=⟨f.i,p,f.E,.of (mo.fn n hc ok hL hn) hy⟩
def Fs.Wi(ok:f.Ok)(n:Nat:=0)(hL:MZ P (lN f.G) f.an f.N f.fn n 0:=by exact trivial)(hc:(P.follows .mixedOrders,LH (O1 P f.i))=(true,n):=by kernel_rfl)(hf:f.fn=O1 P f.i:=by exact rfl)(hy:Nat.ble yB f.i=true:=by exact rfl)(hn:f.an.mr=some f.i:=by exact rfl):SG P:=
 ⟨f.i,vH,f.E,.We (zF.fn n hc (by have:=ok;unfold Fs.Ok Fs.A at this;rw[hf]at this;exact this) (by rw[<-hf];exact hL) hn) hy⟩
def Fs.fS(ok:f.Ok)(n:Nat:=0)(hL:MZ P (lN f.G) f.an f.N f.fn n 0:=by exact trivial)(hc:(P.funcs[f.i]?,Nt P f.fn,LH f.fn)=(some f.fn,true,n):=by kernel_rfl)(hy:Nat.blt f.i yB=true:=by exact rfl)(hn:f.an.mr=none:=by exact rfl):SG P:=f.UD vH ok n hL hc hy hn
end
theorem rE(ts:List Lf){P:Program}{Y X:Type}{aU:Lf.KR ts->Prop}{add:Lf.KR ts->Y->X}{F:Lf.KR ts->Y}(f:Fs P aU add F)(h:∀d,SA.leaves (f.st d)=Lf.mk ts d:=by exact λ_=>by kernel_rfl):mq f.call aU add F:=UC (Sf ts h)
abbrev tu:Ty:=(.int .u64)
abbrev ti:Ty:=(.int .i64)
abbrev tb:Ty:=(.int .u8)
abbrev tB:Ty:=(.slice tb)
abbrev Bs:=(List Int)
abbrev tH:Ty:=(.arr 32 tb)
abbrev tU:Ty:=(.slice tu)
abbrev jk:Ty:=(.pair tH (.pair ti .unit))
abbrev lF:=(Bs×(Int×Unit))
abbrev zy:Ty:=(.pair tu (.pair tu .unit))
abbrev Sg:=(Int×(Int×Unit))
abbrev EZ:Ty:=(.pair ti (.pair (.slice zy) (.pair tu .unit)))
abbrev Az:=(Int×((List Sg)×(Int×Unit)))
abbrev gX:Ty:=(.pair jk (.pair EZ .unit))
abbrev gz:=(lF×(Az×Unit))
abbrev kK:Ty:=(.pair tU (.pair ti (.pair ti (.pair tu .unit))))
abbrev sN:=(Bs×(Int×(Int×(Int×Unit))))
abbrev mK:Ty:=(.pair (.slice kK) .unit)
abbrev Lk:=((List sN)×Unit)
abbrev iR:Ty:=(.pair ti (.pair mK .unit))
abbrev j7:=(Int×(Lk×Unit))
abbrev iL:Ty:=(.pair (.slice gX) (.pair (.slice iR) (.pair ti .unit)))
abbrev gT:=((List gz)×((List j7)×(Int×Unit)))
abbrev QC:=(Bs×(Bool×Unit))
end Go.Ab
namespace Go.Ab
theorem qn{n:Int}(h1: -9223372036854775808<=n)(h2:n<=9223372036854775807):IntKind.i64.wrap n=n:=by
 simp[IntKind.wrap,IntKind.bits,IntKind.signed]
 split <;> omega
theorem eC{x y:Int}(h1: -9223372036854775808<=x+y)(h2:x+y<=9223372036854775807):bt .i64 x y=x+y:=qn h1 h2
theorem eE{x y:Int}(h1: -9223372036854775808<=x - y)(h2:x - y<=9223372036854775807):dp .i64 x y=x - y:=qn h1 h2
theorem qo{x y:Int}(h1: -9223372036854775808<=x*y)(h2:x*y<=9223372036854775807):eR .i64 x y=x*y:=qn h1 h2
theorem AH{x:Int}(h1: -9223372036854775808<=x)(h2:x<=9223372036854775807):dP .i64 x=x:=qn h1 h2
def vw{n:Nat}(w:BitVec n):Int:=(w.toNat:Int)
theorem hM(n:Nat)(x:Int):vw (BitVec.ofInt n x)=x%((2^n:Nat):Int):=by
 unfold vw
 rw[nL]
 have:0<=x%((2^n:Nat):Int):=iC _ (by have:=Nat.two_pow_pos n;omega)
 omega
theorem zB{n:Nat}(w:BitVec n):0<=vw w:=Int.natCast_nonneg _
theorem MX{n:Nat}(w:BitVec n):vw w < ((2^n:Nat):Int):=by have:=w.isLt;unfold vw;omega
theorem o7{n:Nat}(w:BitVec n):BitVec.ofInt n (vw w)=w:=by
 apply BitVec.eq_of_toNat_eq
 have:=hM n (vw w)
 unfold vw at this ⊢
 have h:=w.isLt
 rw[ke (Int.natCast_nonneg _) (by omega)]at this
 omega
theorem wrap_u32(x:Int):IntKind.u32.wrap x=vw (BitVec.ofInt 32 x):=by rw[hM];simp[IntKind.wrap,IntKind.bits,IntKind.signed]
theorem wrap_u64(x:Int):IntKind.u64.wrap x=vw (BitVec.ofInt 64 x):=by rw[hM];simp[IntKind.wrap,IntKind.bits,IntKind.signed]
theorem wrap_u8(x:Int):IntKind.u8.wrap x=vw (BitVec.ofInt 8 x):=by rw[hM];simp[IntKind.wrap,IntKind.bits,IntKind.signed]
theorem ofInt_add(n:Nat)(x y:Int):BitVec.ofInt n (x+y)=BitVec.ofInt n x+BitVec.ofInt n y:=BitVec.ofInt_add ..
theorem tF(x y:BitVec 32):bt .u32 (vw x) (vw y)=vw (x+y):=by rw[bt,wrap_u32,BitVec.ofInt_add,o7,o7]
theorem Je(x:Int):dP .u32 x=vw (BitVec.ofInt 32 x):=wrap_u32 x
theorem AI(x:Int):dP .u64 x=vw (BitVec.ofInt 64 x):=wrap_u64 x
theorem y9(x:Int):dP .u8 x=vw (BitVec.ofInt 8 x):=wrap_u8 x
theorem Mo{n:Nat}(x:BitVec n):BitVec.ofInt n ((x.toNat:Nat):Int)=x:=o7 x
theorem mR(op:BinOp)(x y:BitVec 32):cW op .u32 (vw x) (vw y)=vw (match op with | .and=>x &&& y | .or=>x ||| y | .xor=>x^^^y | _=>x &&& ~~~y):=by
 unfold cW
 split <;> (simp only[IntKind.bits,o7,wrap_u32,Mo];rfl)
theorem JJ(op:BinOp)(x y:BitVec 64):cW op .u64 (vw x) (vw y)=vw (match op with | .and=>x &&& y | .or=>x ||| y | .xor=>x^^^y | _=>x &&& ~~~y):=by
 unfold cW
 split <;> (simp only[IntKind.bits,o7,wrap_u64,Mo];rfl)
theorem LG(x y:Nat):Int.fdiv (x:Int) (y:Int)=((x / y:Nat):Int):=by
 rw[il _ (Int.natCast_nonneg _)]
 rfl
theorem yE(k:Nat):(2:Int)^k=((2^k:Nat):Int):=by simp
theorem Qq{n:Nat}(w:BitVec n)(k:Nat):Int.fdiv (vw w) (2^(min k n))=vw (w >>> k):=by
 rw[yE]
 unfold vw
 rw[LG,BitVec.toNat_ushiftRight,Nat.shiftRight_eq_div_pow]
 congr 1
 rcases Nat.le_total k n with hk | hk
 ·rw[fp hk]
 ·rw[Nat.min_eq_right hk,Nat.div_eq_of_lt w.isLt,Nat.div_eq_of_lt]
  exact nO w.isLt (Nat.pow_le_pow_right (by omega) hk)
theorem u7(w:BitVec 32)(k:Int):cr .u32 (vw w) k=vw (w >>> k.toNat):=Qq w k.toNat
theorem Qp{n:Nat}(w:BitVec n)(k:Nat):BitVec.ofInt n (vw w*2^(min k n))=w <<< k:=by
 apply BitVec.eq_of_toNat_eq
 rw[nL,BitVec.toNat_shiftLeft,Nat.shiftLeft_eq]
 unfold vw
 rw[yE]
 have e:((w.toNat:Int)*((2^min k n:Nat):Int))=((w.toNat*2^min k n:Nat):Int):=by simp
 rw[e]
 have:(((w.toNat*2^min k n:Nat):Int)%((2^n:Nat):Int)).toNat=(w.toNat*2^min k n)%2^n:=by omega
 rw[this]
 rcases Nat.le_total k n with hk | hk
 ·rw[fp hk]
 ·rw[Nat.min_eq_right hk,Nat.mul_mod_left]
  obtain⟨m,rfl⟩:=Nat.exists_eq_add_of_le hk
  rw[Nat.pow_add,<-Nat.mul_assoc,Nat.mul_right_comm,Nat.mul_mod_left]
theorem xO(w:BitVec 32)(k:Int):nk .u32 (vw w) k=vw (w <<< k.toNat):=by rw[nk,wrap_u32];congr 1;exact Qp w k.toNat
theorem bp{i n:Int}(h1:0<=i)(h2:i < n):eY i n=true:=by simp[eY,h1,h2]
theorem mD{i n:Int}(h1:0<=i)(h2:i<=n):inc i n=true:=by simp[inc,h1,h2]
theorem bh{x y:Int}(h:x < y):ik x y=true:=by simp[ik,h]
theorem aR{x y:Int}(h:¬x < y):ik x y=false:=by simp[ik];omega
theorem ix{x y:Int}(h:x<=y):zS x y=true:=by simp[zS,h]
theorem ga{x y:Int}(h:¬x<=y):zS x y=false:=by simp[zS];omega
theorem cX{x y:Int}(h:x > y):nc x y=true:=by simp[nc];omega
theorem cj{x y:Int}(h:¬x > y):nc x y=false:=by simp[nc];omega
theorem eQ{x y:Int}(h:x>=y):qQ x y=true:=by simp[qQ];omega
theorem dQ{x y:Int}(h:¬x>=y):qQ x y=false:=by simp[qQ];omega
theorem iw{x y:Int}(h:x=y):wy x y=true:=by simp[wy,h]
theorem gl{x y:Int}(h:¬x=y):wy x y=false:=by simp[wy,h]
theorem eI{x y:Int}(h:¬x=y):sR x y=true:=by simp[sR,h]
theorem cS{x y:Int}(h:x=y):sR x y=false:=by simp[sR,h]
theorem oB{x:Int}(h:0<=x):kA x=true:=by simp[kA,h]
theorem aP{p:Prop} [Decidable p] (h:p):decide p=true:=by simp[h]
theorem bf{p:Prop} [Decidable p] (h:¬p):decide p=false:=by simp[h]
theorem dU{n b:Nat}(h:n*b<=140737488355328)(h2:n<=9223372036854775807):dG n b=true:=by simp[dG,h,h2]
def from_{α:Type}(f:Nat->α->α)(t:Nat)(l:List α):List α:=l.mapIdx λi x=>if i < t then x else f i x
theorem vK{α:Type}(f:Nat->α->α)(l:List α)(t:Nat)(h:t < l.length):from_ f (t+1) (l.set t (f t l[t]))=from_ f t l:=by
 unfold from_
 apply List.ext_getElem (by simp)
 intro i h1 h2
 simp only[List.getElem_mapIdx,List.getElem_set]
 by_cases hi:t=i
 ·subst hi;simp
 ·simp only[if_neg hi]
  by_cases h3:i < t
  ·rw[if_pos (by omega),if_pos h3]
  ·rw[if_neg (by omega),if_neg h3]
theorem xH{α:Type}(f:Nat->α->α)(l:List α)(t:Nat)(h:l.length<=t):from_ f t l=l:=by
 unfold from_
 apply List.ext_getElem (by simp)
 intro i h1 h2
 simp only[List.getElem_mapIdx]
 rw[if_pos (by omega)]
theorem Bh{α:Type}(f:Nat->α->α)(n:Nat)(x:α):from_ f 0 (List.replicate n x)=(List.range n).map λi=>f i x:=by
 unfold from_
 apply List.ext_getElem (by simp)
 intro i h1 h2
 simp
theorem dg{t:Ty}{l:List t.den}{i:Nat}(h:i < l.length):nth t l i=l[i]:=by simp[nth,h]
end Go.Ab
namespace Go.Ab.N
section
variable {α:Type} {x y:Option α} {a b n:Nat} {i j:Int}
theorem lt:aJ (ik i j) x y=if i < j then x else y:=by unfold ik;split <;> rename_i h <;> simp[h]
theorem le:aJ (zS i j) x y=if i<=j then x else y:=by unfold zS;split <;> rename_i h <;> simp[h]
theorem gt:aJ (nc i j) x y=if j < i then x else y:=by unfold nc;split <;> rename_i h <;> simp[h]
theorem ge:aJ (qQ i j) x y=if j<=i then x else y:=by unfold qQ;split <;> rename_i h <;> simp[h]
theorem eq:aJ (wy i j) x y=if i=j then x else y:=by
 by_cases h:i=j
 ·rw[iw h,if_pos h];rfl
 ·rw[gl h,if_neg h];rfl
theorem ne:aJ (sR i j) x y=if i=j then y else x:=by
 by_cases h:i=j
 ·rw[cS h,if_pos h];rfl
 ·rw[eI h,if_neg h];rfl
theorem ib:aJ (eY i j) x y=if 0<=i/\i < j then x else y:=by unfold eY;split <;> rename_i h <;> simp[h]
theorem ic:aJ (inc i j) x y=if 0<=i/\i<=j then x else y:=by unfold inc;split <;> rename_i h <;> simp[h]
theorem nn:aJ (kA i) x y=if 0<=i then x else y:=by unfold kA;split <;> rename_i h <;> simp[h]
theorem nz:aJ (iK i) x y=if i=0 then y else x:=by unfold iK;split <;> rename_i h <;> simp[h]
theorem dc{p:Prop} [Decidable p]:aJ (decide p) x y=if p then x else y:=by split <;> rename_i h <;> simp[h]
theorem rm:aJ (dG n b) x y=if n*b<=140737488355328/\n<=9223372036854775807 then x else y:=by unfold dG;exact dc
theorem an{c d:Bool}:aJ (c && d) x y=aJ c (aJ d x y) y:=by cases c <;> rfl
theorem or{c d:Bool}:aJ (c || d) x y=aJ c x (aJ d x y):=by cases c <;> rfl
theorem no{c:Bool}:aJ (!c) x y=aJ c y x:=by cases c <;> rfl
theorem SF(h:a+b<=9223372036854775807):bt .i64 (a:Int) (b:Int)=((a+b:Nat):Int):=by rw[eC (by omega) (by omega)];omega
theorem pk(h:a+OfNat.ofNat n<=9223372036854775807):bt .i64 (a:Int) (no_index (OfNat.ofNat n))=((a+OfNat.ofNat n:Nat):Int):=SF h
theorem UP(h:OfNat.ofNat n+a<=9223372036854775807):bt .i64 (no_index (OfNat.ofNat n)) (a:Int)=((OfNat.ofNat n+a:Nat):Int):=SF h
theorem S4(h:b<=a)(h2:a<=9223372036854775807):dp .i64 (a:Int) (b:Int)=((a - b:Nat):Int):=by rw[eE (by omega) (by omega)];omega
theorem Vj(h:OfNat.ofNat n<=a)(h2:a<=9223372036854775807):dp .i64 (a:Int) (no_index (OfNat.ofNat n))=((a - OfNat.ofNat n:Nat):Int):=S4 h h2
theorem Vi(h:a<=OfNat.ofNat n)(h2:(OfNat.ofNat n:Nat)<=9223372036854775807):dp .i64 (no_index (OfNat.ofNat n)) (a:Int)=((OfNat.ofNat n - a:Nat):Int):=S4 h h2
theorem S0(h:a*b<=9223372036854775807):eR .i64 (a:Int) (b:Int)=((a*b:Nat):Int):=by
 have e:(a:Int)*(b:Int)=((a*b:Nat):Int):=by simp
 rw[qo (by omega) (by omega),e]
theorem Vh(h:a*OfNat.ofNat n<=9223372036854775807):eR .i64 (a:Int) (no_index (OfNat.ofNat n))=((a*OfNat.ofNat n:Nat):Int):=S0 h
theorem Vg(h:OfNat.ofNat n*a<=9223372036854775807):eR .i64 (no_index (OfNat.ofNat n)) (a:Int)=((OfNat.ofNat n*a:Nat):Int):=S0 h
theorem Us(h:a<=9223372036854775807):jX .i64 (a:Int) (b:Int)=((a / b:Nat):Int):=by
 have:(a:Int).tdiv (b:Int)=((a / b:Nat):Int):=by rw[jR (by omega)];simp
 have hl:a / b<=a:=Nat.div_le_self a b
 unfold jX
 rw[this]
 generalize a / b=c at hl
 exact qn (by omega) (by omega)
theorem Ur(h:a<=9223372036854775807):jX .i64 (a:Int) (no_index (OfNat.ofNat n))=((a / OfNat.ofNat n:Nat):Int):=Us h
theorem Uu:gv (a:Int) (b:Int)=((a%b:Nat):Int):=by
 unfold gv
 rw[im (by omega)]
 simp
theorem Ut:gv (a:Int) (no_index (OfNat.ofNat n))=((a%OfNat.ofNat n:Nat):Int):=Uu
theorem cN(h:a<=9223372036854775807):dP .i64 (a:Int)=(a:Int):=AH (by omega) (by omega)
theorem cL(h:(OfNat.ofNat n:Nat)<=9223372036854775807):dP .i64 (no_index (OfNat.ofNat n))=OfNat.ofNat n:=cN h
theorem tL:Int.toNat (no_index (OfNat.ofNat n))=OfNat.ofNat n:=rfl
end
end Go.Ab.N
namespace Go.Ab
section
variable {P:Program}
theorem LC{E E':Env}(h1:E'.w=E.w)(h2:E'.g=E.g)(h3:E'.β=E.β)(h4:E'.s=E.s):E'=E:=by
 obtain⟨a,b,c,d⟩:=E
 obtain⟨a',b',c',d'⟩:=E'
 simp only at h1 h2 h3 h4
 subst h1 h2 h3 h4
 rfl
theorem qV.same{w:World}{g:Nat->lG}{β:Id->Option Pl}{cT:List ea}{a:az}{v:Value}(hv:VS ((gw cT).env w g β) a v)(ho:jd ((gw cT).env w g β)):
  qV ((gw cT).env w g β) ⟨a,cT,[]⟩ v w:=by
 have hE:(kr.st ⟨a,cT,[]⟩).env w g β=(gw cT).env w g β:=by
  refine LC rfl rfl rfl ?_
  funext id
  cases id with
  |dB k=>rfl
  |new i j=>
   show([([]:List ea)].getD i [])[j]? =(([]:List (List ea)).getD i [])[j]?
   cases i <;> rfl
 refine⟨g,β,?_⟩
 rw[hE]
 exact⟨hv,ho,Trans.refl w g,c7.refl _⟩
theorem mo.extern{f:FuncId}{fn:Func}{e:Array Value->Sem Value}(hf:P.funcs[f]? =some fn)(u5:(fn.name== "runtime.NumGoroutine")=false)(hb:fn.body.isNone=true)(hn:Extern.findNext fn=none)(he:Extern.find fn=some e){en:Entry}
  (h:∀w g β args cT kC x,sO ((gw cT).env w g β) args kC->jd ((gw cT).env w g β)->en.run args cT=some x->∃v,(e kC.toArray).run P w= .ok v w/\qV ((gw cT).env w g β) (en.out args cT x) v w):mo P f en:=by
 intro w g β args cT kC x h1 h2 h3
 obtain⟨v,h4,h5⟩:=h w g β args cT kC x h1 h2 h3
 refine .inr ⟨v,w,?_,h5⟩
 rw[run_callFunc_extern hf u5 hb hn he,h4]
 rfl
def OS.E:Entry:= {params:=[none],X:=Unit,run:=λargs _=>match args with | [_]=>some () | _=>none,out:=λargs cT _=>⟨args.headD .undef,cT,[]⟩}
theorem OS.of{f:FuncId}{fn:Func}(hf:P.funcs[f]? =some fn)(u5:(fn.name== "runtime.NumGoroutine")=false)(hb:fn.body.isNone=true)(hn:Extern.findNext fn=none)(he:Extern.find fn=some Extern.AbiNoEscape.same):mo P f OS.E:=by
 refine mo.extern hf u5 hb hn he λw g β args cT kC x h1 h2 h3=> ?_
 cases args with
 |nil=>cases h3
 |cons a as=>
  cases as with
  |cons _ _=>cases h3
  |nil=>
   cases kC with
   |nil=>exact h1.elim
   |cons v vs=>
    obtain⟨h4,h5⟩:=h1
    cases vs with
    |cons _ _=>exact h5.elim
    |nil=>exact⟨v,rfl,qV.same h4 h2⟩
theorem DW{w:World}:∀(xs:List Int) (a:Addr) (acc:ByteArray),(∀j x,xs[j]? =some x->w.cell? (a.add j)=some (.int .u8 x))->
  (Extern.Bytes.loadBytes a xs.length acc).run P w= .ok ⟨acc.data++(xs.map λn=>UInt8.ofNat n.toNat).toArray⟩ w
 |[],a,acc,_=>by simp[Extern.Bytes.loadBytes]
 |x::l,a,acc,h=>by
  have h0:w.cell? a=some (.int .u8 x):=by
   have:=h 0 x rfl
   simpa[Addr.add]using this
  have ih:=DW l (a.add 1) (acc.push x.toNat.toUInt8) (λj y hy=>by
   have:=h (j+1) y (by simpa using hy)
   have e:(a.add 1).add j=a.add (j+1):=by
    unfold Addr.add
    by_cases hj:j=0
    ·subst hj;simp
    ·simp[hj];omega
   rw[e];exact this)
  simp only[aD,Extern.Bytes.loadBytes,Sem.run_bind,run_load,h0,Result.andThen]
  rw[ih]
  congr 1
  apply ByteArray.ext
  simp[ByteArray.push]
theorem Cg{E:Env}{l:List Int}{y:Value}(h:VS E (.d (.slice (.int .u8)) l) y):(Extern.Bytes.bytesOf y).run P E.w= .ok (fD l) E.w:=by
 obtain⟨a,cap,vs,rfl,_,hs,nX,pT⟩:=pc h
 have wx:=qk (k:= .u8) (vs:=vs) (l:=l) pT
 cases a with
 |none=>
  have hl:l=[]:=by
   cases l with
   |nil=>rfl
   |cons _ _=>simp at hs
  subst hl
  rfl
 |some ad=>
  have LL:=DW (P:=P) (w:=E.w) l ad .empty λj x hx=>by
   obtain⟨b,off,e,hh⟩:=nX j (.int .u8 x) (by rw[wx];simp[hx])
   have e:ad=⟨b,off,none⟩:=by simpa using e
   subst e
   have h1:=hh.1
   unfold Addr.add
   by_cases hj:j=0
   ·subst hj;simpa using h1
   ·simpa[hj]using h1
  show(Extern.Bytes.loadBytes ad l.length .empty).run P E.w=_
  rw[LL]
  congr 1
  apply ByteArray.ext
  simp[fD]
def A0(a b:List Int):Int:=Extern.BytealgCompare.cmp (fD a) (fD b)
def IV.E:Entry:=Entry.of (D:=List Int×List Int) (X:=Int) [some (.slice (.int .u8)),some (.slice (.int .u8))] (λd=>([.d (.slice (.int .u8)) d.1,.d (.slice (.int .u8)) d.2],[])) (λ_=>True) (λd=>A0 d.1 d.2) (λx=>⟨.d (.int .i64) x,[],[]⟩)
theorem IV.inj:∀d d':List Int×List Int,(([az.d (.slice (.int .u8)) d.1,az.d (.slice (.int .u8)) d.2],([]:List ea)):List az×List ea)=([.d (.slice (.int .u8)) d'.1,.d (.slice (.int .u8)) d'.2],[])->d=d':=by
 rintro⟨a,b⟩ ⟨a',b'⟩ h
 have e1:a=a':=Oj (t:= .slice (.int .u8)) (congrArg (λs:List az×List ea=>s.1.getD 0 .undef) h)
 have e2:b=b':=Oj (t:= .slice (.int .u8)) (congrArg (λs:List az×List ea=>s.1.getD 1 .undef) h)
 rw[e1,e2]
def IV.call:List Int×List Int->Option Int:=λd=>IV.E.run [.d (.slice (.int .u8)) d.1,.d (.slice (.int .u8)) d.2] []
theorem IV.run(d:List Int×List Int):IV.call d=some (A0 d.1 d.2):=Entry.sq (d:=d) IV.inj trivial
theorem IV.of{f:FuncId}{fn:Func}(hf:P.funcs[f]? =some fn)(u5:(fn.name== "runtime.NumGoroutine")=false)(hb:fn.body.isNone=true)(hn:Extern.findNext fn=none)(he:Extern.find fn=some Extern.BytealgCompare.compare):mo P f IV.E:=by
 refine mo.extern hf u5 hb hn he λw g β args cT kC x h1 h2 h3=> ?_
 have hx:∃d:List Int×List Int,(([az.d (.slice (.int .u8)) d.1,az.d (.slice (.int .u8)) d.2],([]:List ea)):List az×List ea)=(args,cT):=by
  by_cases hh:∃d:List Int×List Int,(([az.d (.slice (.int .u8)) d.1,az.d (.slice (.int .u8)) d.2],([]:List ea)):List az×List ea)=(args,cT)
  ·exact hh
  ·exfalso
   have hn:IV.E.run args cT=none:=dif_neg λ⟨d,h,_⟩=>hh ⟨d,h⟩
   rw[hn]at h3
   cases h3
 obtain⟨d,hd⟩:=hx
 simp only[da]at hd
 obtain⟨rfl,rfl⟩:=hd
 have hr:=IV.run d
 have hx:x=A0 d.1 d.2:=bB (h3.symm.trans hr)
 subst hx
 match kC,h1 with
 |[u,v],⟨h4,h5,_⟩=>
  refine⟨.int .i64 (A0 d.1 d.2),?_,qV.same (ky _ _) h2⟩
  have e1:=Cg (P:=P) h4
  have e2:=Cg (P:=P) h5
  have e1:(Extern.Bytes.bytesOf u).run P w= .ok (fD d.1) w:=e1
  have e2:(Extern.Bytes.bytesOf v).run P w= .ok (fD d.2) w:=e2
  have PI:Extern.BytealgCompare.compare [u,v].toArray=(do let a <-Extern.Bytes.bytesOf u;let b <-Extern.Bytes.bytesOf v;pure (goInt (Extern.BytealgCompare.cmp a b))):=rfl
  rw[PI]
  simp[e1,e2,goInt,A0]
def Tc{X Y:Type} [Inhabited Y] (x:Option X):Option (X×Y):=av x λy=>some (y,default)
def Td{X Y:Type} [Inhabited X] (x:Option Y):Option (X×Y):=av x λy=>some (default,y)
@[simp] theorem QD{X Y:Type} [Inhabited Y] (x:X):Tc (Y:=Y) (some x)=some (x,default):=rfl
@[simp] theorem QE{X Y:Type} [Inhabited X] (x:Y):Td (X:=X) (some x)=some (default,x):=rfl
def Entry.half(params:List (Option Ty)){X Z:Type}(run:List az->List ea->Option X)(out:List az->List ea->X->kr)(i:Z->X)(p:X->Option Z):Entry:=
 {params,X:=Z,run:=λa o=>(run a o).bind p,out:=λa o z=>out a o (i z)}
def po{X Z:Type}(p:X->Option Z)(x:Option X):Option Z:=x.bind p
theorem mo.half{f:FuncId}{params:List (Option Ty)}{X Z:Type}{run:List az->List ea->Option X}{out:List az->List ea->X->kr}{i:Z->X}{p:X->Option Z}(hp:∀x z,p x=some z->x=i z)
  (h:mo P f {params,X,run,out}):mo P f (Entry.half params run out i p):=by
 intro w g β args cT kC z h3 h4 h5
 have h5:(run args cT).bind p=some z:=h5
 cases hr:run args cT with
 |none=>rw[hr]at h5;cases h5
 |some x=>
  rw[hr]at h5
  obtain rfl:=hp x z h5
  exact h w g β args cT kC (i z) h3 h4 hr
end
theorem S1:(type_of% @N.lt)/\(type_of% @N.le)/\(type_of% @N.gt)/\(type_of% @N.ge)/\(type_of% @N.eq)/\(type_of% @N.ne)/\(type_of% @N.ib)/\(type_of% @N.ic)/\(type_of% @N.nn)/\(type_of% @N.nz)/\(type_of% @N.dc)/\(type_of% @N.rm)/\(type_of% @N.an)/\(type_of% @N.or)/\(type_of% @N.no)/\(type_of% @ae)/\(type_of% @ah)/\(type_of% @ab):=⟨@N.lt,@N.le,@N.gt,@N.ge,@N.eq,@N.ne,@N.ib,@N.ic,@N.nn,@N.nz,@N.dc,@N.rm,@N.an,@N.or,@N.no,@ae,@ah,@ab⟩
theorem S2:(type_of% @ab)/\(type_of% @N.SF)/\(type_of% @N.pk)/\(type_of% @N.UP)/\(type_of% @N.S4)/\(type_of% @N.Vj)/\(type_of% @N.Vi)/\(type_of% @N.S0)/\(type_of% @N.Vh)/\(type_of% @N.Vg)/\(type_of% @N.Us)/\(type_of% @N.Ur)/\(type_of% @N.Uu)/\(type_of% @N.Ut)/\(type_of% @N.cN)/\(type_of% @N.cL)/\(type_of% @N.tL)/\(type_of% @aa)/\(type_of% @and_self)/\(type_of% @true_and)/\(type_of% @and_true):=⟨@ab,@N.SF,@N.pk,@N.UP,@N.S4,@N.Vj,@N.Vi,@N.S0,@N.Vh,@N.Vg,@N.Us,@N.Ur,@N.Uu,@N.Ut,@N.cN,@N.cL,@N.tL,@aa,@and_self,@true_and,@and_true⟩
end Go.Ab
namespace Go.Ab
open Go.ChangeShapes Go.WideShapes Go.ChangeAt Go.RowKit Go.Deep
def Fi:(t:Ty)->t.den->Prop
 | .int k,x=>(Lit.int k x).wf=true
 | .bool,_=>True
 | .str,s=>(s:ByteArray).size<=maxLen
 | .slice t,l=>(l:List t.den).length<=maxLen/\∀x∈(l:List t.den),Fi t x
 | .unit,_=>True
 | .pair a b,x=>Fi a x.1/\Fi b x.2
 | .arr n t,l=>(l:List t.den).length=n/\∀x∈(l:List t.den),Fi t x
 | .iv _,_ | .oV _,_=>False
def rY(P:Program)(rd:TypeId->Ty->Bool):Nat->List Field->Ty->Bool
 |_,[],.unit=>true
 |off,f::fs,.pair a b=>Nat.beq f.offset off && (rd f.type a && (Nat.beq (P.cellsOf f.type) a.size && rY P rd (off+a.size) fs b))
 |_,_,_=>false
def tn(P:Program):Nat->TypeId->Ty->Bool
 | 0,_,_=>false
 |n+1,T,ty=>
  match P.underlying T,ty with
  |some (.int k),.int k'=>decide (k=k')
  |some .bool,.bool=>true
  |some .string,.str=>true
  |some (.slice e),.slice t=>tn P n e t && Nat.beq (P.cellsOf e) t.size
  |some (.array k e),.arr k' t=>Nat.beq k k' && (tn P n e t && (Nat.beq (P.cellsOf e) t.size && Nat.beq (P.cellsOf T) (k*t.size)))
  |some (.struct fs),ty=>rY P (tn P n) 0 fs.toList ty && Nat.beq (P.cellsOf T) ty.size
  |_,_=>false
theorem Ng{a b:Nat}:(Nat.beq a b=true)=(a=b):=propext ⟨fk,λh=>by subst h;exact Nat.beq_refl a⟩
theorem Gp{α β:Type}{f:α->Option β}:∀ {l:List α} {r:List β},l.mapM f=some r->r.length=l.length/\∀(i:Nat) (x:α),l[i]? =some x->f x=r[i]?
 |[],r,h=>by
  simp only[List.mapM_nil,Option.pure_def,ax]at h
  subst h
  exact⟨rfl,λi x h=>by simp at h⟩
 |y::l,r,h=>by
  simp only[List.mapM_cons,Option.bind_eq_bind,Option.pure_def,Option.bind_eq_some_iff,ax]at h
  obtain⟨b,hb,r',hr,rfl⟩:=h
  obtain⟨h1,h2⟩:=Gp hr
  refine⟨by simp[h1],λi x hi=> ?_⟩
  cases i with
  |zero=>
   simp only[fZ,ax]at hi
   subst hi
   simpa using hb
  |succ i=>
   simp only[kQ]at hi ⊢
   exact h2 i x hi
theorem JR{w:World}{base:Nat}{a:Addr}{n:Nat}{cs:List Value}(h:w.cells? base a n=some cs):cs.length=n/\∀i,i < n->w.cell? (a.add i)=cs[i]? :=by
 unfold World.cells? at h
 split at h
 ·obtain⟨h1,h2⟩:=Gp h
  exact⟨by simpa using h1,λi hi=>h2 i i (by simp[hi])⟩
 ·cases h
theorem add_add(a:Addr)(x y:Nat):(a.add x).add y=a.add (x+y):=by
 unfold Addr.add
 by_cases hx:x=0 <;> by_cases hy:y=0 <;> simp[hx,hy,ew]
theorem KM{w:World}{a:Addr}{v:Value}(h:w.cell? a=some v):a.spot=none:=by
 unfold World.cell? at h
 split at h
 ·split at h
  ·cases h
  ·rename_i hs
   cases hh:a.spot with
   |none=>rfl
   |some _=>simp[hh]at hs
 ·cases h
theorem Ql{E:Env}(hg:∀b,E.g b= .free){a:Addr}{vs:List Value}(h:∀i,i < vs.length->E.w.cell? (a.add i)=vs[i]?):uv E (some a) vs:=by
 intro i v hv
 have hi:i < vs.length:=(dR.1 hv).1
 have h0:=h 0 (by omega)
 rw[cQ (by omega)]at h0
 have hs:a.spot=none:=KM (a:=a) (by simpa[Addr.add]using h0)
 obtain⟨b,off,sp⟩:=a
 simp only at hs
 subst hs
 refine⟨b,off,rfl,?_,?_⟩
 ·have:=h i hi
  rw[hv]at this
  rw[<-this]
  unfold Addr.add
  split
  ·rename_i h;subst h;rfl
  ·rfl
 ·unfold pj
  rw[hg b]
  trivial
section
variable {H:Type} {enc:TypeId×Value->H} {P:Program} {base:Nat} {spare:Nat->Bool} {held:Bool} {E:Env}
theorem Js{t:Ty}{R:List Value->t.den->Prop}{G:t.den->Prop}{w:World}{a:Addr}{z:Nat}(hR:∀c x,R c x->c.length=z):∀(len:Nat),(∀i,i < len->∃c x,R c x/\G x/\∀j,j < z->w.cell? (a.add (i*z+j))=c[j]?)->
  ∃(vs:List Value) (l:List t.den),vs.length=len*z/\l.length=len/\(∀i,i < vs.length->w.cell? (a.add i)=vs[i]?)/\bA R vs l/\∀x∈l,G x
 | 0,_=>⟨[],[],by simp,rfl,λi h=>by simp at h,rfl,λ_ h=>by cases h⟩
 |len+1,h=>by
  obtain⟨vs,l,h1,h2,h3,h4,h5⟩:=Js hR len λi hi=>h i (by omega)
  obtain⟨c,x,g1,g2,g3⟩:=h len (by omega)
  have hc:=hR c x g1
  refine⟨vs++c,l++ [x],by rw[aj,h1,hc,eM,lj],by rw[aj,h2];rfl,λi hi=> ?_,bA.append h4 ⟨c,[],by simp,g1,rfl⟩,λy hy=> ?_⟩
  ·rw[aj,h1,hc]at hi
   by_cases hl:i < vs.length
   ·rw[h3 i hl,fy hl]
   ·rw[List.getElem?_append_right (by omega),h1,<-g3 (i - len*z) (by omega),show len*z+(i - len*z)=i by omega]
  ·rcases bP.1 hy with hy | hy
   ·exact h5 y hy
   ·rw[ck.1 hy];exact g2
theorem Dh{t:Ty}{R:List Value->t.den->Prop}{G:t.den->Prop}{z:Nat}:∀(n:Nat) (cs:List Value),cs.length=n*z->(∀i,i < n->∃x,R ((cs.drop (i*z)).take z) x/\G x)->
  ∃l:List t.den,l.length=n/\bA R cs l/\∀x∈l,G x
 | 0,cs,h,_=>⟨[],rfl,bo (by simpa using h),λ_ h=>by cases h⟩
 |n+1,cs,h,hi=>by
  obtain⟨x,g1,g2⟩:=hi 0 (by omega)
  obtain⟨l,h1,h2,h3⟩:=Dh (R:=R) (G:=G) (z:=z) n (cs.drop z) (by rw[dx,h,eM];omega) λi RM=>by
   obtain⟨y,k1,k2⟩:=hi (i+1) (by omega)
   refine⟨y,?_,k2⟩
   rw[fI,show z+i*z=(i+1)*z by rw[eM];omega]
   exact k1
  refine⟨x::l,by simp[h1],⟨cs.take z,cs.drop z,(dL z cs).symm,by simpa using g1,h2⟩,λy hy=> ?_⟩
  rcases dd.1 hy with rfl | hy
  ·exact g2
  ·exact h3 y hy
theorem Ag{rd:TypeId->Ty->Bool}{cs:List Value}:∀(fs:List Field) (off:Nat) (ty:Ty),rY P rd off fs ty=true->off+ty.size<=cs.length->
  (∀f∈fs,∀t,rd f.type t=true->P.cellsOf f.type=t.size->∃v,dn E t ((cs.drop f.offset).take (P.cellsOf f.type)) v/\Fi t v)->∃v,dn E ty ((cs.drop off).take ty.size) v/\Fi ty v
 |[],off,ty,h,hl,_=>by
  cases ty <;> simp only[rY]at h <;> first | cases h | skip
  exact⟨(),by simp[dn,Ty.size],trivial⟩
 |f::fs,off,ty,h,hl,hf=>by
  cases ty <;> simp only[rY]at h <;> first | cases h | skip
  rename_i a b
  simp only[ak,Ng]at h
  obtain⟨h1,h2,h3,h4⟩:=h
  have hl:off+(a.size+b.size)<=cs.length:=hl
  obtain⟨v,k1,k2⟩:=hf f (aN ..) a h2 h3
  obtain⟨u,k3,k4⟩:=Ag fs (off+a.size) b h4 (by omega) λf' hf'=>hf f' (aL _ hf')
  refine⟨(v,u),⟨(cs.drop off).take a.size,(cs.drop (off+a.size)).take b.size,?_,?_,k3⟩,k2,k4⟩
  ·rw[show Ty.size (.pair a b)=a.size+b.size from rfl,List.take_add,fI]
  ·rw[h1,h3]at k1;exact k1
theorem yi(hg:∀b,E.g b= .free):∀(n:Nat) (T:TypeId) (ty:Ty),tn P n T ty=true->∀ {fuel:Nat} {cs:List Value} {x:DataW H×List MemPlace},DataW.trod enc P E.w base spare held fuel T cs=some x->∃v,dn E ty cs v/\Fi ty v
 | 0,_,_,h,_,_,_,_=>by simp[tn]at h
 |n+1,T,ty,h,fuel,cs,x,hx=>by
  unfold tn at h
  split at h
  ·rename_i k k' hu
   obtain rfl:=of_decide_eq_true h
   obtain⟨m,rfl,_,hw⟩:=DataW.trod_int hu hx
   exact⟨m,rfl,hw⟩
  ·rename_i hu
   obtain⟨b,rfl,_⟩:=DataW.trod_bool hu hx
   exact⟨b,rfl,trivial⟩
  ·rename_i hu
   obtain⟨s,rfl,_,hs⟩:=DataW.trod_string hu hx
   exact⟨s,rfl,hs⟩
  ·rename_i e t hu
   simp only[ak,Ng]at h
   obtain⟨h1,h2⟩:=h
   rcases open_slice hu hx with⟨rfl,_⟩ | ⟨a,len,cap,m,f,D,Pl,rfl,_,hl,hm,SQ,_,he⟩
   ·exact⟨([]:List t.den),⟨none,0,[],rfl,ay _,λh=>by simp at h,λi v hv=>by simp at hv,rfl⟩,aV _,λ_ h=>by cases h⟩
   ·have SP:len<=m:=by rw[SQ];split <;> omega
    obtain⟨vs,l,k1,k2,k3,k4,k5⟩:=Js (t:=t) (R:=dn E t) (G:=Fi t) (w:=E.w) (a:=a) (z:=t.size) (λc x h=>dn.size h) len λi hi=>by
     obtain⟨cs',g1,g2⟩:=he i (by omega)
     obtain⟨v,g3,g4⟩:=yi hg n e t h1 g2
     obtain⟨g5,g6⟩:=JR g1
     refine⟨cs',v,g3,g4,λj hj=> ?_⟩
     rw[<-g6 j (by omega),add_add,h2]
    refine⟨l,⟨some a,cap,vs,by rw[k2],by rw[k2];exact hl,λ_=>rfl,Ql hg k3,k4⟩,by rw[k2];omega,k5⟩
  ·rename_i k e k' t hu
   simp only[ak,Ng]at h
   obtain⟨rfl,h1,h2,h3⟩:=h
   obtain⟨xs,m,rfl,_,hl,M5,he⟩:=DataW.trod_array hu hx
   obtain⟨l,k1,k2,k3⟩:=Dh (t:=t) (R:=dn E t) (G:=Fi t) (z:=t.size) k cs (by rw[hl,h3]) λi hi=>by
    have:=he i hi
    rw[cQ (by omega),h2]at this
    exact yi hg n e t h1 this
   exact⟨l,⟨k1,k2⟩,k1,k3⟩
  ·rename_i ty fs hu
   simp only[ak,Ng]at h
   obtain⟨h1,h2⟩:=h
   obtain⟨xs,m,rfl,_,hl,M5,he⟩:=DataW.trod_struct hu hx
   obtain⟨v,k1,k2⟩:=Ag (E:=E) (cs:=cs) fs.toList 0 _ h1 (by rw[hl,h2];omega) λf hf t ht hc=>by
    obtain⟨i,hi,VD⟩:=List.mem_iff_getElem.1 hf
    have hi':i < fs.size:=by simpa using hi
    have:=he i f (by rw[<-VD];simp[hi'])
    rw[cQ (by omega)]at this
    exact yi hg n f.type t ht this
   refine⟨v,?_,k2⟩
   rwa[aI,bz (by omega)]at k1
  ·cases h
end
end Go.Ab
namespace Go.Ab
open Go.ChangeShapes Go.WideShapes Go.ChangeAt Go.RowKit Go.Deep
section
variable {H:Type} {enc:TypeId×Value->H} {P:Program} {base b0:Nat} {spare:Nat->Bool} {held:Bool} {E:Env} {W:World}
theorem HQ{rd:TypeId->Ty->Bool}{fs:List Field}{off:Nat}{ty:Ty}(h:rY P rd off fs ty=true):ty.agg=true:=by
 cases fs <;> cases ty <;> first | rfl | (simp[rY]at h)
theorem MC(hw:E.w=W)(hg:∀b,E.g b= .free){n:Nat}{t:TypeId}{ty:Ty}(h:tn P n t ty=true){v:Value}{d:DataW H}{ps:List MemPlace}(r9:Value.okWide P W .any base t v)(hd:DataW.Trod enc P W b0 spare held t v d ps):
  ∃x:ty.den,VS E (.d ty x) v/\Fi ty x:=by
 subst hw
 obtain⟨fuel,hf⟩:=hd
 obtain⟨x,h1,h2⟩:=yi hg n t ty h hf
 refine⟨x,⟨v.cells.toList,h1,?_⟩,h2⟩
 cases n with
 |zero=>simp[tn]at h
 |succ n=>
  unfold tn at h
  split at h
  ·rename_i k k' hu
   obtain⟨m,rfl⟩:=okWide_int hu r9
   rfl
  ·rename_i hu
   obtain⟨m,rfl⟩:=okWide_bool hu r9
   rfl
  ·rename_i hu
   obtain⟨m,rfl⟩:=okWide_string hu r9
   rfl
  ·rename_i hu
   obtain⟨a,len,cap,rfl⟩:=okWide_slice hu r9
   rfl
  ·rename_i hu
   simp only[Value.okWide,hu]at r9
   obtain⟨cs,rfl,_⟩:=r9
   show _=_
   simp[Value.cells]
  ·rename_i fs hu
   simp only[Value.okWide,hu]at r9
   obtain⟨cs,rfl,_⟩:=r9
   simp only[ak]at h
   have:=HQ h.1
   simp only[az.agg,this,gd,Value.cells,Array.toArray_toList]
  ·cases h
def DV:List Ty->Type
 |[]=>Unit
 |t::ts=>t.den×DV ts
def DV.kC:(ts:List Ty)->DV ts->List az
 |[],_=> []
 |t::ts,x=> .d t x.1::DV.kC ts x.2
def DV.UA:(ts:List Ty)->DV ts->Prop
 |[],_=>True
 |t::ts,x=>Fi t x.1/\DV.UA ts x.2
def pV(P:Program)(n:Nat):List TypeId->List Ty->Bool
 |[],[]=>true
 |T::Ts,t::ts=>tn P n T t && pV P n Ts ts
 |_,_=>false
theorem DP(hw:E.w=W)(hg:∀b,E.g b= .free){n:Nat}:∀ {Ts:List TypeId} {ts:List Ty} {vs:List Value} {ds:List (DataW H)} {ps:List MemPlace},pV P n Ts ts=true->
  (∀(j:Nat) t v,Ts[j]? =some t->vs[j]? =some v->Value.okWide P W .any base t v)->DataW.TrodAll enc P W b0 spare held Ts vs ds ps->∃x:DV ts,sO E (DV.kC ts x) vs/\DV.UA ts x
 |[],[],vs,ds,ps,_,_,h=>by
  obtain⟨rfl,rfl,rfl⟩:=trodAll_nil h
  exact⟨(),trivial,trivial⟩
 |T::Ts,[],_,_,_,h,_,_=>by simp[pV]at h
 |[],t::ts,_,_,_,h,_,_=>by simp[pV]at h
 |T::Ts,t::ts,vs,ds,ps,h,r9,hd=>by
  simp only[pV,ak]at h
  obtain⟨v,vs',d,ds',p,q,rfl,rfl,rfl,h1,h2⟩:=trodAll_cons hd
  obtain⟨x,k1,k2⟩:=MC hw hg h.1 (r9 0 T v rfl rfl) h1
  obtain⟨y,k3,k4⟩:=DP hw hg h.2 (λj t v hj hv=>r9 (j+1) t v (by simpa using hj) (by simpa using hv)) h2
  exact⟨(x,y),⟨k1,k3⟩,⟨k2,k4⟩⟩
def qD(P:Program)(Ts:List TypeId):Bool:=Ts.all λt=>P.readableRec t && decide (t < P.types.size)
theorem wG(hl:laidOutB P=true){W':World}(hb:Below W.heap.size W W')(sp:Nat->Bool):∀ {Ts:List TypeId} {vs:List Value} {ds:List (DataW H)} {ps:List MemPlace},qD P Ts=true->(∀p∈ps,p.block < W.heap.size)->(∀p∈ps,sp p.block=true)->
  DataW.TrodAll enc P W 0 (λ_=>true) true Ts vs ds ps->DataW.TrodAll enc P W' 0 sp true Ts vs ds ps
 |[],vs,ds,ps,_,_,_,h=>by
  obtain⟨rfl,rfl,rfl⟩:=trodAll_nil h
  exact trodAll_mk0
 |T::Ts,vs,ds,ps,hr,jt,hs,h=>by
  obtain⟨v,vs',d,ds',p,q,rfl,rfl,rfl,h1,h2⟩:=trodAll_cons h
  simp only[qD,ff,ak,decide_eq_true_eq]at hr
  have h3:=WideElems.Trod_stays hl hr.1.1 hr.1.2 h1 (λx hx=>hb.same (jt x (bP.2 (.inl hx)))) (λx hx=>hs x (bP.2 (.inl hx)))
  exact⟨p,q,h3,wG hl hb sp (by simpa[qD]using hr.2) (λx hx=>jt x (bP.2 (.inr hx))) (λx hx=>hs x (bP.2 (.inr hx))) h2,rfl⟩
end
theorem vC{H:Type}{enc:TypeId×Value->H}{P:Program}{W:World}{b0:Nat}{spare:Nat->Bool}{held:Bool}:∀ {Ts:List TypeId} {vs:List Value} {ds:List (DataW H)} {ps:List MemPlace},DataW.TrodAll enc P W b0 spare held Ts vs ds ps->ds.length=Ts.length
 |[],_,_,_,h=>by
  obtain⟨_,rfl,_⟩:=trodAll_nil h
  rfl
 |_::_,_,_,_,h=>by
  obtain⟨v,vs',d,ds',p,q,rfl,rfl,rfl,h1,h2⟩:=trodAll_cons h
  simp[vC h2]
theorem GJ{H:Type}{enc:TypeId×Value->H}{P:Program}{f:Func}{s:ChangeSpec}{W W':World}{args:Array Value}{v:Value}{ds gs:List (DataW H)}{before:List MemPlace}{tb:TypeId}
  (hl:laidOutB P=true) (Hi:qD P f.params.toList=true) (F8:s.vars=[]) (Uc:f.resultTypes= #[tb]) (Uf:P.underlying tb=some .bool)
  (hW:DataW.Whole enc P f.params.toList s.vars false W args.toList ds gs before) (PJ:s.fn H (ds++gs)= {results:=[.lit (.bool true)],args:=ds}) (hb:Below W.heap.size W W') (hv:v= .bool true):
  s.post enc P f false true false false W args v W':=by
 subst hv
 have hW':=hW
 have hold:∀p∈before,(λb=>decide (b < W.heap.size)) p.block=true:=λp hp=>by simpa using hW.lt p hp
 obtain⟨p,q,hA,hV,rfl,hz,_⟩:=hW
 rw[F8]at hV
 obtain⟨rfl,rfl⟩:=trodVars_none hV
 have jt:∀x∈p,x.block < W.heap.size:=λx hx=>hW'.lt x (bP.2 (.inl hx))
 have Bm:∀sp:Nat->Bool,(∀x∈p,sp x.block=true)->DataW.TrodAll enc P W' 0 sp true f.params.toList args.toList (s.fn H (ds++ [])).args p:=λsp hs=>by
  rw[PJ]
  exact wG hl hb sp Hi jt hs hA
 have T8:∀(b:Nat) (sp:Nat->Bool) (hd:Bool),DataW.TrodAll enc P W' b sp hd f.resultTypes.toList ((Value.bool true).resultList f.resultTypes.size) (s.fn H (ds++ [])).results []:=λb sp hd=>by
  rw[PJ,Uc]
  exact trodAll_mk1 (shut_bool Uf _)
 have wx:∀sp:Nat->Bool,DataW.TrodVars enc P W' sp s.vars (s.fn H (ds++ [])).vars []:=λsp=>by
  rw[PJ,F8]
  rfl
 refine⟨ds,[],p++ [],[],p,[],hW',T8 _ _ _,Bm _ (λx hx=>hold x (bP.2 (.inl hx))),wx _,hb.frame _,λh=>by cases h⟩
theorem vm{P:Program}{n:Nat}:∀ {Ts:List TypeId} {ts:List Ty},pV P n Ts ts=true->Ts.length=ts.length
 |[],[],_=>rfl
 |[],_::_,h=>by simp[pV]at h
 |_::_,[],h=>by simp[pV]at h
 |_::_,_::_,h=>by
  simp only[pV,ak]at h
  simp[vm h.2]
theorem Ki{H:Type}{enc:TypeId×Value->H}{P:Program}{f:FuncId}{fn:Func}{en:Entry}{s:ChangeSpec}{tb:TypeId}(n:Nat)(tys:List Ty)(hD:mo P f en)(hf:P.funcs[f]? =some fn)(Ry:fn.body.isSome=true)(u5:(fn.name== "runtime.NumGoroutine")=false)
  (hl:laidOutB P=true) (OH:pV P n fn.params.toList tys=true) (Hi:qD P fn.params.toList=true) (F8:s.vars=[]) (Uc:fn.resultTypes= #[tb]) (Uf:P.underlying tb=some .bool)
  (PJ:∀ds:List (DataW H),ds.length=tys.length->s.fn H (ds++ [])= {results:=[.lit (.bool true)],args:=ds})
  (mU:∀x:DV tys,DV.UA tys x->∃r,en.run (DV.kC tys x) []=some r/\en.out (DV.kC tys x) [] r=⟨.d .bool true,[],[]⟩)
  {W:World} {base:Nat} {args:Array Value} {ds gs:List (DataW H)} {before:List MemPlace}
  (r9:∀(j:Nat) t v,fn.params[j]? =some t->args[j]? =some v->Value.okWide P W .any base t v)
  (hW:DataW.Whole enc P fn.params.toList s.vars false W args.toList ds gs before):
  Calls P f args W λe W'=>∃v,e= .returned v/\s.post enc P fn false true false false W args v W':=by
 have hW':=hW
 obtain⟨p,q,hA,hV,_,_,_⟩:=hW
 rw[F8]at hV
 obtain⟨rfl,rfl⟩:=trodVars_none hV
 obtain⟨x,Uj,Uk⟩:=DP (E:=(gw []).env W (λ_=> .free) (λ_=>none)) rfl (λ_=>rfl) OH (λj t v hj hv=>r9 j t v (by simpa using hj) (by simpa using hv)) hA
 obtain⟨r,PY,H2⟩:=mU x Uk
 have db:(callFunc f args).run P W= .ok (.enter f args) W:=by
  unfold callFunc
  obtain⟨c,hc⟩:=cv.1 Ry
  have hname':¬fn.name= "runtime.NumGoroutine" :=by simpa using u5
  simp[hf,hname',hc]
 have hlen:ds.length=tys.length:=by rw[vC hA,vm OH]
 have ho:jd ((gw []).env W (λ_=> .free) (λ_=>none)):=λid ver fr c h=>by
  exfalso
  cases id with
  |dB k=>simp[AS.env,AS.cz,gw]at h
  |new i j=>simp[AS.env,AS.cz,gw]at h
 rcases hD W (λ_=> .free) (λ_=>none) (DV.kC tys x) [] args.toList r Uj ho PY with⟨_,hc⟩ | ⟨v,w',hc,_⟩
 ·refine hc.mono λe w' he=> ?_
  obtain⟨v,rfl,g',β',h1,_,h2,_⟩:=he
  rw[H2]at h1
  refine⟨v,rfl,GJ hl Hi F8 Uc Uf hW' (PJ ds hlen) ⟨h2.os,h2.tape,h2.output.1,h2.size,λb hb=>(h2.yO b hb).2⟩ ?_⟩
  obtain⟨cs,k1,k2⟩:=h1
  have k1:cs=[.bool true]:=k1
  subst k1
  have k2: [Value.bool true]=[v]:=k2
  simpa using k2.symm
 ·rw[show args.toList.toArray=args from Array.toArray_toList ..,db]at hc
  cases hc
end Go.Ab
namespace Go.Ab
abbrev W:=BitVec 32
def pL(w:W)(k:Nat):W:=w <<< (32 - k) ||| w >>> k
def Rb(a b c d:Int):W:=BitVec.ofInt 32 a <<< 24 ||| BitVec.ofInt 32 b <<< 16 ||| BitVec.ofInt 32 c <<< 8 ||| BitVec.ofInt 32 d
def be(l:List Int)(i:Nat):W:=Rb (l.getD (4*i) 0) (l.getD (4*i+1) 0) (l.getD (4*i+2) 0) (l.getD (4*i+3) 0)
structure St where
 a:W
 b:W
 c:W
 d:W
 e:W
 f:W
 g:W
 h:W
def St.l(s:St):List Int:=[vw s.a,vw s.b,vw s.c,vw s.d,vw s.e,vw s.f,vw s.g,vw s.h]
def UF(x:W):W:=pL x 7^^^pL x 18^^^x >>> 3
def UG(y:W):W:=pL y 17^^^pL y 19^^^y >>> 10
def OR(l:List W)(i:Nat):W:=l.getD (i - 16) 0+UF (l.getD (i - 15) 0)+l.getD (i - 7) 0+UG (l.getD (i - 2) 0)
def ext(l:List W):List W:=l++ [OR l l.length]
def M9(m:List W):Nat->List W
 | 0=>m
 |n+1=>ext (M9 m n)
def words(b:List Int):List W:=(List.range 16).map (be b)
def sched(b:List Int):List W:=M9 (words b) 48
def kl:List Nat:=[
  0x428a2f98,0x71374491,0xb5c0fbcf,0xe9b5dba5,0x3956c25b,0x59f111f1,0x923f82a4,0xab1c5ed5,
  0xd807aa98,0x12835b01,0x243185be,0x550c7dc3,0x72be5d74,0x80deb1fe,0x9bdc06a7,0xc19bf174,
  0xe49b69c1,0xefbe4786,0x0fc19dc6,0x240ca1cc,0x2de92c6f,0x4a7484aa,0x5cb0a9dc,0x76f988da,
  0x983e5152,0xa831c66d,0xb00327c8,0xbf597fc7,0xc6e00bf3,0xd5a79147,0x06ca6351,0x14292967,
  0x27b70a85,0x2e1b2138,0x4d2c6dfc,0x53380d13,0x650a7354,0x766a0abb,0x81c2c92e,0x92722c85,
  0xa2bfe8a1,0xa81a664b,0xc24b8b70,0xc76c51a3,0xd192e819,0xd6990624,0xf40e3585,0x106aa070,
  0x19a4c116,0x1e376c08,0x2748774c,0x34b0bcb5,0x391c0cb3,0x4ed8aa4a,0x5b9cca4f,0x682e6ff3,
  0x748f82ee,0x78a5636f,0x84c87814,0x8cc70208,0x90befffa,0xa4506ceb,0xbef9a3f7,0xc67178f2]
def kw(i:Nat):W:=BitVec.ofNat 32 (kl.getD i 0)
def ze:List Int:=kl.map λ(n:Nat)=>(n:Int)
def mr(s:St)(k w:W):St:=
 let t:=s.h+(pL s.e 6^^^pL s.e 11^^^pL s.e 25)+(s.g^^^s.e &&& (s.f^^^s.g))+k+w
 let r:=pL s.a 2^^^pL s.a 13^^^pL s.a 22
 let most:=s.a &&& s.b ||| s.c &&& (s.a ||| s.b)
 ⟨t+r+most,s.a,s.b,s.c,s.d+t,s.e,s.f,s.g⟩
def rounds(ws:List W)(s:St):Nat->St
 | 0=>s
 |n+1=>mr (rounds ws s n) (kw n) (ws.getD n 0)
def zh(s:St)(b:List Int):St:=
 let v:=rounds (sched b) s 64
 ⟨v.a+s.a,v.b+s.b,v.c+s.c,v.d+s.d,v.e+s.e,v.f+s.f,v.g+s.g,v.h+s.h⟩
def nT:St:=⟨0x6a09e667,0xbb67ae85,0x3c6ef372,0xa54ff53a,0x510e527f,0x9b05688c,0x1f83d9ab,0x5be0cd19⟩
def sT:Nat->St->List Int->St
 | 0,s,_=>s
 |n+1,s,l=>sT n (zh s (l.take 64)) (l.drop 64)
def blocks(s:St)(l:List Int):St:=sT (l.length / 64) s l
def SH(w:W)(k:Nat):Int:=vw ((w >>> (24 - 8*k)).setWidth 8)
def Nj(w:W):List Int:=[SH w 0,SH w 1,SH w 2,SH w 3]
def NV(s:St):List Int:=Nj s.a++Nj s.b++Nj s.c++Nj s.d++Nj s.e++Nj s.f++Nj s.g++Nj s.h
def lO(n:Int):List Int:=[n / 2^56%256,n / 2^48%256,n / 2^40%256,n / 2^32%256,n / 2^24%256,n / 2^16%256,n / 2^8%256,n%256]
def sx(n:Nat):Nat:=(119 - n%64)%64
def pad(b:List Int):List Int:=b++128::(List.replicate (sx b.length) 0++lO (8*b.length))
def Qo(b:List Int):List Int:=NV (blocks nT (pad b))
def mu(parts:List (List Int)):List Int:=parts.flatMap λp=>lO p.length++p
def zz(name:List Int)(parts:List (List Int)):List Int:=lO name.length++name++mu parts
def tag(name:List Int)(parts:List (List Int)):List Int:=Qo (zz name parts)
theorem Iz(b:List Int):(Qo b).length=32:=rfl
theorem cF(n:Int):(lO n).length=8:=rfl
theorem pz(l:List W):(ext l).length=l.length+1:=by simp[ext]
theorem sK(m:List W):∀n,(M9 m n).length=m.length+n
 | 0=>rfl
 |n+1=>by rw[M9,pz,sK m n];omega
theorem fo(b:List Int):(words b).length=16:=by simp[words]
theorem uO:∀(n:Nat) (s:St) (a b:List Int),a.length=64*n->∀m,sT (n+m) s (a++b)=sT m (sT n s a) b
 | 0,s,a,b,h,m=>by
  have:a=[]:=bo (by omega)
  subst this
  simp[sT]
 |n+1,s,a,b,h,m=>by
  rw[show n+1+m=(n+m)+1 by omega,sT,sT]
  rw[gF (by omega),List.drop_append_of_le_length (by omega)]
  exact uO n _ _ _ (by simp;omega) m
theorem wj(s:St)(a b:List Int)(h:a.length%64=0):blocks s (a++b)=blocks (blocks s a) b:=by
 unfold blocks
 have e:(a++b).length / 64=a.length / 64+b.length / 64:=by simp;omega
 rw[e]
 exact uO _ _ _ _ (by omega) _
theorem uP(s:St)(l:List Int)(h:64<=l.length):blocks s l=blocks (zh s (l.take 64)) (l.drop 64):=by
 unfold blocks
 rw[show l.length / 64=(l.drop 64).length / 64+1 by simp;omega]
 rfl
theorem tO(s:St)(l:List Int)(h:l.length < 64):blocks s l=s:=by
 unfold blocks
 rw[show l.length / 64=0 by omega]
 rfl
def CJ(x:Int):Prop:=0<=x/\x < 256
def Bytes(l:List Int):Prop:=∀x∈l,CJ x
theorem Nk(w:BitVec 8):CJ (vw w):=⟨zB w,MX w⟩
theorem CJ.vw{x:Int}(h:CJ x):x=vw (BitVec.ofInt 8 x):=by
 rw[hM]
 obtain⟨h1,h2⟩:=h
 omega
theorem HB(s:St):Bytes (NV s):=by
 intro x hx
 simp only[NV,Nj,bP,dd,jO,or_false]at hx
 rcases hx with((((((hx | hx) | hx) | hx) | hx) | hx) | hx) | hx <;> rcases hx with rfl | rfl | rfl | rfl <;> exact Nk _
theorem JO(b:List Int):Bytes (Qo b):=HB _
end Go.Ab
end
