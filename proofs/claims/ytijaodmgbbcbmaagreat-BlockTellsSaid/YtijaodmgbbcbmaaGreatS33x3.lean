/-
  Made short by a program of mine (wip/tools/mini.py).
-/
import Derived.Test.YtijaodmgbbcbmaaGreatS33x2
import Derived.Scope
import Derived.Laws.Externs
import Derived.KernelRfl
import Derived.ProofKit
import Derived.OpenShut
import Derived.Deep.Slices
import Derived.Carry
set_option linter.unusedVariables false
set_option linter.unusedSimpArgs false
set_option maxRecDepth 100000
set_option synthInstance.maxSize 5000
open Go renaming IntKind->lW,FuncId->gC,Program->bj,World->cO
open List renaming replicate->ai
open BitVec renaming ofInt->bA
open Nat renaming beq->mG
open Go.Sem renaming run_bind->cU,run_pure->eK
open Go.Result renaming andThen_ok->cm
open Int renaming toNat_natCast->aa,toNat->ab
open OfNat renaming ofNat->dS
open Option renaming some->av,none->aH
open Bool renaming true->bm,false->aZ
noncomputable section
namespace Go.Ab
section
variable {P:bj} {Γ:tg} {an:Da} {C:Ctx}
open Classical in
def aVp(p:Prop):Option Unit:=if p then av () else aH
theorem asV{p:Prop}(h:aVp p=av ()):p:=by
 unfold aVp at h;split at h
 ·assumption
 ·cases h
theorem aLA{p:Prop}(h:p):aVp p=av ():=by unfold aVp;rw[if_pos h]
theorem amY{X R:Type}{S:X->Prop}{k:X->Option R}{x:Option R}(hn:∃y,S y)(h:∀y,S y->k y=x):aaR S k=x:=by
 unfold aaR;cases x with
 |none=>exact ET λ⟨r,⟨y,hy⟩,hr⟩=>by have:=h y hy;rw[hr y hy]at this;cases this
 |some r=>
  have hx:∃r,(∃x,S x)/\∀x,S x->k x=av r:=⟨r,hn,h⟩;rw[BX hx];obtain⟨⟨y,hy⟩,h1⟩:=hx.choose_spec;have:=h1 y hy;rw[h y hy]at this;exact this.symm
def aAm(P:bj)(Γ:tg)(an:Da)(N:Nat)(b:Code):Prop:=∀le,an.fa (eG b)=av le->(le.set=aH->∀s x,le.run s=av x->∃n,Y7 (norm P (an.loops (eG b))) (λe=>norm P (an.outs (eG b) (ash e))) (ev P Γ an N b) n s (λe s'=>av (e,s'))=(le.out x).eval)/\∀S,le.set=av S->∀s,(∃x,S s x)->∃n,Y7 (norm P (an.loops (eG b))) (λe=>norm P (an.outs (eG b) (ash e))) (ev P Γ an N b) n s (λe s'=>aVp (∃x,S s x/\(le.out x).eval=av (e,s')))=av ()
def jx(P:bj)(Γ:tg)(an:Da)(N:Nat):List Code->Prop
 |[]=>True
 |b::l=>aAm P Γ an N b/\jx P Γ an N l
theorem jx.append{N:Nat}:∀ {l l':List Code},jx P Γ an N (l++l')->jx P Γ an N l/\jx P Γ an N l'
 |[],_,h=>⟨trivial,h⟩
 |_::_,_,⟨h1,h2⟩=>⟨⟨h1,(jx.append h2).1⟩,(jx.append h2).2⟩
theorem wy{c:Code}{b:Frame}{a:Act}{k:List Item}{cs:List Frame}{w:cO}:step P (lone (b.atR a (.code (.scope c)::k)) cs w)= .next (lone (b.atR a (.code c:: .inScope c::k)) cs w):=
 step_lone_go (by simp[stepG,stepG.exec,Frame.atR])
theorem ai7{c:Code}{b:Frame}{a:Act}{k:List Item}{cs:List Frame}{w:cO}:step P (lone (b.atR a (.inScope c::k)) cs w)= .next (lone (b.atR a k) cs w):=
 step_lone_go (by simp[stepG,stepG.exec,Frame.atR])
theorem OV{F:Fence}{n:Nat}{Q:Exit->Act->cO->Prop}{a:Act}{w:cO}{c:Code}(h:c.wpIn F n P (Exit.noGoto Q) a w):(Code.scope c).wpIn F n P Q a w:=by
 intro b k cs aWn hb hr;have h0:(lone (b.atR a (.code (.scope c)::k)) cs w).fenced P F:=fenced_calm hb hr rfl;obtain⟨e,a1,w1,hq,hx⟩:=h b (.inScope c::k) cs aWn hb hr;cases e with
 |normal=>exact⟨.normal,a1,w1,hq,.head h0 wy (StepsIn.trans hx (.one (fenced_calm hb hr rfl) ai7))⟩
 |exit i=>
  have e1:exitTo i (.inScope c::k)=exitTo i k:=by simp[exitTo]
  exact⟨.exit i,a1,w1,hq,λk' hk=> .head h0 wy (hx.1 k' (e1.trans hk)),λh1 hk=>let⟨k2,h2,h3⟩:=hx.2 h1 (e1.trans hk);⟨k2,h2,.head h0 wy h3⟩⟩
 |goto l=>exact hq.elim
 |ret=>exact⟨_,a1,w1,hq,.of_steps (.one h0 wy) hx⟩
 |panic ch=>exact⟨_,a1,w1,hq,.of_steps (.one h0 wy) hx⟩
 |outgrown=>exact⟨_,a1,w1,hq,.of_steps (.one h0 wy) hx⟩
theorem IX{rd:Option Nat}{m:Nat}{R:Type}{r:R}{b:Code}{nrm:AS->Out AS}{nrmX:Exit->AS->Out AS}{body:AS->(Exit->AS->Option R)->Option R}
  (hn:∀s s1 a w,ka C s a w->(nrm s).eval=av s1->ka C s1 a w) (hx:∀e s s1 a w,ka C s a w->(nrmX e s).eval=av s1->ka C s1 a w)
  (hb:∀(s:AS) (a:Act) (w:cO) (k:Exit->AS->Option R) (Q:Exit->Act->cO->Prop),ka C s a w->body s k=av r->(∀e s' a' w',ka C s' a' w'->k e s'=av r->Q e a' w')->b.wpIn (Fr rd) m P Q a w)
  {k:Exit->AS->Option R} {Q:Exit->Act->cO->Prop} (hk:∀e s' a' w',ka C s' a' w'->k e s'=av r->Q e a' w'):
  ∀(n:Nat) (s:AS) (a:Act) (w:cO),ka C s a w->Y7 nrm nrmX body n s k=av r->Code.roundsIn (Fr rd) m P b Q n a w
 | 0,s,a,w,_,h=>by simp[Y7]at h
 |n+1,s,a,w,hs,h=>by
  simp only[Y7]at h;rw[roundsIn_succ];refine hb s a w _ _ hs h λe s' a' w' hs' aXn=> ?_
  have exits:∀e,(nrmX e s').run (k e)=av r->Q e a' w':=λe aXn=>by obtain⟨s1,h1,h2⟩:=kk.1 aXn;exact hk e s1 a' w' (hx e s' s1 a' w' hs' h1) h2
  cases e with
  |normal=>
   simp only at aXn;obtain⟨s1,h1,h2⟩:=kk.1 aXn;exact IX hn hx hb hk n s1 a' w' (hn s' s1 a' w' hs' h1) h2
  |_=>exact exits _ aXn
theorem TQ{rd:Option Nat}{n:Nat}(hC:C.ok){j:Option ab1}{run: {R:Type}->(Exit->AS->Option R)->Option R}{c:Code}{a:Act}{w:cO}
  (sr:∀ {R:Type} {r:R} (k:Exit->AS->Option R) (Q:Exit->Act->cO->Prop),run k=av r->(∀e s' a' w',ka C s' a' w'->k e s'=av r->Q e a' w')->c.wpIn (Fr rd) n P Q a w)
  {R:Type} {r:R} {k:Exit->AS->Option R} {Q:Exit->Act->cO->Prop} (h:WV P j run k=av r) (hk:∀e s' a' w',ka C s' a' w'->k e s'=av r->Q e a' w'):c.wpIn (Fr rd) n P Q a w:=by
 cases j with
 |none=>exact sr k Q h hk
 |some j=>
  simp only[WV]at h;cases hx:run λe s=>(norm P j.an s).run (j.aWu e) with
  |none=>rw[hx]at h;cases h
  |some x=>
   rw[hx]at h;simp only[ao]at h;obtain⟨y,hy,h⟩:=kk.1 h;refine sr _ Q hx λe s' a' w' hs' hK=> ?_
   obtain⟨s1,h1,h2⟩:=kk.1 hK;have he:=j.ok _ _ _ h2;rw[hy,ax]at he;subst he;exact hk e s1 a' w' (rp hC hs' h1) h
theorem tO{rd:Option Nat}{n:Nat}(hm:P.follows .mixedOrders=bm)(hΓ:Sound P Γ)(hC:C.ok){N:Nat}(aQv:rd=aH\/an.mf.isSome=bm):∀(c:Code),jx P Γ an N (mT c)->∀ {R:Type} {r:R} (s:AS) (a:Act) (w:cO) (k:Exit->AS->Option R) (Q:Exit->Act->cO->Prop),
  ka C s a w->ev P Γ an N c s k=av r->(∀e s' a' w',ka C s' a' w'->k e s'=av r->Q e a' w')->c.wpIn (Fr rd) n P Q a w
 | .skip,hL,_,_,s,a,w,k,Q,hs,h,hk=>wpIn_skip (hk _ _ _ _ hs h)
 | .region id ops draw,hL,_,_,s,a,w,k,Q,hs,h,hk=>by
  simp only[ev]at h;obtain⟨s,hs,h⟩:=Zo _ hs h;refine TQ hC (λk Q h hk=> ?_) h hk;cases draw with
  |true=>
   simp only at h;split at h
   ·rename_i hE;exact aum hm hΓ hs hE h λs' a' w' hs' hk'=>hk _ _ _ _ hs' hk'
   ·cases h
  |false=>exact wpIn_region_list (YS hΓ ops.toList hs h λs' a' w' hs' hk'=>hk _ _ _ _ hs' hk')
 | .seq x y,hL,_,_,s,a,w,k,Q,hs,h,hk=>by
  simp only[ev]at h;refine wpIn_seq (TQ hC (λk Q h hk=>tO hm hΓ hC aQv x hL.append.1 s a w k Q hs h hk) h λe s' a' w' hs' hk'=> ?_);cases e with
  |normal=>exact tO hm hΓ hC aQv y hL.append.2 s' a' w' k Q hs' hk' hk
  |_=>exact hk _ s' a' w' hs' hk'
 | .cond c x y,hL,_,_,s,a,w,k,Q,hs,h,hk=>by
  simp only[ev]at h;split at h
  ·rename_i b hb;have hc:a.eval c= .bool b:=by obtain⟨g,β,hi⟩:=hs;have:=hi.ev c;rw[hb]at this;exact abx this
   refine wpIn_cond hc ?_
   cases b with
   |true=>exact tO hm hΓ hC aQv x hL.append.1 s a w k Q hs h hk
   |false=>exact tO hm hΓ hC aQv y hL.append.2 s a w k Q hs h hk
  ·cases h
 | .block id b,hL,_,_,s,a,w,k,Q,hs,h,hk=>by
  simp only[ev]at h;refine wpIn_block (tO hm hΓ hC aQv b hL s a w _ _ hs h λe s' a' w' hs' hk'=> ?_);cases e with
  |exit i=>
   simp only at hk';simp only[Exit.inBlock];by_cases hi:i=id
   ·rw[if_pos hi];simp only[hi,b8]at hk';exact hk _ s' a' w' hs' hk'
   ·rw[if_neg hi];simp only[hi,decide_false]at hk';exact hk _ s' a' w' hs' hk'
  |_=>exact hk _ s' a' w' hs' hk'
 | .loop b,hL,R,r,s,a,w,k,Q,hs,h,hk=>by
  simp only[ev]at h;obtain⟨s1,h1,h⟩:=kk.1 h;have akf:=rp hC hs h1;obtain⟨hL1,hL2⟩:=(hL:aAm P Γ an N b/\jx P Γ an N (mT b));split at h
  ·rename_i le hle;unfold aOM at h;cases anq:le.set with
   |some S=>
    rw[anq]at h;simp only at h;obtain⟨h2,h3⟩:=WC h;obtain⟨n,hn⟩:=(hL1 le hle).2 S anq s1 h2;refine wpIn_loop_rounds n (IX (λs s1 a w hs hn=>rp hC hs hn) (λe s s1 a w hs hn=>rp hC hs hn) (λs a w k Q hs hb hk=>tO hm hΓ hC aQv b hL2 s a w k Q hs hb hk) (λe s' a' w' hs' he=> ?_) n s1 a w akf hn);obtain⟨x,aYH,aYI⟩:=asV he;obtain⟨y,hy,h4⟩:=kk.1 (h3 x aYH);rw[aYI,ax]at hy;subst hy;exact hk _ _ _ _ hs' h4
   |none=>
   rw[anq]at h;simp only at h;cases hr:le.run s1 with
   |none=>rw[hr]at h;cases h
   |some x=>
    rw[hr]at h;simp only[ao]at h;obtain⟨y,hy,h⟩:=kk.1 h;obtain⟨n,hn⟩:=(hL1 le hle).1 anq s1 x hr;rw[hy]at hn;refine wpIn_loop_rounds n (IX (λs s1 a w hs hn=>rp hC hs hn) (λe s s1 a w hs hn=>rp hC hs hn) (λs a w k Q hs hb hk=>tO hm hΓ hC aQv b hL2 s a w k Q hs hb hk) (λe s' a' w' hs' he=> ?_) n s1 a w akf hn);simp only[ax]at he;subst he;exact hk e s' a' w' hs' h
  ·exact wpIn_loop_rounds N (IX (λs s1 a w hs hn=>rp hC hs hn) (λe s s1 a w hs hn=>rp hC hs hn) (λs a w k Q hs hb hk=>tO hm hΓ hC aQv b hL2 s a w k Q hs hb hk) hk N s1 a w akf h)
 | .exit id,hL,_,_,s,a,w,k,Q,hs,h,hk=>wpIn_exit (hk _ _ _ _ hs h)
 | .ret,hL,_,_,s,a,w,k,Q,hs,h,hk=>wpIn_ret (hk _ _ _ _ hs h)
 | .rangeFunc ..,_,_,_,_,_,_,_,_,_,h,_=>by simp[ev]at h
 | .scope b,hL,_,_,s,a,w,k,Q,hs,h,hk=>by
  simp only[ev]at h;refine OV (tO hm hΓ hC aQv b hL s a w _ _ hs h λe s' a' w' hs' hk'=> ?_);cases e with
  |goto l=>cases hk'
  |_=>exact hk _ s' a' w' hs' hk'
 | .label _,hL,_,_,s,a,w,k,Q,hs,h,hk=>wpIn_label (hk _ _ _ _ hs h)
 | .goto _,_,_,_,_,_,_,_,_,_,h,_=>by simp[ev]at h
 | .refuse _,_,_,_,_,_,_,_,_,_,h,_=>by simp[ev]at h
variable {g:Nat->qs} {β:Id->Option Pl} {s:AS} {a:Act} {w:cO}
def agi(tmps:Array Value)(r:ResultVar):Sem Value:=
 match r with
 | .tmp t=>pure (tmps.getD t undef)
 | .cell a t=>do loadVar t (<-asAddr (tmps.getD a undef))
theorem Vg(h:Inv C g β s a w){r:ResultVar}{v:aN}(he:(agk P s r).eval=av v):∃x,(agi a.tmps r).run P w= .ok x w/\VS (s.env w g β) v x:=by
 cases r with
 |tmp t=>
  simp only[agk]at he;obtain rfl:=aD.1 he;exact⟨_,by simp[agi],h.dg t⟩
 |cell t T=>
  simp only[agk]at he;obtain⟨ad,z,hy,hr,hv⟩:=adH h (h.dg t) he;exact⟨z,by simp[agi,hy,asAddr,hr],hv⟩
theorem Vf(h:Inv C g β s a w){r:ResultVar}{o:Option Ty}{y:AS×aN}(he:(agj P s r o).eval=av y):
  ∃x g',(agi a.tmps r).run P w= .ok x w/\Inv C g' β y.1 a w/\dI (s.env w g β) (y.1.env w g' β)/\VS (y.1.env w g' β) y.2 x:=by
 cases o with
 |none=>
  simp only[agj]at he;obtain⟨v,h1,h2⟩:=aC.1 he;obtain rfl:=aD.1 h2;obtain⟨x,hx,hv⟩:=Vg h h1;exact⟨x,g,hx,h,dI.refl _,hv⟩
 |some t=>
  simp only[agj]at he;obtain⟨v,h1,h2⟩:=aC.1 he;obtain⟨d,h3,h4⟩:=aC.1 h2;obtain rfl:=aD.1 h4;obtain⟨x,hx,hv⟩:=Vg h h1;obtain⟨g',i1,e1,_,cs,hR,hO⟩:=JN h hv h3;exact⟨x,g',hx,i1,e1,VS.of (a:= .d t d) (cs:=cs) (by simpa only[V]using hR) hO⟩
theorem P4:∀(l:List ResultVar) (ts:List (Option Ty)) {s:AS} {g:Nat->qs} (_:Inv C g β s a w) {y:AS×aN},(Vh P s l ts).eval=av y->
  ∃(xs:List Value) (g':Nat->qs),(l.mapM (agi a.tmps)).run P w= .ok xs w/\Inv C g' β y.1 a w/\dI (s.env w g β) (y.1.env w g' β)/\VC (y.1.env w g' β) y.2 xs/\xs.length=l.length
 |[],ts,s,g,h,y,he=>by simp only[Vh]at he;obtain rfl:=aD.1 he;exact⟨[],g,by simp,h,dI.refl _,by simp[VC],rfl⟩
 |r::l,ts,s,g,h,y,he=>by simp only[Vh]at he;obtain⟨u,h1,h2⟩:=aC.1 he;obtain⟨hc,h2⟩:=aR.1 h2;obtain⟨us,h3,h4⟩:=aC.1 h2;obtain rfl:=aD.1 h4;obtain⟨x,g1,hx,i1,e1,hv⟩:=Vf h h1;obtain⟨xs,g2,avF,i2,e2,ar8,hl⟩:=P4 l ts.tail i1 h3;obtain⟨cs,hV,hO⟩:=(hv.mono e2).fD hc;refine⟨x::xs,g2,?_,i2,e1.trans e2,by simp only[VC];exact⟨x,xs,cs,rfl,hV,hO,ar8⟩,by simp[hl]⟩;simp only[List.mapM_cons,cU,hx,cm,avF,eK]
theorem aH1{E:Env}{v:aN}{xs:List Value}(h:VC E v xs):VS E v (.tuple xs.toArray):=by
 cases v <;> first
  | (simp only[VC]at h;done)
  |exact⟨xs,rfl,h⟩
  | (simp only[VC]at h;subst h;rfl)
theorem aiW(h:Inv C g β s a w){fn:Func}{ts:List (Option Ty)}{y:AS×aN}(he:(ao9 P fn ts s).eval=av y):
  ∃x g',(results fn a.tmps).run P w= .ok x w/\Inv C g' β y.1 a w/\VS (y.1.env w g' β) y.2 x:=by
 have key:∀xs:List Value,(fn.results.toList.mapM (agi a.tmps)).run P w= .ok xs w->(results fn a.tmps).run P w= .ok (if h:xs.length=1 then xs[0] else .tuple xs.toArray) w:=λxs avF=>by
  have e:results fn a.tmps=(do
   let vs <-fn.results.mapM (agi a.tmps)
   pure (if h:vs.size=1 then vs[0] else .tuple vs)):=rfl
  rw[e,Array.mapM_eq_mapM_toList];simp only[map_eq_pure_bind,cU,avF,cm,eK];congr 1
 unfold ao9 at he;split at he
 ·rename_i r hr;obtain⟨x,g',hx,hi,_,hv⟩:=Vf h he;refine⟨x,g',?_,hi,hv⟩;rw[key [x] (by simp[hr,hx])];simp
 ·rename_i rs jk;obtain⟨xs,g',hx,hi,_,hv,hl⟩:=P4 _ _ h he;refine⟨.tuple xs.toArray,g',?_,hi,aH1 hv⟩;rw[key xs hx,ET];rw[hl];intro h1;obtain⟨r,hr⟩:=List.length_eq_one_iff.1 h1;exact jk r hr
end
end Go.Ab
namespace Go.Ab
def yp(ids:List Id):qs->qs
 | .own (.id (.new i j)) k=> .own (.id (match idxOf (.new i j) ids with | some m=> .new 0 m | none=> .new 1 0)) k
 |l=>l
def aMh(β:Id->Option Pl)(ids:List Id):Id->Option Pl
 | .bP k=>β (.bP k)
 | .new 0 m=>(ids[m]?).bind β
 | .new (_+1) _=>aH
theorem aEw{ids:List Id}{g:Nat->qs}{b off:Nat}(h:Am g b off):Am (λb=>yp ids (g b)) b off:=by
 unfold Am at*;simp only;cases hg:g b with
 |free=>simp[yp]
 |own o k=>
  rw[hg]at h;cases o with
  |gf=>exact h
  |id i=>cases i <;> exact h
theorem anf(s:AS)(v:aN):(s.WE v).Nodup:=(Ax s _ _ _ (by simp)).filter _
theorem awN{s:AS}{v:aN}{id:Id}(h:id∈s.WE v):∃i j,id= .new i j:=by
 unfold AS.WE at h;have:=(uj.1 h).2;cases id with
 |bP k=>simp[Id.aTu]at this
 |new i j=>exact⟨i,j,rfl⟩
section
variable {P:bj} {Γ:tg} {C:Ctx} {g:Nat->qs} {β:Id->Option Pl} {s:AS} {a:Act} {w:cO}
theorem aDX(h:Inv C g β s a w)(hC:C.ok){v:aN}{x:Value}(hv:VS (s.env w g β) v x):Bh C.E (s.fin v) x w:=by
 unfold AS.fin;have hn:=anf s v;have Ky:∀id∈s.WE v,∃i j,id= .new i j:=λid dL=>awN dL
 generalize s.WE v=ids at hn Ky;generalize hG:s.aTb ids v=G;have DG:G.val=v.l7 (QY ids):=by rw[<-hG];rfl
 have hold:∀k,G.st.cJ (.bP k)=(s.cJ (.bP k)).map (eJ.fin ids):=λk=>by
  rw[<-hG];show(s.dh.map (eJ.fin ids))[k]? =_
  rw[gS];rfl
 have bbl:∀m,G.st.cJ (.new 0 m)=(ids[m]?).map λid=>((s.cJ id).getD .dead).fin ids:=λm=>by
  rw[<-hG];show(ids.map λid=>((s.cJ id).getD .dead).fin ids)[m]? =_
  rw[gS]
 have bcb:∀i m,G.st.cJ (.new (i+1) m)=aH:=λi m=>by simp[jf.st,AS.cJ]
 let g':Nat->qs:=λb=>yp ids (g b)
 let β':=aMh β ids
 have aEf:∀e ver fr c,eJ.fin ids e= .obj ver fr c->∃c0,e= .obj ver fr c0/\c=c0.l7 (QY ids):=λe ver fr c he=>by
  cases e with
  |dead=>cases he
  |obj v0 fr0 c0=>
   simp only[eJ.fin,eJ.obj.injEq]at he;obtain⟨rfl,rfl,rfl⟩:=he;exact⟨c0,rfl,rfl⟩
 have hle:He (QY ids) (s.env w g β) (G.st.env w g' β'):=by
  refine⟨⟨λb off v ⟨h1,h2⟩=>⟨h1,aEw h2⟩,λb ob h1 h2=>⟨by show yp ids (g b)= .free;have h1:g b= .free:=h1;rw[h1];rfl,h2⟩⟩,λid ver r hr hb=> ?_⟩;obtain⟨Wc,AR⟩:=hb;have Wc:s.cJ id≠aH:=Wc;have AR:∀v fr c,s.cJ id=av (.obj v fr c)->ver<=v:=AR;cases id with
  |bP k=>
   simp only[QY,ax]at hr;subst hr;refine⟨⟨?_,λv fr c hh=> ?_⟩,λ⟨fr,c,hh⟩=>⟨?_,rfl⟩⟩
   ·show G.st.cJ (.bP k)≠aH;rw[hold];simpa using Wc
   ·have hh:G.st.cJ (.bP k)=av (.obj v fr c):=hh;rw[hold,fX]at hh;obtain⟨e,he,hh⟩:=hh;obtain⟨c0,rfl,_⟩:=aEf _ _ _ _ hh;exact AR v fr c0 he
   ·have hh:G.st.cJ (.bP k)=av (.obj ver fr c):=hh;rw[hold,fX]at hh;obtain⟨e,he,hh⟩:=hh;obtain⟨c0,rfl,_⟩:=aEf _ _ _ _ hh;exact⟨fr,c0,he⟩
  |new i j=>
   simp only[QY]at hr;split at hr
   ·rename_i m hm;simp only[ax]at hr;subst hr;have dL:=vk hm;obtain⟨e,he⟩:=Option.ne_none_iff_exists'.1 Wc;have hg:G.st.cJ (.new 0 m)=av (e.fin ids):=by rw[bbl,dL];simp[he]
    refine⟨⟨?_,λv fr c hh=> ?_⟩,λ⟨fr,c,hh⟩=>⟨?_,?_⟩⟩
    ·show G.st.cJ (.new 0 m)≠aH;rw[hg];simp
    ·have hh:G.st.cJ (.new 0 m)=av (.obj v fr c):=hh;rw[hg,ax]at hh;obtain⟨c0,rfl,_⟩:=aEf _ _ _ _ hh;exact AR v fr c0 he
    ·have hh:G.st.cJ (.new 0 m)=av (.obj ver fr c):=hh;rw[hg,ax]at hh;obtain⟨c0,rfl,_⟩:=aEf _ _ _ _ hh;exact⟨fr,c0,he⟩
    ·show(ids[m]?).bind β=β (.new i j);rw[dL];rfl
   ·cases hr
 have aw6:Trans C.E.w w C.E.g g':=by
  have h0:=h.trans;refine⟨h0.os,h0.tape,h0.output,h0.size,λb hb=> ?_⟩;have h1:=h0.BE b hb;show match C.E.g b with | .free=>yp ids (g b)= .free/\_ | .own .gf k=>yp ids (g b)= .own .gf k/\_ | .own (.id _) k=>(yp ids (g b)= .free\/∃i k',yp ids (g b)= .own (.id i) k'/\k<=k')/\_
  cases adm:C.E.g b with
  |free=>simp only[adm]at h1 ⊢;rw[h1.1];exact⟨rfl,h1.2⟩
  |own o k=>cases o with
   |gf=>simp only[adm]at h1 ⊢;rw[h1.1];exact⟨rfl,h1.2⟩
   |id i=>
    simp only[adm]at h1 ⊢;refine⟨?_,h1.2⟩;rcases h1.1 with h2 | ⟨i',k',h2,h3⟩
    ·rw[h2];exact .inl rfl
    ·rw[h2];right;cases i' with
     |bP m=>exact⟨_,k',rfl,h3⟩
     |new i j=>exact⟨_,k',rfl,h3⟩
 have aQs:ku (G.st.env w g' β'):=by
  intro id ver fr c dL;have dL:G.st.cJ id=av (.obj ver fr c):=dL;cases id with
  |bP k=>
   rw[hold,fX]at dL;obtain⟨e,he,dL⟩:=dL;obtain⟨c0,rfl,rfl⟩:=aEf _ _ _ _ dL;refine zZ hle (h.cg (.bP k) ver fr c0 he) rfl λpl _=>⟨rfl,λn hg=> ?_,λhg=> ?_⟩
   ·have hg:g pl.b= .own (.id (.bP k)) n:=hg;show yp ids (g pl.b)=_;rw[hg];rfl
   ·have hg:g pl.b= .free:=hg;show yp ids (g pl.b)=_;rw[hg];rfl
  |new i m=>
   cases i with
   |succ i=>rw[bcb]at dL;cases dL
   |zero=>
    rw[bbl,fX]at dL;obtain⟨id0,aUN,dL⟩:=dL;obtain⟨c0,he,rfl⟩:=aEf _ _ _ _ dL;have dQ:s.cJ id0=av (.obj ver fr c0):=by
     cases hs:s.cJ id0 with
     |none=>rw[hs]at he;cases he
     |some e=>rw[hs]at he;simp only[ed]at he;rw[he]
    obtain⟨i0,j0,rfl⟩:=Ky id0 (dC aUN);refine zZ hle (h.cg (.new i0 j0) ver fr c0 dQ) (by show(ids[m]?).bind β=_;rw[aUN];rfl) λpl _=>⟨rfl,λn hg=> ?_,λhg=> ?_⟩
    ·have hg:g pl.b= .own (.id (.new i0 j0)) n:=hg;show yp ids (g pl.b)=_;rw[hg];simp only[yp,EZ hn aUN]
    ·have hg:g pl.b= .free:=hg;show yp ids (g pl.b)=_;rw[hg];rfl
 have ho:∀id ver,C.E.KE id ver->∃k,id= .bP k:=λid ver hb=>by
  cases id with
  |bP k=>exact⟨k,rfl⟩
  |new i j=>exact absurd (hC.1 i j) hb.1
 refine⟨g',β',by rw[DG];exact Wj hle hv,aQs,aw6,Trans.mem (E:=C.E) (E':=G.st.env w g' β') aw6,λid ver hb=> ?_,λid ver hb hc=> ?_⟩
 ·obtain⟨k,rfl⟩:=ho id ver hb;exact(hle.ref (.bP k) ver (.bP k,ver) rfl (h.le.KE _ _ hb)).1
 ·obtain⟨k,rfl⟩:=ho id ver hb;obtain⟨h1,h2⟩:=(hle.ref (.bP k) ver (.bP k,ver) rfl (h.le.KE _ _ hb)).2 hc;obtain⟨h3,h4⟩:=h.le.cur _ _ hb h1;exact⟨h3,h2.trans h4⟩
theorem OX.len{E:Env}:∀ {as:List aN} {vs:List Value},OX E as vs->as.length=vs.length
 |[],[],_=>rfl
 |_::_,_::_,⟨_,h⟩=>by simp[OX.len h]
 |[],_::_,h=>h.elim
 |_::_,[],h=>h.elim
theorem OX.get{E:Env}:∀ {as:List aN} {vs:List Value},OX E as vs->∀i,VS E (as.getD i .undef) (vs.getD i undef)
 |[],[],_,i=>by simpa using VS.undef
 |_::_,_::_,⟨h,_⟩,0=>by simpa using h
 |_::_,_::_,⟨_,h⟩,i+1=>by simpa using OX.get h i
 |[],_::_,h,_=>h.elim
 |_::_,[],h,_=>h.elim
theorem aHf{w:cO}{g:Nat->qs}{β:Id->Option Pl}{fn:Func}{args:List aN}{dh:List eJ}{l9:List Value}(hv:OX ((iw dh).env w g β) args l9)(ho:ku ((iw dh).env w g β)):
  Inv ⟨(iw dh).env w g β⟩ g β (start fn args dh) {tmps:=l9.toArray++Array.replicate (fn.ntmps - l9.toArray.size) undef,defers:=[]} w:=by
 have hl:=hv.len;have dQ:(start fn args dh).cJ=(iw dh).cJ:=by
  funext id;cases id with
  |bP k=>rfl
  |new i j=>
   simp only[start,iw,AS.cJ,bh,List.getElem?_replicate];split <;> simp
 have aUI:(start fn args dh).env w g β=(iw dh).env w g β:=by simp only[AS.env,dQ]
 refine⟨⟨jH,λ_ h=>by cases h⟩,by simp[start,hl],λi=> ?_,by rw[aUI];exact ho,Trans.refl _ _,by rw[aUI];exact dI.refl _⟩;rw[aUI];have h1:(start fn args dh).slot i=args.getD i .undef:=by
  simp only[start,AS.slot,bh,List.getElem?_append,List.getElem?_replicate];split
  ·rfl
  ·rw[eB (l:=args) aq];split <;> rfl
 have h2:(l9.toArray++Array.replicate (fn.ntmps - l9.toArray.size) undef).getD i undef=l9.getD i undef:=by
  simp only[eD,bh,lV,Array.getElem?_replicate];simp only[iM,List.getElem?_toArray];split
  ·rfl
  ·rw[eB (l:=l9) aq];split <;> rfl
 rw[h1,h2];exact hv.get i
theorem Inv.aVX{C:Ctx}{g:Nat->qs}{β:Id->Option Pl}{s:AS}{a:Act}{w:cO}(h:Inv C g β s a w){D:Nat}{ds:List Deferred}(hd:a.defers=aLd D::ds):
  (Instr.takeDeferred D).run P w= .ok [] (w.putObj D (.deferred aH))/\Inv C g β s {a with defers:=ds} (w.putObj D (.deferred aH)):=by
 obtain⟨hn,Ag⟩:=h.defers;rw[hd]at hn Ag;obtain⟨D',e,hD,hh,hg⟩:=Ag _ (aU ..);have e:Deferred.mk (.collected D) #[]=Deferred.mk (.collected D') #[]:=e;injection e with e _
 injection e with e
 subst e;have fF:=(cS.1 hh).1;refine⟨run_takeDeferred hh,?_⟩;have other:∀b,b≠D->(w.putObj D (.deferred aH)).heap[b]? =w.heap[b]? :=λb hb=>World.putObj_heap_other hb
 have Lr:∀b off v,w.cell? ⟨b,off,aH⟩=av v->b≠D:=λb off v hv e=>by subst e;simp[World.cell?,hh]at hv
 have w5:wH (s.env w g β) (s.env (w.putObj D (.deferred aH)) g β):=by
  refine⟨λb off v ⟨h1,h2⟩=>⟨?_,h2⟩,λb ob h1 h2=>⟨h1,?_⟩⟩
  ·have h1:w.cell? ⟨b,off,aH⟩=av v:=h1;show(w.putObj D (.deferred aH)).cell? ⟨b,off,aH⟩=av v;rw[World.cell?_of_block (other b (Lr b off v h1))];exact h1
  ·have h1:g b= .free:=h1;have h2:w.heap[b]? =av ob:=h2
   show(w.putObj D (.deferred aH)).heap[b]? =av ob
   rw[other b λe=>by rw[e,hg]at h1;cases h1];exact h2
 have hle:dI (s.env w g β) (s.env (w.putObj D (.deferred aH)) g β):=⟨w5,λ_ _ h=>h,λ_ _ _ h=>⟨h,rfl⟩⟩;have jk:∀ {id:Id} {v:Nat} {fr:Bool} {c:aN} {pl:Pl},s.cJ id=av (.obj v fr c)->β id=av pl->pl.b≠D:=λhs hp e=>by
  have:=((h.cg _ _ _ _ hs).label hp).2;have this:(∃k,g _= .own (.id _) k)\/(_/\g _= .free):=this;rw[e,hg]at this;rcases this with⟨k,hk⟩ | ⟨_,hk⟩
  ·cases hk
  ·cases hk
 refine⟨⟨(dx.1 hn).2,λd hd'=> ?_⟩,h.size,λi=>(h.dg i).mono hle,λid ver fr c hs=> ?_,?_,h.le.trans hle⟩
 ·obtain⟨D2,e1,e2,e3,e4⟩:=Ag d (aP _ hd');refine⟨D2,e1,e2,?_,e4⟩;rw[other D2 λe=>(dx.1 hn).1 (by rw[<-e,<-e1];exact hd')];exact e3
 ·exact Dc.mono hle (h.cg id ver fr c hs) rfl (λpl hp=>⟨other _ (jk hs hp),rfl⟩) λq vq k v l hq _=>⟨⟨k,v,l,hq⟩,λpl hp=>⟨other _ (jk hq hp),rfl⟩⟩
 ·have ht:=h.trans;refine⟨ht.os,ht.tape,ht.output,?_,λb hb=> ?_⟩
  ·have:=ht.size;simpa[World.putObj]using this
  ·have h1:=ht.BE b hb;have hbD:b≠D:=aq;have hc:∀off v,w.cell? ⟨b,off,aH⟩=av v->(w.putObj D (.deferred aH)).cell? ⟨b,off,aH⟩=av v:=λoff v hv=>by rw[World.cell?_of_block (other b hbD)];exact hv
   rw[other b hbD];split at h1
   ·exact h1
   ·exact h1
   ·exact⟨h1.1,λoff v ho hv=>hc off v (h1.2 off v ho hv)⟩
theorem Zb{C:Ctx}{g:Nat->qs}{β:Id->Option Pl}{s:AS}{fn:Func}{R:Ending->cO->Prop}:∀(ds:List Deferred) {a:Act} {w:cO},Inv C g β s a w->a.defers=ds->
  (∀a2 w2,Inv C g β s a2 w2->a2.tmps=a.tmps->∃v,(results fn a.tmps).run P w2= .ok v w2/\R (.returned v) w2)->LeavesInM Fence.wide 0 P fn a.tmps R ds .returning w
 |[],a,w,h,hd,hk=>hk a w h rfl
 |d::ds,a,w,h,hd,hk=>by obtain⟨D,e,_⟩:=h.defers.2 d (by rw[hd];exact aU ..);subst e;obtain⟨h1,h2⟩:=h.aVX (P:=P) hd;exact⟨by simp,.inl ⟨D,_,rfl,h1,Zb (fn:=fn) (R:=R) ds (a:= {a with defers:=ds}) h2 rfl hk⟩⟩
theorem aJZ{dh:List eJ}{w:cO}{g:Nat->qs}{β:Id->Option Pl}(h:dh.all eJ.first=bm){k v:Nat}{fr:Bool}{c:aN}(hk:((iw dh).env w g β).s (.bP k)=av (.obj v fr c)):v=0:=by
 have hk:dh[k]? =av (.obj v fr c):=by simpa[AS.env,iw,AS.cJ]using hk
 have:=dr.1 h _ (dC hk);exact lY this
theorem SP(hm:P.follows .mixedOrders=bm)(hΓ:Sound P Γ){f:gC}{fn:Func}(hf:P.funcs[f]? =av fn)(hb:fn.body.isSome=bm)(Hu:(fn.name== "runtime.NumGoroutine")=aZ){an:Da}{N:Nat}(hL:∀c,fn.body=av c->jx P Γ an N (mT c))
  {args:List aN} {dh:List eJ} {R:Type} {k:jf->Option R} {r:R} (hN:aCH P Γ an N fn args dh k=av r) (ap6:an.mf=aH)
  {l9:List Value} (hv:OX ((iw dh).env w g β) args l9) (ho:ku ((iw dh).env w g β)):(callFunc f l9.toArray).run P w= .ok (.enter f l9.toArray) w/\
   Calls P f l9.toArray w λe w'=>∃v G,e= .returned v/\k G=av r/\Bh ((iw dh).env w g β) G v w':=by
 obtain⟨c,hc⟩:=bZ.1 hb;refine⟨?_,?_⟩
 ·unfold callFunc;have hname':¬fn.name= "runtime.NumGoroutine" :=by simpa using Hu
  simp[hf,hname',hc]
 ·unfold aCH at hN;rw[hc]at hN;simp only at hN;split at hN
  ·cases hN
  rename_i hF;have hC:(Ctx.mk ((iw dh).env w g β)).ok:=⟨λi j=>by simp[AS.env,iw,AS.cJ],λk v fr c hk=>aJZ hF hk⟩;refine callsIn_wide.1 (callsIn_of_wp_marks (F:=Fence.wide) (n:=0) hf hc trivial (tO (rd:=aH) (C:=⟨(iw dh).env w g β⟩) hm hΓ hC (.inl rfl) c (hL c hc) _ _ w _ _ ⟨g,β,aHf hv ho⟩ hN λe s' a' w' hs' hk'=> ?_));have fin:(finish P an fn s').run k=av r->LeavesInM Fence.wide 0 P fn a'.tmps (λe w'=>∃v G,e= .returned v/\k G=av r/\Bh ((iw dh).env w g β) G v w') a'.defers .returning w':=λhr=>by
   obtain⟨G,h1,h2⟩:=kk.1 hr;unfold finish at h1;obtain⟨sd,aZi,h1⟩:=aC.1 h1;obtain⟨s2,h3,h4⟩:=aC.1 h1;obtain⟨s4,bbN,h4⟩:=aC.1 h4;obtain⟨y,h5,h6⟩:=aC.1 h4;obtain⟨g1,β1,aXj⟩:=hs';refine Zb a'.defers aXj rfl λa2 w2 bbZ aZY=> ?_
   obtain⟨g0,β0,aUM⟩:=IH _ ⟨g1,β1,bbZ⟩ aZi;obtain⟨g',β',hi⟩:=tT hC _ ⟨g0,β0,aUM.drop _⟩ h3;have hi:=Qu hC _ hi bbN;obtain⟨z,g2,h7,h8,h9⟩:=aiW hi h5;refine⟨z,by rw[<-aZY];exact h7,z,G,rfl,h2,?_⟩;rw[<-aD.1 h6];exact aDX h8 hC h9
  cases e with
  |normal=>exact fin hk'
  |ret=>exact fin hk'
  |_=>cases hk'
theorem tD.vu(hm:P.follows .mixedOrders=bm)(hΓ:Sound P Γ){f:gC}{fn:Func}(hf:P.funcs[f]? =av fn)(hb:fn.body.isSome=bm)(Hu:(fn.name== "runtime.NumGoroutine")=aZ){en:Entry}{an:Da}{N:Nat}(hL:∀c,fn.body=av c->jx P Γ an N (mT c))
  (h:∀args dh x,en.run args dh=av x->aCH P Γ an N fn args dh av=av (en.out args dh x)) (ap6:an.mf=aH):tD P f en:=by
 intro w g β args dh l9 x hv ho hx;obtain⟨h1,h2⟩:=SP hm hΓ hf hb Hu hL (h args dh x hx) ap6 hv ho;exact .inl ⟨h1,h2.mono λe w' ⟨v,G,e1,e2,e3⟩=>⟨v,e1,by rw[<-bf e2];exact e3⟩⟩
theorem Sk.vu(hm:P.follows .mixedOrders=bm)(hΓ:Sound P Γ){f:gC}{fn:Func}(hf:P.funcs[f]? =av fn)(hb:fn.body.isSome=bm)(Hu:(fn.name== "runtime.NumGoroutine")=aZ){en:Entry}{an:Da}{N:Nat}(hL:∀c,fn.body=av c->jx P Γ an N (mT c))
  (h:∀args dh,(∃x,en.set args dh x)->aCH P Γ an N fn args dh (λG=>aVp (∃x,en.set args dh x/\G=en.out args dh x))=av ()) (ap6:an.mf=aH):Sk P f en:=by
 intro w g β args dh l9 hv ho hx;obtain⟨h1,h2⟩:=SP hm hΓ hf hb Hu hL (h args dh hx) ap6 hv ho;refine⟨h1,h2.mono λe w' ⟨v,G,e1,e2,e3⟩=> ?_⟩;obtain⟨x,hs,rfl⟩:=asV e2;exact⟨v,x,e1,hs,e3⟩
end
end Go.Ab
namespace Go.Ab
def dR(k:lW)(n:Int):Int:=k.wrap n
def bz(k:lW)(x y:Int):Int:=k.wrap (x+y)
def df(k:lW)(x y:Int):Int:=k.wrap (x - y)
def fO(k:lW)(x y:Int):Int:=k.wrap (x*y)
def wC(k:lW)(x y:Int):Int:=k.wrap (x.tdiv y)
def kj(x y:Int):Int:=x.tmod y
def oq(k:lW)(x y:Int):Int:=k.wrap (x*2^(min y.toNat k.bits))
def cF(k:lW)(x y:Int):Int:=x.fdiv (2^(min y.toNat k.bits))
def aQN(k:lW)(x:Int):Int:=cX .xor k (if k.signed then -1 else k.max) x
def Il(x y:Int):Bool:=x==y
def C3(x y:Int):Bool:=x !=y
def fv(x y:Int):Bool:=decide (x < y)
def ahY(x y:Int):Bool:=decide (x<=y)
def xW(x y:Int):Bool:=decide (x > y)
def AM(x y:Int):Bool:=decide (x>=y)
def seq(x y:ByteArray):Bool:=x.toList==y.toList
def auY(a:ByteArray)(i:Int):Int:=((a.data.toList.getD i.toNat 0).toNat:Int)
def imax(x y:Int):Int:=if x < y then y else x
def eA(i n:Int):Bool:=decide (0<=i/\i < n)
def inc(i n:Int):Bool:=decide (0<=i/\i<=n)
def ou(y:Int):Bool:=decide (0<=y)
def ur(y:Int):Bool:= !(decide (y=0))
open Classical in
def dB.of{D X:Type}(st:D->AS)(gz:D->Prop)(F:D->X)(out:X->Out (Exit×AS)):dB:= {X,run:=λs=>if h:∃d,st d=s/\gz d then av (F h.choose) else aH,out}
open Classical in
theorem dB.vu{D X:Type}{st:D->AS}{gz:D->Prop}{F:D->X}{out:X->Out (Exit×AS)}(Q5:∀d d',st d=st d'->d=d'){d:D}(h:gz d):(dB.of st gz F out).run (st d)=av (F d):=by have hex:∃d',st d'=st d/\gz d':=⟨d,rfl,h⟩;show(if h:∃d',st d'=st d/\gz d' then av (F h.choose) else aH)=_;rw[BX hex,Q5 _ _ hex.choose_spec.1]
open Classical in
def ab1.of{X:Type}(an:qt)(st:X->AS):ab1:=
 {an,X,aWu:=λe s=>if h:e= .normal/\∃x,st x=s then av h.2.choose else aH,out:=λx=> .ok (.normal,st x),
  ok:=λe s x h=>by
   by_cases h1:e= .normal/\∃x,st x=s
   ·rw[BX h1]at h;have h2:=h1.2.choose_spec;rw[bf h]at h2;rw[h1.1,<-h2];rfl
   ·rw[ET h1]at h;cases h}
open Classical in
theorem ab1.aVo{X:Type}{an:qt}{st:X->AS}(Q5:∀d d',st d=st d'->d=d')(x:X):(ab1.of an st).aWu .normal (st x)=av x:=by have hex:Exit.normal= .normal/\∃y,st y=st x:=⟨rfl,x,rfl⟩;show(if h:Exit.normal= .normal/\∃y,st y=st x then av h.2.choose else aH)=_;rw[BX hex,Q5 _ _ hex.2.choose_spec]
open Classical in
theorem aAm.of{P:bj}{Γ:tg}{an:Da}{N:Nat}{fn:Func}{i:Nat}{D X:Type}{st:D->AS}{gz:D->Prop}{F:D->X}{out:X->Out (Exit×AS)}
  (hle:an.fa (eG (ra fn i))=av (dB.of st gz F out)) (h:∀d,gz d->∃n,TY P Γ an N fn i n (st d) (λe s=>av (e,s))=(out (F d)).eval):aAm P Γ an N (ra fn i):=by
 intro le hle';rw[hle]at hle';simp only[ax]at hle';subst hle';refine⟨λ_ s x hx=> ?_,λS hS=>by cases hS⟩;change (if h:∃d',st d'=s/\gz d' then av (F h.choose) else aH)=av x at hx;split at hx
 ·rename_i hex;obtain rfl:=bf hx;obtain⟨h1,h2⟩:=hex.choose_spec;obtain⟨n,hn⟩:=h _ h2;refine⟨n,?_⟩;show TY P Γ an N fn i n s _=_;rw[h1]at hn;exact hn
 ·cases hx
theorem C4(P:bj)(Γ:tg)(an:Da)(N:Nat)(fn:Func)(i:Nat){R:Type}(n:Nat)(s:AS)(k:Exit->AS->Option R):TY P Γ an N fn i (n+1) s k=Gl P Γ an N fn i s (λs1=>TY P Γ an N fn i n s1 k) k:=rfl
theorem aBo{P:bj}{Γ:tg}{an:Da}{N:Nat}{fn:Func}{i:Nat}{D X:Type}{st:D->AS}{gz:D->Prop}{F:D->X}{out:X->Out (Exit×AS)}(μ:D->Nat)
  (h:∀d,gz d->(∃d',gz d'/\μ d' < μ d/\F d'=F d/\∀ {R:Type} (kn:AS->Option R) (kx:Exit->AS->Option R),Gl P Γ an N fn i (st d) kn kx=kn (st d'))\/
   (∃r,(out (F d)).eval=av r/\∀ {R:Type} (kn:AS->Option R) (kx:Exit->AS->Option R),Gl P Γ an N fn i (st d) kn kx=kx r.1 r.2)):
  ∀d,gz d->∃n,TY P Γ an N fn i n (st d) (λe s=>av (e,s))=(out (F d)).eval:=by
 have key:∀m d,μ d=m->gz d->∃n,TY P Γ an N fn i n (st d) (λe s=>av (e,s))=(out (F d)).eval:=by
  intro m
  induction m using Nat.strongRecOn with
  |_ m ih=>
   intro d hm hp;rcases h d hp with⟨d',hp',fF,hF,hr⟩ | ⟨r,hr,hx⟩
   ·obtain⟨n,hn⟩:=ih (μ d') aq d' rfl hp';exact⟨n+1,by rw[C4,hr,hn,hF]⟩
   ·exact⟨1,by rw[C4,hx,hr]⟩
 exact λd hp=>key _ d rfl hp
open Classical in
def dB.aia{D X Y:Type}(st:D->AS)(gz:D->Prop)(add:D->Y->X)(Post:D->Y->Prop)(out:X->Out (Exit×AS)):dB:= {X,run:=λ_=>aH,out,set:=av λs x=>∃d,st d=s/\gz d/\∃y,Post d y/\x=add d y}
def aYd{D X Y:Type}(st:D->AS)(gz:D->Prop)(add:D->Y->X)(Post:D->Y->Prop):D->X->Prop:=λd0 x=>∃d,st d=st d0/\gz d/\∃y,Post d y/\x=add d y
abbrev aPb{D X Y:Type}(set:D->X->Prop)(gz:D->Prop)(add:D->Y->X)(Post:D->Y->Prop):Prop:=∀ {d:D} {R:Type} {k:X->Option R} {r:Option R},gz d->(∃y,Post d y)->(∀y,Post d y->k (add d y)=r)->aaR (set d) k=r
theorem bav{D X Y:Type}{st:D->AS}{gz:D->Prop}{add:D->Y->X}{Post:D->Y->Prop}(Q5:∀d d',st d=st d'->d=d'):aPb (aYd st gz add Post) gz add Post:=λh h1 h2=>by
 obtain⟨y,hy⟩:=h1;refine amY ⟨_,_,rfl,h,y,hy,rfl⟩ λx hx=> ?_
 obtain⟨d',h3,_,y',h4,rfl⟩:=hx;obtain rfl:=Q5 _ _ h3;exact h2 y' h4
abbrev aAn(P:bj)(G:tg)(an:Da)(N:Nat)(fn:Func)(i:Nat){D X Y:Type}(st:D->AS)(gz:D->Prop)(add:D->Y->X)(Post:D->Y->Prop)(out:X->Out (Exit×AS)):Prop:=∀d,gz d->∃n,∀k:Exit->AS->Option Unit,(∀y e s,Post d y->(out (add d y)).eval=av (e,s)->k e s=av ())->TY P G an N fn i n (st d) k=av ()
theorem aAm.aia{P:bj}{Γ:tg}{an:Da}{N:Nat}{fn:Func}{i:Nat}{D X Y:Type}{st:D->AS}{gz:D->Prop}{add:D->Y->X}{Post:D->Y->Prop}{out:X->Out (Exit×AS)}
  (h:aAn P Γ an N fn i st gz add Post out) (hle:an.fa (eG (ra fn i))=av (dB.aia st gz add Post out)):aAm P Γ an N (ra fn i):=by
 intro le hle';rw[hle]at hle';simp only[ax]at hle';subst hle';refine⟨λhS=>(by cases hS),λS hS s hs=> ?_⟩;obtain rfl:=bf hS;obtain⟨x,d,rfl,hp,y,hy,rfl⟩:=hs;obtain⟨n,hn⟩:=h d hp;exact⟨n,hn _ λy e s h1 h2=>aLA ⟨add d y,⟨d,rfl,hp,y,h1,rfl⟩,h2⟩⟩
theorem ajK{n:Nat}{Q:Nat->Nat->Prop}(h:∀j,j < n->∃N,∀M,N<=M->Q j M):∃N,∀M,N<=M->∀j,j < n->Q j M:=by
 induction n with
 |zero=>exact⟨0,λ_ _ j hj=>aq⟩
 |succ n ih=>
  obtain⟨N1,h1⟩:=ih λj hj=>h j aq
  obtain⟨N2,h2⟩:=h n aq;refine⟨max N1 N2,λM hM j hj=> ?_⟩;by_cases bb2:j=n
  ·subst bb2;exact h2 M aq
  ·exact h1 M aq j aq
theorem aK7{P:bj}{Γ:tg}{an:Da}{N:Nat}{fn:Func}{i:Nat}{D X:Type}{st:D->AS}{gz:D->Prop}{F:D->X}{out:X->Out (Exit×AS)}(μ:D->Nat)
  (h:∀d,gz d->(∃(m:Nat) (d':Nat->D),0 < m/\(∀j,j < m->gz (d' j)/\μ (d' j) < μ d/\F (d' j)=F d)/\∀ {R:Type} (kn:AS->Option R) (kx:Exit->AS->Option R),Gl P Γ an N fn i (st d) kn kx=ap3 m λj=>kn (st (d' j)))\/
   (∃r,(out (F d)).eval=av r/\∀ {R:Type} (kn:AS->Option R) (kx:Exit->AS->Option R),Gl P Γ an N fn i (st d) kn kx=kx r.1 r.2)):
  ∀d,gz d->∃n,TY P Γ an N fn i n (st d) (λe s=>av (e,s))=(out (F d)).eval:=by
 have key:∀m d,μ d=m->gz d->∃n,∀M,n<=M->TY P Γ an N fn i M (st d) (λe s=>av (e,s))=(out (F d)).eval:=by
  intro m
  induction m using Nat.strongRecOn with
  |_ m ih=>
   intro d hm hp;rcases h d hp with⟨c,d',hc,hd,hr⟩ | ⟨r,hr,hx⟩
   ·obtain⟨n,hn⟩:=ajK (n:=c) (Q:=λj M=>TY P Γ an N fn i M (st (d' j)) (λe s=>av (e,s))=(out (F d)).eval) λj hj=>by obtain⟨h1,h2,h3⟩:=hd j hj;obtain⟨n,hn⟩:=ih (μ (d' j)) aq (d' j) rfl h1;exact⟨n,λM hM=>by rw[hn M hM,h3]⟩
    refine⟨n+1,λM hM=> ?_⟩;obtain⟨M,rfl⟩:∃M',M=M'+1:=⟨M - 1,aq⟩;rw[C4,hr];exact awD hc λj hj=>hn M aq j hj
   ·refine⟨1,λM hM=> ?_⟩;obtain⟨M,rfl⟩:∃M',M=M'+1:=⟨M - 1,aq⟩;rw[C4,hx,hr]
 exact λd hp=>let⟨n,hn⟩:=key _ d rfl hp;⟨n,hn n (az _)⟩
theorem aK8{P:bj}{Γ:tg}{an:Da}{N:Nat}{fn:Func}{i:Nat}{D X Y:Type}{st:D->AS}{gz:D->Prop}{add:D->Y->X}{Post:D->Y->Prop}{out:X->Out (Exit×AS)}(μ:D->Nat)
  (h:∀d,gz d->(∃(m:Nat) (d':Nat->D),0 < m/\(∀j,j < m->gz (d' j)/\μ (d' j) < μ d/\∀y,Post (d' j) y->∃y',Post d y'/\add (d' j) y=add d y')/\∀ {R:Type} (kn:AS->Option R) (kx:Exit->AS->Option R),Gl P Γ an N fn i (st d) kn kx=ap3 m λj=>kn (st (d' j)))\/
   (∃y r,Post d y/\(out (add d y)).eval=av r/\∀ {R:Type} (kn:AS->Option R) (kx:Exit->AS->Option R),Gl P Γ an N fn i (st d) kn kx=kx r.1 r.2)):aAn P Γ an N fn i st gz add Post out:=by
 have key:∀m d,μ d=m->gz d->∃n,∀M,n<=M->∀k:Exit->AS->Option Unit,(∀y e s,Post d y->(out (add d y)).eval=av (e,s)->k e s=av ())->TY P Γ an N fn i M (st d) k=av ():=by
  intro m
  induction m using Nat.strongRecOn with
  |_ m ih=>
   intro d hm hp;rcases h d hp with⟨c,d',hc,hd,hr⟩ | ⟨y,r,hy,hr,hx⟩
   ·obtain⟨n,hn⟩:=ajK (n:=c) (Q:=λj M=>∀k:Exit->AS->Option Unit,(∀y e s,Post (d' j) y->(out (add (d' j) y)).eval=av (e,s)->k e s=av ())->TY P Γ an N fn i M (st (d' j)) k=av ()) λj hj=>by obtain⟨h1,h2,h3⟩:=hd j hj;exact ih (μ (d' j)) aq (d' j) rfl h1
    refine⟨n+1,λM hM k hk=> ?_⟩;obtain⟨M,rfl⟩:∃M',M=M'+1:=⟨M - 1,aq⟩;rw[C4,hr];refine awD hc λj hj=>hn M aq j hj k λy e s h1 h2=> ?_
    obtain⟨y',h3,h4⟩:=(hd j hj).2.2 y h1;rw[h4]at h2;exact hk y' e s h3 h2
   ·refine⟨1,λM hM k hk=> ?_⟩;obtain⟨M,rfl⟩:∃M',M=M'+1:=⟨M - 1,aq⟩;rw[C4,hx];exact hk y r.1 r.2 hy hr
 exact λd hp=>let⟨n,hn⟩:=key _ d rfl hp;⟨n,hn n (az _)⟩
theorem asx{P:bj}{Γ:tg}{an:Da}{N:Nat}{fn:Func}{i:Nat}{D X:Type}{st:D->AS}{gz:D->Prop}{F:D->X}{ex:X->Exit×AS}(μ:D->Nat)(h:∀d,gz d->(∃d',gz d'/\μ d' < μ d/\F d'=F d/\∀ {R:Type} (kn:AS->Option R) (kx:Exit->AS->Option R),Gl P Γ an N fn i (st d) kn kx=kn (st d'))\/(∀ {R:Type} (kn:AS->Option R) (kx:Exit->AS->Option R),Gl P Γ an N fn i (st d) kn kx=kx (ex (F d)).1 (ex (F d)).2)):∀d,gz d->∃n,TY P Γ an N fn i n (st d) (λe s=>av (e,s))=(Out.ok (ex (F d))).eval:=aBo (out:=λx=> .ok (ex x)) μ λd hp=>(h d hp).imp id λh=>⟨_,rfl,h⟩
open Classical in
def Entry.of{D X:Type}(params:List (Option Ty))(st:D->List aN×List eJ)(gz:D->Prop)(F:D->X)(out:X->jf):Entry:= {params,X,run:=λargs dh=>if h:∃d,st d=(args,dh)/\gz d then av (F h.choose) else aH,out:=λ_ _=>out}
open Classical in
theorem Entry.vu{D X:Type}{params:List (Option Ty)}{st:D->List aN×List eJ}{gz:D->Prop}{F:D->X}{out:X->jf}(Q5:∀d d',st d=st d'->d=d'){d:D}(h:gz d):
  (Entry.of params st gz F out).run (st d).1 (st d).2=av (F d):=by
 have hex:∃d',st d'=((st d).1,(st d).2)/\gz d':=⟨d,rfl,h⟩;show(if h:∃d',st d'=((st d).1,(st d).2)/\gz d' then av (F h.choose) else aH)=_;rw[BX hex,Q5 _ _ hex.choose_spec.1]
open Classical in
theorem aRc{D X:Type}{params:List (Option Ty)}{st:D->List aN×List eJ}{gz:D->Prop}{F:D->X}{out:X->jf}{args:List aN}{dh:List eJ}{x:X}(hx:(Entry.of params st gz F out).run args dh=av x):∃d,st d=(args,dh)/\gz d/\x=F d:=by
 change (if h:∃d',st d'=(args,dh)/\gz d' then av (F h.choose) else aH)=av x at hx;split at hx
 ·rename_i hex;obtain rfl:=bf hx;exact⟨_,hex.choose_spec.1,hex.choose_spec.2,rfl⟩
 ·cases hx
theorem tD.of{P:bj}{Γ:tg}(hm:P.follows .mixedOrders=bm)(hΓ:Sound P Γ){f:gC}{fn:Func}(hf:P.funcs[f]? =av fn)(hb:fn.body.isSome=bm)(Hu:(fn.name== "runtime.NumGoroutine")=aZ){an:Da}{N:Nat}
  (hL:∀c,fn.body=av c->jx P Γ an N (mT c)) {D X:Type} {params:List (Option Ty)} {st:D->List aN×List eJ} {gz:D->Prop} {F:D->X} {out:X->jf}
  (h:∀d,gz d->aCH P Γ an N fn (st d).1 (st d).2 av=av (out (F d))) (ap6:an.mf=aH:=by exact rfl):tD P f (Entry.of params st gz F out):=by
 refine tD.vu hm hΓ hf hb Hu hL (λargs dh x hx=> ?_) ap6;obtain⟨d,e1,e2,rfl⟩:=aRc hx;have:=h d e2;rw[e1]at this;exact this
def aO9(P:bj)(Γ:tg)(an:Da)(N:Nat)(fn:Func):Nat->Nat->Prop
 | 0,_=>True
 |n+1,i=>aAm P Γ an N (ra fn i)/\aO9 P Γ an N fn n (i+1)
theorem aO9.get{P:bj}{Γ:tg}{an:Da}{N:Nat}{fn:Func}:∀ {n i:Nat},aO9 P Γ an N fn n i->∀j,j < n->aAm P Γ an N (ra fn (i+j))
 | 0,_,_,j,hj=>aq
 |n+1,i,h,0,_=>h.1
 |n+1,i,h,j+1,hj=>by have:=aO9.get h.2 j aq;rwa[show i+1+j=i+(j+1) by omega]at this
theorem jx.aLz{P:bj}{Γ:tg}{an:Da}{N:Nat}:∀(l:List Code),(∀j,j < l.length->aAm P Γ an N (l.getD j .skip))->jx P Γ an N l
 |[],_=>trivial
 |b::l,h=>⟨h 0 (by simp),jx.aLz l λj hj=>by have:=h (j+1) (by simpa using hj);simpa using this⟩
theorem jx.fn{P:bj}{Γ:tg}{an:Da}{N:Nat}{fn:Func}(n:Nat)(hn:(match fn.body with | some c=>(mT c).length | none=>0)=n)(h:aO9 P Γ an N fn n 0):∀c,fn.body=av c->jx P Γ an N (mT c):=by
 intro c hc;refine jx.aLz _ λj hj=> ?_
 rw[hc]at hn;simp only at hn;have:=h.get j aq;unfold ra at this;rw[hc]at this;simpa using this
theorem aAm.none{P:bj}{Γ:tg}{an:Da}{N:Nat}{fn:Func}{i:Nat}(h:an.fa (eG (ra fn i))=aH):aAm P Γ an N (ra fn i):=λle hle=>by
 rw[h]at hle;cases hle
def aKd:tg:=λ_ _=>aH
theorem Sound.nil(P:bj):Sound P aKd:=λ_ _ _ h=>by cases h
def aj7(f:gC)(p:List aN->Bool)(en:Entry)(Γ:tg):tg:=λg vs=>match mG g f with | true=>(match p vs with | true=>av en | false=>Γ g vs) | false=>Γ g vs
theorem Sound.cons{P:bj}{f:gC}{p:List aN->Bool}{en:Entry}{Γ:tg}(h:OW P f en)(hΓ:Sound P Γ):Sound P (aj7 f p en Γ):=λg vs e hg=>by
 unfold aj7 at hg;split at hg
 ·rename_i he;have:g=f:=lY he;split at hg
  ·simp only[ax]at hg;subst hg this;exact h
  ·exact hΓ g vs e hg
 ·exact hΓ g vs e hg
theorem aS9{t:Ty}{x y:t.den}(h:aN.d t x=aN.d t y):x=y:=by injection h with _ h
theorem aSM{e:TypeId}{t:Ty}{x y:List t.den}(h:aN.vec e t x=aN.vec e t y):x=y:=by injection h with _ _ h
def nV:List aN->Bool:=λ_=>bm
def aE0:List aN->Bool | .dJ::_=>bm | _=>aZ
def alQ:List aN->Bool | .bU .. ::_=>bm | _=>aZ
@[simp] theorem aj{α:Type}(x y:Option α):aJ bm x y=x:=rfl
@[simp] theorem al{α:Type}(x y:Option α):aJ aZ x y=y:=rfl
@[simp] theorem ag{α β:Type}(x:α)(f:α->Option β):ao (av x) f=f x:=rfl
@[simp] theorem E3{α:Type}(x:Option α):nd x x=x:=by simp[nd]
structure SG(P:bj) where
 f:gC
 p:List aN->Bool
 e:Entry
 h:OW P f e
def jr{P:bj}:List (SG P)->tg
 |[]=>aKd
 |a::l=>aj7 a.f a.p a.e (jr l)
theorem Sound.jr{P:bj}:∀l:List (SG P),Sound P (jr l)
 |[]=>Sound.nil P
 |a::l=>Sound.cons a.h (Sound.jr l)
abbrev SA:=List aN×List eJ
def Si(P:bj)(G:tg)(an:Da)(N:Nat)(fn:Func){D:Type}(st:D->SA){R:Type}(d:D)(k:jf->Option R):Option R:=aCH P G an N fn (st d).1 (st d).2 k
def ej(P:bj)(G:tg)(an:Da)(N:Nat)(fn:Func)(i:Nat){D:Type}(st:D->AS){R:Type}(d:D)(kn:AS->Option R)(kx:Exit->AS->Option R):Option R:=Gl P G an N fn i (st d) kn kx
abbrev avN{D X Y:Type}(A: {R:Type}->D->(jf->Option R)->Option R)(gz:D->Prop)(add:D->Y->X)(F:D->Y)(out:X->jf):Prop:=∀d,gz d->A d av=av (out (add d (F d)))
abbrev jj(P:bj)(G:tg)(an:Da)(N:Nat)(fn:Func)(i:Nat){D X Y:Type}(st:D->AS)(gz:D->Prop)(add:D->Y->X)(F:D->Y)(out:X->Out (Exit×AS)):Prop:=∀d,gz d->∃n,TY P G an N fn i n (st d) (λe s=>av (e,s))=(out (add d (F d))).eval
abbrev aqa{D X Y:Type}(R: {R:Type}->D->(AS->Option R)->(Exit->AS->Option R)->Option R)(st:D->AS)(gz:D->Prop)(add:D->Y->X)(F:D->Y)(ex:X->Exit×AS)(C:Prop):Prop:=∀μ:D->Nat,(∀d,gz d->(∃d',gz d'/\μ d' < μ d/\add d' (F d')=add d (F d)/\∀ {T:Type} (kn:AS->Option T) (kx:Exit->AS->Option T),R d kn kx=kn (st d'))\/(∀ {T:Type} (kn:AS->Option T) (kx:Exit->AS->Option T),R d kn kx=kx (ex (add d (F d))).1 (ex (add d (F d))).2))->C
abbrev ma{D X Y:Type}(R: {R:Type}->D->(AS->Option R)->(Exit->AS->Option R)->Option R)(st:D->AS)(gz:D->Prop)(add:D->Y->X)(F:D->Y)(out:X->Out (Exit×AS))(C:Prop):Prop:=∀μ:D->Nat,(∀d,gz d->(∃d',gz d'/\μ d' < μ d/\add d' (F d')=add d (F d)/\∀ {T:Type} (kn:AS->Option T) (kx:Exit->AS->Option T),R d kn kx=kn (st d'))\/(∃r,(out (add d (F d))).eval=av r/\∀ {T:Type} (kn:AS->Option T) (kx:Exit->AS->Option T),R d kn kx=kx r.1 r.2))->C
abbrev aTT{D X Y:Type}(R: {R:Type}->D->(AS->Option R)->(Exit->AS->Option R)->Option R)(st:D->AS)(gz:D->Prop)(add:D->Y->X)(F:D->Y)(ex:X->Exit×AS)(C:Prop):Prop:=∀μ:D->Nat,(∀d,gz d->(∃(m:Nat) (d':Nat->D),0 < m/\(∀j,j < m->gz (d' j)/\μ (d' j) < μ d/\add (d' j) (F (d' j))=add d (F d))/\∀ {T:Type} (kn:AS->Option T) (kx:Exit->AS->Option T),R d kn kx=ap3 m λj=>kn (st (d' j)))\/(∀ {T:Type} (kn:AS->Option T) (kx:Exit->AS->Option T),R d kn kx=kx (ex (add d (F d))).1 (ex (add d (F d))).2))->C
theorem aWN{P:bj}{G:tg}{an:Da}{N:Nat}{fn:Func}{i:Nat}{D X Y:Type}{st:D->AS}{gz:D->Prop}{add:D->Y->X}{F:D->Y}{ex:X->Exit×AS}:aTT (ej P G an N fn i st) st gz add F ex (jj P G an N fn i st gz add F λx=> .ok (ex x)):=λ μ h=>aK7 (F:=λd=>add d (F d)) (out:=λx=> .ok (ex x)) μ λd hp=>(h d hp).imp id λh=>⟨_,rfl,h⟩
abbrev aS1{D X Y:Type}(R: {R:Type}->D->(AS->Option R)->(Exit->AS->Option R)->Option R)(st:D->AS)(gz:D->Prop)(add:D->Y->X)(Post:D->Y->Prop)(ex:X->Exit×AS)(C:Prop):Prop:=∀μ:D->Nat,(∀d,gz d->(∃(m:Nat) (d':Nat->D),0 < m/\(∀j,j < m->gz (d' j)/\μ (d' j) < μ d/\∀y,Post (d' j) y->∃y',Post d y'/\add (d' j) y=add d y')/\∀ {T:Type} (kn:AS->Option T) (kx:Exit->AS->Option T),R d kn kx=ap3 m λj=>kn (st (d' j)))\/(∃y,Post d y/\∀ {T:Type} (kn:AS->Option T) (kx:Exit->AS->Option T),R d kn kx=kx (ex (add d y)).1 (ex (add d y)).2))->C
theorem aWO{P:bj}{G:tg}{an:Da}{N:Nat}{fn:Func}{i:Nat}{D X Y:Type}{st:D->AS}{gz:D->Prop}{add:D->Y->X}{Post:D->Y->Prop}{ex:X->Exit×AS}:aS1 (ej P G an N fn i st) st gz add Post ex (aAn P G an N fn i st gz add Post λx=> .ok (ex x)):=λ μ h=>aK8 (out:=λx=> .ok (ex x)) μ λd hp=>(h d hp).imp (λh=>h) λ⟨y,hy,h⟩=>⟨y,_,hy,rfl,h⟩
theorem aDg{P:bj}{G:tg}{an:Da}{N:Nat}{fn:Func}{i:Nat}{D X Y:Type}{st:D->AS}{gz:D->Prop}{add:D->Y->X}{F:D->Y}{ex:X->Exit×AS}:aqa (ej P G an N fn i st) st gz add F ex (jj P G an N fn i st gz add F λx=> .ok (ex x)):=λ μ h=>asx (F:=λd=>add d (F d)) μ h
theorem mJ{P:bj}{G:tg}{an:Da}{N:Nat}{fn:Func}{i:Nat}{D X Y:Type}{st:D->AS}{gz:D->Prop}{add:D->Y->X}{F:D->Y}{out:X->Out (Exit×AS)}:ma (ej P G an N fn i st) st gz add F out (jj P G an N fn i st gz add F out):=λ μ h=>aBo (F:=λd=>add d (F d)) (out:=out) μ h
def lz:List (Nat×qt)->Nat->qt
 |[],_=> {}
 |a::l,r=>bif mG r a.1 then a.2 else lz l r
def lu:List (Nat×qt×qt)->Nat->Bool->qt
 |[],_,_=> {}
 |a::l,r,b=>bif mG r a.1 then(bif b then a.2.2 else a.2.1) else lu l r b
def mc.{v} {α:Type v}:List (Nat×α)->Nat->Option α
 |[],_=>aH
 |a::l,r=>bif mG r a.1 then av a.2 else mc l r
inductive Lf where
 |d (t:Ty)
 |n
@[reducible] def Lf.den:Lf->Type
 | .d t=>t.den
 | .n=>Nat
@[reducible] def Lf.aHA:List Lf->Type
 |[]=>Unit
 |[a]=>a.den
 |a::b::l=>a.den×Lf.aHA (b::l)
abbrev aWF:=List (Sigma Lf.den)
def Lf.mk:(ts:List Lf)->Lf.aHA ts->aWF
 |[],_=> []
 |[a],x=> [⟨a,x⟩]
 |a::b::l,x=>⟨a,x.1⟩::Lf.mk (b::l) x.2
theorem Lf.mk_inj:∀(ts:List Lf) (x y:Lf.aHA ts),Lf.mk ts x=Lf.mk ts y->x=y
 |[],_,_,_=>rfl
 |[a],x,y,h=>by
  injection h with h _
  injection h
 |a::b::l,(x,u),(y,v),h=>by
  injection h with h h2
  injection h with _ h
  have h:x=y:=h;rw[h,Lf.mk_inj (b::l) u v h2]
def aN.leaves:aN->aWF
 | .d .unit _=> []
 | .d (.arr _ t) l=> [⟨.d (.slice t),l⟩]
 | .d t x=> [⟨.d t,x⟩]
 | .dz t x=> [⟨.d t,x⟩]
 | .vec _ t l=> [⟨.d (.slice t),l⟩]
 | .mp k v l=> [⟨.d (.slice (.pair k v)),l⟩]
 | .tP _ _ k v l _=> [⟨.d (.slice (.pair k v)),l⟩]
 | .bU _ _ _ _ _ n=> [⟨.n,n⟩]
 | .pr a b=>a.leaves++b.leaves
 | .cons a b=>a.leaves++b.leaves
 | .fn _ c=>c.leaves
 | .bx _ _ c=>c.leaves
 |_=> []
def eJ.leaves:eJ->aWF
 | .obj _ _ c=>c.leaves
 | .dead=> []
def SA.leaves(s:SA):aWF:=s.1.flatMap aN.leaves++s.2.flatMap eJ.leaves
def AS.leaves(s:AS):aWF:=s.dg.flatMap aN.leaves++(s.dh.flatMap eJ.leaves++s.news.flatMap (·.flatMap eJ.leaves))
theorem adv(ts:List Lf){st:Lf.aHA ts->SA}(h:∀d,SA.leaves (st d)=Lf.mk ts d)(d d':Lf.aHA ts)(e:st d=st d'):d=d':=Lf.mk_inj ts d d' (by rw[<-h,<-h,e])
theorem jA(ts:List Lf){st:Lf.aHA ts->AS}(h:∀d,AS.leaves (st d)=Lf.mk ts d)(d d':Lf.aHA ts)(e:st d=st d'):d=d':=Lf.mk_inj ts d d' (by rw[<-h,<-h,e])
def Entry.e7{D X Y:Type}(params:List (Option Ty))(st:D->SA)(gz:D->Prop)(add:D->Y->X)(F:D->Y)(out:X->jf):Entry:=Entry.of params st gz (λd=>add d (F d)) out
def bbD{X Y:Type}(x:X⊕Y):Out (X⊕Y):= .br x.isLeft (.get x.getLeft? λa=> .ok (.inl a)) (.get x.getRight? λb=> .ok (.inr b))
theorem aVO{X Y:Type}(x y:X⊕Y)(h:(bbD x).eval=av y):y=x:=by cases x <;> exact(bf h).symm
def Entry.asE{D X X' Y:Type}(params:List (Option Ty))(st:D->SA)(gz:D->Prop)(add:D->Y->X⊕X')(F:D->Y)(out:X⊕X'->jf):Entry:= {Entry.e7 params st gz add F out with sp:=bbD,aCi:=aVO}
theorem tD.aWA{P:bj}{f:gC}{D X X' Y:Type}{params:List (Option Ty)}{st:D->SA}{gz:D->Prop}{add:D->Y->X⊕X'}{F:D->Y}{out:X⊕X'->jf}(h:tD P f (Entry.e7 params st gz add F out)):tD P f (Entry.asE params st gz add F out):=h
def Entry.aia{D X Y:Type}(params:List (Option Ty))(st:D->SA)(gz:D->Prop)(add:D->Y->X)(Post:D->Y->Prop)(out:X->jf):Entry:= {params,X,run:=λ_ _=>aH,out:=λ_ _ x=>out x,rel:=bm,set:=λargs dh x=>∃d,st d=(args,dh)/\gz d/\∃y,Post d y/\x=add d y}
def aYb{D:Type}(E:Entry)(st:D->SA):D->E.X->Prop:=λd=>E.set (st d).1 (st d).2
theorem aX9{D X Y:Type}{params:List (Option Ty)}{st:D->SA}{gz:D->Prop}{add:D->Y->X}{Post:D->Y->Prop}{out:X->jf}(Q5:∀d d',st d=st d'->d=d'):aPb (aYb (Entry.aia params st gz add Post out) st) gz add Post:=λh h1 h2=>by
 obtain⟨y,hy⟩:=h1;refine amY ⟨_,_,rfl,h,y,hy,rfl⟩ λx hx=> ?_
 obtain⟨d',h3,_,y',h4,rfl⟩:=hx;obtain rfl:=Q5 _ _ h3;exact h2 y' h4
abbrev aS3{D X Y:Type}(A: {R:Type}->D->(jf->Option R)->Option R)(gz:D->Prop)(add:D->Y->X)(Post:D->Y->Prop)(out:X->jf):Prop:=∀d,gz d->∀k:jf->Option Unit,(∀y,Post d y->k (out (add d y))=av ())->A d k=av ()
def dB.e7{D X Y:Type}(st:D->AS)(gz:D->Prop)(add:D->Y->X)(F:D->Y)(out:X->Out (Exit×AS)):dB:=dB.of st gz (λd=>add d (F d)) out
def K6{D:Type}(E:Entry)(st:D->SA):D->Option E.X:=λd=>E.run (st d).1 (st d).2
def fS{D:Type}(E:dB)(st:D->AS):D->Option E.X:=λd=>E.run (st d)
abbrev ik{D X Y:Type}(call:D->Option X)(gz:D->Prop)(add:D->Y->X)(F:D->Y):Prop:=∀ {d:D},gz d->call d=av (add d (F d))
theorem aYa{D X Y:Type}{params:List (Option Ty)}{st:D->SA}{gz:D->Prop}{add:D->Y->X}{F:D->Y}{out:X->jf}(Q5:∀d d',st d=st d'->d=d'):ik (K6 (Entry.e7 params st gz add F out) st) gz add F:=λh=>Entry.vu Q5 h
theorem alJ{D X X' Y:Type}{params:List (Option Ty)}{st:D->SA}{gz:D->Prop}{add:D->Y->X⊕X'}{F:D->Y}{out:X⊕X'->jf}(Q5:∀d d',st d=st d'->d=d'){d:D}(h:gz d):(Entry.asE params st gz add F out).run (st d).1 (st d).2=av (add d (F d)):=aYa (params:=params) (out:=out) Q5 h
theorem jX{D X Y:Type}{st:D->AS}{gz:D->Prop}{add:D->Y->X}{F:D->Y}{out:X->Out (Exit×AS)}(Q5:∀d d',st d=st d'->d=d'):ik (fS (dB.e7 st gz add F out) st) gz add F:=λh=>dB.vu Q5 h
def aDU(P:bj)(fn:Func):Bool:=P.follows .mixedOrders && fn.body.isSome && !(fn.name== "runtime.NumGoroutine")
def aQb(fn:Func):Nat:=match fn.body with | some c=>(mT c).length | none=>0
theorem tD.fn{P:bj}{l:List (SG P)}{f:gC}{fn:Func}{an:Da}{N:Nat}{D X Y:Type}{params:List (Option Ty)}{st:D->SA}{gz:D->Prop}{add:D->Y->X}{F:D->Y}{out:X->jf}(n:Nat)
  (hc:(P.funcs[f]?,aDU P fn,aQb fn)=(av fn,bm,n))
  (h:avN (@Si P (jr l) an N fn D st) gz add F out)
  (hL:aO9 P (jr l) an N fn n 0) (ap6:an.mf=aH:=by exact rfl):tD P f (Entry.e7 params st gz add F out):=by
 injection hc with h1 h2
 injection h2 with h2 h3
 unfold aDU at h2;simp only[aw,di]at h2;exact tD.of h2.1.1 (Sound.jr l) h1 h2.1.2 h2.2 (jx.fn n h3 hL) h ap6
theorem Sk.fn{P:bj}{l:List (SG P)}{f:gC}{fn:Func}{an:Da}{N:Nat}{D X Y:Type}{params:List (Option Ty)}{st:D->SA}{gz:D->Prop}{add:D->Y->X}{Post:D->Y->Prop}{out:X->jf}(n:Nat)
  (hc:(P.funcs[f]?,aDU P fn,aQb fn)=(av fn,bm,n))
  (h:aS3 (@Si P (jr l) an N fn D st) gz add Post out)
  (hL:aO9 P (jr l) an N fn n 0) (ap6:an.mf=aH:=by exact rfl):Sk P f (Entry.aia params st gz add Post out):=by
 injection hc with h1 h2
 injection h2 with h2 h3
 unfold aDU at h2;simp only[aw,di]at h2;refine Sk.vu h2.1.1 (Sound.jr l) h1 h2.1.2 h2.2 (jx.fn n h3 hL) (λargs dh hx=> ?_) ap6;obtain⟨x,d,e,hp,y,hy,rfl⟩:=hx;have:=h d hp (λG=>aVp (∃x,(Entry.aia params st gz add Post out).set args dh x/\G=(Entry.aia params st gz add Post out).out args dh x)) λy hy=>aLA ⟨_,⟨d,e,hp,y,hy,rfl⟩,rfl⟩
 unfold Si at this;rw[e]at this;exact this
theorem aAm.e7{P:bj}{Γ:tg}{an:Da}{N:Nat}{fn:Func}{i:Nat}{D X Y:Type}{st:D->AS}{gz:D->Prop}{add:D->Y->X}{F:D->Y}{out:X->Out (Exit×AS)}
  (h:jj P Γ an N fn i st gz add F out) (hle:an.fa (eG (ra fn i))=av (dB.e7 st gz add F out):=by kernel_rfl):aAm P Γ an N (ra fn i):=aAm.of hle h
abbrev K1(R:Type):=jf->Option R
abbrev K2(R:Type):=AS->Option R
abbrev K3(R:Type):=Exit->AS->Option R
@[reducible] def bq{D Y:Type}(_:D)(y:Y):Y:=y
structure Ls{D Y X:Type}(gz:D->Prop)(add:D->Y->X)(F:D->Y) where
 st:D->AS
 ex:X->Exit×AS
noncomputable def pD{D Y X:Type}{gz:D->Prop}{add:D->Y->X}{F:D->Y}(st:D->AS)(ex:X->Exit×AS):Ls gz add F:=⟨st,ex⟩
section
variable {D Y X:Type} {gz:D->Prop} {add:D->Y->X} {F:D->Y} (L:Ls gz add F)
def Ls.out:X->Out (Exit×AS):=λx=> .ok (L.ex x)
def Ls.E:dB:=dB.e7 L.st gz add F L.out
def Ls.call:D->Option X:=fS L.E L.st
abbrev Ls.go{R:Type}(kx:K3 R)(x:X):Option R:=kx (L.ex x).1 (L.ex x).2
abbrev Ls.RS:Prop:=ik L.call gz add F
end
theorem rL(ts:List Lf){Y X:Type}{gz:Lf.aHA ts->Prop}{add:Lf.aHA ts->Y->X}{F:Lf.aHA ts->Y}(L:Ls gz add F)(h:∀d,AS.leaves (L.st d)=Lf.mk ts d:=by exact λ_=>cd):ik L.call gz add F:=jX (jA ts h)
structure Fs(P:bj){D Y X:Type}(gz:D->Prop)(add:D->Y->X)(F:D->Y) where
 i:gC
 fn:Func
 st:D->SA
 out:X->jf
 ps:List (Option Ty)
 G:List (SG P)
 an:Da
 N:Nat
noncomputable def eV{P:bj}{D Y X:Type}{gz:D->Prop}{add:D->Y->X}{F:D->Y}(i:gC)(fn:Func)(st:D->SA)(out:X->jf)(ps:List (Option Ty))(G:List (SG P):=[])(an:Da:= {})(N:Nat:=0):Fs P gz add F:=⟨i,fn,st,out,ps,G,an,N⟩
section
variable {P:bj} {D Y X:Type} {gz:D->Prop} {add:D->Y->X} {F:D->Y} (f:Fs P gz add F) {D' Y' X':Type} {Pre':D'->Prop} {add':D'->Y'->X'} {F':D'->Y'}
def Fs.A{R:Type}(d:D)(k:K1 R):Option R:=Si P (jr f.G) f.an f.N f.fn f.st d k
def Fs.R(i:Nat)(L:Ls Pre' add' F'){R:Type}(d:D')(kn:K2 R)(kx:K3 R):Option R:=ej P (jr f.G) f.an f.N f.fn i L.st d kn kx
abbrev Fs.Ok:Prop:=∀d,gz d->f.A d av=av (f.out (add d (F d)))
abbrev Fs.jx(i:Nat)(L:Ls Pre' add' F'):Prop:=jj P (jr f.G) f.an f.N f.fn i L.st Pre' add' F' L.out
def Fs.E:Entry:=Entry.e7 f.ps f.st gz add F f.out
def Fs.call:D->Option X:=K6 f.E f.st
theorem Fs.mf(i:Nat)(L:Ls Pre' add' F'):aqa (@Fs.R P D Y X gz add F f D' Y' X' Pre' add' F' i L) L.st Pre' add' F' L.ex (f.jx i L):=λ μ h=>asx (F:=λd=>add' d (F' d)) μ h
theorem Fs.aX7(i:Nat)(L:Ls Pre' add' F'):aTT (@Fs.R P D Y X gz add F f D' Y' X' Pre' add' F' i L) L.st Pre' add' F' L.ex (f.jx i L):=aWN
abbrev Fs.RS:Prop:=ik f.call gz add F
def Fs.aYU(p:List aN->Bool)(ok:f.Ok)(n:Nat:=0)(hL:aO9 P (jr f.G) f.an f.N f.fn n 0:=by exact trivial)(hc:(P.funcs[f.i]?,aDU P f.fn,aQb f.fn)=(av f.fn,bm,n):=by kernel_rfl)(hy:Nat.blt f.i yB=bm:=by exact rfl)(hn:f.an.mf=aH:=by exact rfl):SG P:=⟨f.i,p,f.E,.of (tD.fn n hc ok hL hn) hy⟩
def Fs.eY(ok:f.Ok)(n:Nat:=0)(hL:aO9 P (jr f.G) f.an f.N f.fn n 0:=by exact trivial)(hc:(P.funcs[f.i]?,aDU P f.fn,aQb f.fn)=(av f.fn,bm,n):=by kernel_rfl)(hy:Nat.blt f.i yB=bm:=by exact rfl)(hn:f.an.mf=aH:=by exact rfl):SG P:=f.aYU nV ok n hL hc hy hn
end
theorem rE(ts:List Lf){P:bj}{Y X:Type}{gz:Lf.aHA ts->Prop}{add:Lf.aHA ts->Y->X}{F:Lf.aHA ts->Y}(f:Fs P gz add F)(h:∀d,SA.leaves (f.st d)=Lf.mk ts d:=by exact λ_=>cd):ik f.call gz add F:=aYa (adv ts h)
abbrev tu:Ty:=(.int .u64)
abbrev ti:Ty:=(.int .i64)
abbrev tb:Ty:=(.int .u8)
abbrev tB:Ty:=(.slice tb)
abbrev Bs:=(List Int)
abbrev tH:Ty:=(.arr 32 tb)
abbrev tU:Ty:=(.slice tu)
abbrev bQ:Ty:=(.pair tH (.pair ti .unit))
abbrev cz:=(Bs×(Int×Unit))
abbrev KF:Ty:=(.pair tu (.pair tu .unit))
abbrev Sg:=(Int×(Int×Unit))
abbrev ap9:Ty:=(.pair ti (.pair (.slice KF) (.pair tu .unit)))
abbrev V9:=(Int×((List Sg)×(Int×Unit)))
abbrev fo:Ty:=(.pair bQ (.pair ap9 .unit))
abbrev ji:=(cz×(V9×Unit))
abbrev jE:Ty:=(.pair tU (.pair ti (.pair ti (.pair tu .unit))))
abbrev nR:=(Bs×(Int×(Int×(Int×Unit))))
abbrev P9:Ty:=(.pair (.slice jE) .unit)
abbrev Lk:=((List nR)×Unit)
abbrev fi:Ty:=(.pair ti (.pair P9 .unit))
abbrev jV:=(Int×(Lk×Unit))
abbrev dU:Ty:=(.pair (.slice fo) (.pair (.slice fi) (.pair ti .unit)))
abbrev dM:=((List ji)×((List jV)×(Int×Unit)))
abbrev wE:Ty:=(.pair tB (.pair .bool .unit))
abbrev ij:=(Bs×(Bool×Unit))
abbrev bcD:Ty:=(.pair ti (.pair (.gG KF) (.pair tu .unit)))
abbrev aY6:=(Int×((Option (List Sg))×(Int×Unit)))
abbrev ug:Ty:=(.pair bQ (.pair bcD .unit))
abbrev F2:=(cz×(aY6×Unit))
end Go.Ab
namespace Go.Ab
theorem w7{n:Int}(h1: -9223372036854775808<=n)(h2:n<=9223372036854775807):IntKind.i64.wrap n=n:=by simp[IntKind.wrap,IntKind.bits,IntKind.signed];split <;> omega
theorem fA{x y:Int}(h1: -9223372036854775808<=x+y)(h2:x+y<=9223372036854775807):bz .i64 x y=x+y:=w7 h1 h2
theorem fI{x y:Int}(h1: -9223372036854775808<=x - y)(h2:x - y<=9223372036854775807):df .i64 x y=x - y:=w7 h1 h2
theorem Ah{x y:Int}(h1: -9223372036854775808<=x*y)(h2:x*y<=9223372036854775807):fO .i64 x y=x*y:=w7 h1 h2
theorem aQG{x:Int}(h1: -9223372036854775808<=x)(h2:x<=9223372036854775807):dR .i64 x=x:=w7 h1 h2
def vw{n:Nat}(w:BitVec n):Int:=(w.toNat:Int)
theorem iH(n:Nat)(x:Int):vw (bA n x)=x%((2^n:Nat):Int):=by unfold vw;rw[uX];have:0<=x%((2^n:Nat):Int):=mg _ (by have:=Nat.two_pow_pos n;omega);omega
theorem Ye{n:Nat}(w:BitVec n):0<=vw w:=ig _
theorem aON{n:Nat}(w:BitVec n):vw w < ((2^n:Nat):Int):=by have:=w.isLt;unfold vw;omega
theorem xg{n:Nat}(w:BitVec n):bA n (vw w)=w:=by apply BitVec.eq_of_toNat_eq;have:=iH n (vw w);unfold vw at this ⊢;have h:=w.isLt;rw[eW (ig _) aq]at this;omega
theorem wrap_u32(x:Int):IntKind.u32.wrap x=vw (bA 32 x):=by rw[iH];simp[IntKind.wrap,IntKind.bits,IntKind.signed]
theorem wrap_u64(x:Int):IntKind.u64.wrap x=vw (bA 64 x):=by rw[iH];simp[IntKind.wrap,IntKind.bits,IntKind.signed]
theorem wrap_u8(x:Int):IntKind.u8.wrap x=vw (bA 8 x):=by rw[iH];simp[IntKind.wrap,IntKind.bits,IntKind.signed]
theorem Hv(x y:BitVec 32):bz .u32 (vw x) (vw y)=vw (x+y):=by rw[bz,wrap_u32,BitVec.ofInt_add,xg,xg]
theorem aBc(x:Int):dR .u32 x=vw (bA 32 x):=wrap_u32 x
theorem TL(x:Int):dR .u64 x=vw (bA 64 x):=wrap_u64 x
theorem WS(x:Int):dR .u8 x=vw (bA 8 x):=wrap_u8 x
theorem aLn{n:Nat}(x:BitVec n):bA n ((x.toNat:Nat):Int)=x:=xg x
theorem si(op:BinOp)(x y:BitVec 32):cX op .u32 (vw x) (vw y)=vw (match op with | .and=>x &&& y | .or=>x ||| y | .xor=>x^^^y | _=>x &&& ~~~y):=by unfold cX;split <;> (simp only[IntKind.bits,xg,wrap_u32,aLn];rfl)
theorem aCT(op:BinOp)(x y:BitVec 64):cX op .u64 (vw x) (vw y)=vw (match op with | .and=>x &&& y | .or=>x ||| y | .xor=>x^^^y | _=>x &&& ~~~y):=by unfold cX;split <;> (simp only[IntKind.bits,xg,wrap_u64,aLn];rfl)
theorem aJS(x y:Nat):Int.fdiv (x:Int) (y:Int)=((x / y:Nat):Int):=by rw[lC _ (ig _)];rfl
theorem V5(k:Nat):(2:Int)^k=((2^k:Nat):Int):=by simp
theorem aVI{n:Nat}(w:BitVec n)(k:Nat):Int.fdiv (vw w) (2^(min k n))=vw (w >>> k):=by
 rw[V5];unfold vw;rw[aJS,BitVec.toNat_ushiftRight,Nat.shiftRight_eq_div_pow];congr 1;rcases Nat.le_total k n with hk | hk
 ·rw[iU hk]
 ·rw[Nat.min_eq_right hk,Nat.div_eq_of_lt w.isLt,Nat.div_eq_of_lt];exact Nat.lt_of_lt_of_le w.isLt (Nat.pow_le_pow_right aq hk)
theorem Lv(w:BitVec 32)(k:Int):cF .u32 (vw w) k=vw (w >>> k.toNat):=aVI w k.toNat
theorem aVH{n:Nat}(w:BitVec n)(k:Nat):bA n (vw w*2^(min k n))=w <<< k:=by
 apply BitVec.eq_of_toNat_eq;rw[uX,BitVec.toNat_shiftLeft,Nat.shiftLeft_eq];unfold vw;rw[V5];have e:((w.toNat:Int)*((2^min k n:Nat):Int))=((w.toNat*2^min k n:Nat):Int):=by simp
 rw[e];have:(((w.toNat*2^min k n:Nat):Int)%((2^n:Nat):Int)).toNat=(w.toNat*2^min k n)%2^n:=aq;rw[this];rcases Nat.le_total k n with hk | hk
 ·rw[iU hk]
 ·rw[Nat.min_eq_right hk,Nat.mul_mod_left];obtain⟨m,rfl⟩:=Nat.exists_eq_add_of_le hk;rw[qM,<-Nat.mul_assoc,Nat.mul_right_comm,Nat.mul_mod_left]
theorem TP(w:BitVec 32)(k:Int):oq .u32 (vw w) k=vw (w <<< k.toNat):=by rw[oq,wrap_u32];congr 1;exact aVH w k.toNat
theorem ba{i n:Int}(h1:0<=i)(h2:i < n):eA i n=bm:=by simp[eA,h1,h2]
theorem oo{i n:Int}(h1:0<=i)(h2:i<=n):inc i n=bm:=by simp[inc,h1,h2]
theorem aS{x y:Int}(h:x < y):fv x y=bm:=by simp[fv,h]
theorem aQ{x y:Int}(h:¬x < y):fv x y=aZ:=by simp[fv];omega
theorem om{x y:Int}(h:x<=y):ahY x y=bm:=by simp[ahY,h]
theorem j4{x y:Int}(h:¬x<=y):ahY x y=aZ:=by simp[ahY];omega
theorem dw{x y:Int}(h:x > y):xW x y=bm:=by simp[xW];omega
theorem cI{x y:Int}(h:¬x > y):xW x y=aZ:=by simp[xW];omega
theorem fG{x y:Int}(h:x>=y):AM x y=bm:=by simp[AM];omega
theorem eg{x y:Int}(h:¬x>=y):AM x y=aZ:=by simp[AM];omega
theorem mQ{x y:Int}(h:x=y):Il x y=bm:=by simp[Il,h]
theorem j3{x y:Int}(h:¬x=y):Il x y=aZ:=by simp[Il,h]
theorem fH{x y:Int}(h:¬x=y):C3 x y=bm:=by simp[C3,h]
theorem dN{x y:Int}(h:x=y):C3 x y=aZ:=by simp[C3,h]
theorem v7{x:Int}(h:0<=x):ou x=bm:=by simp[ou,h]
theorem aX{p:Prop} [Decidable p] (h:p):decide p=bm:=by simp[h]
theorem bo{p:Prop} [Decidable p] (h:¬p):decide p=aZ:=by simp[h]
theorem cM{n b:Nat}(h:n*b<=140737488355328)(h2:n<=9223372036854775807):cZ n b=bm:=by simp[cZ,h,h2]
def from_{α:Type}(f:Nat->α->α)(t:Nat)(l:List α):List α:=l.mapIdx λi x=>if i < t then x else f i x
theorem N8{α:Type}(f:Nat->α->α)(l:List α)(t:Nat)(h:t < l.length):from_ f (t+1) (l.set t (f t l[t]))=from_ f t l:=by
 unfold from_;apply rW (by simp);intro i h1 h2;simp only[List.getElem_mapIdx,List.getElem_set];by_cases hi:t=i
 ·subst hi;simp
 ·simp only[if_neg hi];by_cases h3:i < t
  ·rw[if_pos aq,if_pos h3]
  ·rw[if_neg aq,if_neg h3]
theorem Tx{α:Type}(f:Nat->α->α)(l:List α)(t:Nat)(h:l.length<=t):from_ f t l=l:=by unfold from_;apply rW (by simp);intro i h1 h2;simp only[List.getElem_mapIdx];rw[if_pos aq]
theorem ade{α:Type}(f:Nat->α->α)(n:Nat)(x:α):from_ f 0 (ai n x)=(List.range n).map λi=>f i x:=by unfold from_;apply rW (by simp);intro i h1 h2;simp
theorem bY{t:Ty}{l:List t.den}{i:Nat}(h:i < l.length):nth t l i=l[i]:=by simp[nth,h]
end Go.Ab
namespace Go.Ab.N
section
variable {α:Type} {x y:Option α} {a b n:Nat} {i j:Int}
theorem lt:aJ (fv i j) x y=if i < j then x else y:=by unfold fv;split <;> rename_i h <;> simp[h]
theorem le:aJ (ahY i j) x y=if i<=j then x else y:=by unfold ahY;split <;> rename_i h <;> simp[h]
theorem gt:aJ (xW i j) x y=if j < i then x else y:=by unfold xW;split <;> rename_i h <;> simp[h]
theorem ge:aJ (AM i j) x y=if j<=i then x else y:=by unfold AM;split <;> rename_i h <;> simp[h]
theorem eq:aJ (Il i j) x y=if i=j then x else y:=by
 by_cases h:i=j
 ·rw[mQ h,if_pos h];rfl
 ·rw[j3 h,if_neg h];rfl
theorem ne:aJ (C3 i j) x y=if i=j then y else x:=by
 by_cases h:i=j
 ·rw[dN h,if_pos h];rfl
 ·rw[fH h,if_neg h];rfl
theorem ib:aJ (eA i j) x y=if 0<=i/\i < j then x else y:=by unfold eA;split <;> rename_i h <;> simp[h]
theorem ic:aJ (inc i j) x y=if 0<=i/\i<=j then x else y:=by unfold inc;split <;> rename_i h <;> simp[h]
theorem nn:aJ (ou i) x y=if 0<=i then x else y:=by unfold ou;split <;> rename_i h <;> simp[h]
theorem nz:aJ (ur i) x y=if i=0 then y else x:=by unfold ur;split <;> rename_i h <;> simp[h]
theorem dc{p:Prop} [Decidable p]:aJ (decide p) x y=if p then x else y:=by split <;> rename_i h <;> simp[h]
theorem rm:aJ (cZ n b) x y=if n*b<=140737488355328/\n<=9223372036854775807 then x else y:=by unfold cZ;exact dc
theorem an{c d:Bool}:aJ (c && d) x y=aJ c (aJ d x y) y:=by cases c <;> rfl
theorem or{c d:Bool}:aJ (c || d) x y=aJ c x (aJ d x y):=by cases c <;> rfl
theorem no{c:Bool}:aJ (!c) x y=aJ c y x:=by cases c <;> rfl
theorem aYr(h:a+b<=9223372036854775807):bz .i64 (a:Int) (b:Int)=((a+b:Nat):Int):=by rw[fA aq aq];omega
theorem jL(h:a+dS n<=9223372036854775807):bz .i64 (a:Int) (no_index (dS n))=((a+dS n:Nat):Int):=aYr h
theorem baW(h:dS n+a<=9223372036854775807):bz .i64 (no_index (dS n)) (a:Int)=((dS n+a:Nat):Int):=aYr h
theorem aYT(h:b<=a)(h2:a<=9223372036854775807):df .i64 (a:Int) (b:Int)=((a - b:Nat):Int):=by rw[fI aq aq];omega
theorem bbC(h:dS n<=a)(h2:a<=9223372036854775807):df .i64 (a:Int) (no_index (dS n))=((a - dS n:Nat):Int):=aYT h h2
theorem bbB(h:a<=dS n)(h2:(dS n:Nat)<=9223372036854775807):df .i64 (no_index (dS n)) (a:Int)=((dS n - a:Nat):Int):=aYT h h2
theorem aYO(h:a*b<=9223372036854775807):fO .i64 (a:Int) (b:Int)=((a*b:Nat):Int):=by
 have e:(a:Int)*(b:Int)=((a*b:Nat):Int):=by simp
 rw[Ah aq aq,e]
theorem bbv(h:a*dS n<=9223372036854775807):fO .i64 (a:Int) (no_index (dS n))=((a*dS n:Nat):Int):=aYO h
theorem aXR(h:dS n*a<=9223372036854775807):fO .i64 (no_index (dS n)) (a:Int)=((dS n*a:Nat):Int):=aYO h
theorem baj(h:a<=9223372036854775807):wC .i64 (a:Int) (b:Int)=((a / b:Nat):Int):=by
 have:(a:Int).tdiv (b:Int)=((a / b:Nat):Int):=by rw[lD aq];simp
 have hl:a / b<=a:=Nat.div_le_self a b;unfold wC;rw[this];generalize a / b=c at hl;exact w7 aq aq
theorem bai(h:a<=9223372036854775807):wC .i64 (a:Int) (no_index (dS n))=((a / dS n:Nat):Int):=baj h
theorem bak:kj (a:Int) (b:Int)=((a%b:Nat):Int):=by unfold kj;rw[iK aq];simp
theorem aYS:kj (a:Int) (no_index (dS n))=((a%dS n:Nat):Int):=bak
theorem cN(h:a<=9223372036854775807):dR .i64 (a:Int)=(a:Int):=aQG aq aq
theorem cL(h:(dS n:Nat)<=9223372036854775807):dR .i64 (no_index (dS n))=dS n:=cN h
theorem tL:ab (no_index (dS n))=dS n:=rfl
end
end Go.Ab.N
namespace Go.Ab
section
variable {P:bj}
theorem aJO{E E':Env}(h1:E'.w=E.w)(h2:E'.g=E.g)(h3:E'.β=E.β)(h4:E'.s=E.s):E'=E:=by obtain⟨a,b,c,d⟩:=E;obtain⟨a',b',c',d'⟩:=E';simp only at h1 h2 h3 h4;subst h1 h2 h3 h4;rfl
theorem Bh.same{w:cO}{g:Nat->qs}{β:Id->Option Pl}{dh:List eJ}{a:aN}{v:Value}(hv:VS ((iw dh).env w g β) a v)(ho:ku ((iw dh).env w g β)):
  Bh ((iw dh).env w g β) ⟨a,dh,[]⟩ v w:=by
 have hE:(jf.st ⟨a,dh,[]⟩).env w g β=(iw dh).env w g β:=by
  refine aJO rfl rfl rfl ?_
  funext id;cases id with
  |bP k=>rfl
  |new i j=>
   show([([]:List eJ)].getD i [])[j]? =(([]:List (List eJ)).getD i [])[j]?
   cases i <;> rfl
 refine⟨g,β,?_⟩;rw[hE];exact⟨hv,ho,Trans.refl w g,dI.refl _⟩
theorem tD.extern{f:gC}{fn:Func}{e:Array Value->Sem Value}(hf:P.funcs[f]? =av fn)(Hu:(fn.name== "runtime.NumGoroutine")=aZ)(hb:fn.body.isNone=bm)(hn:Extern.findNext fn=aH)(he:Extern.find fn=av e){en:Entry}
  (h:∀w g β args dh l9 x,OX ((iw dh).env w g β) args l9->ku ((iw dh).env w g β)->en.run args dh=av x->∃v,(e l9.toArray).run P w= .ok v w/\Bh ((iw dh).env w g β) (en.out args dh x) v w):tD P f en:=by
 intro w g β args dh l9 x h1 h2 h3;obtain⟨v,h4,h5⟩:=h w g β args dh l9 x h1 h2 h3;refine .inr ⟨v,w,?_,h5⟩;rw[run_callFunc_extern hf Hu hb hn he,h4];rfl
theorem alK{w:cO}:∀(xs:List Int) (a:Addr) (acc:ByteArray),(∀j x,xs[j]? =av x->w.cell? (a.add j)=av (.int .u8 x))->
  (Extern.Bytes.loadBytes a xs.length acc).run P w= .ok ⟨acc.data++(xs.map λn=>UInt8.ofNat n.toNat).toArray⟩ w
 |[],a,acc,_=>by simp[Extern.Bytes.loadBytes]
 |x::l,a,acc,h=>by
  have h0:w.cell? a=av (.int .u8 x):=by have:=h 0 x rfl;simpa[Addr.add]using this
  have ih:=alK l (a.add 1) (acc.push x.toNat.toUInt8) (λj y hy=>by
   have:=h (j+1) y (by simpa using hy);have e:(a.add 1).add j=a.add (j+1):=by
    unfold Addr.add;by_cases hj:j=0
    ·subst hj;simp
    ·simp[hj];omega
   rw[e];exact this)
  simp only[aF,Extern.Bytes.loadBytes,cU,run_load,h0,Result.andThen];rw[ih];congr 1;apply ByteArray.ext;simp[ByteArray.push]
theorem agE{E:Env}{l:List Int}{y:Value}(h:VS E (.d (.slice (.int .u8)) l) y):(Extern.Bytes.bytesOf y).run P E.w= .ok (kg l) E.w:=by
 obtain⟨a,cap,vs,rfl,_,hs,vj,B4⟩:=xL h;have ar8:=YA (k:= .u8) (vs:=vs) (l:=l) B4;cases a with
 |none=>
  have hl:l=[]:=by
   cases l with
   |nil=>rfl
   |cons _ _=>simp at hs
  subst hl;rfl
 |some ad=>
  have aXq:=alK (P:=P) (w:=E.w) l ad .empty λj x hx=>by
   obtain⟨b,off,e,hh⟩:=vj j (.int .u8 x) (by rw[ar8];simp[hx]);have e:ad=⟨b,off,aH⟩:=by simpa using e
   subst e;have h1:=hh.1;unfold Addr.add;by_cases hj:j=0
   ·subst hj;simpa using h1
   ·simpa[hj]using h1
  show(Extern.Bytes.loadBytes ad l.length .empty).run P E.w=_;rw[aXq];congr 1;apply ByteArray.ext;simp[kg]
def acB(a b:List Int):Int:=Extern.BytealgCompare.cmp (kg a) (kg b)
def aAt:Entry:=Entry.of (D:=List Int×List Int) (X:=Int) [av (.slice (.int .u8)),av (.slice (.int .u8))] (λd=>([.d (.slice (.int .u8)) d.1,.d (.slice (.int .u8)) d.2],[])) (λ_=>True) (λd=>acB d.1 d.2) (λx=>⟨.d (.int .i64) x,[],[]⟩)
theorem aPj:∀d d':List Int×List Int,(([aN.d (.slice (.int .u8)) d.1,aN.d (.slice (.int .u8)) d.2],([]:List eJ)):List aN×List eJ)=([.d (.slice (.int .u8)) d'.1,.d (.slice (.int .u8)) d'.2],[])->d=d':=by rintro⟨a,b⟩ ⟨a',b'⟩ h;have e1:a=a':=aS9 (t:= .slice (.int .u8)) (bW (λs:List aN×List eJ=>s.1.getD 0 .undef) h);have e2:b=b':=aS9 (t:= .slice (.int .u8)) (bW (λs:List aN×List eJ=>s.1.getD 1 .undef) h);rw[e1,e2]
def aqp:List Int×List Int->Option Int:=λd=>aAt.run [.d (.slice (.int .u8)) d.1,.d (.slice (.int .u8)) d.2] []
theorem aAu(d:List Int×List Int):aqp d=av (acB d.1 d.2):=Entry.vu (d:=d) aPj trivial
theorem aT2{f:gC}{fn:Func}(hf:P.funcs[f]? =av fn)(Hu:(fn.name== "runtime.NumGoroutine")=aZ)(hb:fn.body.isNone=bm)(hn:Extern.findNext fn=aH)(he:Extern.find fn=av Extern.BytealgCompare.compare):tD P f aAt:=by
 refine tD.extern hf Hu hb hn he λw g β args dh l9 x h1 h2 h3=> ?_
 have hx:∃d:List Int×List Int,(([aN.d (.slice (.int .u8)) d.1,aN.d (.slice (.int .u8)) d.2],([]:List eJ)):List aN×List eJ)=(args,dh):=by
  by_cases hh:∃d:List Int×List Int,(([aN.d (.slice (.int .u8)) d.1,aN.d (.slice (.int .u8)) d.2],([]:List eJ)):List aN×List eJ)=(args,dh)
  ·exact hh
  ·exfalso;have hn:aAt.run args dh=aH:=ET λ⟨d,h,_⟩=>hh ⟨d,h⟩
   rw[hn]at h3;cases h3
 obtain⟨d,hd⟩:=hx;simp only[de]at hd;obtain⟨rfl,rfl⟩:=hd;have hr:=aAu d;have hx:x=acB d.1 d.2:=bf (h3.symm.trans hr);subst hx
 match l9,h1 with
 |[u,v],⟨h4,h5,_⟩=>
  refine⟨.int .i64 (acB d.1 d.2),?_,Bh.same (nE _ _) h2⟩;have e1:=agE (P:=P) h4;have e2:=agE (P:=P) h5;have e1:(Extern.Bytes.bytesOf u).run P w= .ok (kg d.1) w:=e1;have e2:(Extern.Bytes.bytesOf v).run P w= .ok (kg d.2) w:=e2;have aZu:Extern.BytealgCompare.compare [u,v].toArray=(do let a <-Extern.Bytes.bytesOf u;let b <-Extern.Bytes.bytesOf v;pure (goInt (Extern.BytealgCompare.cmp a b))):=rfl;rw[aZu];simp[e1,e2,goInt,acB]
def aY9{X Y:Type} [Inhabited Y] (x:Option X):Option (X×Y):=ao x λy=>av (y,default)
def aZa{X Y:Type} [Inhabited X] (x:Option Y):Option (X×Y):=ao x λy=>av (default,y)
@[simp] theorem aV9{X Y:Type} [Inhabited Y] (x:X):aY9 (Y:=Y) (av x)=av (x,default):=rfl
@[simp] theorem aWa{X Y:Type} [Inhabited X] (x:Y):aZa (X:=X) (av x)=av (default,x):=rfl
end
theorem S1:(type_of% @N.lt)/\(type_of% @N.le)/\(type_of% @N.gt)/\(type_of% @N.ge)/\(type_of% @N.eq)/\(type_of% @N.ne)/\(type_of% @N.ib)/\(type_of% @N.ic)/\(type_of% @N.nn)/\(type_of% @N.nz)/\(type_of% @N.dc)/\(type_of% @N.rm)/\(type_of% @N.an)/\(type_of% @N.or)/\(type_of% @N.no)/\(type_of% @aj)/\(type_of% @al)/\(type_of% @ag):=⟨@N.lt,@N.le,@N.gt,@N.ge,@N.eq,@N.ne,@N.ib,@N.ic,@N.nn,@N.nz,@N.dc,@N.rm,@N.an,@N.or,@N.no,@aj,@al,@ag⟩
theorem S2:(type_of% @ag)/\(type_of% @N.aYr)/\(type_of% @N.jL)/\(type_of% @N.baW)/\(type_of% @N.aYT)/\(type_of% @N.bbC)/\(type_of% @N.bbB)/\(type_of% @N.aYO)/\(type_of% @N.bbv)/\(type_of% @N.aXR)/\(type_of% @N.baj)/\(type_of% @N.bai)/\(type_of% @N.bak)/\(type_of% @N.aYS)/\(type_of% @N.cN)/\(type_of% @N.cL)/\(type_of% @N.tL)/\(type_of% @aa)/\(type_of% @gm)/\(type_of% @lT)/\(type_of% @eS):=⟨@ag,@N.aYr,@N.jL,@N.baW,@N.aYT,@N.bbC,@N.bbB,@N.aYO,@N.bbv,@N.aXR,@N.baj,@N.bai,@N.bak,@N.aYS,@N.cN,@N.cL,@N.tL,@aa,@gm,@lT,@eS⟩
end Go.Ab
namespace Go.Ab
open Go.ChangeShapes Go.WideShapes Go.ChangeAt Go.RowKit Go.Deep
def aju:(t:Ty)->t.den->Prop
 | .int k,x=>(Lit.int k x).wf=bm
 | .bool,_=>True
 | .str,s=>(s:ByteArray).size<=maxLen
 | .slice t,l=>(l:List t.den).length<=maxLen/\∀x∈(l:List t.den),aju t x
 | .unit,_=>True
 | .pair a b,x=>aju a x.1/\aju b x.2
 | .arr n t,l=>(l:List t.den).length=n/\∀x∈(l:List t.den),aju t x
 | .gG _,_ | .qE _,_ | .iv _,_=>False
def DF(P:bj)(rd:TypeId->Ty->Bool):Nat->List Field->Ty->Bool
 |_,[],.unit=>bm
 |off,f::fs,.pair a b=>mG f.offset off && (rd f.type a && (mG (P.cellsOf f.type) a.size && DF P rd (off+a.size) fs b))
 |_,_,_=>aZ
def GY(P:bj):Nat->TypeId->Ty->Bool
 | 0,_,_=>aZ
 |n+1,T,ty=>
  match P.underlying T,ty with
  |some (.int k),.int k'=>decide (k=k')
  |some .bool,.bool=>bm
  |some .string,.str=>bm
  |some (.slice e),.slice t=>GY P n e t && mG (P.cellsOf e) t.size
  |some (.array k e),.arr k' t=>mG k k' && (GY P n e t && (mG (P.cellsOf e) t.size && mG (P.cellsOf T) (k*t.size)))
  |some (.struct fs),ty=>DF P (GY P n) 0 fs.toList ty && mG (P.cellsOf T) ty.size
  |_,_=>aZ
theorem aPp{a b:Nat}:(mG a b=bm)=(a=b):=propext ⟨lY,λh=>by subst h;exact Nat.beq_refl a⟩
theorem asz{α β:Type}{f:α->Option β}:∀ {l:List α} {r:List β},l.mapM f=av r->r.length=l.length/\∀(i:Nat) (x:α),l[i]? =av x->f x=r[i]?
 |[],r,h=>by simp only[List.mapM_nil,Option.pure_def,ax]at h;subst h;exact⟨rfl,λi x h=>by simp at h⟩
 |y::l,r,h=>by
  simp only[List.mapM_cons,Option.bind_eq_bind,Option.pure_def,Option.bind_eq_some_iff,ax]at h;obtain⟨b,hb,r',hr,rfl⟩:=h;obtain⟨h1,h2⟩:=asz hr;refine⟨by simp[h1],λi x hi=> ?_⟩;cases i with
  |zero=>
   simp only[gw,ax]at hi;subst hi;simpa using hb
  |succ i=>
   simp only[nZ]at hi ⊢;exact h2 i x hi
theorem aDm{w:cO}{base:Nat}{a:Addr}{n:Nat}{cs:List Value}(h:w.cells? base a n=av cs):cs.length=n/\∀i,i < n->w.cell? (a.add i)=cs[i]? :=by
 unfold World.cells? at h;split at h
 ·obtain⟨h1,h2⟩:=asz h;exact⟨by simpa using h1,λi hi=>h2 i i (by simp[hi])⟩
 ·cases h
theorem add_add(a:Addr)(x y:Nat):(a.add x).add y=a.add (x+y):=by unfold Addr.add;by_cases hx:x=0 <;> by_cases hy:y=0 <;> simp[hx,hy,fB]
theorem aHb{w:cO}{a:Addr}{v:Value}(h:w.cell? a=av v):a.spot=aH:=by
 unfold World.cell? at h;split at h
 ·split at h
  ·cases h
  ·rename_i hs;cases hh:a.spot with
   |none=>rfl
   |some _=>simp[hh]at hs
 ·cases h
theorem aVC{E:Env}(hg:∀b,E.g b= .free){a:Addr}{vs:List Value}(h:∀i,i < vs.length->E.w.cell? (a.add i)=vs[i]?):Bi E (av a) vs:=by
 intro i v hv;have hi:i < vs.length:=(ek.1 hv).1;have h0:=h 0 aq;rw[cn aq]at h0;have hs:a.spot=aH:=aHb (a:=a) (by simpa[Addr.add]using h0);obtain⟨b,off,sp⟩:=a;simp only at hs;subst hs;refine⟨b,off,rfl,?_,?_⟩
 ·have:=h i hi;rw[hv]at this;rw[<-this];unfold Addr.add;split
  ·rename_i h;subst h;rfl
  ·rfl
 ·unfold Am;rw[hg b];trivial
section
variable {H:Type} {enc:TypeId×Value->H} {P:bj} {base:Nat} {spare:Nat->Bool} {held:Bool} {E:Env}
theorem aCe{t:Ty}{R:List Value->t.den->Prop}{G:t.den->Prop}{w:cO}{a:Addr}{z:Nat}(hR:∀c x,R c x->c.length=z):∀(len:Nat),(∀i,i < len->∃c x,R c x/\G x/\∀j,j < z->w.cell? (a.add (i*z+j))=c[j]?)->
  ∃(vs:List Value) (l:List t.den),vs.length=len*z/\l.length=len/\(∀i,i < vs.length->w.cell? (a.add i)=vs[i]?)/\bH R vs l/\∀x∈l,G x
 | 0,_=>⟨[],[],by simp,rfl,λi h=>by simp at h,rfl,λ_ h=>by cases h⟩
 |len+1,h=>by
  obtain⟨vs,l,h1,h2,h3,h4,h5⟩:=aCe hR len λi hi=>h i aq
  obtain⟨c,x,g1,g2,g3⟩:=h len aq;have hc:=hR c x g1;refine⟨vs++c,l++ [x],by rw[ak,h1,hc,fg,iV],by rw[ak,h2];rfl,λi hi=> ?_,bH.append h4 ⟨c,[],by simp,g1,rfl⟩,λy hy=> ?_⟩
  ·rw[ak,h1,hc]at hi;by_cases hl:i < vs.length
   ·rw[h3 i hl,fV hl]
   ·rw[List.getElem?_append_right aq,h1,<-g3 (i - len*z) aq,show len*z+(i - len*z)=i by omega]
  ·rcases bR.1 hy with hy | hy
   ·exact h5 y hy
   ·rw[bB.1 hy];exact g2
theorem ajM{t:Ty}{R:List Value->t.den->Prop}{G:t.den->Prop}{z:Nat}:∀(n:Nat) (cs:List Value),cs.length=n*z->(∀i,i < n->∃x,R ((cs.drop (i*z)).take z) x/\G x)->
  ∃l:List t.den,l.length=n/\bH R cs l/\∀x∈l,G x
 | 0,cs,h,_=>⟨[],rfl,bJ (by simpa using h),λ_ h=>by cases h⟩
 |n+1,cs,h,hi=>by
  obtain⟨x,g1,g2⟩:=hi 0 aq;obtain⟨l,h1,h2,h3⟩:=ajM (R:=R) (G:=G) (z:=z) n (cs.drop z) (by rw[du,h,fg];omega) λi arY=>by obtain⟨y,k1,k2⟩:=hi (i+1) aq;refine⟨y,?_,k2⟩;rw[gE,show z+i*z=(i+1)*z by rw[fg];omega];exact k1
  refine⟨x::l,by simp[h1],⟨cs.take z,cs.drop z,(eC z cs).symm,by simpa using g1,h2⟩,λy hy=> ?_⟩;rcases cq.1 hy with rfl | hy
  ·exact g2
  ·exact h3 y hy
theorem aac{rd:TypeId->Ty->Bool}{cs:List Value}:∀(fs:List Field) (off:Nat) (ty:Ty),DF P rd off fs ty=bm->off+ty.size<=cs.length->
  (∀f∈fs,∀t,rd f.type t=bm->P.cellsOf f.type=t.size->∃v,c9 E t ((cs.drop f.offset).take (P.cellsOf f.type)) v/\aju t v)->∃v,c9 E ty ((cs.drop off).take ty.size) v/\aju ty v
 |[],off,ty,h,hl,_=>by
  cases ty <;> simp only[DF]at h <;> first | cases h | skip
  exact⟨(),by simp[c9,Ty.size],trivial⟩
 |f::fs,off,ty,h,hl,hf=>by
  cases ty <;> simp only[DF]at h <;> first | cases h | skip
  rename_i a b;simp only[aw,aPp]at h;obtain⟨h1,h2,h3,h4⟩:=h;have hl:off+(a.size+b.size)<=cs.length:=hl;obtain⟨v,k1,k2⟩:=hf f (aU ..) a h2 h3;obtain⟨u,k3,k4⟩:=aac fs (off+a.size) b h4 aq λf' hf'=>hf f' (aP _ hf')
  refine⟨(v,u),⟨(cs.drop off).take a.size,(cs.drop (off+a.size)).take b.size,?_,?_,k3⟩,k2,k4⟩
  ·rw[show Ty.size (.pair a b)=a.size+b.size from rfl,List.take_add,gE]
  ·rw[h1,h3]at k1;exact k1
theorem Va(hg:∀b,E.g b= .free):∀(n:Nat) (T:TypeId) (ty:Ty),GY P n T ty=bm->∀ {fuel:Nat} {cs:List Value} {x:DataW H×List MemPlace},DataW.trod enc P E.w base spare held fuel T cs=av x->∃v,c9 E ty cs v/\aju ty v
 | 0,_,_,h,_,_,_,_=>by simp[GY]at h
 |n+1,T,ty,h,fuel,cs,x,hx=>by
  unfold GY at h;split at h
  ·rename_i k k' hu;obtain rfl:=of_decide_eq_true h;obtain⟨m,rfl,_,hw⟩:=DataW.trod_int hu hx;exact⟨m,rfl,hw⟩
  ·rename_i hu;obtain⟨b,rfl,_⟩:=DataW.trod_bool hu hx;exact⟨b,rfl,trivial⟩
  ·rename_i hu;obtain⟨s,rfl,_,hs⟩:=DataW.trod_string hu hx;exact⟨s,rfl,hs⟩
  ·rename_i e t hu;simp only[aw,aPp]at h;obtain⟨h1,h2⟩:=h;rcases open_slice hu hx with⟨rfl,_⟩ | ⟨a,len,cap,m,f,D,Pl,rfl,_,hl,hm,aXs,_,he⟩
   ·exact⟨([]:List t.den),⟨aH,0,[],rfl,az _,λh=>by simp at h,λi v hv=>by simp at hv,rfl⟩,aL _,λ_ h=>by cases h⟩
   ·have aYF:len<=m:=by rw[aXs];split <;> omega
    obtain⟨vs,l,k1,k2,k3,k4,k5⟩:=aCe (t:=t) (R:=c9 E t) (G:=aju t) (w:=E.w) (a:=a) (z:=t.size) (λc x h=>c9.size h) len λi hi=>by obtain⟨cs',g1,g2⟩:=he i aq;obtain⟨v,g3,g4⟩:=Va hg n e t h1 g2;obtain⟨g5,g6⟩:=aDm g1;refine⟨cs',v,g3,g4,λj hj=> ?_⟩;rw[<-g6 j aq,add_add,h2]
    refine⟨l,⟨av a,cap,vs,by rw[k2],by rw[k2];exact hl,λ_=>rfl,aVC hg k3,k4⟩,by rw[k2];omega,k5⟩
  ·rename_i k e k' t hu;simp only[aw,aPp]at h;obtain⟨rfl,h1,h2,h3⟩:=h;obtain⟨xs,m,rfl,_,hl,aO4,he⟩:=DataW.trod_array hu hx;obtain⟨l,k1,k2,k3⟩:=ajM (t:=t) (R:=c9 E t) (G:=aju t) (z:=t.size) k cs (by rw[hl,h3]) λi hi=>by have:=he i hi;rw[cn aq,h2]at this;exact Va hg n e t h1 this
   exact⟨l,⟨k1,k2⟩,k1,k3⟩
  ·rename_i ty fs hu;simp only[aw,aPp]at h;obtain⟨h1,h2⟩:=h;obtain⟨xs,m,rfl,_,hl,aO4,he⟩:=DataW.trod_struct hu hx;obtain⟨v,k1,k2⟩:=aac (E:=E) (cs:=cs) fs.toList 0 _ h1 (by rw[hl,h2];omega) λf hf t ht hc=>by
    obtain⟨i,hi,bbW⟩:=List.mem_iff_getElem.1 hf;have hi':i < fs.size:=by simpa using hi
    have:=he i f (by rw[<-bbW];simp[hi']);rw[cn aq]at this;exact Va hg n f.type t ht this
   refine⟨v,?_,k2⟩;rwa[ay,bu aq]at k1
  ·cases h
end
end Go.Ab
namespace Go.Ab
open Go.ChangeShapes Go.WideShapes Go.ChangeAt Go.RowKit Go.Deep
section
variable {H:Type} {enc:TypeId×Value->H} {P:bj} {base b0:Nat} {spare:Nat->Bool} {held:Bool} {E:Env} {W:cO}
theorem awM{rd:TypeId->Ty->Bool}{fs:List Field}{off:Nat}{ty:Ty}(h:DF P rd off fs ty=bm):ty.agg=bm:=by cases fs <;> cases ty <;> first | rfl | (simp[DF]at h)
theorem aNj(hw:E.w=W)(hg:∀b,E.g b= .free){n:Nat}{t:TypeId}{ty:Ty}(h:GY P n t ty=bm){v:Value}{d:DataW H}{ps:List MemPlace}(DG:Value.okWide P W .any base t v)(hd:DataW.Trod enc P W b0 spare held t v d ps):
  ∃x:ty.den,VS E (.d ty x) v/\aju ty x:=by
 subst hw;obtain⟨fuel,hf⟩:=hd;obtain⟨x,h1,h2⟩:=Va hg n t ty h hf;refine⟨x,⟨v.cells.toList,h1,?_⟩,h2⟩;cases n with
 |zero=>simp[GY]at h
 |succ n=>
  unfold GY at h;split at h
  ·rename_i k k' hu;obtain⟨m,rfl⟩:=okWide_int hu DG;rfl
  ·rename_i hu;obtain⟨m,rfl⟩:=okWide_bool hu DG;rfl
  ·rename_i hu;obtain⟨m,rfl⟩:=okWide_string hu DG;rfl
  ·rename_i hu;obtain⟨a,len,cap,rfl⟩:=okWide_slice hu DG;rfl
  ·rename_i hu;simp only[Value.okWide,hu]at DG;obtain⟨cs,rfl,_⟩:=DG;show _=_;simp[Value.cells]
  ·rename_i fs hu;simp only[Value.okWide,hu]at DG;obtain⟨cs,rfl,_⟩:=DG;simp only[aw]at h;have:=awM h.1;simp only[aN.agg,this,gY,Value.cells,Array.toArray_toList]
  ·cases h
def DV:List Ty->Type
 |[]=>Unit
 |t::ts=>t.den×DV ts
def DV.l9:(ts:List Ty)->DV ts->List aN
 |[],_=> []
 |t::ts,x=> .d t x.1::DV.l9 ts x.2
def DV.bas:(ts:List Ty)->DV ts->Prop
 |[],_=>True
 |t::ts,x=>aju t x.1/\DV.bas ts x.2
def zH(P:bj)(n:Nat):List TypeId->List Ty->Bool
 |[],[]=>bm
 |T::Ts,t::ts=>GY P n T t && zH P n Ts ts
 |_,_=>aZ
theorem alo(hw:E.w=W)(hg:∀b,E.g b= .free){n:Nat}:∀ {Ts:List TypeId} {ts:List Ty} {vs:List Value} {ds:List (DataW H)} {ps:List MemPlace},zH P n Ts ts=bm->
  (∀(j:Nat) t v,Ts[j]? =av t->vs[j]? =av v->Value.okWide P W .any base t v)->DataW.TrodAll enc P W b0 spare held Ts vs ds ps->∃x:DV ts,OX E (DV.l9 ts x) vs/\DV.bas ts x
 |[],[],vs,ds,ps,_,_,h=>by obtain⟨rfl,rfl,rfl⟩:=trodAll_nil h;exact⟨(),trivial,trivial⟩
 |T::Ts,[],_,_,_,h,_,_=>by simp[zH]at h
 |[],t::ts,_,_,_,h,_,_=>by simp[zH]at h
 |T::Ts,t::ts,vs,ds,ps,h,DG,hd=>by simp only[zH,aw]at h;obtain⟨v,vs',d,ds',p,q,rfl,rfl,rfl,h1,h2⟩:=trodAll_cons hd;obtain⟨x,k1,k2⟩:=aNj hw hg h.1 (DG 0 T v rfl rfl) h1;obtain⟨y,k3,k4⟩:=alo hw hg h.2 (λj t v hj hv=>DG (j+1) t v (by simpa using hj) (by simpa using hv)) h2;exact⟨(x,y),⟨k1,k3⟩,⟨k2,k4⟩⟩
def Ay(P:bj)(Ts:List TypeId):Bool:=Ts.all λt=>P.readableRec t && decide (t < P.types.size)
theorem Qi(hl:laidOutB P=bm){W':cO}(hb:Below W.heap.size W W')(sp:Nat->Bool):∀ {Ts:List TypeId} {vs:List Value} {ds:List (DataW H)} {ps:List MemPlace},Ay P Ts=bm->(∀p∈ps,p.block < W.heap.size)->(∀p∈ps,sp p.block=bm)->
  DataW.TrodAll enc P W 0 (λ_=>bm) bm Ts vs ds ps->DataW.TrodAll enc P W' 0 sp bm Ts vs ds ps
 |[],vs,ds,ps,_,_,_,h=>by obtain⟨rfl,rfl,rfl⟩:=trodAll_nil h;exact trodAll_mk0
 |T::Ts,vs,ds,ps,hr,fF,hs,h=>by obtain⟨v,vs',d,ds',p,q,rfl,rfl,rfl,h1,h2⟩:=trodAll_cons h;simp only[Ay,gg,aw,bt]at hr;have h3:=WideElems.Trod_stays hl hr.1.1 hr.1.2 h1 (λx hx=>hb.same (fF x (bR.2 (.inl hx)))) (λx hx=>hs x (bR.2 (.inl hx)));exact⟨p,q,h3,Qi hl hb sp (by simpa[Ay]using hr.2) (λx hx=>fF x (bR.2 (.inr hx))) (λx hx=>hs x (bR.2 (.inr hx))) h2,rfl⟩
end
theorem NO{H:Type}{enc:TypeId×Value->H}{P:bj}{W:cO}{b0:Nat}{spare:Nat->Bool}{held:Bool}:∀ {Ts:List TypeId} {vs:List Value} {ds:List (DataW H)} {ps:List MemPlace},DataW.TrodAll enc P W b0 spare held Ts vs ds ps->ds.length=Ts.length
 |[],_,_,_,h=>by obtain⟨_,rfl,_⟩:=trodAll_nil h;rfl
 |_::_,_,_,_,h=>by obtain⟨v,vs',d,ds',p,q,rfl,rfl,rfl,h1,h2⟩:=trodAll_cons h;simp[NO h2]
theorem atl{H:Type}{enc:TypeId×Value->H}{P:bj}{f:Func}{s:ChangeSpec}{W W':cO}{args:Array Value}{v:Value}{ds gs:List (DataW H)}{before:List MemPlace}{tb:TypeId}
  (hl:laidOutB P=bm) (avD:Ay P f.params.toList=bm) (ar7:s.vars=[]) (aZZ:f.resultTypes= #[tb]) (aZ1:P.underlying tb=av .bool)
  (hW:DataW.Whole enc P f.params.toList s.vars aZ W args.toList ds gs before) (aXg:s.fn H (ds++gs)= {results:=[.lit (.bool bm)],args:=ds}) (hb:Below W.heap.size W W') (hv:v= .bool bm):
  s.post enc P f aZ bm aZ aZ W args v W':=by
 subst hv;have hW':=hW;have hold:∀p∈before,(λb=>decide (b < W.heap.size)) p.block=bm:=λp hp=>by simpa using hW.lt p hp
 obtain⟨p,q,hA,hV,rfl,hz,_⟩:=hW;rw[ar7]at hV;obtain⟨rfl,rfl⟩:=trodVars_none hV;have fF:∀x∈p,x.block < W.heap.size:=λx hx=>hW'.lt x (bR.2 (.inl hx))
 have arW:∀sp:Nat->Bool,(∀x∈p,sp x.block=bm)->DataW.TrodAll enc P W' 0 sp bm f.params.toList args.toList (s.fn H (ds++ [])).args p:=λsp hs=>by rw[aXg];exact Qi hl hb sp avD fF hs hA
 have aZV:∀(b:Nat) (sp:Nat->Bool) (hd:Bool),DataW.TrodAll enc P W' b sp hd f.resultTypes.toList ((Value.bool bm).resultList f.resultTypes.size) (s.fn H (ds++ [])).results []:=λb sp hd=>by rw[aXg,aZZ];exact trodAll_mk1 (shut_bool aZ1 _)
 have ar8:∀sp:Nat->Bool,DataW.TrodVars enc P W' sp s.vars (s.fn H (ds++ [])).vars []:=λsp=>by rw[aXg,ar7];rfl
 refine⟨ds,[],p++ [],[],p,[],hW',aZV _ _ _,arW _ (λx hx=>hold x (bR.2 (.inl hx))),ar8 _,hb.frame _,λh=>by cases h⟩
theorem M4{P:bj}{n:Nat}:∀ {Ts:List TypeId} {ts:List Ty},zH P n Ts ts=bm->Ts.length=ts.length
 |[],[],_=>rfl
 |[],_::_,h=>by simp[zH]at h
 |_::_,[],h=>by simp[zH]at h
 |_::_,_::_,h=>by simp only[zH,aw]at h;simp[M4 h.2]
theorem aEx{H:Type}{enc:TypeId×Value->H}{P:bj}{f:gC}{fn:Func}{en:Entry}{s:ChangeSpec}{tb:TypeId}(n:Nat)(tys:List Ty)(hD:tD P f en)(hf:P.funcs[f]? =av fn)(aW6:fn.body.isSome=bm)(Hu:(fn.name== "runtime.NumGoroutine")=aZ)
  (hl:laidOutB P=bm) (aTp:zH P n fn.params.toList tys=bm) (avD:Ay P fn.params.toList=bm) (ar7:s.vars=[]) (aZZ:fn.resultTypes= #[tb]) (aZ1:P.underlying tb=av .bool)
  (aXg:∀ds:List (DataW H),ds.length=tys.length->s.fn H (ds++ [])= {results:=[.lit (.bool bm)],args:=ds})
  (sr:∀x:DV tys,DV.bas tys x->∃r,en.run (DV.l9 tys x) []=av r/\en.out (DV.l9 tys x) [] r=⟨.d .bool bm,[],[]⟩)
  {W:cO} {base:Nat} {args:Array Value} {ds gs:List (DataW H)} {before:List MemPlace}
  (DG:∀(j:Nat) t v,fn.params[j]? =av t->args[j]? =av v->Value.okWide P W .any base t v)
  (hW:DataW.Whole enc P fn.params.toList s.vars aZ W args.toList ds gs before):
  Calls P f args W λe W'=>∃v,e= .returned v/\s.post enc P fn aZ bm aZ aZ W args v W':=by
 have hW':=hW;obtain⟨p,q,hA,hV,_,_,_⟩:=hW;rw[ar7]at hV;obtain⟨rfl,rfl⟩:=trodVars_none hV;obtain⟨x,aYH,aYI⟩:=alo (E:=(iw []).env W (λ_=> .free) (λ_=>aH)) rfl (λ_=>rfl) aTp (λj t v hj hv=>DG j t v (by simpa using hj) (by simpa using hv)) hA;obtain⟨r,aUU,aBb⟩:=sr x aYI;have dQ:(callFunc f args).run P W= .ok (.enter f args) W:=by
  unfold callFunc;obtain⟨c,hc⟩:=bZ.1 aW6;have hname':¬fn.name= "runtime.NumGoroutine" :=by simpa using Hu
  simp[hf,hname',hc]
 have hlen:ds.length=tys.length:=by rw[NO hA,M4 aTp]
 have ho:ku ((iw []).env W (λ_=> .free) (λ_=>aH)):=λid ver fr c h=>by
  exfalso;cases id with
  |bP k=>simp[AS.env,AS.cJ,iw]at h
  |new i j=>simp[AS.env,AS.cJ,iw]at h
 rcases hD W (λ_=> .free) (λ_=>aH) (DV.l9 tys x) [] args.toList r aYH ho aUU with⟨_,hc⟩ | ⟨v,w',hc,_⟩
 ·refine hc.mono λe w' he=> ?_
  obtain⟨v,rfl,g',β',h1,_,h2,_⟩:=he;rw[aBb]at h1;refine⟨v,rfl,atl hl avD ar7 aZZ aZ1 hW' (aXg ds hlen) ⟨h2.os,h2.tape,h2.output.1,h2.size,λb hb=>(h2.BE b hb).2⟩ ?_⟩;obtain⟨cs,k1,k2⟩:=h1;have k1:cs=[.bool bm]:=k1;subst k1;have k2: [Value.bool bm]=[v]:=k2;simpa using k2.symm
 ·rw[show args.toList.toArray=args from Array.toArray_toList ..,dQ]at hc;cases hc
end Go.Ab
namespace Go.Ab
abbrev W:=BitVec 32
def yN(w:W)(k:Nat):W:=w <<< (32 - k) ||| w >>> k
def aWL(a b c d:Int):W:=bA 32 a <<< 24 ||| bA 32 b <<< 16 ||| bA 32 c <<< 8 ||| bA 32 d
def be(l:List Int)(i:Nat):W:=aWL (l.getD (4*i) 0) (l.getD (4*i+1) 0) (l.getD (4*i+2) 0) (l.getD (4*i+3) 0)
structure St where
 a:W
 b:W
 c:W
 d:W
 e:W
 f:W
 g:W
 h:W
def St.l(s:St):List Int:=[vw s.a,vw s.b,vw s.c,vw s.d,vw s.e,vw s.f,vw s.g,vw s.h]
def bax(x:W):W:=yN x 7^^^yN x 18^^^x >>> 3
def bay(y:W):W:=yN y 17^^^yN y 19^^^y >>> 10
def aTE(l:List W)(i:Nat):W:=l.getD (i - 16) 0+bax (l.getD (i - 15) 0)+l.getD (i - 7) 0+bay (l.getD (i - 2) 0)
def ext(l:List W):List W:=l++ [aTE l l.length]
def aO7(m:List W):Nat->List W
 | 0=>m
 |n+1=>ext (aO7 m n)
def words(b:List Int):List W:=(List.range 16).map (be b)
def sched(b:List Int):List W:=aO7 (words b) 48
def kl:List Nat:=[0x428a2f98,0x71374491,0xb5c0fbcf,0xe9b5dba5,0x3956c25b,0x59f111f1,0x923f82a4,0xab1c5ed5,0xd807aa98,0x12835b01,0x243185be,0x550c7dc3,0x72be5d74,0x80deb1fe,0x9bdc06a7,0xc19bf174,0xe49b69c1,0xefbe4786,0x0fc19dc6,0x240ca1cc,0x2de92c6f,0x4a7484aa,0x5cb0a9dc,0x76f988da,0x983e5152,0xa831c66d,0xb00327c8,0xbf597fc7,0xc6e00bf3,0xd5a79147,0x06ca6351,0x14292967,0x27b70a85,0x2e1b2138,0x4d2c6dfc,0x53380d13,0x650a7354,0x766a0abb,0x81c2c92e,0x92722c85,0xa2bfe8a1,0xa81a664b,0xc24b8b70,0xc76c51a3,0xd192e819,0xd6990624,0xf40e3585,0x106aa070,0x19a4c116,0x1e376c08,0x2748774c,0x34b0bcb5,0x391c0cb3,0x4ed8aa4a,0x5b9cca4f,0x682e6ff3,0x748f82ee,0x78a5636f,0x84c87814,0x8cc70208,0x90befffa,0xa4506ceb,0xbef9a3f7,0xc67178f2]
def kw(i:Nat):W:=BitVec.ofNat 32 (kl.getD i 0)
def WX:List Int:=kl.map λ(n:Nat)=>(n:Int)
def mf(s:St)(k w:W):St:=
 let t:=s.h+(yN s.e 6^^^yN s.e 11^^^yN s.e 25)+(s.g^^^s.e &&& (s.f^^^s.g))+k+w
 let r:=yN s.a 2^^^yN s.a 13^^^yN s.a 22
 let most:=s.a &&& s.b ||| s.c &&& (s.a ||| s.b)
 ⟨t+r+most,s.a,s.b,s.c,s.d+t,s.e,s.f,s.g⟩
def rounds(ws:List W)(s:St):Nat->St
 | 0=>s
 |n+1=>mf (rounds ws s n) (kw n) (ws.getD n 0)
def W5(s:St)(b:List Int):St:=
 let v:=rounds (sched b) s 64
 ⟨v.a+s.a,v.b+s.b,v.c+s.c,v.d+s.d,v.e+s.e,v.f+s.f,v.g+s.g,v.h+s.h⟩
def vf:St:=⟨0x6a09e667,0xbb67ae85,0x3c6ef372,0xa54ff53a,0x510e527f,0x9b05688c,0x1f83d9ab,0x5be0cd19⟩
def EL:Nat->St->List Int->St
 | 0,s,_=>s
 |n+1,s,l=>EL n (W5 s (l.take 64)) (l.drop 64)
def blocks(s:St)(l:List Int):St:=EL (l.length / 64) s l
def aYt(w:W)(k:Nat):Int:=vw ((w >>> (24 - 8*k)).setWidth 8)
def aPB(w:W):List Int:=[aYt w 0,aYt w 1,aYt w 2,aYt w 3]
def aRh(s:St):List Int:=aPB s.a++aPB s.b++aPB s.c++aPB s.d++aPB s.e++aPB s.f++aPB s.g++aPB s.h
def jo(n:Int):List Int:=[n / 2^56%256,n / 2^48%256,n / 2^40%256,n / 2^32%256,n / 2^24%256,n / 2^16%256,n / 2^8%256,n%256]
def DW(n:Nat):Nat:=(119 - n%64)%64
def pad(b:List Int):List Int:=b++128::(ai (DW b.length) 0++jo (8*b.length))
def aVG(b:List Int):List Int:=aRh (blocks vf (pad b))
def qG(parts:List (List Int)):List Int:=parts.flatMap λp=>jo p.length++p
def X8(name:List Int)(parts:List (List Int)):List Int:=jo name.length++name++qG parts
def tag(name:List Int)(parts:List (List Int)):List Int:=aVG (X8 name parts)
theorem azP(b:List Int):(aVG b).length=32:=rfl
theorem cv(n:Int):(jo n).length=8:=rfl
theorem yo(l:List W):(ext l).length=l.length+1:=by simp[ext]
theorem EA(m:List W):∀n,(aO7 m n).length=m.length+n
 | 0=>rfl
 |n+1=>by rw[aO7,yo,EA m n];omega
theorem fL(b:List Int):(words b).length=16:=by simp[words]
theorem KT:∀(n:Nat) (s:St) (a b:List Int),a.length=64*n->∀m,EL (n+m) s (a++b)=EL m (EL n s a) b
 | 0,s,a,b,h,m=>by have:a=[]:=bJ aq;subst this;simp[EL]
 |n+1,s,a,b,h,m=>by rw[show n+1+m=(n+m)+1 by omega,EL,EL];rw[jI aq,List.drop_append_of_le_length aq];exact KT n _ _ _ (by simp;omega) m
theorem O1(s:St)(a b:List Int)(h:a.length%64=0):blocks s (a++b)=blocks (blocks s a) b:=by
 unfold blocks;have e:(a++b).length / 64=a.length / 64+b.length / 64:=by simp;omega
 rw[e];exact KT _ _ _ _ aq _
theorem KU(s:St)(l:List Int)(h:64<=l.length):blocks s l=blocks (W5 s (l.take 64)) (l.drop 64):=by unfold blocks;rw[show l.length / 64=(l.drop 64).length / 64+1 by simp;omega];rfl
theorem It(s:St)(l:List Int)(h:l.length < 64):blocks s l=s:=by unfold blocks;rw[show l.length / 64=0 by omega];rfl
def ab0(x:Int):Prop:=0<=x/\x < 256
def Bytes(l:List Int):Prop:=∀x∈l,ab0 x
theorem aPC(w:BitVec 8):ab0 (vw w):=⟨Ye w,aON w⟩
theorem awn(s:St):Bytes (aRh s):=by intro x hx;simp only[aRh,aPB,bR,cq,List.not_mem_nil,or_false]at hx;rcases hx with((((((hx | hx) | hx) | hx) | hx) | hx) | hx) | hx <;> rcases hx with rfl | rfl | rfl | rfl <;> exact aPC _
theorem aDi(b:List Int):Bytes (aVG b):=awn _
theorem Hm(n:Int):Bytes (jo n):=by intro x hx;simp only[jo,cq,List.not_mem_nil,or_false]at hx;rcases hx with rfl | rfl | rfl | rfl | rfl | rfl | rfl | rfl <;> exact⟨aq,aq⟩
end Go.Ab
end
