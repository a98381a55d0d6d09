/-
  Made short by a program of mine (wip/tools/mini.py).
-/
import Derived.Test.YtlfkbbankpbinaaGreatS31x5
set_option linter.unusedVariables false
set_option linter.unusedSimpArgs false
set_option maxRecDepth 100000
set_option synthInstance.maxSize 5000
open List renaming replicate->ai,length->ag,take->bn,drop->bV
open Int renaming toNat->ab
open Option renaming some->ao,none->aJ
open Bool renaming true->aT,false->aR
noncomputable section
variable {R:Type}
namespace Go.Ab
open Go.Proofs
def atA:(List cw)->Prop:=λl=>l.length<=1000000
def aiQ:(List cw)->(List cw):=λl=>l
def aaD:Fs Tryz.prog atA bG aiQ:=fV 56 Tryz.f56 (λsv=>([.d (.slice bM) sv],[])) (λx=>⟨.d (.slice bM) x,[],[]⟩) [ao (.slice bM)] [] {bN:=[5],res:=[ao (.slice bM)]}
theorem azu(sv)(k:K1 R):aaD.A sv k=aS (decide (0 < (ag sv))) (aS (ea (0+(ag sv)) 40) (aS (decide (0=0/\(0+(0+(ag sv)))<=(ag ((bn 0 (ai 0 ((ai 32 0),(0,()))))++sv)))) (k (aaD.out (cut ((bn 0 (ai 0 ((ai 32 0),(0,()))))++sv) 0 (0+(ag sv))))) aJ) aJ) (nd (k (aaD.out ([]:List cw))) (aS (ea (0+(ag sv)) 40) (aS (decide (0=0/\(0+(0+(ag sv)))<=(ag ((bn 0 (ai 0 ((ai 32 0),(0,()))))++sv)))) (k (aaD.out (cut ((bn 0 (ai 0 ((ai 32 0),(0,()))))++sv) 0 (0+(ag sv))))) aJ) aJ)):=cM
theorem azv:aaD.Ok:=by
 intro l hl;have hl:l.length<=1000000:=hl;have hr:ea l.length 40=aT:=eW au au;rw[azu];simp only[bg,hr,aj,fg,aY,aF,kf,cV,fA,bG,aiQ];by_cases h:0 < l.length
 ·simp only[ba h,aj]
 ·have:l=[]:=bu au;subst this;simp only[bB,AO,bE (gv 0),al]
theorem atB:aaD.RS:=rE [.d (.slice bM)] aaD
def azw:=aaD.gf azv
def atc:dM->Prop:=λ_=>True
def aiC:dM->Bool:=λ_=>aR
def aiB:Fs Tryz.prog atc bG aiC:=fV 55 Tryz.f55 (λt0=>([.d ee t0],[])) (λx=>⟨.d .bool x,[],[]⟩) [ao ee]
theorem azg(t0)(k:K1 R):aiB.A t0 k=k (aiB.out aR):=cM
theorem azh:aiB.Ok:=by intro t _;rw[azg];rfl
theorem atd:aiB.RS:=rE [.d ee] aiB
def azi:=aiB.gf azh
abbrev vO:=(List dM)×Int×Int×(List dM)×Int×Int×Nat×(List (cw×eS))×(List cZ)×Nat×(List (cw×eS))×(List cZ)
def mV:vO->AS:=λ(El,ei,fees,t18,t19,t20,o0L,ed,di,UG,n17,FI)=>⟨([cq,.d (.slice ee) El,.d ti ei,.fn 55 (.nil)]++bf 5 ([.d ti fees,cq,fu 17]++bf 6 ([.d (.slice ee) t18,.d ti t19,.d ti t20]++bf 32 []))),[dC (.pr (.cO (.bF 1) 0) (.pr (.b8 (.bF 2) 0 [] 0 0 o0L) kK)),dC (.mp bM eO ed),dC (.vec 139 cC di)],(bI 17 ([[dC (.pr (.cO (.new 17 1) 0) (.pr (.b8 (.new 17 2) 0 [] 0 0 UG) kK)),dC (.mp bM eO n17),dC (.vec 139 cC FI)]]++bI 35 []))⟩
abbrev KU:=(Nat×(List (cw×eS))×(List cZ))×(Int×Int×Int)
def nG:KU->Exit×AS:=λ((a,b,c),e,f,g)=>(.ret,⟨(bf 8 ([.d ti e,.d ti f,.d ti g]++bf 42 [])),[dC (.pr (.cO (.bF 1) 0) (.pr (.b8 (.bF 2) 0 [] 0 0 a) kK)),dC (.mp bM eO b),dC (.vec 139 cC c)],(ai 53 [])⟩)
abbrev KV:=((List dM)×Nat×(List (cw×eS))×(List cZ))×(Int)
def uV:KV->Exit×AS:=λ((a,b,c,e),f)=>(.exit 0,⟨([cq,.d (.slice ee) a]++bf 7 ([.d ti f]++bf 43 [])),[dC (.pr (.cO (.bF 1) 0) (.pr (.b8 (.bF 2) 0 [] 0 0 b) kK)),dC (.mp bM eO c),dC (.vec 139 cC e)],(ai 53 [])⟩)
abbrev E5:=(KU)⊕(KV)
abbrev PD:=((Int×Int×Int))⊕(Int)
def Bg:E5->Out (Exit×AS):=λx=> .br x.isLeft (.get x.getLeft? λa=> .ok (nG a)) (.get x.getRight? λb=> .ok (uV b))
def jH:vO->PD->E5:=λ(El,ei,fees,t18,t19,t20,o0L,ed,di,UG,n17,FI) y=>match y with | .inl y=> .inl ((o0L,ed,di),y) | .inr z=> .inr (((El,o0L,ed,di),z))
abbrev aep:=(List dM)×Int×Nat×(List (cw×eS))×(List cZ)
theorem aB9(t:dM):Bc pZ.zero t=aR:=by unfold Bc;rw[jl];intro x _;show ¬(([]:List cw).any (abb x.1))=aT;simp
def Ed(l:List dM):Prop:=l.length<=100/\∀t∈l,wX t/\t.1.length<=1000000
def uU:vO->Prop:=λ(_,_,fees,l,n',i,_,_,_,n,a,s)=>Ed l/\n'=(l.length:Int)/\∃k:Nat,k<=l.length/\i=k/\sN (500+k) n a s/\0<=fees/\fees+ji a<=1125899906842624
def my:vO->PD:=λ(_,h,fees,l,_,i,_,_,_,_,a,_)=>iD pZ.zero h (l.drop i.toNat) i fees a
def aiI:aep->Prop:=λ(l,_,n,a,s)=>Ed l/\sN 500 n a s
def SX:aep->(Int×Int×Int×Nat×(List (cw×eS))×(List cZ)):=λ(l,h,n,a,s)=>((kB pZ.zero h l a).1,(kB pZ.zero h l a).2.1,(kB pZ.zero h l a).2.2,n,a,s)
def PB:=dW.gA mV uU jH my Bg
def E6:vO->Option E5:=iI PB mV
def wC:Fs Tryz.prog aiI bG SX:=fV 54 Tryz.f54 (λ(l,height,o0baL,o1,o2)=>([.ptr (.bF 0) 0 [] 0,.d (.slice ee) l,.d ti height,.fn 55 (.nil)],[.obj 0 aR (.pr (.cO (.bF 1) 0) (.pr (.b8 (.bF 2) 0 [] 0 0 o0baL) (.d .unit ()))),.obj 0 aR (.mp bM eO o1),.obj 0 aR (.vec 139 cC o2)])) (λx=>⟨.cons (.d ti x.1) (.cons (.d ti x.2.1) (.cons (.d ti x.2.2.1) (.nil))),[.obj 0 aR (.pr (.cO (.bF 1) 0) (.pr (.b8 (.bF 2) 0 [] 0 0 x.2.2.2.1) (.d .unit ()))),.obj 0 aR (.mp bM eO x.2.2.2.2.1),.obj 0 aR (.vec 139 cC x.2.2.2.2.2)],[]⟩) [aJ,ao (.slice ee),ao ti,aJ] [G8,azi,Lq,Ln] {loops:=so [(3,{bp:=[1,2,3,9,11,18,19,20],sites:=[17],owns:=[⟨11,[.snd,.fst],17,32⟩]})],outs:=sm [(3,{bp:=[1,9]},{bp:=[8,9,10]})],gS:=tt [(3,PB)]}
def PC:= @fh Tryz.prog (lU wC.G) wC.an 0 Tryz.f54 0 _ mV
abbrev KT:=mn Tryz.prog (lU wC.G) wC.an 0 Tryz.f54 0 mV uU jH my Bg
theorem Xf:kC E6 uU jH my:=og (na [.d (.slice ee),.d ti,.d ti,.d (.slice ee),.d ti,.d ti,.n,.d (.slice (.pair bM eO)),.d (.slice cC),.n,.d (.slice (.pair bM eO)),.d (.slice cC)] λ_=>cM)
theorem I4:qp @PC mV uU jH my Bg KT:=rA
theorem zb(El ei fees t18 t19 t20 o0L ed di UG n17 FI)(kn:K2 R)(kx:K3 R):PC (El,ei,fees,t18,t19,t20,o0L,ed,di,UG,n17,FI) kn kx=aS (gY t20 t19) (aS (gI t20 (((ag t18):Nat):Int)) (aq (aiB.call (nth ee t18 (ab t20))) λx1=>aS (x1) (kx (nG ((o0L,ed,di),(t20,fees,(14:Int)))).1 (nG ((o0L,ed,di),(t20,fees,(14:Int)))).2) (aq (lQ.call ((nth ee t18 (ab t20)),ei,UG,n17,FI)) λx2=>aS (JE x2.2.1 (0:Int)) (kx (nG ((o0L,ed,di),(t20,fees,x2.2.1))).1 (nG ((o0L,ed,di),(t20,fees,x2.2.1))).2) (aq (rF ((nth ee t18 (ab t20)),ei,x2.2.2.1,x2.2.2.2.1,x2.2.2.2.2)) λx3=>aS x3.isLeft (aq x3.getLeft? λaFf=>kn (mV (El,ei,(bT .i64 fees x2.1),t18,t19,(bT .i64 t20 (1:Int)),o0L,ed,di,aFf.2.1,aFf.2.2.1,aFf.2.2.2))) (aq x3.getRight? λaFg=>kn (mV (El,ei,(bT .i64 fees x2.1),t18,t19,(bT .i64 t20 (1:Int)),o0L,ed,di,aFg.2.1,aFg.2.2.1,aFg.2.2.2)))))) aJ) (kx (uV ((El,o0L,ed,di),fees)).1 (uV ((El,o0L,ed,di),fees)).2):=cM
theorem aoz(l height o0baL o1 o2)(k:K1 R):wC.A (l,height,o0baL,o1,o2) k=aq (te.call (o0baL,o1,o2)) λx1=>aq (E6 (l,height,0,l,(l.length:Int),0,x1.1,x1.2.1,x1.2.2.1,x1.2.2.2.1,x1.2.2.2.2.1,x1.2.2.2.2.2)) λx8=>aS x8.isLeft (aq x8.getLeft? λa9=>k (wC.out (a9.2.1,a9.2.2.1,a9.2.2.2,a9.1.1,a9.1.2.1,a9.1.2.2))) (aq x8.getRight? λb10=>k (wC.out ((b10.1.1.length:Int),b10.2,0,b10.1.2.1,b10.1.2.2.1,b10.1.2.2.2))):=cM
theorem aax:KT:=by
 refine I4 (λ(_,_,_,l,_,i,_)=>l.length - i.toNat) ?_
 rintro⟨l0,h,fees,l,n',i,nS,a0,s0,n,a,s⟩ ⟨⟨h1,h2⟩,rfl,k,hk,rfl,hg,f0,f1⟩;have h1:l.length<=100:=h1;have hk:k<=l.length:=hk;have f0:0<=fees:=f0;have f1:fees+ji a<=1125899906842624:=f1;have hg:sN (500+k) n a s:=hg;by_cases je:k < l.length
 ·have n1:nth ee l k=l[k]:=da (t:=ee) je;have hd:l.drop k=l[k]::l.drop (k+1):=aC je;obtain⟨hv,hi⟩:=h2 _ (aV je);have Hy:=atd (d:=l[k]) trivial;have hb:¬Bc pZ.zero l[k]=aT:=by rw[aB9];decide
  have hb':Bc pZ.zero l[k]=aR:=aB9 _
  ·skip
   have hc:=hg.check (t:=l[k]) (h:=h) hv;rcases hg.apply (t:=l[k]) (h:=h) au hv with⟨he,_⟩ | ⟨aII,he,ha,hg'⟩
   ·right;refine⟨nG ((nS,a0,s0),((k:Int),fees,(dJ l[k] h a).2)),?_,λkn kx=> ?_⟩;rotate_left
    ·rw[zb,bm au,aj,bz au au,aj,Int.toNat_natCast,n1,Hy];simp only[ae,bG,aiC,al];rw[hc];simp only[ae];rw[gZ he,aj]
    ·simp only[jH,my,Int.toNat_natCast,hd,iD,if_neg hb,if_pos he];rfl
   ·left;have Bn:=(aII.sum hg.Cl.1).1;have aIL:0<=(dJ l[k] h a).1:=by obtain⟨_,_,_,f,_,_,hp,aGi⟩:=G2 he;rw[aGi];exact hp
    have sI:=Sw λp hp=>(hg'.Cl.2 p hp).2.2.2.1
    refine⟨(l0,h,fees+(dJ l[k] h a).1,l,(l.length:Int),((k+1:Nat):Int),nS,a0,s0,n+1,cm l[k] h a,s.take n++ [stepOf l[k] a]),⟨⟨h1,h2⟩,rfl,k+1,au,rfl,hg',by show(0:Int)<=fees+(dJ l[k] h a).1;omega,by show fees+(dJ l[k] h a).1+ji (cm l[k] h a)<=_;omega⟩,by simp only[Int.toNat_natCast];omega,?_,λkn kx=> ?_⟩
    ·simp only[jH,my,Int.toNat_natCast,hd,iD,if_neg hb,if_neg (λe=>e he:¬(dJ l[k] h a).2≠0)];rfl
    ·rw[zb,bm au,aj,bz au au,aj,Int.toNat_natCast,n1,Hy];simp only[ae,bG,aiC,al];rw[hc];simp only[ae];rw[eU he,al,ha];simp only[ae,dS,al,dg];rw[gX (x:=fees) au au,N.nV au]
 ·right;obtain rfl:k=l.length:=au;refine⟨uV ((l0,nS,a0,s0),fees),?_,λkn kx=> ?_⟩;rotate_left
  ·rw[zb,bh au,al]
  ·simp only[jH,my,Int.toNat_natCast,aU,iD];rfl
theorem aoA:wC.Ok:=by
 rintro⟨l,h,n,a,s⟩ ⟨hw,hg⟩;have hg:sN 500 n a s:=hg;obtain⟨hc,hl⟩:=hg.canon;have z1:((0:Int)).toNat=0:=rfl;rw[aoz,hg.copy au];simp only[ae];rw[hl,Xf (d:=(l,h,0,l,(l.length:Int),0,n,a,s,n,eP a,s.take n)) ⟨hw,rfl,0,aN _,rfl,hc,fI 0,by show(0:Int)+ji (eP a)<=_;have:=hc.sum;omega⟩];simp only[ae,jH,my,z1,aQ,bG,SX,kB];cases iD pZ.zero h l 0 0 (eP a) with
 |inl x=>rfl
 |inr f=>rfl
theorem aiJ:wC.RS:=rE [.d (.slice ee),.d ti,.n,.d (.slice (.pair bM eO)),.d (.slice cC)] wC
def aoB:=wC.gf aoA 1 ⟨.gA aax,trivial⟩
abbrev alY:=Bs×Int×Int×(List cw)×Nat×(List (cw×eS))×(List cZ)×(Int×((List eA)×Unit))×Nat×(List (cw×eS))×(List cZ)
def QJ(p:aHH)(bar:List cw)(fill:Int):List dM:=(jK bar p.2.1 100 (dL .i64 4000 fill) [] []).getD []
theorem anJ(b:qq)(h:Int):∀(l:List dM) (k f:Int) (a:At) (x:Int×Int×Int),iD b h l k f a= .inl x->k<=x.1/\x.1<=k+l.length
 |[],_,_,_,_,e=>by cases e
 |t::l,k,f,a,x,e=>by
  rw[iD]at e;rw[aH];split at e
  ·obtain rfl:=Sum.inl.inj e;exact⟨fI _,by show k<=_;omega⟩
  ·split at e
   ·obtain rfl:=Sum.inl.inj e;exact⟨fI _,by show k<=_;omega⟩
   ·have:=anJ b h l _ _ _ _ e;omega
theorem aBY(b:qq)(h:Int)(l:List dM)(a:At):0<=(kB b h l a).1/\(kB b h l a).1<=l.length:=by
 unfold kB;cases e:iD b h l 0 0 (eP a) with
 |inl x=>have:=anJ b h l _ _ _ _ e;simp only;omega
 |inr f=>exact⟨by show(0:Int)<=(l.length:Int);omega,fI _⟩
def aCI(parent:Bs)(h fill:Int)(bar:List cw)(a:At)(p:aHH):qq:=(h,(parent,((QJ p bar fill).take (kB pZ.zero h (QJ p bar fill) a).1.toNat,(fill,(bar,())))))
def aot:alY->Prop:=λ(_,h,fill,bar,n,a,s,p,_)=>si h fill=aT->(Yn bar p.2.1/\(jK bar p.2.1 100 (dL .i64 4000 fill) [] []).isSome=aT)/\Ed (QJ p bar fill)/\sN 500 n a s
def aav:alY->(qq×Int×Nat×(List (cw×eS))×(List cZ)×(Int×((List eA)×Unit))×Nat×(List (cw×eS))×(List cZ)):=λ(parent,h,fill,bar,n,a,s,p,n2,a2,s2)=>if si h fill=aT then(aCI parent h fill bar a p,0,n,a,s,p,n2,a2,s2) else((0,(ai 32 0,([],(0,([],()))))),1,n,a,s,p,n2,a2,s2)
def Cb:Fs Tryz.prog aot bG aav:=fV 22 Tryz.f22 (λ(parent,height,fill,bar,o0baL,o1,o2,o3b,o4baL,o5,o6)=>([.ptr (.bF 0) 0 [] 0,.ptr (.bF 3) 0 [] 0,.d tH parent,.d ti height,.d ti fill,.d (.slice bM) bar],[.obj 0 aR (.pr (.cO (.bF 1) 0) (.pr (.b8 (.bF 2) 0 [] 0 0 o0baL) (.d .unit ()))),.obj 0 aR (.mp bM eO o1),.obj 0 aR (.vec 139 cC o2),.obj 0 aR (.pr (.ptr (.bF 4) 0 [] 0) (.d (.pair ti (.pair (.slice dh) .unit)) o3b)),.obj 0 aR (.pr (.cO (.bF 5) 0) (.pr (.b8 (.bF 6) 0 [] 0 0 o4baL) (.d .unit ()))),.obj 0 aR (.mp bM eO o5),.obj 0 aR (.vec 139 cC o6)])) (λx=>⟨.cons (.d pZ x.1) (.cons (.d ti x.2.1) (.nil)),[.obj 0 aR (.pr (.cO (.bF 1) 0) (.pr (.b8 (.bF 2) 0 [] 0 0 x.2.2.1) (.d .unit ()))),.obj 0 aR (.mp bM eO x.2.2.2.1),.obj 0 aR (.vec 139 cC x.2.2.2.2.1),.obj 0 aR (.pr (.ptr (.bF 4) 0 [] 0) (.d (.pair ti (.pair (.slice dh) .unit)) x.2.2.2.2.2.1)),.obj 0 aR (.pr (.cO (.bF 5) 0) (.pr (.b8 (.bF 6) 0 [] 0 0 x.2.2.2.2.2.2.1) (.d .unit ()))),.obj 0 aR (.mp bM eO x.2.2.2.2.2.2.2.1),.obj 0 aR (.vec 139 cC x.2.2.2.2.2.2.2.2)],[]⟩) [aJ,aJ,ao tH,ao ti,ao ti,ao (.slice bM)] [Yy,axf,aoB,azw] {res:=[ao pZ,aJ]}
theorem as9(parent height fill bar o0baL o1 o2 o3b o4baL o5 o6)(k:K1 R):Cb.A (parent,height,fill,bar,o0baL,o1,o2,o3b,o4baL,o5,o6) k=aq (y8.call (height,fill)) λx1=>aS (!x1) (k (Cb.out ((0,((ai 32 0),(([]:List dM),(0,(([]:List cw),()))))),1,o0baL,o1,o2,o3b,o4baL,o5,o6))) (aq (tI.call ((dL .i64 4000 fill),bar,o3b,o4baL,o5,o6)) λx2=>aS (decide (0=0/\(0+x2.1)<=(ag x2.2.2.2.2.2))) (aq (wC.call ((cut x2.2.2.2.2.2 0 x2.1),height,o0baL,o1,o2)) λx3=>aS (decide (0<=x3.1/\x3.1<=x3.1/\x3.1<=((x2.1:Nat):Int))) (aS (inc x3.1 ((x2.1:Nat):Int)) (aq (aaD.call bar) λx4=>aS (decide (0=0/\(0+((ab x3.1) - 0))<=(ag x2.2.2.2.2.2))) (k (Cb.out ((height,(parent,((cut x2.2.2.2.2.2 0 ((ab x3.1) - 0)),(fill,(x4,()))))),0,x3.2.2.2.1,x3.2.2.2.2.1,x3.2.2.2.2.2,x2.2.1,x2.2.2.1,x2.2.2.2.1,x2.2.2.2.2.1))) aJ) aJ) aJ) aJ):=cM
theorem ata:Cb.Ok:=by
 rintro⟨parent,h,fill,bar,n,a,s,p,n2,a2,s2⟩ hp;rw[as9,SO (d:=(h,fill)) trivial];simp only[ae,bG,KK,bG,aav];cases hf:si h fill with
 |false=>rfl
 |true=>
  obtain⟨⟨hg,hs⟩,hw,nQ⟩:=hp hf;have Hy:bar.length<=1000:=hg.2.1;rw[cG,al,aqZ (d:=(dL .i64 4000 fill,bar,p,n2,a2,s2)) ⟨hg,hs⟩];simp only[ae,bG,anm];rw[show(jK bar p.2.1 100 (dL .i64 4000 fill) [] []).getD []=QJ p bar fill from rfl,ba ⟨trivial,au⟩,aj,fA rfl,aiJ (d:=(QJ p bar fill,h,n,a,s)) ⟨hw,nQ⟩];simp only[ae,bG,SX];have hk:=aBY pZ.zero h (QJ p bar fill) a;rw[ba ⟨hk.1,fI _,hk.2⟩,aj,tq hk.1 hk.2,aj,atB (d:=bar) (by show bar.length<=_;omega)];simp only[ae,bG,aiQ];rw[ba ⟨trivial,au⟩,aj,if_pos trivial];rfl
theorem YA:Cb.RS:=rE [.d tB,.d ti,.d ti,.d (.slice bM),.n,.d (.slice (.pair bM eO)),.d (.slice cC),.d (.pair ti (.pair (.slice dh) .unit)),.n,.d (.slice (.pair bM eO)),.d (.slice cC)] Cb
def atb:=Cb.gf ata
abbrev ad6:=qq×Nat×(List (cw×eS))×(List cZ)
def air:ad6->Prop:=λ(b,n,a,s)=>asm b/\sN 500 n a s
def SN:ad6->(Int×Bool×Nat×(List (cw×eS))×(List cZ)):=λ(b,n,a,s)=>if(iR b a).2≠0 then(0,aR,n,a,s) else((iR b a).1,aT,n,a,s)
def C1:Fs Tryz.prog air bG SN:=fV 14 Tryz.f14 (λ(b,o0baL,o1,o2)=>([.ptr (.bF 0) 0 [] 0,.d pZ b],[.obj 0 aR (.pr (.cO (.bF 1) 0) (.pr (.b8 (.bF 2) 0 [] 0 0 o0baL) (.d .unit ()))),.obj 0 aR (.mp bM eO o1),.obj 0 aR (.vec 139 cC o2)])) (λx=>⟨.cons (.d ti x.1) (.cons (.d .bool x.2.1) (.nil)),[.obj 0 aR (.pr (.cO (.bF 1) 0) (.pr (.b8 (.bF 2) 0 [] 0 0 x.2.2.1) (.d .unit ()))),.obj 0 aR (.mp bM eO x.2.2.2.1),.obj 0 aR (.vec 139 cC x.2.2.2.2)],[]⟩) [aJ,ao pZ] [Yz]
theorem aof(b o0baL o1 o2)(k:K1 R):C1.A (b,o0baL,o1,o2) k=aq (y9.call (b,o0baL,o1,o2)) λx1=>aS (JE x1.2.1 0) (k (C1.out (0,aR,x1.2.2.1,x1.2.2.2.1,x1.2.2.2.2))) (k (C1.out (x1.1,aT,x1.2.2.1,x1.2.2.2.1,x1.2.2.2.2))):=cM
theorem aog:C1.Ok:=by
 rintro⟨b,n,a,s⟩ h;rw[aof,SQ (d:=(b,n,a,s)) h];simp only[ae,bG,SP,bG,SN];by_cases h0:(iR b a).2=0
 ·rw[eU h0,al,if_neg (λx=>x h0)]
 ·rw[gZ h0,aj,if_pos h0]
theorem ais:C1.RS:=rE [.d pZ,.n,.d (.slice (.pair bM eO)),.d (.slice cC)] C1
def aoh:=C1.gf aog
def LK(k:Int):Lk:=([([gw k],(0,(0,(0,()))))],())
def TA(m:Bs)(x to:Int):dM:=([((m,((0:Int),())),(((0:Int),(([]:List Sg),((0:Int),()))),()))],([(x,(LK to,()))],((0:Int),())))
def UA(m:Bs)(x to k:Int):dM:=RM (TA m x to) (ab 0) (XW (TA m x to) 0 [k] 0)
def KG(k:Int):Prop:=0 < k/\k < 2305843009213688669
theorem aG5(k:Int):nT (LK k)=aT:=by have e:nT (LK k)=((EI ([gw k],0,0,0,()) && aT) && aT):=rfl;rw[e,azj _ _ _ (dF rfl)];simp only[iT,List.all_nil,T8,cD,Bool.and_true];rfl
theorem aH8(k:Int):alF (LK k):=λb hb=>by rw[bw.1 (show b∈ [([gw k],(0,(0,(0,()))))] from hb)];exact⟨ajE (alN k) apO,ayv⟩
theorem ayF:Sm z32:=⟨dE,λx hx=>by rw[(rq.1 (show x∈ai 32 (0:Int) from hx)).2];exact⟨eZ,eZ⟩⟩
theorem aAQ(m:Bs){x:Int}(hx:qu 0 x=aT)(to:Int):iF (TA m x to)=aT:=by
 have e2:Bz 0 (TA m x to).2.1=((qu 0 x && nT (LK to)) && aT):=rfl;have e1:EN [] (TA m x to).1=aT:=by show EN [] [((m,((0:Int),())),(((0:Int),(([]:List Sg),((0:Int),()))),()))]=aT;rw[EN,EN];rfl
 unfold iF;rw[e1,e2,aG5 to,hx];rfl
theorem aKT{m:Bs}(hm:Sm m)(x to:Int):wX (TA m x to):=by
 refine⟨⟨λo ho=> ?_,by show 1<=_;decide,by show 1<=_;decide⟩,λy hy=> ?_,by show(0:Int)<=_;decide⟩
 ·rw[bw.1 (show o∈ [(x,(LK to,()))] from ho)];exact⟨aH8 to,by show 1<=_;decide⟩
 ·rw[bw.1 (show y∈ [((m,((0:Int),())),(((0:Int),(([]:List Sg),((0:Int),()))),()))] from hy)];exact⟨hm,⟨λs hs=>(by cases hs),ayv⟩,aN _⟩
theorem aHt{m:Bs}{x to k:Int}(hx:qu 0 x=aT)(hk:KG k):DZ (TA m x to) 0 0 [k]=aT:=by unfold DZ;rw[aAQ m hx,ba ⟨eZ,by show(0:Int) < ((1:Nat):Int);decide,eZ,eZ,dF rfl⟩];simp only[fU,kS,IW];have:=hk.1;have:=hk.2;rw[bE au];rfl
theorem ayY{m:Bs}{x to k:Int}(hm:Sm m)(hx:qu 0 x=aT)(hk:KG k):iF (UA m x to k)=aT/\wX (UA m x to k)/\sP (UA m x to k)=sP (TA m x to)/\dK (UA m x to k)=dK (TA m x to)/\fT (UA m x to k)=fT (TA m x to):=axT (aKT hm x to) (aHt hx hk) ayv
theorem aLP{k:Int}(hk:KG k)(m:List Int)(h a:Int)(h0:0<=h)(a0:0<=a):Cv (LK k) (((0:Nat):Int),([k].map (λk=>mI k m),((0:Int),()))) m h a=0:=by have s1:=ab4 [k] (aHd hk) 0 0 0 0 m h a (.inl rfl);rw[if_neg au]at s1;exact(aAT (l:=LK k) (i:=0) (b:=([k].map gw,0,0,0,())) (aG5 k) (by show 0 < 1;decide) rfl _ _ _ _ _).trans s1
theorem aKU{m:Bs}{x to k:Int}(hm:Sm m)(hx:qu 0 x=aT)(hk:KG k):kE (UA m x to k)=36:=by unfold kE;rw[if_pos (ayY hm hx hk).1];rfl
theorem aHs{m:Bs}{x to k:Int}(hm:Sm m)(hx:qu 0 x=aT)(hk:KG k):wy.call (TA m x to,0,0,[k],0)=ao (UA m x to k,0):=by rw[asb (d:=(TA m x to,0,0,[k],0)) ⟨aKT hm x to,λy hy=>by rw[bw.1 hy];have:=hk.1;have:=hk.2;exact⟨au,au⟩,by show 1<=1000000000;decide⟩];simp only[bG,ada,axS,aHt hx hk,cY];rfl
theorem aKe{m:Bs}{x to k y h g:Int}{C:At}(hm:Sm m)(hx:qu 0 x=aT)(hk:KG k)(hy:0<=y - x)(h1:1<=h)(h2:h<=1048576)(hg:0<=g/\g<=h)
  (hc:cd bM (m,((0:Int),())) C=ao ((y,(LK k,())),(g,()))) (hn:cd bM (sP (TA m x to),((0:Int),())) C=aJ):dJ (UA m x to k) h C=(y - x,0):=by
 obtain⟨a1,a2,a3,a4,a5⟩:=ayY (m:=m) (x:=x) (to:=to) (k:=k) hm hx hk;have afr:(UA m x to k).1=[((m,((0:Int),())),(((((0:Nat):Int),([k].map (λk=>mI k (sP (TA m x to))),((0:Int),())))),()))]:=rfl;have aKA:fT (UA m x to k)=[(sP (TA m x to),((0:Int),()))]:=by rw[a5];unfold fT;rw[if_pos (aAQ m hx to)];rfl
 generalize sP (TA m x to)=id at hn afr aKA a3;unfold dJ;rw[if_pos ⟨a1,h1,h2⟩,afr,a3];have e:uf h id C [((m,((0:Int),())),(((((0:Nat):Int),([k].map (λk=>mI k id),((0:Int),())))),()))] 0= .inr y:=by rw[uf,hc];show(if Cv (LK k) (((0:Nat):Int),([k].map (λk=>mI k id),((0:Int),()))) id h (h - g)≠0 then _ else uf h id C [] (0+y))=_;rw[aLP hk id h (h - g) au au,if_neg (λe=>e rfl),uf,Int.zero_add]
 rw[e,aKA];have n1:([(id,((0:Int),()))]:List cw).any (pM C)=aR:=by simp only[fU,kS,pM,hn,ru,uP]
 have n2:lJ (UA m x to k).2.1=x:=by show x+0=x;omega
 simp only[n1,bR,cF,n2];rw[if_neg au]
theorem aIw{t:dM}{h:Int}{C:At}{o:cw}{w:RT×Unit}(iO:iF t=aT)(h1:1<=h)(h2:h<=1048576)(hi:t.1=[(o,w)])(hn:cd bM o C=aJ):dJ t h C=(0,5):=by unfold dJ;rw[if_pos ⟨iO,h1,h2⟩,hi,uf,hn]
structure eg(a b:dM)(ia ib:Bs):Prop where
 ta:wX a
 tb:wX b
 aFG:iF a=aT
 aHe:iF b=aT
 aH5:sP a=ia
 aH6:sP b=ib
 aJW:dK a=[(z32,((0:Int),()))]
 aJX:dK b=[(ia,((0:Int),()))]
 aJv:fT a=[(ia,((0:Int),()))]
 aKL:fT b=[(ib,((0:Int),()))]
 aG3:∃w,a.1=[((z32,((0:Int),())),w)]
 gI:∃w,b.1=[((ia,((0:Int),())),w)]
 aJA:a.2.1=[((910:Int),(LK 3,()))]
 wa:kE a=36
 wb:kE b=36
 la:Sm ia
 lb:Sm ib
 aEy:¬ia=z32
 aG9:¬ib=z32
 aIb:¬ib=ia
 aKf:∀ {h:Int} {C:At},1<=h->h<=1048576->cd bM (z32,((0:Int),())) C=ao (((1000:Int),(LK 2,())),((0:Int),()))->cd bM (ia,((0:Int),())) C=aJ->dJ a h C=(90,0)
 aKg:∀ {h g:Int} {C:At},1<=h->h<=1048576->0<=g/\g<=h->cd bM (ia,((0:Int),())) C=ao (((910:Int),(LK 3,())),(g,()))->cd bM (ib,((0:Int),())) C=aJ->dJ b h C=(80,0)
def iA:Bs:=sP (TA z32 910 3)
def iB:Bs:=sP (TA iA 830 2)
theorem aLL:¬iA=z32:=by decide+kernel
theorem aLM:¬iB=z32:=by decide+kernel
theorem aJy:¬iB=iA:=by decide+kernel
theorem k2:KG 2:=⟨eZ,eZ⟩
theorem k3:KG 3:=⟨eZ,eZ⟩
theorem aHx:eg (UA z32 910 3 2) (UA iA 830 2 3) iA iB:=by
  have x1:qu 0 910=aT:=rfl;have x2:qu 0 830=aT:=rfl;have hm:Sm iA:=BY;obtain⟨a1,a2,a3,a4,a5⟩:=ayY (m:=z32) (x:=910) (to:=3) (k:=2) ayF x1 k2;obtain⟨b1,b2,b3,b4,b5⟩:=ayY (m:=iA) (x:=830) (to:=2) (k:=3) hm x2 k3;have sp:∀ {m:Bs} {x to:Int},qu 0 x=aT->dK (TA m x to)=[(m,((0:Int),()))]:=λ {m x to} hx=>by unfold dK;rw[if_pos (aAQ m hx to)];rfl
  have md:∀ {m:Bs} {x to:Int},qu 0 x=aT->fT (TA m x to)=[(sP (TA m x to),((0:Int),()))]:=λ {m x to} hx=>by unfold fT;rw[if_pos (aAQ m hx to)];rfl
  exact {ta:=a2,tb:=b2,aFG:=a1,aHe:=b1,aH5:=a3,aH6:=b3,aJW:=a4.trans (sp x1),aJX:=b4.trans (sp x2),aJv:=a5.trans (md x1),aKL:=b5.trans (md x2),aG3:=⟨_,rfl⟩,gI:=⟨_,rfl⟩,aJA:=rfl,
          wa:=aKU ayF x1 k2,wb:=aKU hm x2 k3,la:=hm,lb:=BY,aEy:=aLL,aG9:=aLM,aIb:=aJy,
          aKf:=λh1 h2 hc hn=>aKe (y:=1000) (g:=0) ayF x1 k2 eZ h1 h2 ⟨fI 0,au⟩ hc hn,
          aKg:=λh1 h2 hg hc hn=>aKe (y:=910) hm x2 k3 eZ h1 h2 hg hc hn}
section
def jz:At:=[Au 0 ((1000:Int),(LK 2,())),Au 1 ((500:Int),(LK 3,()))]
theorem g0:cd bM (z32,((0:Int),())) jz=ao (((1000:Int),(LK 2,())),((0:Int),())):=by unfold jz Au;rw[eR];exact if_pos ((NS _ _).2 rfl)
theorem aKi(m:Bs)(k:Int×Unit)(hm:¬m=z32):cd bM (m,k) jz=aJ:=by
 have h:∀k':Int×Unit,¬Ty.beq bM (m,k) (ai 32 (0:Int),k')=aT:=λk' e=>hm (bD (λo:cw=>o.1) ((NS _ _).1 e))
 unfold jz Au;rw[eR,if_neg (h _),eR,if_neg (h _),uz]
theorem ayZ:ji jz=1500:=rfl
theorem aht:sN 0 0 jz []:=by
 have aCt:(eC jz).Nodup:=by show(([(z32,((((0:Nat):Int)),())),(z32,((((1:Nat):Int)),()))]:List cw)).Nodup;refine dm.2 ⟨λh=> ?_,dm.2 ⟨λh=>(by cases h),gV⟩⟩;have:=bD (λo:cw=>o.2.1) (bw.1 h);exact absurd this eZ
 have one:∀(k:Nat) (x j:Int),k < 64->0<=x->x<=1125899906842624->adu (Au k (x,(LK j,()))).1/\aFi (Au k (x,(LK j,()))).2:=λk x j _ h0 h1=>⟨ayF,aG5 j,aH8 j,h0,h1,fI 0,by show(0:Int)<=_;decide⟩
 refine⟨⟨aCt,λp hp=> ?_⟩,aF _,aF _,λst h=>(by cases h),by rw[ayZ];decide,by show 2<=_;decide⟩;rcases cj.1 (show p∈ [Au 0 ((1000:Int),(LK 2,())),Au 1 ((500:Int),(LK 3,()))] from hp) with rfl | hp
 ·exact one 0 1000 2 eZ eZ eZ
 ·rw[bw.1 hp];exact one 1 500 3 eZ eZ eZ
theorem aHa:zo [((1000:Int),(LK 2,())),((500:Int),(LK 3,()))]=ao (.inr (jz,[])):=by
 have e:abY [((1000:Int),(LK 2,())),((500:Int),(LK 3,()))]=ao jz:=by
  unfold abY;rw[if_pos (dF rfl)];have e0:zL 0 ((1000:Int),(LK 2,()))=aT:=by unfold zL;rw[aG5 2];rfl
  have e1:zL (0+1000) ((500:Int),(LK 3,()))=aT:=by unfold zL;rw[aG5 3];rfl
  rw[Mm,e0];show Option.map _ (Mm (0+1000) 1 [((500:Int),(LK 3,()))])=_;rw[Mm,e1];rfl
 rw[YP (d:=[((1000:Int),(LK 2,())),((500:Int),(LK 3,()))]) (λo ho=>by
  rcases cj.1 ho with rfl | ho
  ·exact⟨aH8 2,by show 1<=_;decide,by show(1000:Int)<=_;decide⟩
  ·rw[bw.1 ho];exact⟨aH8 3,by show 1<=_;decide,by show(500:Int)<=_;decide⟩)]
 simp only[G9,e];rfl
def CG(C:At):Prop:=rS C jz/\(eC C).Nodup
theorem aer:CG jz:=⟨rS.refl _,aht.Cl.1⟩
theorem CG.can{C:At}(h:CG C):CG (eP C):=⟨(yU h.2).1.trans h.1,(yU h.2).2⟩
theorem awk{m m':Bs}{k k':Int×Unit}(h:¬m=m'):¬((m,k):cw)=(m',k'):=λe=>h (bD (λo:cw=>o.1) e)
theorem ab3{m m':Bs}{k k':Int×Unit}(h:¬m=m'):(m,k) ∉ ([(m',k')]:List cw):=λe=>awk h (bw.1 e)
theorem auu{x y:cw}(h:¬x=y):abb x y=aR:=by
 cases e:abb x y with
 |false=>rfl
 |true=>exact absurd ((NS _ _).1 e) h
theorem amk(x:cw):abb x x=aT:=(NS _ _).2 rfl
section
variable {a b:dM} {ia ib:Bs} {C:At}
theorem eg.c1(T:eg a b ia ib)(hC:CG C){h:Int}(h1:1<=h)(h2:h<=1048576):dJ a h C=(90,0):=T.aKf h1 h2 ((hC.1 _).trans g0) ((hC.1 _).trans (aKi ia _ T.aEy))
theorem eg.f1(T:eg a b ia ib)(hC:CG C):rn a 1 C 90:=by have c:=T.c1 hC (h:=1) eZ eZ;have:=C7 (t:=a) (h:=1) (a:=C) (by rw[c]);rw[c]at this;exact this
theorem eg.g1(T:eg a b ia ib)(hC:CG C):cd bM (ia,((0:Int),())) (cm a 1 C)=ao (((910:Int),(LK 3,())),((1:Int),())):=by have hm:=T.aJv;have ho:=T.aJA;have:=(T.f1 hC).new (k:=0) (by rw[hm];exact Nat.one_pos) (by rw[ho];exact Nat.one_pos);simp only[hm,ho,List.getElem_cons_zero]at this;exact this
theorem eg.n1(T:eg a b ia ib)(hC:CG C):cd bM (ib,((0:Int),())) (cm a 1 C)=aJ:=by rw[xc hC.2 (by rw[T.aJW];exact ab3 T.aG9) (by rw[T.aJv];exact ab3 T.aIb)];exact(hC.1 _).trans (aKi ib _ T.aG9)
theorem eg.c2(T:eg a b ia ib)(hC:CG C){h:Int}(h1:1<=h)(h2:h<=1048576):dJ b h (cm a 1 C)=(80,0):=T.aKg h1 h2 ⟨eZ,h1⟩ (T.g1 hC) (T.n1 hC)
theorem eg.nd(T:eg a b ia ib)(hC:CG C):(eC (cm a 1 C)).Nodup:=fy hC.2
theorem eg.f2(T:eg a b ia ib)(hC:CG C):rn b 1 (cm a 1 C) 80:=by have c:=T.c2 hC (h:=1) eZ eZ;have:=C7 (t:=b) (h:=1) (a:=cm a 1 C) (by rw[c]);rw[c]at this;exact this
theorem eg.c3(T:eg a b ia ib)(hC:CG C):dJ a 1 (cm b 1 (cm a 1 C))=(0,5):=by
 obtain⟨w,hw⟩:=T.aG3;refine aIw T.aFG eZ eZ hw ?_
 rw[xc (T.nd hC) (by rw[T.aJX];exact ab3 (λe=>T.aEy e.symm)) (by rw[T.aKL];exact ab3 (λe=>T.aG9 e.symm))];exact(T.f1 hC).axY hC.2 (by rw[T.aJW];exact bw.2 rfl)
theorem eg.aDa(T:eg a b ia ib){xo:qq}{l:List cw}(h:xo.2.2.2.2.1=l):Bc xo a=l.any (abb (z32,((0:Int),()))):=by obtain⟨w,hw⟩:=T.aG3;unfold Bc KC;rw[hw,h,fU,kS,uP]
theorem eg.aFS(T:eg a b ia ib){xo:qq}{l:List cw}(h:xo.2.2.2.2.1=l):Bc xo b=l.any (abb (ia,((0:Int),()))):=by obtain⟨w,hw⟩:=T.gI;unfold Bc KC;rw[hw,h,fU,kS,uP]
theorem eg.walk(T:eg a b ia ib)(hC:CG C){xo:qq}(h:xo.2.2.2.2.1=[]):kB xo 1 [a,b] C=(2,170,0):=by
 have hC:=hC.can;have e1:Bc xo a=aR:=(T.aDa h).trans rfl;have e2:Bc xo b=aR:=(T.aFS h).trans rfl;unfold kB;have c1:=T.c1 hC (h:=1) eZ eZ;have c2:=T.c2 hC (h:=1) eZ eZ;have e:iD xo 1 [a,b] 0 0 (eP C)= .inr 170:=by rw[iD,e1,if_neg eZ,c1,if_neg (λe=>e rfl),iD,e2,if_neg eZ,c2,if_neg (λe=>e rfl),iD];rfl
 rw[e];rfl
theorem eg.aFb(T:eg a b ia ib){xo:qq}(h:xo.2.2.2.2.1=[(ia,((0:Int),()))])(hC:CG C):(kB xo 1 [a,b] C).2.2=14:=by
 have hC:=hC.can;have e1:Bc xo a=aR:=by rw[T.aDa h,fU,kS,auu (awk λe=>T.aEy e.symm)];rfl
 have e2:Bc xo b=aT:=by rw[T.aFS h,fU,amk];rfl
 unfold kB;have c1:=T.c1 hC (h:=1) eZ eZ;rw[iD,e1,if_neg eZ,c1,if_neg (λe=>e rfl),iD,e2,if_pos rfl]
def wA(n:Nat)(a:dM)(ia:Bs):Nat×y4:=(n,(a,(ia,(90,(36,())))))
def wB(n:Nat)(b:dM)(ib:Bs):Nat×y4:=(n,(b,(ib,(80,(36,())))))
variable {n k:Nat}
theorem aEO:yE [ao (wA n a ia)]=[(ia,ao (wA n a ia))]:=rfl
theorem eg.aEP(T:eg a b ia ib):yE [ao (wA n a ia),ao (wB k b ib)]=[(ia,ao (wA n a ia)),(ib,ao (wB k b ib))]:=by show e7 tH ib (ao (wB k b ib)) [(ia,ao (wA n a ia))]=_;rw[zD,if_neg (by rw[Rs,bE T.aIb];decide),OE]
theorem Zi{q:ayH}{t:dM}{i:j9}{m:Mk}{j:Nat}(h:t.1=[i]):jn q (j+1) t m=match RR q i with
   |none=>ao m
   |some x=>if iP m (ao x)=aT then ao m else if i.1.2.1 < 0 then ao m else if(x.2.1.2.1.length:Int)<=i.1.2.1 then ao m else jn q j x.2.1 (e7 dh (ao x) aT m):=by
 obtain⟨l,o⟩:=t;have h:l=[i]:=h;subst h;rfl
def alH(a b:dM)(ia ib:Bs)(q:ayH)(n:Nat):Prop:=cd tH z32 q=aJ/\cd tH ia q=ao (ao (wA n a ia))
theorem eg.r1(T:eg a b ia ib):alH a b ia ib (yE [ao (wA n a ia)]) n:=by rw[aEO];exact⟨by rw[eR,if_neg (by rw[Rs,bE (λe=>T.aEy e.symm)];decide),uz],by rw[eR,if_pos (by rw[Rs,ba rfl])]⟩
theorem eg.r2(T:eg a b ia ib):alH a b ia ib (yE [ao (wA n a ia),ao (wB k b ib)]) n:=by rw[T.aEP];exact⟨by rw[eR,if_neg (by rw[Rs,bE (λe=>T.aEy e.symm)];decide),eR,if_neg (by rw[Rs,bE (λe=>T.aG9 e.symm)];decide),uz],by rw[eR,if_pos (by rw[Rs,ba rfl])]⟩
variable {q:ayH}
theorem eg.mA(T:eg a b ia ib)(h:cd tH z32 q=aJ)(j:Nat)(m:Mk):jn q (j+1) a m=ao m:=by
 obtain⟨w,hw⟩:=T.aG3;have e:RR q ((z32,((0:Int),())),w)=aJ:=by unfold RR;rw[h];rfl
 rw[Zi hw,e]
theorem eg.mB(T:eg a b ia ib)(h:alH a b ia ib q n)(j:Nat):jn q (j+2) b []=ao [(ao (wA n a ia),aT)]:=by
 obtain⟨w,hw⟩:=T.gI;have e:RR q ((ia,((0:Int),())),w)=ao (wA n a ia):=by unfold RR;rw[h.2];rfl
 rw[Zi hw,e];show(if iP [] (ao (wA n a ia))=aT then ao [] else if(0:Int) < 0 then ao [] else if(a.2.1.length:Int)<=0 then ao [] else jn q (j+1) a (e7 dh (ao (wA n a ia)) aT []))=_;rw[ap7,if_neg eZ,if_neg eZ,if_neg (by rw[T.aJA];decide),T.mA h.1];rfl
theorem eg.aA(T:eg a b ia ib){row:List eA}(h:cd tH z32 (yE row)=aJ):l9 row a=[]:=by unfold l9;rw[T.mA h];rfl
theorem eg.aB(T:eg a b ia ib){row:List eA}(h:alH a b ia ib (yE row) n):l9 row b=[(ao (wA n a ia),aT)]:=by unfold l9;rw[T.mB h];rfl
theorem aeY{row:List eA}{t:dM}{j:Nat}(h:(jn (yE row) 3 t []).isSome=aT)(h2:l9 row t=[]):tj row (j+1) t=ao 1:=by rw[tj,if_pos h,h2]
theorem auj{row:List eA}{t:dM}{x:Nat×y4}{j:Nat}{d:Int}(h:(jn (yE row) 3 t []).isSome=aT)(h2:l9 row t=[(ao x,aT)])(h3:tj row j x.2.1=ao d):tj row (j+1) t=ao (bT .i64 (imax 0 d) 1):=by rw[tj,if_pos h,h2];simp only[h3]
theorem eg.one(T:eg a b ia ib):asA (wA n a ia)/\asA (wB k b ib):=⟨⟨T.ta,T.aFG,T.la.1⟩,T.tb,T.aHe,T.lb.1⟩
theorem eg.aJP(T:eg a b ia ib):ES [ao (wA n a ia)]:=⟨dF rfl,λx hx=>⟨_,bw.1 hx,(T.one (n:=n) (k:=0)).1⟩⟩
theorem eg.aJQ(T:eg a b ia ib):ES [ao (wA n a ia),ao (wB k b ib)]:=⟨dF rfl,λx hx=>by
 rcases cj.1 hx with h | h
 ·exact⟨_,h,(T.one (n:=n) (k:=k)).1⟩
 ·exact⟨_,bw.1 h,(T.one (n:=n) (k:=k)).2⟩⟩
theorem eg.aEY(T:eg a b ia ib)(l:List cw):jo a l=l.any (abb (z32,((0:Int),()))):=by obtain⟨w,hw⟩:=T.aG3;unfold jo arI;rw[hw,fU,kS,uP]
theorem eg.aJV(T:eg a b ia ib)(l:List cw):jo b l=l.any (abb (ia,((0:Int),()))):=by obtain⟨w,hw⟩:=T.gI;unfold jo arI;rw[hw,fU,kS,uP]
theorem sN.zero{C:At}(hC:CG C)(hp:C.Perm jz):sN 300 0 C []:=by
 have hg:aah jz:=aht.Cl;exact⟨hg.perm hp.symm,aF _,aN _,λst h=>(by cases h),by
  have e:ji C=ji jz:=B8 hp;rw[e,ayZ];decide,by rw[hp.length_eq];show 2<=_;decide⟩
theorem eg.aDs(T:eg a b ia ib)(hC:CG C):EL 1 [] a 0 C []=(90,0):=by show dJ a 1 (eP C)=_;exact T.c1 hC.can eZ eZ
theorem eg.aDt(T:eg a b ia ib)(hC:CG C):EL 1 [ao (wA n a ia)] b 0 C []=(80,0):=by
 unfold EL aEp;rw[T.aB T.r1];show dJ b 1 (JI 1 [(ao (wA n a ia),aT)] (0,eP C,[]) (ao (wA n a ia))).2.1=_;have hm:iP [(ao (wA n a ia),aT)] (ao (wA n a ia))=aT:=by unfold iP;rw[eR,if_pos (beq_refl dh _ rfl)];rfl
 rw[show JI 1 [(ao (wA n a ia),aT)] (0,eP C,[]) (ao (wA n a ia))=EU 1 (0,eP C,[]) a from if_pos hm];have c1:=T.c1 hC.can (h:=1) eZ eZ;rw[show EU 1 (0,eP C,[]) a=(1,cm a 1 (eP C),[stepOf a (eP C)]) from if_neg (by show ¬(dJ a 1 (eP C)).2≠0;rw[c1];exact λe=>e rfl)];exact T.c2 hC.can eZ eZ
theorem eg.aIo(T:eg a b ia ib)(hC:CG C)(hp:C.Perm jz):aC0 a (1,([],())) 0 C [] where
 tv:=T.ta
 tok:=T.aFG
 row:=⟨aN _,λx hx=>by cases hx⟩
 new:=rfl
 aHc:=λw hw=>by cases hw
 ah:=λw hw=>by cases hw
 dp:=⟨1,aeY (by rw[T.mA rfl];rfl) (T.aA rfl),eZ⟩
 st:=sN.zero hC hp
 ck:=by show(EL 1 [] a 0 C []).2=0;rw[T.aDs hC]
 fe:=by show kE a<=(EL 1 [] a 0 C []).1;rw[T.aDs hC,T.wa];decide
theorem eg.aHi(T:eg a b ia ib)(hC:CG C):awi (1,([],())) a 0 C []=(wA n a ia).2:=by show(a,(sP a,((EL 1 [] a 0 C []).1,(kE a,()))))=_;rw[T.aDs hC,T.wa,T.aH5];rfl
theorem eg.aIp(T:eg a b ia ib)(hC:CG C)(hp:C.Perm jz):aC0 b (1,([ao (wA n a ia)],())) 0 C [] where
 tv:=T.tb
 tok:=T.aHe
 row:=T.aJP
 new:=by rw[T.aH6];show [ao (wA n a ia)].find? (aG0 ib)=aJ;rw[List.find?_cons_of_neg (by show ¬decide (ia=ib)=aT;rw[bE λe=>T.aIb e.symm];decide)];rfl
 aHc:=λw hw=>by obtain rfl:=aP (bw.1 hw);show jo a (dK b)=aR;rw[T.aEY,T.aJX,fU,kS,auu (awk λe=>T.aEy e.symm)];rfl
 ah:=λw hw=>by obtain rfl:=aP (bw.1 hw);show(jn (yE [ao (wA n a ia)]) 3 a []).isSome=aT;rw[T.mA T.r1.1];rfl
 dp:=⟨2,auj (by show(jn (yE [ao (wA n a ia)]) 3 b []).isSome=aT;rw[T.mB T.r1];rfl) (T.aB T.r1) (aeY (by show(jn (yE [ao (wA n a ia)]) 3 a []).isSome=aT;rw[T.mA T.r1.1];rfl) (T.aA T.r1.1)),eZ⟩
 st:=sN.zero hC hp
 ck:=by show(EL 1 [ao (wA n a ia)] b 0 C []).2=0;rw[T.aDt hC]
 fe:=by show kE b<=(EL 1 [ao (wA n a ia)] b 0 C []).1;rw[T.aDt hC,T.wb];decide
theorem eg.aHj(T:eg a b ia ib)(hC:CG C):awi (1,([ao (wA n a ia)],())) b 0 C []=(wB k b ib).2:=by show(b,(sP b,((EL 1 [ao (wA n a ia)] b 0 C []).1,(kE b,()))))=_;rw[T.aDt hC,T.wb,T.aH6];rfl
theorem aga(h:¬k=n):Ty.beq dh (ao (wA n a ia)) (ao (wB k b ib))=aR/\Ty.beq dh (ao (wB k b ib)) (ao (wA n a ia))=aR:=by
 constructor
 ·cases e:Ty.beq dh (ao (wA n a ia)) (ao (wB k b ib)) with
  |false=>rfl
  |true=>exact absurd (bD (λx:Nat×y4=>x.1) (aP (beq_eq dh _ _ rfl e))) λx=>h x.symm
 ·cases e:Ty.beq dh (ao (wB k b ib)) (ao (wA n a ia)) with
  |false=>rfl
  |true=>exact absurd (bD (λx:Nat×y4=>x.1) (aP (beq_eq dh _ _ rfl e))) h
theorem RY(x:eA):Ty.beq dh x x=aT:=beq_refl dh x rfl
theorem KS{bar:List cw}{pk mk:Mk}{x:eA}{S:Bt}{w:Nat×y4}(h1:iP pk (ao w)=aR)(h2:¬(Ty.beq dh (ao w) x=aR/\iP mk (ao w)=aR)):EJ bar pk mk x S (ao w)=(S.1 && !jo w.2.1 bar,S.2.1+1,(bT .i64 S.2.2.1.1 w.2.2.2.1,(bT .i64 S.2.2.1.2.1 w.2.2.2.2.1,S.2.2.1.2.2)),S.2.2.2++ [ao w]):=
 (if_neg (by rw[h1];decide)).trans (if_neg h2)
theorem aeo{bar:List cw}{pk mk:Mk}{x y:eA}{S:Bt}(h1:iP pk y=aT\/(Ty.beq dh y x=aR/\iP mk y=aR)):EJ bar pk mk x S y=S:=by
 unfold EJ;by_cases h0:iP pk y=aT
 ·rw[if_pos h0]
 ·rw[if_neg h0,if_pos (h1.resolve_left h0)]
theorem Mf{x:eA}{m:Mk}:iP ((x,aT)::m) x=aT:=by unfold iP;rw[eR,if_pos (RY x)];rfl
theorem Uw{x y:eA}{m:Mk}(h:Ty.beq dh x y=aR):iP ((y,aT)::m) x=iP m x:=by unfold iP;rw[eR,if_neg (by rw[h];decide)]
variable {bar:List cw}
theorem eg.aDn(T:eg a b ia ib)(h:¬k=n):mU bar [ao (wA n a ia),ao (wB k b ib)] [] (wA n a ia)=(!jo a bar,1,(90,(36,())),[ao (wA n a ia)]):=by unfold mU;rw[show(wA n a ia).2.1=a from rfl,T.aA T.r2.1,aX,aX,db,aeo (y:=ao (wB k b ib)) (.inr ⟨(aga h).2,rfl⟩),KS (w:=wA n a ia) rfl (λe=>by rw[RY]at e;cases e.1)];simp only[cD,aY];exact bD (λz:Bool=>(z,1,(90,(36,())),[ao (wA n a ia)])) rfl
theorem eg.aDo(T:eg a b ia ib)(h:¬k=n):mU bar [ao (wA n a ia),ao (wB k b ib)] [] (wB k b ib)=(!jo a bar && !jo b bar,2,(170,(72,())),[ao (wA n a ia),ao (wB k b ib)]):=by unfold mU;rw[show(wB k b ib).2.1=b from rfl,T.aB T.r2,aX,aX,db,KS (w:=wB k b ib) rfl (λe=>by rw[RY]at e;cases e.1),KS (w:=wA n a ia) rfl (λe=>by rw[Mf]at e;cases e.2)];simp only[cD,aY];rfl
theorem eg.aIv(T:eg a b ia ib)(h:¬k=n):mU bar [ao (wA n a ia),ao (wB k b ib)] [(ao (wA n a ia),aT)] (wB k b ib)=(!jo b bar,1,(80,(36,())),[ao (wB k b ib)]):=by unfold mU;rw[show(wB k b ib).2.1=b from rfl,T.aB T.r2,aX,aX,db,KS (w:=wB k b ib) ((Uw (aga h).2).trans rfl) (λe=>by rw[RY]at e;cases e.1),aeo (y:=ao (wA n a ia)) (.inl Mf)];simp only[cD,aY];rfl
theorem rV{room:Int}{row:List eA}{pk:Mk}{B:ayW}{w:Nat×y4}(h:iP pk (ao w)=aT\/(mU bar row pk w).1=aR\/¬(mU bar row pk w).2.2.1.2.1<=room\/(B.1.isNone=aR/\YS (ao w,((mU bar row pk w).2.2.2,(mU bar row pk w).2.2.1)) B=aR)):Ao room bar row pk B (ao w)=B:=by
 unfold Ao;split
 ·rfl
 rename_i h0;rcases h with h | h | h | ⟨h,h'⟩
 ·exact absurd h h0
 ·simp only;rw[if_neg (by rw[h];decide)]
 ·simp only;split <;> rfl
 ·simp only;split
  ·split
   ·rw[if_neg (by rw[h];decide),if_neg (by rw[h'];decide)]
   ·rfl
  ·rfl
theorem Yw{room:Int}{row:List eA}{pk:Mk}{B:ayW}{w:Nat×y4}(h0:iP pk (ao w)=aR)(h1:(mU bar row pk w).1=aT)(h2:(mU bar row pk w).2.2.1.2.1<=room)(h3:B.1.isNone=aT):Ao room bar row pk B (ao w)=(ao w,((mU bar row pk w).2.2.2,(mU bar row pk w).2.2.1)):=
 (if_neg (by rw[h0];decide)).trans ((if_pos h1).trans ((if_pos h2).trans (if_pos h3)))
theorem OM{room:Int}{row:List eA}{pk:Mk}{out:List dM}{f:Nat}(h:(ja room bar row pk).1=aJ):jK bar row (f+1) room pk out=ao out:=by rw[jK,h]
theorem ana{room:Int}{row:List eA}{pk:Mk}{out:List dM}{f:Nat}{w:Nat×y4}{B:(List eA)×(Int×(Int×Unit))}(h:ja room bar row pk=(ao w,B)):jK bar row (f+1) room pk out=jK bar row f (dL .i64 room B.2.2.1) (z6 B.1 pk out).2.1 (z6 B.1 pk out).2.2:=by rw[jK,h]
theorem ad2{room:Int}{pk:Mk}{x y:eA}:ja room bar [x,y] pk=Ao room bar [x,y] pk (Ao room bar [x,y] pk (aJ,([],(0,(0,())))) x) y:=rfl
theorem eg.aHf(T:eg a b ia ib)(h:¬k=n):jK [] [ao (wA n a ia),ao (wB k b ib)] 100 3900 [] []=ao [a,b]:=by
 have s1:jo a []=aR:=T.aEY [];have s2:jo b []=aR:=T.aJV [];have hA:=T.aDn (bar:=[]) h;have hB:=T.aDo (bar:=[]) h;have hC:=T.aIv (bar:=[]) h;rw[s1]at hA hB;rw[s2]at hB hC;have b1:ja 3900 [] [ao (wA n a ia),ao (wB k b ib)] []=(ao (wA n a ia),([ao (wA n a ia)],(90,(36,())))):=by rw[ad2,Yw (w:=wA n a ia) rfl (by rw[hA];rfl) (by rw[hA];show(36:Int)<=3900;decide) rfl,hA,rV (w:=wB k b ib) (.inr (.inr (.inr ⟨rfl,by rw[hB];rfl⟩)))]
 have b2:ja 3864 [] [ao (wA n a ia),ao (wB k b ib)] [(ao (wA n a ia),aT)]=(ao (wB k b ib),([ao (wB k b ib)],(80,(36,())))):=by rw[ad2,rV (w:=wA n a ia) (.inl Mf),Yw (w:=wB k b ib) ((Uw (aga h).2).trans rfl) (by rw[hC];rfl) (by rw[hC];show(36:Int)<=3864;decide) rfl,hC]
 have t2:z6 [ao (wB k b ib)] [(ao (wA n a ia),aT)] [a]=(2,[(ao (wA n a ia),aT),(ao (wB k b ib),aT)],[a,b]):=by show(2,e7 dh (ao (wB k b ib)) aT [(ao (wA n a ia),aT)],[a,b])=_;rw[zD,if_neg (by rw[(aga h).2];decide),OE]
 have b3:ja 3828 [] [ao (wA n a ia),ao (wB k b ib)] [(ao (wA n a ia),aT),(ao (wB k b ib),aT)]=(aJ,([],(0,(0,())))):=by rw[ad2,rV (w:=wA n a ia) (.inl Mf),rV (w:=wB k b ib) (.inl ((Uw (aga h).2).trans Mf))]
 rw[ana b1];show jK [] _ 99 3864 [(ao (wA n a ia),aT)] [a]=_;rw[ana b2,t2];show jK [] _ 98 3828 _ _=_;rw[OM (by rw[b3])]
theorem eg.aHg(T:eg a b ia ib)(h:¬k=n):jK [] [ao (wA n a ia),ao (wB k b ib)] 100 0 [] []=ao []:=by
 have hA:=T.aDn (bar:=[]) h;have hB:=T.aDo (bar:=[]) h;refine OM ?_
 rw[ad2,rV (w:=wA n a ia) (.inr (.inr (.inl (by rw[hA];show ¬(36:Int)<=0;decide)))),rV (w:=wB k b ib) (.inr (.inr (.inl (by rw[hB];show ¬(72:Int)<=0;decide))))]
theorem eg.aHh(T:eg a b ia ib)(h:¬k=n):jK [(z32,((0:Int),()))] [ao (wA n a ia),ao (wB k b ib)] 100 3900 [] []=ao []:=by
 have s1:jo a [(z32,((0:Int),()))]=aT:=by rw[T.aEY,fU,amk];rfl
 have hA:=T.aDn (bar:=[(z32,((0:Int),()))]) h;have hB:=T.aDo (bar:=[(z32,((0:Int),()))]) h;rw[s1]at hA hB;refine OM ?_
 rw[ad2,rV (w:=wA n a ia) (.inr (.inl (by rw[hA];rfl))),rV (w:=wB k b ib) (.inr (.inl (by rw[hB];rfl)))]
theorem eg.pg(T:eg a b ia ib)(hb:bar.length<=1000):Yn bar [ao (wA n a ia),ao (wB k b ib)]:=⟨T.aJQ,hb,λw hw=>by
 rcases cj.1 hw with e | e
 ·obtain rfl:=aP e;show(jn _ 3 a []).isSome=aT;rw[T.mA T.r2.1];rfl
 ·obtain rfl:=aP (bw.1 e);show(jn _ 3 b []).isSome=aT;rw[T.mB T.r2];rfl⟩
end
end
section
def apN:Int->Prop:=λk=>ou k
def amE:Int->Lk:=λk=>LK k
def Ft:Fs Tryz.prog apN bG amE:=fV 17 Tryz.f17 (λkv=>([.d tu kv],[])) (λx=>⟨.d ah7 x,[],[]⟩) [ao tu] [Mt]
theorem avr(kv)(k:K1 R):Ft.A kv k=aq (FP.call kv) λx1=>k (Ft.out ([([x1],(0,(0,(0,()))))],())):=cM
theorem avs:Ft.Ok:=by intro k hk;rw[avr,Cy (d:=k) hk];rfl
theorem Ow:Ft.RS:=rE [.d tu] Ft
def afM:=Ft.gf avs
abbrev am0:=cw×Int×Int×Int×Int
def aqA:am0->Prop:=λ(o,amt,k,to,jI)=>(Sm o.1/\o.2.1=0)/\qu 0 (dL .i64 amt jI)=aT/\KG k/\ou to
def aA4:am0->dM:=λ(o,amt,k,to,jI)=>UA o.1 (dL .i64 amt jI) to k
def Ih:Fs Tryz.prog aqA bG aA4:=fV 19 Tryz.f19 (λ(fromv,amount,kv,to,jI)=>([.d bM fromv,.d ti amount,.d tu kv,.d tu to,.d ti jI],[])) (λx=>⟨.d ee x,[],[]⟩) [ao bM,ao ti,ao tu,ao tu,ao ti] [afM,ayo]
theorem awv(fromv amount kv to jI)(k:K1 R):Ih.A (fromv,amount,kv,to,jI) k=aq (Ft.call to) λx1=>aq (wy.call (([(fromv,((0,(([]:List Sg),(0,()))),()))],([((dL .i64 amount jI),(x1,()))],(0,()))),0,0,[kv],0)) λx2=>k (Ih.out x2.1):=cM
theorem aww:Ih.Ok:=by
 rintro⟨⟨m,z,u⟩,amt,k,to,jI⟩ ⟨⟨hm,hz⟩,hx,hk,ht⟩;have hz:z=0:=hz;subst hz;rw[awv,Ow (d:=to) ht];simp only[ae,bG,amE];refine(bD (λz=>aq z _) (aHs (m:=m) (x:=dL .i64 amt jI) (to:=to) (k:=k) hm hx hk)).trans ?_
 rfl
theorem Zz:Ih.RS:=rE [.d bM,.d ti,.d tu,.d tu,.d ti] Ih
def awx:=Ih.gf aww
def aEH:Bs:=[1,0,0,0,0,0,0,0,0,0,0,0,0,0,0,0,0,0,0,0,0,0,0,0,0,0,0,0,0,0,0,0]
def pF(l:List dM)(fill:Int)(bar:List cw):qq:=(1,(aEH,(l,(fill,(bar,())))))
def aKN:Bs:=cE (⟨#[98,108,111,99,107]⟩:ByteArray)
def aG1(ia ib:Bs):Bs:=tag aKN [dX (dX ((dX (dX [] 1++aEH) 2++ia)++ib) 100) 0]
theorem eg.aG1{a b:dM}{ia ib:Bs}(T:eg a b ia ib):aDf (pF [a,b] 100 [])=Ab.aG1 ia ib:=by unfold aDf aIu;show tag aKN [dX (dX ((dX (dX [] 1++aEH) 2++sP a)++sP b) 100) 0]=_;rw[T.aH5,T.aH6];rfl
theorem aJz:¬aG1 iA iB=aDf (pF [] 4000 []):=by decide+kernel
section
variable {a b:dM} {ia ib:Bs} {C:At}
theorem eg.bk(T:eg a b ia ib){l:List dM}(hl:l=[a,b]\/l=[]){fill:Int}{bar:List cw}(hf:fill<=1000000)(hb:bar.length<=1000/\∀o∈bar,ah8 o):asm (pF l fill bar):=by
 have hv:l.length<=2/\∀t∈l,wX t/\iF t=aT:=by
  rcases hl with rfl | rfl
  ·refine⟨dF rfl,λt ht=> ?_⟩;rcases cj.1 ht with rfl | ht
   ·exact⟨T.ta,T.aFG⟩
   ·rw[bw.1 ht];exact⟨T.tb,T.aHe⟩
  ·exact⟨aN _,λt ht=>by cases ht⟩
 exact⟨⟨⟨by show l.length<=_;omega,λt ht=>(hv.2 t ht).1⟩,⟨by show(1:Int)<=_;decide,rfl,by show fill<=_;omega⟩,hb.1,hb.2⟩,by show l.length<=_;omega,λt ht=>kV (jg (hv.2 t ht).2).1.2.1 eZ⟩
theorem av8:([]:List cw).length<=1000/\∀o∈([]:List cw),ah8 o:=⟨aN _,λo ho=>by cases ho⟩
theorem eg.adw(T:eg a b ia ib)(fill:Int)(bar:List cw):aza (pF [a,b] fill bar)=fill+72:=by show fill+kE a+kE b=_;rw[T.wa,T.wb];omega
theorem ab8{l:List dM}{fill:Int}{bar:List cw}:iR (pF l fill bar) C=if si 1 fill=aT then(if 4000 < aza (pF l fill bar) then(0,3) else(kB (pF l fill bar) 1 l C).2) else(0,1):=rfl
theorem eg.aCR(T:eg a b ia ib)(hC:CG C):iR (pF [a,b] 100 []) C=(170,0):=by rw[ab8,if_pos (show si 1 100=aT from rfl),T.adw,if_neg eZ];rw[T.walk hC rfl]
theorem eg.aEJ(T:eg a b ia ib)(hC:CG C):(iR (pF [a,b] 100 [(ia,((0:Int),()))]) C).2=14:=by rw[ab8,if_pos (show si 1 100=aT from rfl),T.adw,if_neg eZ];exact T.aFb rfl hC
theorem eg.awu(T:eg a b ia ib):(iR (pF [a,b] 3980 []) C).2=3:=by rw[ab8,if_pos (show si 1 3980=aT from rfl),T.adw,if_pos eZ]
theorem eg.aKM(T:eg a b ia ib)(hC:CG C):(eC (cm b 1 (cm a 1 C))).Nodup:=fy (T.nd hC)
theorem eg.aEK(T:eg a b ia ib)(hC:CG C):(iR (pF [a,b] 100 []) (cm b 1 (cm a 1 C))).2=5:=by have hn:=T.aKM hC;have e:=(yU hn).1;rw[ab8,if_pos (show si 1 100=aT from rfl),T.adw,if_neg eZ];have e1:Bc (pF [a,b] 100 []) a=aR:=(T.aDa rfl).trans rfl;unfold kB;rw[iD,e1,if_neg eZ,e.check,T.c3 hC,if_pos eZ]
theorem eg.comes(T:eg a b ia ib)(hC:CG C):uj C ([a,b].map λt=>(t,(1:Int))):=by
 refine⟨?_,T.ta,?_,T.tb,trivial⟩
 ·show(dJ a 1 C).2=0;rw[T.c1 hC eZ eZ]
 ·show(dJ b 1 (cm a 1 C)).2=0;rw[T.c2 hC eZ eZ]
theorem eg.st2(T:eg a b ia ib):sN 2 2 (cm b 1 (cm a 1 jz)) [stepOf a jz,stepOf b (cm a 1 jz)]:=I8 ([a,b].map λt=>(t,(1:Int))) (n:=0) (a:=jz) (s:=[]) rfl aht (T.comes aer)
theorem eg.aJY(T:eg a b ia ib):ji (cm b 1 (cm a 1 jz))=1330:=by rw[((T.f2 aer).sum (T.nd aer)).1,((T.f1 aer).sum aer.2).1,ayZ];rfl
theorem eg.xo(T:eg a b ia ib):aDi (pF [a,b] 100 []) (0,jz,[])=(2,cm b 1 (cm a 1 jz),[stepOf a jz,stepOf b (cm a 1 jz)]):=by show EU 1 (EU 1 (0,jz,[]) a) b=_;have c1:=T.c1 aer (h:=1) eZ eZ;have c2:=T.c2 aer (h:=1) eZ eZ;rw[show EU 1 (0,jz,[]) a=(1,cm a 1 jz,[stepOf a jz]) from if_neg (by show ¬(dJ a 1 jz).2≠0;rw[c1];exact λe=>e rfl)];exact if_neg (by show ¬(dJ b 1 (cm a 1 jz)).2≠0;rw[c2];exact λe=>e rfl)
theorem eg.aLV(T:eg a b ia ib):∃A,Ph 2 (2,cm b 1 (cm a 1 jz),[stepOf a jz,stepOf b (cm a 1 jz)])=(aT,0,A,[stepOf a jz,stepOf b (cm a 1 jz)])/\A.Perm jz:=by obtain⟨A,h1,h2,h3,_⟩:=W0 2 ([a,b].map λt=>(t,(1:Int))) (a0:=jz) (a:=cm b 1 (cm a 1 jz)) (n:=2) (s:=[stepOf a jz,stepOf b (cm a 1 jz)]) (p:=[]) rfl (T.comes aer) aer.2 (T.aKM aer) (rS.refl _) (aF _) rfl;exact⟨A,h1,h2.perm h3 aer.2⟩
theorem Ed.two(T:eg a b ia ib):Ed [a,b]:=⟨dF rfl,λt ht=>by
 rcases cj.1 ht with rfl | ht
 ·exact⟨T.ta,kV (jg T.aFG).1.2.1 eZ⟩
 ·rw[bw.1 ht];exact⟨T.tb,kV (jg T.aHe).1.2.1 eZ⟩⟩
theorem Ed.nil:Ed []:=⟨aN _,λt ht=>by cases ht⟩
theorem ahY(xo:qq)(h:Int)(a:At):kB xo h [] a=(0,0,0):=rfl
theorem ajR{l:List dM}{fill:Int}{bar:List cw}{k:Int}{row:List eA}{D:At}(h0:si 1 fill=aT)(hg:Yn bar row)(hp:jK bar row 100 (dL .i64 4000 fill) [] []=ao l)(hw:Ed l)(hk:kB pZ.zero 1 l jz=(k,(kB pZ.zero 1 l jz).2))(hl:l.take k.toNat=l):
  Cb.call (aEH,1,fill,bar,0,jz,[],(1,(row,())),0,D,[])=ao (pF l fill bar,0,0,jz,[],(1,(row,())),0,D,[]):=by
 have e:QJ (1,(row,())) bar fill=l:=by show(jK bar row 100 (dL .i64 4000 fill) [] []).getD []=l;rw[hp];rfl
 rw[YA (d:=(aEH,1,fill,bar,0,jz,[],(1,(row,())),0,D,[])) λ_=>⟨⟨hg,by show(jK bar row 100 (dL .i64 4000 fill) [] []).isSome=aT;rw[hp];rfl⟩,by show Ed (QJ (1,(row,())) bar fill);rw[e];exact hw,aht.mono (aN _)⟩];simp only[bG,aav,if_pos h0,aCI,e];rw[hk];simp only[hl];rfl
theorem eg.has(T:eg a b ia ib){l:List dM}(hl:l=[a,b]\/l=[]){fill:Int}(hf:fill<=1000000):IZ.call (pF l fill [])=ao (aDf (pF l fill [])):=as3 (d:=pF l fill []) (T.bk hl hf av8).1
theorem azO{n k:Nat}{w:y4}(h:k ∉ [ao (n,w)].flatMap (hJ dh)):¬k=n:=λe=>h (by
 subst e;rw[dq];exact List.mem_append_left _ aK)
end
abbrev tR:=Int×Int×Int×Int×Int×Int×Bool×Bool×qq×qq×Nat×(List (cw×eS))×(List cZ)
def Ev:tR->AS:=λ(kv,l,wv,m,n,total,back,one,n7,n9,RC,n32,sw)=>⟨([cq,fu 32]++bf 5 ([fu 7,cq,fu 9]++bf 8 ([.d ti kv,cq,.d ti l,.d ti wv,.d ti m,.d ti n,.d ti total,.d .bool back,.d .bool one]++bf 174 []))),[],(bI 7 ([dG (.d pZ n7),[],dG (.d pZ n9)]++bI 22 ([[dC (.pr (.cO (.new 32 1) 0) (.pr (.b8 (.new 32 2) 1 [] 0 0 RC) kK)),dC (.mp bM eO n32),.obj 1 aR (.vec 139 cC sw)]]++bI 168 [])))⟩
def Gp:Ky:=Ky.of {bp:=[1,7,9,18,20,21,22,23,24,25,26],sites:=[7,9,32]} Ev
def eX:tR->Option tR:=λx=>(Gp).aEk .normal (Ev x)
theorem HF(x:tR):eX x=ao x:=Ky.awf (na [.d ti,.d ti,.d ti,.d ti,.d ti,.d ti,.d .bool,.d .bool,.d pZ,.d pZ,.n,.d (.slice (.pair bM eO)),.d (.slice cC)] λ_=>cM) x
def ahq:Unit->Prop:=λ_=>True
def Z0:Unit->Bool:=λ_=>aT
def kz:Fs Tryz.prog ahq bG Z0:=fV 5 Tryz.f5 (λ_=>([],[])) (λx=>⟨.d .bool x,[],[]⟩) [] [afM,aeS,aBk,awx,Kf,aw0,atb,aoh,SM,as7,ad5,auf,as6,azd] {aCE:=tt [(28,Gp)]}
theorem ak6(d)(k:K1 R):kz.A d k=aq (Ft.call 2) λasi=>aq (Ft.call 3) λanL=>aq (zo [(1000,(asi,())),(500,(anL,()))]) λadq=>aS adq.isLeft (aq adq.getLeft? λaLZ=>k (kz.out aR)) (aq adq.getRight? λaHB=>aq (OP (1,0,aHB.1,aHB.2)) λsQ=>aS sQ.isLeft (aq sQ.getLeft? λaJ6=>k (kz.out aR)) (aq sQ.getRight? λYj=>aq (Ih.call (((ai 32 0),(0,())),1000,2,3,90)) λadr=>aq (tid.call adr) λaIh=>aq (Ih.call ((aIh,(0,())),910,3,2,80)) λaB3=>Rq (OO (adr,Yj.2.2.2.1,Yj.2.2.2.2.1,Yj.2.2.2.2.2.1,Yj.2.2.2.2.2.2)) λaCY=>Rq (OO (aB3,aCY.2.1,aCY.2.2.1,aCY.2.2.2.1,aCY.2.2.2.2)) λaCZ=>aq (Cb.call ([1,0,0,0,0,0,0,0,0,0,0,0,0,0,0,0,0,0,0,0,0,0,0,0,0,0,0,0,0,0,0,0],1,100,([]:List cw),Yj.1,Yj.2.1,Yj.2.2.1,aCZ.2.1,aCZ.2.2.1,aCZ.2.2.2.1,aCZ.2.2.2.2)) λEb=>aq (Cb.call ([1,0,0,0,0,0,0,0,0,0,0,0,0,0,0,0,0,0,0,0,0,0,0,0,0,0,0,0,0,0,0,0],1,4000,([]:List cw),Eb.2.2.1,Eb.2.2.2.1,Eb.2.2.2.2.1,Eb.2.2.2.2.2.1,Eb.2.2.2.2.2.2.1,Eb.2.2.2.2.2.2.2.1,Eb.2.2.2.2.2.2.2.2)) λaag=>aq (Cb.call ([1,0,0,0,0,0,0,0,0,0,0,0,0,0,0,0,0,0,0,0,0,0,0,0,0,0,0,0,0,0,0,0],1,100,[((ai 32 0),(0,()))],aag.2.2.1,aag.2.2.2.1,aag.2.2.2.2.1,aag.2.2.2.2.2.1,aag.2.2.2.2.2.2.1,aag.2.2.2.2.2.2.2.1,aag.2.2.2.2.2.2.2.2)) λaB4=>aq (Cb.call ([1,0,0,0,0,0,0,0,0,0,0,0,0,0,0,0,0,0,0,0,0,0,0,0,0,0,0,0,0,0,0,0],0,100,([]:List cw),aB4.2.2.1,aB4.2.2.2.1,aB4.2.2.2.2.1,aB4.2.2.2.2.2.1,aB4.2.2.2.2.2.2.1,aB4.2.2.2.2.2.2.2.1,aB4.2.2.2.2.2.2.2.2)) λaIi=>aq (C1.call (Eb.1,aIi.2.2.1,aIi.2.2.2.1,aIi.2.2.2.2.1)) λaHD=>aq (tid.call adr) λaL2=>aq (sY.call ((Eb.1.1,(Eb.1.2.1,(Eb.1.2.2.1,(Eb.1.2.2.2.1,([(aL2,(0,()))],Eb.1.2.2.2.2.2))))),aHD.2.2.1,aHD.2.2.2.1,aHD.2.2.2.2)) λanN=>aq (sY.call ((Eb.1.1,(Eb.1.2.1,(Eb.1.2.2.1,(3980,Eb.1.2.2.2.2)))),anN.2.1,anN.2.2.1,anN.2.2.2)) λanO=>aq (adw.call Eb.1) λayE=>aq (Ap.call (Eb.1,anO.2.1,anO.2.2.1,anO.2.2.2)) λanP=>aq (sY.call (Eb.1,anP.2.1,anP.2.2.1,anP.2.2.2)) λanQ=>aq (Cj.call (anQ.2.1,anQ.2.2.1,anQ.2.2.2)) λanR=>aq (Ca.call (Eb.1,anR.2.1,anR.2.2.1,anR.2.2.2)) λAi=>aq (aS (EM aCY.1 0) (aS (EM aCZ.1 0) (aS (EM Eb.2.1 0) (aS (EM (Eb.1.2.2.1.length:Int) 2) (aS (EM aag.2.1 0) (aS (EM (aag.1.2.2.1.length:Int) 0) (aS (EM aB4.2.1 0) (aS (EM (aB4.1.2.2.1.length:Int) 0) (aS (EM aIi.2.1 1) (aS (aHD.2.1) (eX (anN.1,anO.1,ayE,anP.1,anQ.1,anR.1,Ai.1,(EM aHD.1 170),Eb.1,aag.1,Ai.2.1,Ai.2.2.1,Ai.2.2.2)) (eX (anN.1,anO.1,ayE,anP.1,anQ.1,anR.1,Ai.1,aR,Eb.1,aag.1,Ai.2.1,Ai.2.2.1,Ai.2.2.2))) (eX (anN.1,anO.1,ayE,anP.1,anQ.1,anR.1,Ai.1,aR,Eb.1,aag.1,Ai.2.1,Ai.2.2.1,Ai.2.2.2))) (eX (anN.1,anO.1,ayE,anP.1,anQ.1,anR.1,Ai.1,aR,Eb.1,aag.1,Ai.2.1,Ai.2.2.1,Ai.2.2.2))) (eX (anN.1,anO.1,ayE,anP.1,anQ.1,anR.1,Ai.1,aR,Eb.1,aag.1,Ai.2.1,Ai.2.2.1,Ai.2.2.2))) (eX (anN.1,anO.1,ayE,anP.1,anQ.1,anR.1,Ai.1,aR,Eb.1,aag.1,Ai.2.1,Ai.2.2.1,Ai.2.2.2))) (eX (anN.1,anO.1,ayE,anP.1,anQ.1,anR.1,Ai.1,aR,Eb.1,aag.1,Ai.2.1,Ai.2.2.1,Ai.2.2.2))) (eX (anN.1,anO.1,ayE,anP.1,anQ.1,anR.1,Ai.1,aR,Eb.1,aag.1,Ai.2.1,Ai.2.2.1,Ai.2.2.2))) (eX (anN.1,anO.1,ayE,anP.1,anQ.1,anR.1,Ai.1,aR,Eb.1,aag.1,Ai.2.1,Ai.2.2.1,Ai.2.2.2))) (eX (anN.1,anO.1,ayE,anP.1,anQ.1,anR.1,Ai.1,aR,Eb.1,aag.1,Ai.2.1,Ai.2.2.1,Ai.2.2.2))) (eX (anN.1,anO.1,ayE,anP.1,anQ.1,anR.1,Ai.1,aR,Eb.1,aag.1,Ai.2.1,Ai.2.2.1,Ai.2.2.2))) λasj=>aS (asj.2.2.2.2.2.2.2.1) (aS (EM asj.1 14) (aS (EM asj.2.1 3) (aS (EM asj.2.2.1 172) (aS (EM asj.2.2.2.1 0) (aS (EM asj.2.2.2.2.1 5) (aS (EM asj.2.2.2.2.2.1 1330) (aS (asj.2.2.2.2.2.2.1) (aq (Cj.call (asj.2.2.2.2.2.2.2.2.2.2.1,asj.2.2.2.2.2.2.2.2.2.2.2.1,asj.2.2.2.2.2.2.2.2.2.2.2.2)) λaL3=>aS (EM aL3.1 1500) (aq (IZ.call asj.2.2.2.2.2.2.2.2.1) λaL4=>aq (IZ.call asj.2.2.2.2.2.2.2.2.2.1) λaL5=>k (kz.out (!(Ty.beq tH aL4 aL5)))) (k (kz.out aR))) (k (kz.out aR))) (k (kz.out aR))) (k (kz.out aR))) (k (kz.out aR))) (k (kz.out aR))) (k (kz.out aR))) (k (kz.out aR))) (k (kz.out aR)))):=cM
theorem ak7:kz.Ok:=by
 rintro⟨⟩ _;have T:=aHx;have gj:=aJz;have p1:Ih.call ((z32,((0:Int),())),1000,2,3,90)=ao (UA z32 910 3 2):=Zz (d:=((z32,((0:Int),())),1000,2,3,90)) ⟨⟨ayF,rfl⟩,rfl,k2,eZ,eZ⟩;have sA:Sm iA:=BY;have p2:Ih.call ((iA,((0:Int),())),910,3,2,80)=ao (UA iA 830 2 3):=Zz (d:=((iA,((0:Int),())),910,3,2,80)) ⟨⟨sA,rfl⟩,rfl,k3,eZ,eZ⟩;generalize UA z32 910 3 2=a at T p1;generalize UA iA 830 2 3=b at T p2;generalize iA=ia at T p2 gj;generalize iB=ib at T gj;have q1:Ft.call 2=ao (LK 2):=Ow (d:=2) ⟨eZ,eZ⟩;have q2:Ft.call 3=ao (LK 3):=Ow (d:=3) ⟨eZ,eZ⟩;have q3:OP (1,0,jz,[])=ao (.inr (0,jz,[],(1,([],())),0,eP jz,[])):=axc (d:=(1,0,jz,[])) (aht.mono (aN _));have hC:CG (eP jz):=aer.can;have hp:(eP jz).Perm jz:=vP jz;generalize eP jz=D at q3 hC hp;have q4:tid.call a=ao ia:=(A6 (d:=a) T.ta).trans (bD ao T.aH5);rw[ak6,q1,ae,q2,ae];refine(bD (λz=>aq z _) aHa).trans ?_
 simp only[dS,al,dg,ae];refine(bD (λz=>aq z _) q3).trans ?_
 simp only[dS,al,dg,ae];refine(bD (λz=>aq z _) p1).trans ?_
 rw[ae,q4,ae];refine(bD (λz=>aq z _) p2).trans ?_
 rw[ae];refine ZE (d:=(a,(1,([],())),0,D,[])) (T.aIo hC hp) ⟨_,0,(λh=>by cases h),rfl⟩ λy hy=> ?_
 obtain⟨n,_,rfl⟩:=hy;simp only[CB,aY];rw[show(ao (n,awi (1,([],())) a 0 D []):eA)=ao (wA n a ia) from bD (λz=>ao (n,z)) (T.aHi (n:=n) hC)];obtain⟨f0,aLc⟩:=Of ([ao (wA n a ia)].flatMap (hJ dh));refine ZE (d:=(b,(1,([ao (wA n a ia)],())),0,D,[])) (T.aIp hC hp) ⟨_,f0,(λh=>absurd (aLc _ h) (gv _)),rfl⟩ λy hy=> ?_
 obtain⟨k,hk,rfl⟩:=hy;have aGC:¬k=n:=azO hk;simp only[CB];rw[show [ao (wA n a ia)]++ [(ao (k,awi (1,([ao (wA n a ia)],())) b 0 D []):eA)]=[ao (wA n a ia),ao (wB k b ib)] from bD (λz=> [ao (wA n a ia),ao (k,z)]) (T.aHj (n:=n) (k:=k) hC)];have w2:=T.walk aer (xo:=pZ.zero) rfl;have m1:=ajR (l:=[a,b]) (fill:=100) (k:=2) (D:=D) rfl (T.pg (n:=n) (k:=k) (bar:=[]) (aN _)) (T.aHf aGC) (Ed.two T) (by rw[w2]) rfl;have m2:=ajR (l:=[]) (fill:=4000) (k:=0) (D:=D) rfl (T.pg (n:=n) (k:=k) (bar:=[]) (aN _)) (T.aHg aGC) Ed.nil (by rw[ahY]) rfl;have m3:=ajR (l:=[]) (fill:=100) (k:=0) (D:=D) rfl (T.pg (n:=n) (k:=k) (bar:=[(z32,((0:Int),()))]) (by show 1<=_;decide)) (T.aHh aGC) Ed.nil (by rw[ahY]) rfl;have m4:Cb.call (aEH,0,100,[],0,jz,[],(1,([ao (wA n a ia),ao (wB k b ib)],())),0,D,[])=ao ((0,(ai 32 0,([],(0,([],()))))),1,0,jz,[],(1,([ao (wA n a ia),ao (wB k b ib)],())),0,D,[]):=YA (d:=(aEH,0,100,[],0,jz,[],(1,([ao (wA n a ia),ao (wB k b ib)],())),0,D,[])) (λe=>by cases e);have arA:sN 500 0 jz []:=aht.mono (aN _);have bX:=T.bk (l:=[a,b]) (.inl rfl) (fill:=100) eZ av8;have r1:C1.call (pF [a,b] 100 [],0,jz,[])=ao (170,aT,0,jz,[]):=by rw[ais (d:=(pF [a,b] 100 [],0,jz,[])) ⟨bX,arA⟩];simp only[bG,SN,T.aCR aer];rfl
 have r2:sY.call (pF [a,b] 100 [(ia,((0:Int),()))],0,jz,[])=ao (14,0,jz,[]):=by rw[um (d:=(pF [a,b] 100 [(ia,((0:Int),()))],0,jz,[])) ⟨T.bk (.inl rfl) eZ ⟨by show 1<=_;decide,λo ho=>by rw[bw.1 ho];exact⟨T.la.1,by show(0:Int)<=_;decide⟩⟩,arA⟩];simp only[bG,KJ,T.aEJ aer]
 have r3:sY.call (pF [a,b] 3980 [],0,jz,[])=ao (3,0,jz,[]):=by rw[um (d:=(pF [a,b] 3980 [],0,jz,[])) ⟨T.bk (.inl rfl) eZ av8,arA⟩];simp only[bG,KJ,T.awu]
 have r4:adw.call (pF [a,b] 100 [])=ao 172:=by rw[alX (d:=pF [a,b] 100 []) ⟨bX.1,by show(0:Int)<=100;decide,by show(100:Int)<=_;decide⟩];simp only[bG,alW,T.adw];rfl
 have r5:Ap.call (pF [a,b] 100 [],0,jz,[])=ao (0,2,cm b 1 (cm a 1 jz),[stepOf a jz,stepOf b (cm a 1 jz)]):=by rw[Yx (d:=(pF [a,b] 100 [],0,jz,[])) ⟨bX,aht.mono (aN _)⟩];simp only[bG,RV,T.aCR aer,T.xo];rfl
 have hS:=T.st2;have r6:sY.call (pF [a,b] 100 [],2,cm b 1 (cm a 1 jz),[stepOf a jz,stepOf b (cm a 1 jz)])=ao (5,2,cm b 1 (cm a 1 jz),[stepOf a jz,stepOf b (cm a 1 jz)]):=by rw[um (d:=(pF [a,b] 100 [],2,cm b 1 (cm a 1 jz),[stepOf a jz,stepOf b (cm a 1 jz)])) ⟨bX,hS.mono eZ⟩];simp only[bG,KJ,T.aEK aer]
 have r7:=hS.total;rw[T.aJY]at r7;obtain⟨E,hE,hEp⟩:=T.aLV;have r8:Ca.call (pF [a,b] 100 [],2,cm b 1 (cm a 1 jz),[stepOf a jz,stepOf b (cm a 1 jz)])=ao (aT,0,E,[stepOf a jz,stepOf b (cm a 1 jz)]):=by rw[aon (d:=(pF [a,b] 100 [],2,cm b 1 (cm a 1 jz),[stepOf a jz,stepOf b (cm a 1 jz)])) ⟨by show 2<=1000;decide,hS.le,by have:=hS.len;show _<=1000000;omega,hS.aHv⟩];simp only[bG,aas];exact bD ao hE
 have eE:ji E=1500:=(B8 hEp).trans ayZ;have r9:Cj.call (0,E,[stepOf a jz,stepOf b (cm a 1 jz)])=ao (1500,0,E,[stepOf a jz,stepOf b (cm a 1 jz)]):=by rw[YQ (d:=(0,E,[stepOf a jz,stepOf b (cm a 1 jz)])) ⟨λp hp=>(aht.Cl.2 p (hEp.mem_iff.1 hp)).2.2.2.1,by show ji E<=_;rw[eE];decide⟩];simp only[bG,aaX,eE]
 have de:=T.aG1;have i1:=T.has (l:=[a,b]) (.inl rfl) (fill:=100) eZ;have i2:=T.has (l:=[]) (.inr rfl) (fill:=4000) eZ;rw[de]at i1;generalize [stepOf a jz,stepOf b (cm a 1 jz)]=S at r5 r6 r7 r8 r9;generalize cm b 1 (cm a 1 jz)=A2 at r5 r6 r7 r8;generalize aDf (pF [] 4000 [])=iy at gj i2;generalize aG1 ia ib=ix at gj i1;refine(bD (λz=>aq z _) m1).trans ?_
 rw[ae];refine(bD (λz=>aq z _) m2).trans ?_
 rw[ae];refine(bD (λz=>aq z _) m3).trans ?_
 rw[ae];refine(bD (λz=>aq z _) m4).trans ?_
 rw[ae];refine(bD (λz=>aq z _) r1).trans ?_
 rw[ae];rw[ae];refine(bD (λz=>aq z _) r2).trans ?_
 rw[ae];refine(bD (λz=>aq z _) r3).trans ?_
 rw[ae];refine(bD (λz=>aq z _) r4).trans ?_
 rw[ae];refine(bD (λz=>aq z _) r5).trans ?_
 rw[ae];refine(bD (λz=>aq z _) r6).trans ?_
 rw[ae];refine(bD (λz=>aq z _) r7).trans ?_
 rw[ae];refine(bD (λz=>aq z _) r8).trans ?_
 rw[ae];refine(bD (λz=>aq z _) (HF (14,3,172,0,5,1330,aT,aT,pF [a,b] 100 [],pF [] 4000 [],0,E,S))).trans ?_
 rw[ae];dsimp only
 repeat (first | rw[aj] | rw[lk rfl])
 refine(bD (λz=>aq z _) r9).trans ?_
 rw[ae,lk rfl,aj];refine(bD (λz=>aq z _) i1).trans ?_
 rw[ae];refine(bD (λz=>aq z _) i2).trans ?_
 rw[ae,Rs,bE gj];rfl
theorem ahr:kz.RS:=rE [] kz
def ak8:=kz.gf ak7
end
section
def aj9:(List lT)->Prop:=λ_=>True
def U2:(List lT)->Bool:=λl=>if l.length<=12 then pf ([],(l,((0:Int),()))) else aR
def FL:Fs Tryz.prog aj9 bG U2:=fV 6 Tryz.f6 (λl=>([.d (.slice jy) l],[])) (λx=>⟨.d .bool x,[],[]⟩) [ao (.slice jy)] [QZ]
theorem aqu(l)(k:K1 R):FL.A l k=aS (Ak (l.length:Int) 12) (k (FL.out aR)) (aq (fP.call (([]:List j9),(l,(0,())))) λx1=>k (FL.out x1)):=cM
theorem aqv:FL.Ok:=by
 intro l _;rw[aqu];simp only[bG,U2];by_cases h:l.length<=12
 ·rw[du au,al,if_pos h,MP (d:=(([]:List j9),(l,((0:Int),())))) trivial];rfl
 ·rw[dT au,aj,if_neg h]
theorem aka:FL.RS:=rE [.d (.slice jy)] FL
def aqw:=FL.gf aqv
abbrev zs:=qq×Int
def oJ:zs->AS:=λ(ov,i)=>⟨([cq,.eI pZ ov,cq,.d ti i]++bf 24 []),[],(ai 28 [])⟩
def pJ:Unit->Exit×AS:=λx=>(.ret,⟨([cq,cq,.d .bool aR]++bf 25 []),[],(ai 28 [])⟩)
def xO:Unit->Exit×AS:=λx=>(.exit 0,⟨(bf 28 []),[],(ai 28 [])⟩)
abbrev Jv:=(Unit)⊕(Unit)
abbrev TC:=(Unit)⊕(Unit)
def Dq:Jv->Out (Exit×AS):=λx=> .br x.isLeft (.get x.getLeft? λa=> .ok (pJ a)) (.get x.getRight? λb=> .ok (xO b))
def lg:zs->TC->Jv:=λ(ov,i) y=>match y with | .inl y=> .inl y | .inr z=> .inr (z)
def xN:zs->Prop:=λ(b,i)=>b.2.2.1.length<=1000000000/\∃k:Nat,k<=b.2.2.1.length/\i=k
def oI:zs->TC:=λ(b,i)=>if(bV (ab i) b.2.2.1).all pf then .inr () else .inl ()
def apd:qq->Prop:=λ_=>True
def abf:qq->Bool:=λb=>if b.2.2.1.length<=12 then(if b.2.2.2.2.1.length<=12 then b.2.2.1.all pf else aR) else aR
def TB:=dW.gA oJ xN lg oI Dq
def HZ:zs->Option Jv:=iI TB oJ
def AD:Fs Tryz.prog apd bG abf:=fV 7 Tryz.f7 (λb=>([.d pZ b],[])) (λx=>⟨.d .bool x,[],[]⟩) [ao pZ] [QZ] {loops:=so [(4,{bp:=[1,3]})],outs:=sm [(4,{},{bp:=[2]})],gS:=tt [(4,TB)]}
def Ju:= @fh Tryz.prog (lU AD.G) AD.an 0 Tryz.f7 0 _ oJ
abbrev PZ:=mn Tryz.prog (lU AD.G) AD.an 0 Tryz.f7 0 oJ xN lg oI Dq
theorem abg:kC HZ xN lg oI:=og (na [.d pZ,.d ti] λ_=>cM)
theorem LB:qp @Ju oJ xN lg oI Dq PZ:=rA
theorem H0(ov i)(kn:K2 R)(kx:K3 R):Ju (ov,i) kn kx=aS (gY i (((ag ov.2.2.1):Nat):Int)) (aS (gI i (((ag ov.2.2.1):Nat):Int)) (aq (fP.call (nth ee ov.2.2.1 (ab i))) λx1=>aS (!x1) (kx (pJ ()).1 (pJ ()).2) (kn (oJ (ov,(bT .i64 i (1:Int)))))) aJ) (kx (xO ()).1 (xO ()).2):=cM
theorem auC(b)(k:K1 R):AD.A b k=aS (Ak (b.2.2.1.length:Int) 12) (k (AD.out aR)) (aS (Ak (b.2.2.2.2.1.length:Int) 12) (k (AD.out aR)) (aq (HZ (b,0)) λx2=>aS x2.isLeft (aq x2.getLeft? λa3=>k (AD.out aR)) (aq x2.getRight? λb4=>k (AD.out aT)))):=cM
theorem ae7:PZ:=by
 refine LB (λ(b,i)=>b.2.2.1.length - ab i) ?_
 rintro⟨b,i⟩ ⟨hlen,k,hk,rfl⟩;have hlen:b.2.2.1.length<=1000000000:=hlen;have hk:k<=b.2.2.1.length:=hk;by_cases h:k < b.2.2.1.length
 ·have n1:nth ee b.2.2.1 k=b.2.2.1[k]:=da (t:=ee) h;have hd:(bV k b.2.2.1).all pf=(pf b.2.2.1[k] && (bV (k+1) b.2.2.1).all pf):=by rw[aC h,iT]
  have step:∀ {R:Type} (kn:AS->Option R) (kx:Exit->AS->Option R),Ju (b,(k:Int)) kn kx=aS (pf b.2.2.1[k]) (kn (oJ (b,((k+1:Nat):Int)))) (kx (pJ ()).1 (pJ ()).2):=by
   intro R kn kx;rw[H0,bm au,bz (show(0:Int)<=(k:Int) by omega) au,Int.toNat_natCast,n1];simp only[aj];rw[MP (d:=b.2.2.1[k]) trivial,N.nV au];simp only[ae,bG,J9];cases pf b.2.2.1[k]
   ·rfl
   ·rfl
  cases hp:pf b.2.2.1[k]
  ·right;refine⟨pJ (),?_,λkn kx=> ?_⟩
   ·simp only[lg,oI,Int.toNat_natCast,hd,hp,ff,bR,cF];rfl
   ·rw[step,hp,al]
  ·left;refine⟨(b,((k+1:Nat):Int)),⟨hlen,k+1,au,rfl⟩,by simp only[Int.toNat_natCast];omega,?_,λkn kx=> ?_⟩
   ·simp only[lg,oI,Int.toNat_natCast,hd,hp,cD]
   ·rw[step,hp,aj]
 ·right;obtain rfl:k=b.2.2.1.length:=au;refine⟨xO (),?_,λkn kx=> ?_⟩
  ·simp only[lg,oI,Int.toNat_natCast,aU];rfl
  ·rw[H0,bh au,al]
theorem auD:AD.Ok:=by
 intro b _;rw[auC];simp only[bG,abf];by_cases h:b.2.2.1.length<=12
 ·rw[du au,al,if_pos h];by_cases h2:b.2.2.2.2.1.length<=12
  ·rw[du au,al,if_pos h2,abg (d:=(b,0)) ⟨by show b.2.2.1.length<=_;omega,0,aN _,rfl⟩];simp only[ae,lg,oI,Int.toNat_zero,aQ];cases b.2.2.1.all pf
   ·rfl
   ·rfl
  ·rw[dT au,aj,if_neg h2]
 ·rw[dT au,aj,if_neg h]
theorem ape:AD.RS:=rE [.d pZ] AD
def auE:=AD.gf auD 1 ⟨.gA ae7,trivial⟩
abbrev qK:=(List dM)×Int
def km:qK->AS:=λ(El,i)=>⟨([.d (.slice ee) El,cq,cq,.d ti i]++bf 62 []),[],(ai 66 [])⟩
def iw:Unit->Exit×AS:=λx=>(.ret,⟨([cq,cq,.d .bool aR]++bf 63 []),[],(ai 66 [])⟩)
def rb:Unit->Exit×AS:=λx=>(.exit 0,⟨(bf 66 []),[],(ai 66 [])⟩)
abbrev BZ:=(Unit)⊕(Unit)
abbrev IM:=(Unit)⊕(Unit)
def wR:BZ->Out (Exit×AS):=λx=> .br x.isLeft (.get x.getLeft? λa=> .ok (iw a)) (.get x.getRight? λb=> .ok (rb b))
def iv:qK->IM->BZ:=λ(El,i) y=>match y with | .inl y=> .inl y | .inr z=> .inr (z)
abbrev qL:=(List dM)×Int×Int×Bs
def jh:qL->AS:=λ(avu,Qb,kv,n4)=>⟨([.d (.slice ee) avu,cq,cq,.d ti Qb,fu 4,.d ti kv]++bf 60 []),[],(bI 4 ([dG (.d tH n4)]++bI 61 []))⟩
def fX:Unit->Exit×AS:=λx=>(.ret,⟨([cq,cq,.d .bool aR]++bf 63 []),[],(ai 66 [])⟩)
abbrev GQ:=(List dM)×Int
def rh:GQ->Exit×AS:=λx=>(.exit 2,⟨([.d (.slice ee) x.1,cq,cq,.d ti x.2]++bf 62 []),[],(ai 66 [])⟩)
abbrev B0:=(Unit)⊕(GQ)
abbrev IP:=(Unit)⊕(((List dM)×Int))
def wS:B0->Out (Exit×AS):=λx=> .br x.isLeft (.get x.getLeft? λa=> .ok (fX a)) (.get x.getRight? λb=> .ok (rh b))
def iC:qL->IP->B0:=λ(avu,Qb,kv,n4) y=>match y with | .inl y=> .inl y | .inr z=> .inr (z)
abbrev qM:=(List dM)×Int×Int×Int×Bs
def ko:qM->AS:=λ(ajG,Ry,HB,j,oW)=>⟨([.d (.slice ee) ajG,cq,cq,.d ti Ry,fu 4,.d ti HB,.d ti j]++bf 59 []),[],(bI 4 ([dG (.d tH oW)]++bI 61 []))⟩
def kP:Unit->Exit×AS:=λx=>(.ret,⟨([cq,cq,.d .bool aR]++bf 63 []),[],(ai 66 [])⟩)
abbrev GU:=(List dM)×Int×Int×Bs
def js:GU->Exit×AS:=λ(a,b,c,e)=>(.exit 4,⟨([.d (.slice ee) a,cq,cq,.d ti b,fu 4,.d ti c]++bf 60 []),[],(bI 4 ([dG (.d tH e)]++bI 61 []))⟩)
abbrev B2:=(Unit)⊕(GU)
abbrev IS:=(Unit)⊕(Unit)
def wT:B2->Out (Exit×AS):=λx=> .br x.isLeft (.get x.getLeft? λa=> .ok (kP a)) (.get x.getRight? λb=> .ok (js b))
def gE:qM->IS->B2:=λ(ajG,Ry,HB,j,oW) y=>match y with | .inl y=> .inl y | .inr z=> .inr ((ajG,Ry,HB,oW))
def ayS(l:List dM)(i:Nat)(id:Bs)(k:Nat):Prop:=(k < i->¬sP (nth ee l k)=id)/\(k<=i->∀x∈(nth ee l k).1,¬x.1.1=id)
def asv(l:List dM)(i:Nat):Prop:=¬sP (nth ee l i)=z32/\∀k,k < l.length->ayS l i (sP (nth ee l i)) k
def aFQ(l:List dM):Prop:=l.length<=1000/\∀t∈l,wX t/\t.1.length<=1000000
def afI(id:Bs)(x:j9):Bool:= !decide (x.1.1=id)
theorem LV(id:Bs)(l:List j9):l.all (afI id)=aT↔∀x∈l,¬x.1.1=id:=by
 rw[cS];refine forall_congr' λx=>forall_congr' λ_=> ?_
 unfold afI;simp
def ri:qM->Prop:=λ(l,i,kv,j,_)=>aFQ l/\∃k m:Nat,k < l.length/\kv=k/\j=m/\m<=(nth ee l k).1.length/\0<=i
def iX:qM->IS:=λ(l,i,kv,j,id)=>if kv<=i then(if((nth ee l kv.toNat).1.drop j.toNat).all (afI id)=aT then .inr () else .inl ()) else .inr ()
open Classical in
def jX:qL->IP:=λ(l,i,kv,id)=>if ∀k,kv.toNat<=k->k < l.length->ayS l i.toNat id k then .inr (l,i) else .inl ()
def re:qL->Prop:=λ(l,i,kv,_)=>aFQ l/\(∃k:Nat,k<=l.length/\kv=k)/\∃m:Nat,i=m
open Classical in
def jW:qK->IM:=λ(l,i)=>if ∀k,i.toNat<=k->k < l.length->asv l k then .inr () else .inl ()
def ra:qK->Prop:=λ(l,i)=>aFQ l/\∃k:Nat,k<=l.length/\i=k
open Classical in
def Ks:(List dM)->Bool:=λl=>if ∀k,k < l.length->asv l k then aT else aR
def adk:(List dM)->Prop:=λl=>aFQ l
def IL:=dW.gA km ra iv jW wR
def CQ:qK->Option BZ:=iI IL km
def IN:=dW.gA jh re iC jX wS
def CS:qL->Option B0:=iI IN jh
def IQ:=dW.gA ko ri gE iX wT
def uK:qM->Option B2:=iI IQ ko
def gR:Fs Tryz.prog adk bG Ks:=fV 13 Tryz.f13 (λl=>([.d (.slice ee) l],[])) (λx=>⟨.d .bool x,[],[]⟩) [ao (.slice ee)] [Kf] {loops:=so [(2,{bp:=[0,3]}),(8,{bp:=[0,3,4,5],sites:=[4]}),(13,{bp:=[0,3,4,5,6],sites:=[4]})],outs:=sm [(2,{},{bp:=[2]}),(8,{bp:=[0,3]},{bp:=[2]}),(13,{bp:=[0,3,4,5],sites:=[4]},{bp:=[2]})],gS:=tt [(2,IL),(8,IN),(13,IQ)]}
def vI:= @fh Tryz.prog (lU gR.G) gR.an 0 Tryz.f13 0 _ km
abbrev GN:=mn Tryz.prog (lU gR.G) gR.an 0 Tryz.f13 0 km ra iv jW wR
def vJ:= @fh Tryz.prog (lU gR.G) gR.an 0 Tryz.f13 1 _ jh
abbrev GP:=mn Tryz.prog (lU gR.G) gR.an 0 Tryz.f13 1 jh re iC jX wS
def B1:= @fh Tryz.prog (lU gR.G) gR.an 0 Tryz.f13 2 _ ko
abbrev GS:=mn Tryz.prog (lU gR.G) gR.an 0 Tryz.f13 2 ko ri gE iX wT
theorem RO:kC CQ ra iv jW:=og (na [.d (.slice ee),.d ti] λ_=>cM)
theorem GO:qp @vI km ra iv jW wR GN:=rA
theorem CR(El i)(kn:K2 R)(kx:K3 R):vI (El,i) kn kx=aS (gY i (((ag El):Nat):Int)) (aS (gI i (((ag El):Nat):Int)) (aq (tid.call (nth ee El (ab i))) λx1=>aS (Ty.beq tH x1 (ai 32 (0:Int))) (kx (iw ()).1 (iw ()).2) (aq (CS (El,i,(0:Int),x1)) λx2=>aS x2.isLeft (aq x2.getLeft? λa3=>kx (iw ()).1 (iw ()).2) (aq x2.getRight? λb4=>kn (km (b4.1,(bT .i64 b4.2 (1:Int))))))) aJ) (kx (rb ()).1 (rb ()).2):=cM
theorem RP:kC CS re iC jX:=og (na [.d (.slice ee),.d ti,.d ti,.d tB] λ_=>cM)
theorem GR:qp @vJ jh re iC jX wS GP:=rA
theorem CT(avu Qb kv n4)(kn:K2 R)(kx:K3 R):vJ (avu,Qb,kv,n4) kn kx=aS (gY kv (((ag avu):Nat):Int)) (aS (gY kv Qb) (aS (gI kv (((ag avu):Nat):Int)) (aq (tid.call (nth ee avu (ab kv))) λx1=>aS (Ty.beq tH x1 n4) (kx (fX ()).1 (fX ()).2) (aq (uK (avu,Qb,kv,(0:Int),n4)) λx2=>aS x2.isLeft (aq x2.getLeft? λa3=>kx (fX ()).1 (fX ()).2) (aq x2.getRight? λb4=>kn (jh (b4.1,b4.2.1,(bT .i64 b4.2.2.1 (1:Int)),b4.2.2.2))))) aJ) (aq (uK (avu,Qb,kv,(0:Int),n4)) λx5=>aS x5.isLeft (aq x5.getLeft? λa6=>kx (fX ()).1 (fX ()).2) (aq x5.getRight? λb7=>kn (jh (b7.1,b7.2.1,(bT .i64 b7.2.2.1 (1:Int)),b7.2.2.2))))) (kx (rh (avu,Qb)).1 (rh (avu,Qb)).2):=cM
theorem RQ:kC uK ri gE iX:=og (na [.d (.slice ee),.d ti,.d ti,.d ti,.d tB] λ_=>cM)
theorem GV:qp @B1 ko ri gE iX wT GS:=rA
theorem uL(ajG Ry HB j oW)(kn:K2 R)(kx:K3 R):B1 (ajG,Ry,HB,j,oW) kn kx=aS (adB HB Ry) (aS (gI HB (((ag ajG):Nat):Int)) (aS (gY j (((ag (nth ee ajG (ab HB)).1):Nat):Int)) (aS (gI HB (((ag ajG):Nat):Int)) (aS (gI j (((ag (nth ee ajG (ab HB)).1):Nat):Int)) (aS (Ty.beq tH (nth gB (nth ee ajG (ab HB)).1 (ab j)).1.1 oW) (kx (kP ()).1 (kP ()).2) (kn (ko (ajG,Ry,HB,(bT .i64 j (1:Int)),oW)))) aJ) aJ) (kx (js (ajG,Ry,HB,oW)).1 (js (ajG,Ry,HB,oW)).2)) aJ) (kx (js (ajG,Ry,HB,oW)).1 (js (ajG,Ry,HB,oW)).2):=cM
theorem ahU(l)(k:K1 R):gR.A l k=aq (CQ (l,0)) λadq=>aS adq.isLeft (aq adq.getLeft? λa13=>k (gR.out aR)) (aq adq.getRight? λb14=>k (gR.out aT)):=cM
theorem W3:GS:=by
 refine GV (λ(l,_,kv,j,_)=>(nth ee l kv.toNat).1.length - j.toNat) ?_
 rintro⟨l,i,kv,j,id⟩ ⟨hg,k,m,hk,rfl,rfl,hm,hi⟩;have hi:0<=i:=hi;have hk:k < l.length:=hk;have hm:m<=(nth ee l k).1.length:=hm;have hb:l.length<=1000:=hg.1;have ht:(nth ee l k).1.length<=1000000:=by rw[da (t:=ee) hk];exact(hg.2 _ (aV hk)).2
 have c1:((k:Int)).toNat=k:=Int.toNat_natCast k;by_cases aGA:(k:Int)<=i
 ·by_cases h:m < (nth ee l k).1.length
  ·have n1:nth gB (nth ee l k).1 m=(nth ee l k).1[m]:=da (t:=gB) h;have hd:(nth ee l k).1.drop m=(nth ee l k).1[m]::(nth ee l k).1.drop (m+1):=aC h;have st:∀ {R:Type} (kn:AS->Option R) (kx:Exit->AS->Option R),B1 (l,i,(k:Int),(m:Int),id) kn kx=aS (afI id (nth ee l k).1[m]) (kn (ko (l,i,(k:Int),((m+1:Nat):Int),id))) (kx (kP ()).1 (kP ()).2):=by
    intro R kn kx;rw[uL,oO aGA,aj,bz au au,aj,c1,bm au,aj,aj,bz au au,aj,Int.toNat_natCast,n1,Rs,N.nV au];unfold afI;by_cases e:(nth ee l k).1[m].1.1=id
    ·rw[ba e];rfl
    ·rw[bE e];rfl
   cases e:afI id (nth ee l k).1[m]with
   |true=>
    left;refine⟨(l,i,(k:Int),((m+1:Nat):Int),id),⟨hg,k,m+1,hk,rfl,rfl,h,hi⟩,by simp only[Int.toNat_natCast];omega,?_,λkn kx=> ?_⟩
    ·simp only[gE,iX,Int.toNat_natCast,hd,iT,e,cD]
    ·rw[st,e,aj]
   |false=>
    right;refine⟨kP (),?_,λkn kx=> ?_⟩
    ·simp only[gE,iX,Int.toNat_natCast,hd,iT,e,ff,if_pos aGA,bR,cF];rfl
    ·rw[st,e,al]
  ·right;obtain rfl:m=(nth ee l k).1.length:=au;refine⟨js (l,i,(k:Int),id),?_,λkn kx=> ?_⟩
   ·simp only[gE,iX,Int.toNat_natCast,aU,List.all_nil,cY,ite_self];rfl
   ·rw[uL,oO aGA,aj,bz au au,aj,c1,bh au,al]
 ·right;refine⟨js (l,i,(k:Int),id),?_,λkn kx=> ?_⟩
  ·simp only[gE,iX,if_neg aGA];rfl
  ·rw[uL,mg aGA,al]
theorem W2:GP:=by
 refine GR (λ(l,_,kv,_)=>l.length - kv.toNat) ?_
 rintro⟨l,i,kv,id⟩ ⟨hg,⟨k,hk,rfl⟩,m,rfl⟩;have hb:l.length<=1000:=hg.1;have hk:k<=l.length:=hk;have c1:((k:Int)).toNat=k:=Int.toNat_natCast k;have c2:((m:Int)).toNat=m:=Int.toNat_natCast m;by_cases h:k < l.length
 ·have hd:(∀j,k<=j->j < l.length->ayS l m id j)↔ayS l m id k/\∀j,k+1<=j->j < l.length->ayS l m id j:=by
   constructor
   ·intro x;exact⟨x k (aF _) h,λj h1 h2=>x j au h2⟩
   ·rintro⟨x,y⟩ j h1 h2;by_cases e:j=k
    ·subst e;exact x
    ·exact y j au h2
  have ht:=hg.2 _ (aV h);have n1:nth ee l k=l[k]:=da (t:=ee) h;have hL2:=RQ (d:=(l,(m:Int),(k:Int),0,id)) ⟨hg,k,0,h,rfl,rfl,aN _,by show(0:Int)<=(m:Int);omega⟩;simp only[gE,iX,Int.toNat_zero,aQ,c1]at hL2;have st:∀ {R:Type} (kn:AS->Option R) (kx:Exit->AS->Option R),(ayS l m id k->vJ (l,(m:Int),(k:Int),id) kn kx=kn (jh (l,(m:Int),((k+1:Nat):Int),id)))/\(¬ayS l m id k->vJ (l,(m:Int),(k:Int),id) kn kx=kx (fX ()).1 (fX ()).2):=by
   intro R kn kx;rw[CT,bm au,aj,c1,n1];rw[n1]at hL2;by_cases e1:k < m
   ·rw[bm au,aj,bz au au,aj,A6 (d:=l[k]) ht.1];simp only[ae,bG,Nu,Rs];by_cases e2:sP l[k]=id
    ·rw[ba e2,aj];exact⟨λx=>absurd e2 (by rw[<-n1];exact x.1 e1),λ_=>(by first | trivial | rfl)⟩
    ·rw[bE e2,al,hL2,if_pos (show(k:Int)<=(m:Int) by omega)];by_cases e3:l[k].1.all (afI id)=aT
     ·rw[if_pos e3];simp only[ae,dS,al,dg];rw[N.nV au];exact⟨λ_=>(by first | trivial | rfl),λx=>absurd ⟨λ_=>by rw[n1];exact e2,λ_=>by rw[n1];exact(LV id _).1 e3⟩ x⟩
     ·rw[if_neg e3];simp only[ae,l7,aj,j3];exact⟨λx=>absurd ((LV id _).2 (by have:=x.2 au;rw[n1]at this;exact this)) e3,λ_=>(by first | trivial | rfl)⟩
   ·rw[bh au,al,hL2];by_cases e4:(k:Int)<=(m:Int)
    ·rw[if_pos e4];by_cases e3:l[k].1.all (afI id)=aT
     ·rw[if_pos e3];simp only[ae,dS,al,dg];rw[N.nV au];exact⟨λ_=>(by first | trivial | rfl),λx=>absurd ⟨λy=>absurd y e1,λ_=>by rw[n1];exact(LV id _).1 e3⟩ x⟩
     ·rw[if_neg e3];simp only[ae,l7,aj,j3];exact⟨λx=>absurd ((LV id _).2 (by have:=x.2 au;rw[n1]at this;exact this)) e3,λ_=>(by first | trivial | rfl)⟩
    ·rw[if_neg e4];simp only[ae,dS,al,dg];rw[N.nV au];exact⟨λ_=>(by first | trivial | rfl),λx=>absurd ⟨λy=>absurd y e1,λy=>absurd (show(k:Int)<=(m:Int) by omega) e4⟩ x⟩
  by_cases e:ayS l m id k
  ·left;refine⟨(l,(m:Int),((k+1:Nat):Int),id),⟨hg,⟨k+1,h,rfl⟩,m,rfl⟩,by simp only[Int.toNat_natCast];omega,?_,λkn kx=>(st kn kx).1 e⟩;simp only[iC,jX,Int.toNat_natCast];by_cases x:∀j,k+1<=j->j < l.length->ayS l m id j
   ·rw[if_pos x,if_pos (hd.2 ⟨e,x⟩)]
   ·rw[if_neg x,if_neg (λy=>x (hd.1 y).2)]
  ·right;refine⟨fX (),?_,λkn kx=>(st kn kx).2 e⟩;simp only[iC,jX,Int.toNat_natCast];rw[if_neg (λy=>e (hd.1 y).1)];rfl
 ·right;obtain rfl:k=l.length:=au;refine⟨rh (l,(m:Int)),?_,λkn kx=> ?_⟩
  ·simp only[iC,jX,Int.toNat_natCast];rw[if_pos (λj h1 h2=>absurd h2 au)];rfl
  ·rw[CT,bh au,al]
theorem W1:GN:=by
 refine GO (λ(l,i)=>l.length - i.toNat) ?_
 rintro⟨l,i⟩ ⟨hg,k,hk,rfl⟩;have hb:l.length<=1000:=hg.1;have hk:k<=l.length:=hk;have c1:((k:Int)).toNat=k:=Int.toNat_natCast k;by_cases h:k < l.length
 ·have hd:(∀j,k<=j->j < l.length->asv l j)↔asv l k/\∀j,k+1<=j->j < l.length->asv l j:=by
   constructor
   ·intro x;exact⟨x k (aF _) h,λj h1 h2=>x j au h2⟩
   ·rintro⟨x,y⟩ j h1 h2;by_cases e:j=k
    ·subst e;exact x
    ·exact y j au h2
  have ht:=hg.2 _ (aV h);have n1:nth ee l k=l[k]:=da (t:=ee) h;have hL1:=RP (d:=(l,(k:Int),0,sP l[k])) ⟨hg,⟨0,aN _,rfl⟩,k,rfl⟩;simp only[iC,jX,Int.toNat_zero,c1]at hL1;have st:∀ {R:Type} (kn:AS->Option R) (kx:Exit->AS->Option R),(asv l k->vI (l,(k:Int)) kn kx=kn (km (l,((k+1:Nat):Int))))/\(¬asv l k->vI (l,(k:Int)) kn kx=kx (iw ()).1 (iw ()).2):=by
   intro R kn kx;rw[CR,bm au,aj,bz au au,aj,c1,n1,A6 (d:=l[k]) ht.1];simp only[ae,bG,Nu,Rs];by_cases e1:sP l[k]=ai 32 (0:Int)
   ·rw[ba e1,aj];exact⟨λx=>absurd e1 (by rw[<-n1];exact x.1),λ_=>(by first | trivial | rfl)⟩
   ·rw[bE e1,al,hL1];by_cases e2:∀j,0<=j->j < l.length->ayS l ((k:Int)).toNat (sP l[k]) j
    ·rw[if_pos e2];simp only[ae,dS,al,dg];rw[N.nV au];exact⟨λ_=>(by first | trivial | rfl),λx=>absurd ⟨by rw[n1];exact e1,λj hj=>by have:=e2 j (aN _) hj;rw[c1]at this;rw[n1];exact this⟩ x⟩
    ·rw[if_neg e2];simp only[ae,l7,aj,j3];exact⟨λx=>absurd (λj _ hj=>by have:=x.2 j hj;rw[n1]at this;rw[c1];exact this) e2,λ_=>(by first | trivial | rfl)⟩
  by_cases e:asv l k
  ·left;refine⟨(l,((k+1:Nat):Int)),⟨hg,k+1,h,rfl⟩,by simp only[Int.toNat_natCast];omega,?_,λkn kx=>(st kn kx).1 e⟩;simp only[iv,jW,Int.toNat_natCast];by_cases x:∀j,k+1<=j->j < l.length->asv l j
   ·rw[if_pos x,if_pos (hd.2 ⟨e,x⟩)]
   ·rw[if_neg x,if_neg (λy=>x (hd.1 y).2)]
  ·right;refine⟨iw (),?_,λkn kx=>(st kn kx).2 e⟩;simp only[iv,jW,Int.toNat_natCast];rw[if_neg (λy=>e (hd.1 y).1)];rfl
 ·right;obtain rfl:k=l.length:=au;refine⟨rb (),?_,λkn kx=> ?_⟩
  ·simp only[iv,jW,Int.toNat_natCast];rw[if_pos (λj h1 h2=>absurd h2 au)];rfl
  ·rw[CR,bh au,al]
theorem ahV:gR.Ok:=by
 intro l hg;rw[ahU,RO (d:=(l,0)) ⟨hg,0,aN _,rfl⟩];simp only[ae,iv,jW,Int.toNat_zero,bG,Ks];by_cases e:∀k,k < l.length->asv l k
 ·rw[if_pos e,if_pos (λk _ h=>e k h)];rfl
 ·rw[if_neg e,if_neg (λx=>e λk h=>x k (aN _) h)];rfl
theorem adl:gR.RS:=rE [.d (.slice ee)] gR
def ahW:=gR.gf ahV 3 ⟨.gA W1,⟨.gA W2,⟨.gA W3,trivial⟩⟩⟩
end
theorem ahX{b c:qq}(e:b.2.2.2.2.1=c.2.2.2.2.1)(h:Int):∀(l:List dM) (k f:Int) (a:At),iD b h l k f a=iD c h l k f a
 |[],_,_,_=>rfl
 |t::l,k,f,a=>by
  have et:Bc b t=Bc c t:=by unfold Bc KC;rw[e]
  rw[iD,iD,et,ahX e h l]
theorem ayA:∀(l:List dM) (n:Int),l.foldl Pj n=n+l.foldl Pj 0/\0<=l.foldl Pj 0
 |[],n=>⟨(Int.add_zero n).symm,fI _⟩
 |t::l,n=>by have h1:=ayA l (Pj n t);have h2:=ayA l (Pj 0 t);have h3:=Hv t;rw[aX,aX];unfold Pj at h1 h2 ⊢;omega
theorem aCa(b:qq):aza b=b.2.2.2.1+b.2.2.1.foldl Pj 0:=(ayA _ _).1
theorem amZ{b:qq}{a:At}(e:(iR b a).2=0):si b.1 b.2.2.2.1=aT/\¬4000 < aza b/\∃F,iD b b.1 b.2.2.1 0 0 (eP a)= .inr F/\iR b a=(F,0):=by
 have e0:=e;unfold iR at e;split at e
 ·rename_i h1;split at e
  ·cases e
  ·rename_i h2;have e:(kB b b.1 b.2.2.1 a).2.2=0:=e;unfold kB at e;cases hw:iD b b.1 b.2.2.1 0 0 (eP a) with
   |inl x=>
    rw[hw]at e;exact absurd e (W7 _ _ _ _ _ _ _ hw)
   |inr F=>
    refine⟨h1,h2,F,rfl,?_⟩;unfold iR kB;rw[if_pos h1,if_neg h2,hw]
 ·cases e
theorem aA3{b:qq}{a:At}{F:Int}(h1:si b.1 b.2.2.2.1=aT)(h2:¬4000 < aza b)(h3:iD b b.1 b.2.2.1 0 0 (eP a)= .inr F):iR b a=(F,0):=by unfold iR kB;rw[if_pos h1,if_neg h2,h3]
theorem avW{t:dM}{o:cw}(h:o∈fT t):o.1=sP t:=by
 unfold fT at h;split at h
 ·unfold Cs at h;obtain⟨i,_,rfl⟩:=dO.1 h;rfl
 ·cases h
theorem TL{h:Int}{o:cw}:∀(l:List dM) {a:At},(eC a).Nodup->(∀t∈l,¬o.1=sP t)->cd bM o a=aJ->cd bM o (gH a (l.map λt=>(t,h)))=aJ
 |[],_,_,_,hn=>hn
 |t::l,a,hd,gj,hn=>by
  refine TL l (fy hd) (λy hy=>gj y (aL _ hy)) ?_
  show cd bM o (cm t h a)=aJ;unfold cm;rw[afg h o _ _ _ λhm=>gj t aK (avW hm),P1 o _ hd];split
  ·rfl
  ·exact hn
theorem aDu{t:dM}{h:Int}{C:At}{x:j9}{r:List j9}(iO:iF t=aT)(h1:1<=h)(h2:h<=1048576)(hi:t.1=x::r)(hn:cd bM x.1 C=aJ):dJ t h C=(0,5):=by unfold dJ;rw[if_pos ⟨iO,h1,h2⟩,hi,uf,hn]
theorem akf{b:qq}{a:At}(hb:asm b)(ha:(eC a).Nodup)(e:(iR b a).2=0)(hu:∀k,k < b.2.2.1.length->asv b.2.2.1 k)(gj:¬b.2.2.1.length=0):(iR b (gH a (wQ b))).2=5:=by
 obtain⟨h1,h2,F,hF,_⟩:=amZ e;obtain⟨ec,hc⟩:=yU ha;have az1:=U7 hb ha e;have hf:1<=b.1/\b.1<=1048576:=by unfold si at h1;have:=of_decide_eq_true h1;exact⟨this.1,this.2.1⟩
 cases hl:b.2.2.1 with
 |nil=>rw[hl]at gj;exact absurd rfl gj
 |cons t l=>
  rw[hl]at hu;have hcom':uj a ((t::l).map λt=>(t,b.1)):=by rw[<-hl];exact az1
  have aGj:=C7 hcom'.1;rw[hl,iD]at hF;by_cases aGg:Bc b t=aT
  ·rw[if_pos aGg]at hF;cases hF
  have iO:=aGj.ok;obtain⟨x,r,hx⟩:∃x r,t.1=x::r:=by
   have:=(jg iO).1.1;cases hi:t.1 with
   |nil=>rw[hi]at this;exact absurd this eZ
   |cons x r=>exact⟨x,r,rfl⟩
  have ajr:x.1∈dK t:=by unfold dK;rw[if_pos iO,hx];exact aK
  have de:∀y∈l,¬x.1.1=sP y:=λy hy=>by obtain⟨j,hj,rfl⟩:=List.getElem_of_mem hy;have h3:=(hu (j+1) (by show j+1 < l.length+1;omega)).2 0 (by show 0 < l.length+1;omega);have h4:=h3.2 (aN _) x (by show x∈t.1;rw[hx];exact aK);have n1:nth ee (t::l) (j+1)=l[j]:=da (t:=ee) (l:=t::l) (i:=j+1) (by show j+1 < l.length+1;omega);rw[n1]at h4;exact h4
  have hn:cd bM x.1 (gH a (wQ b))=aJ:=by unfold wQ;rw[hl];exact TL l (fy ha) de (aGj.axY ha ajr)
  have aCt:(eC (gH a (wQ b))).Nodup:=CY _ ha;have hn':cd bM x.1 (eP (gH a (wQ b)))=aJ:=((yU aCt).1 _).trans hn;unfold iR;rw[if_pos h1,if_neg h2];show(kB b b.1 b.2.2.1 (gH a (wQ b))).2.2=5;unfold kB;generalize eP (gH a (wQ b))=C at hn';rw[hl,iD,if_neg aGg,aDu iO hf.1 hf.2 hx hn',if_pos eZ]
theorem as8(h:Int):∀(l:List dM) {n:Nat} {a:At} {s:List cZ},s.length=n->uj a (l.map λt=>(t,h))->l.foldl (EU h) (n,a,s)=(n+l.length,gH a (l.map λt=>(t,h)),s++mj a (l.map λt=>(t,h)))
 |[],n,a,s,_,_=>by show(n,a,s)=(n,a,s++ []);rw[bP]
 |t::l,n,a,s,hs,hc=>by
  obtain⟨c1,c2,c3⟩:=hc;have e:EU h (n,a,s) t=(n+1,cm t h a,s++ [stepOf t a]):=by rw[show EU h (n,a,s) t=(n+1,cm t h a,s.take n++ [stepOf t a]) from if_neg (λx=>x c1),bJ au]
  rw[aX,e,as8 h l (by rw[ak,hs];rfl) c3,aO,aH,show n+1+l.length=n+(l.length+1) by omega];rfl
theorem aqz{b:qq}{a:At}{more:Int}(h0:0<=b.2.2.2.1)(hm:0<=more)(e:(iR (b.1,(b.2.1,(b.2.2.1,(b.2.2.2.1+more,b.2.2.2.2)))) a).2=0):(iR b a).2=0:=by obtain⟨h1,h2,F,hF,_⟩:=amZ e;have h1:si b.1 (b.2.2.2.1+more)=aT:=h1;unfold si at h1;have h1:=of_decide_eq_true h1;rw[aCa]at h2;have h2:¬4000 < b.2.2.2.1+more+b.2.2.1.foldl Pj 0:=h2;have hF:iD (b.1,(b.2.1,(b.2.2.1,(b.2.2.2.1+more,b.2.2.2.2)))) b.1 b.2.2.1 0 0 (eP a)= .inr F:=hF;have hF:=(ahX (b:=b) (c:=(b.1,(b.2.1,(b.2.2.1,(b.2.2.2.1+more,b.2.2.2.2))))) rfl _ _ _ _ _).trans hF;rw[aA3 (F:=F) (by unfold si;exact me ⟨h1.1,h1.2.1,h0,au⟩) (by rw[aCa];omega) hF]
theorem anY{a:At}(h:aah a):(adK a).length=a.length:=by rw[(asJ h).length_eq,cH]
def asx(b:qq):Prop:=(∀t∈b.2.2.1,wX t)/\(b.1<=9223372036854775807/\b.2.1.length=32/\b.2.2.2.1<=9223372036854775807)/\∀o∈b.2.2.2.2.1,ah8 o
theorem aFZ{b:qq}(h:(if b.2.2.1.length<=12 then(if b.2.2.2.2.1.length<=12 then b.2.2.1.all pf else aR) else aR)=aT):b.2.2.1.length<=12/\b.2.2.2.2.1.length<=12/\∀t∈b.2.2.1,t.1.length<=66:=by
 split at h
 ·rename_i h1;split at h
  ·rename_i h2;exact⟨h1,h2,λt ht=>(axX (cS.1 h t ht)).1⟩
  ·cases h
 ·cases h
theorem asx.ok{b:qq}(h:asx b)(h2:b.2.2.1.length<=12/\b.2.2.2.2.1.length<=12/\∀t∈b.2.2.1,t.1.length<=66):asm b:=
 ⟨⟨⟨by have:=h2.1;omega,h.1⟩,h.2.1,by have:=h2.2.1;omega,h.2.2⟩,by have:=h2.1;omega,λt ht=>by have:=h2.2.2 t ht;omega⟩
abbrev s8:=qq×Bool×Nat×Int×Bool×Nat×(List (cw×eS))×(List cZ)×(List cw)
def Eh:s8->AS:=λ(b,head,wasL,e,t69,aJx,n37,aG7,n42)=>⟨(bf 4 ([.eI pZ b,cq,cq,.d .bool head,cq,cq,fu 37,oa 42 wasL,.d ti e]++bf 56 ([.d .bool t69]++bf 44 []))),[],(bI 37 ([[dC (.pr (.cO (.new 37 1) 0) (.pr (.b8 (.new 37 2) 0 [] 0 0 aJx) kK)),dC (.mp bM eO n37),dC (.vec 139 cC aG7)]]++bI 4 ([dG (.vec 59 bM n42)]++bI 71 [])))⟩
def E2:Ky:=Ky.of {bp:=[4,7,10,11,12,69],sites:=[37,42]} Eh
def mc:s8->Option s8:=λx=>(E2).aEk .normal (Eh x)
theorem lW(x:s8):mc x=ao x:=Ky.awf (na [.d pZ,.d .bool,.n,.d ti,.d .bool,.n,.d (.slice (.pair bM eO)),.d (.slice cC),.d (.slice bM)] λ_=>cM) x
abbrev YB:=(List lT)×qq×Int
def aeg:YB->Prop:=λ(l,b,_)=>(∀o∈l,adE o)/\asx b
def YC:YB->Bool:=λ_=>aT
def iW:Fs Tryz.prog aeg bG YC:=fV 3 Tryz.f3 (λ(l,b,more)=>([.d (.slice jy) l,.d pZ b,.d ti more],[])) (λx=>⟨.d .bool x,[],[]⟩) [ao (.slice jy),ao pZ,ao ti] [ak8,aqw,auE,aeS,at4,SM,ad5,acE,ahW] {aCD:=tt [(13,E2)]}
theorem aiD(l b more)(k:K1 R):iW.A (l,b,more) k=aq (kz.call ()) λx4=>aq (FL.call l) λx8=>aq (AD.call b) λadq=>aS (!x8) (k (iW.out x4)) (aS (!adq) (k (iW.out x4)) (aS (gY more 0) (k (iW.out x4)) (aS (Ak more 5000) (k (iW.out x4)) (aq (zo l) λsQ=>aS sQ.isLeft (aq sQ.getLeft? λaJ6=>k (iW.out x4)) (aq sQ.getRight? λYj=>aq (Av.call (0,Yj.1,Yj.2)) λadr=>aq (sY.call (b,adr.2.1,adr.2.2.1,adr.2.2.2.1)) λCV=>aq (aS (Bp b.2.2.2.1 0) (aS (adB b.2.2.2.1 4000) (aq (sY.call ((b.1,(b.2.1,(b.2.2.1,((bT .i64 b.2.2.2.1 more),b.2.2.2.2)))),CV.2.1,CV.2.2.1,CV.2.2.2)) λaB3=>aS (EM aB3.1 0) (mc (b,x4,adr.1,CV.1,(JE CV.1 0),aB3.2.1,aB3.2.2.1,aB3.2.2.2,adr.2.2.2.2)) (mc (b,x4,adr.1,CV.1,aR,aB3.2.1,aB3.2.2.1,aB3.2.2.2,adr.2.2.2.2))) (mc (b,x4,adr.1,CV.1,aR,CV.2.1,CV.2.2.1,CV.2.2.2,adr.2.2.2.2))) (mc (b,x4,adr.1,CV.1,aR,CV.2.1,CV.2.2.1,CV.2.2.2,adr.2.2.2.2))) λads=>aS (ads.2.2.2.2.1) (k (iW.out aR)) (aq (Ap.call (ads.1,ads.2.2.2.2.2.1,ads.2.2.2.2.2.2.1,ads.2.2.2.2.2.2.2.1)) λaFe=>aS (JE ads.2.2.2.1 aFe.1) (k (iW.out aR)) (aS (JE ads.2.2.2.1 0) (aS (ads.2.1) (aq (Av.call (aFe.2.1,aFe.2.2.1,aFe.2.2.2)) λEb=>aS (decide (0=0/\(0+Eb.1)<=(ag Eb.2.2.2.2))) (aS (decide (0=0/\(0+ads.2.2.1)<=(ag ads.2.2.2.2.2.2.2.2))) (aq (j4.call ((cut Eb.2.2.2.2 0 Eb.1),(cut ads.2.2.2.2.2.2.2.2 0 ads.2.2.1))) λaL0=>k (iW.out aL0)) aJ) aJ) (k (iW.out aR))) (aq (gR.call ads.1.2.2.1) λaL1=>aS (!aL1) (k (iW.out ads.2.1)) (aq (sY.call (ads.1,aFe.2.1,aFe.2.2.1,aFe.2.2.2)) λaJ9=>aS (ads.2.1) (aS (EM (ads.1.2.2.1.length:Int) 0) (aS (EM aJ9.1 0) (k (iW.out aT)) (aS (Ak (ads.1.2.2.1.length:Int) 0) (k (iW.out (EM aJ9.1 5))) (k (iW.out aR)))) (aS (Ak (ads.1.2.2.1.length:Int) 0) (k (iW.out (EM aJ9.1 5))) (k (iW.out aR)))) (k (iW.out aR))))))))))):=cM
theorem aiE:iW.Ok:=by
 rintro⟨l,b,more⟩ ⟨ho,hb⟩;have ho:∀o∈l,adE o:=ho;have hb:asx b:=hb;rw[aiD,ahr (d:=()) trivial,aka (d:=l) trivial,ape (d:=b) trivial];simp only[ae,bG,Z0,bG,U2,bG,abf,bG,YC];cases h1:(if l.length<=12 then pf ([],(l,((0:Int),()))) else aR) with
 |false=>rfl
 |true=>
 rw[cG,al];cases h2:(if b.2.2.1.length<=12 then(if b.2.2.2.2.1.length<=12 then b.2.2.1.all pf else aR) else aR) with
 |false=>rfl
 |true=>
 rw[cG,al];by_cases h3:more < 0
 ·rw[bm h3,aj]
 rw[bh h3,al];by_cases h4:more > 5000
 ·rw[dT h4,aj]
 rw[du h4,al,aAN ho];cases hA:abY l with
 |none=>rfl
 |some A=>
 simp only[ae,dS,al,dg];obtain⟨hg,_,hAl,_⟩:=aqj ho hA;have hf:=aFZ h2;have hB:asm b:=hb.ok hf;have cAll:Av.call (0,A,[])=ao (A.length,0,A,[],adK A):=hg.all eZ;have arA:sN 500 0 A []:=hg.mono (aN _);have cChk:sY.call (b,0,A,[])=ao ((iR b A).2,0,A,[]):=um (d:=(b,0,A,[])) ⟨hB,arA⟩;rw[cAll];simp only[ae];rw[cChk];simp only[ae];have aCt:=hg.Cl.1;refine(bD (λz=>aq z _) (?_:_=ao (b,aT,A.length,(iR b A).2,aR,0,A,[],adK A))).trans ?_
 ·by_cases g1:b.2.2.2.1>=0
  case neg=>
   rw[eT g1,al];exact lW _
  rw[gM g1,aj];by_cases g2:b.2.2.2.1<=4000
  case neg=>
   rw[mg g2,al];exact lW _
  rw[oO g2,aj,gX au au]
  have hc:sY.call ((b.1,(b.2.1,(b.2.2.1,(b.2.2.2.1+more,b.2.2.2.2)))),0,A,[])=ao ((iR (b.1,(b.2.1,(b.2.2.1,(b.2.2.2.1+more,b.2.2.2.2)))) A).2,0,A,[]):=
   um (d:=((b.1,(b.2.1,(b.2.2.1,(b.2.2.2.1+more,b.2.2.2.2)))),0,A,[])) ⟨⟨⟨hB.1.1,⟨hB.1.2.1.1,hB.1.2.1.2.1,by show b.2.2.2.1+more<=_;omega⟩,hB.1.2.2⟩,hB.2⟩,arA⟩
  rw[hc];simp only[ae];by_cases g3:(iR (b.1,(b.2.1,(b.2.2.1,(b.2.2.2.1+more,b.2.2.2.2)))) A).2=0
  ·rw[lk g3,aj,eU (aqz g1 au g3)];exact lW _
  ·rw[kL g3,al];exact lW _
 rw[ae];dsimp only;rw[al,Yx (d:=(b,0,A,[])) ⟨hB,hg.mono (aN _)⟩];simp only[ae,bG,RV];rw[eU rfl,al];by_cases he:(iR b A).2=0
 ·have gj:¬(iR b A).2≠0:=λx=>x he
  rw[eU he,al,if_neg gj];have az1:=U7 hB aCt he;have eB:aDi b (0,A,[])=(0+b.2.2.1.length,gH A (wQ b),[]++mj A (wQ b)):=as8 b.1 b.2.2.1 (n:=0) (a:=A) (s:=[]) rfl az1;have au0:sN (0+(wQ b).length) (0+(wQ b).length) (gH A (wQ b)) ([]++mj A (wQ b)):=I8 (wQ b) (n:=0) (a:=A) (s:=[]) rfl hg az1;have el:(wQ b).length=b.2.2.1.length:=cH ..;rw[el]at au0;have hU:aFQ b.2.2.1:=⟨by have:=hf.1;omega,λt ht=>⟨hb.1 t ht,by have:=hf.2.2 t ht;omega⟩⟩;rw[eB,adl (d:=b.2.2.1) hU];simp only[ae,bG,Ks];by_cases hu:∀k,k < b.2.2.1.length->asv b.2.2.1 k
  ·rw[if_pos hu,cG,al];have c2:sY.call (b,0+b.2.2.1.length,gH A (wQ b),[]++mj A (wQ b))=ao ((iR b (gH A (wQ b))).2,0+b.2.2.1.length,gH A (wQ b),[]++mj A (wQ b)):=um (d:=(b,0+b.2.2.1.length,gH A (wQ b),[]++mj A (wQ b))) ⟨hB,au0.mono (by have:=hf.1;omega)⟩;rw[c2];simp only[ae,aj];by_cases h0:b.2.2.1.length=0
   ·have e0:gH A (wQ b)=A:=by unfold wQ;rw[bu h0];rfl
    rw[lk au,aj,e0,lk he,aj]
   ·have e5:=akf hB aCt he hu h0;rw[kL au,al,dT au,aj,lk e5]
  ·rw[if_neg hu,eY,aj]
 ·rw[gZ he,aj,aj,if_pos he];dsimp only;rw[cAll];simp only[ae];have e1:=anY hg.Cl;rw[ba ⟨trivial,au⟩,aj,aj,fA e1,XR (d:=(adK A,adK A)) (by show(adK A).length<=_;omega)];simp only[ae,bG,F2,cV]
theorem aeh:iW.RS:=rE [.d (.slice jy),.d pZ,.d ti] iW
def aiF:=iW.gf aiE
end Go.Ab
end
