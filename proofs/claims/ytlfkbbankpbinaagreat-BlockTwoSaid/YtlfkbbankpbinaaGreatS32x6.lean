/-
  Made short by a program of mine (wip/tools/mini.py).
-/
import Derived.Test.YtlfkbbankpbinaaGreatS32x5
set_option linter.unusedVariables false
set_option linter.unusedSimpArgs false
set_option maxRecDepth 100000
set_option synthInstance.maxSize 5000
open List renaming replicate->ai,length->ag,take->bj,drop->bT
open Int renaming toNat->ab
open Option renaming some->al,none->aJ
open Bool renaming true->aT,false->aR
noncomputable section
variable {R:Type}
namespace Go.Ab
open Go.Proofs
def asI:(List cC)->Prop:=λl=>l.length<=1000000
def ahZ:(List cC)->(List cC):=λl=>l
def ZO:Fs Tryz.prog asI bF ahZ:=gg 56 Tryz.f56 (λsv=>([.d (.slice bP) sv],[])) (λx=>⟨.d (.slice bP) x,[],[]⟩) [al (.slice bP)] [] {bM:=[5],res:=[al (.slice bP)]}
theorem ayy(sv)(k:K1 R):ZO.A sv k=aS (decide (0 < (ag sv))) (aS (ea (0+(ag sv)) 40) (aS (decide (0=0/\(0+(0+(ag sv)))<=(ag ((bj 0 (ai 0 ((ai 32 0),(0,()))))++sv)))) (k (ZO.out (cut ((bj 0 (ai 0 ((ai 32 0),(0,()))))++sv) 0 (0+(ag sv))))) aJ) aJ) (nd (k (ZO.out ([]:List cC))) (aS (ea (0+(ag sv)) 40) (aS (decide (0=0/\(0+(0+(ag sv)))<=(ag ((bj 0 (ai 0 ((ai 32 0),(0,()))))++sv)))) (k (ZO.out (cut ((bj 0 (ai 0 ((ai 32 0),(0,()))))++sv) 0 (0+(ag sv))))) aJ) aJ)):=cT
theorem ayz:ZO.Ok:=by
 intro l hl;have hl:l.length<=1000000:=hl;have hr:ea l.length 40=aT:=eW au au;rw[ayy];simp only[ba,hr,ak,fk,aV,aF,j4,cR,fp,bF,ahZ];by_cases h:0 < l.length
 ·simp only[bf h,ak]
 ·have:l=[]:=bw au;subst this;simp only[bB,Ax,bI (gC 0),ao]
theorem asJ:ZO.RS:=rE [.d (.slice bP)] ZO
def ayA:=ZO.gm ayz
def asj:dS->Prop:=λ_=>True
def ahM:dS->Bool:=λ_=>aR
def ahL:Fs Tryz.prog asj bF ahM:=gg 55 Tryz.f55 (λt0=>([.d fg t0],[])) (λx=>⟨.d .bool x,[],[]⟩) [al fg]
theorem ayk(t0)(k:K1 R):ahL.A t0 k=k (ahL.out aR):=cT
theorem ayl:ahL.Ok:=by intro t _;rw[ayk];rfl
theorem asl:ahL.RS:=rE [.d fg] ahL
def aym:=ahL.gm ayl
abbrev vm:=(List dS)×Int×Int×(List dS)×Int×Int×Nat×(List (cC×eU))×(List cZ)×Nat×(List (cC×eU))×(List cZ)
def mI:vm->AS:=λ(Lj,ei,fees,t18,t19,t20,o0L,ed,dm,TV,n17,E8)=>⟨([cw,.d (.slice fg) Lj,.d ti ei,.fn 55 (.nil)]++bg 5 ([.d ti fees,cw,fI 17]++bg 6 ([.d (.slice fg) t18,.d ti t19,.d ti t20]++bg 32 []))),[dH (.pr (.cP (.bG 1) 0) (.pr (.b8 (.bG 2) 0 [] 0 0 o0L) kO)),dH (.mp bP eR ed),dH (.vec 139 cD dm)],(bK 17 ([[dH (.pr (.cP (.new 17 1) 0) (.pr (.b8 (.new 17 2) 0 [] 0 0 TV) kO)),dH (.mp bP eR n17),dH (.vec 139 cD E8)]]++bK 35 []))⟩
abbrev Ki:=(Nat×(List (cC×eU))×(List cZ))×(Int×Int×Int)
def np:Ki->Exit×AS:=λ((a,b,c),e,f,g)=>(.ret,⟨(bg 8 ([.d ti e,.d ti f,.d ti g]++bg 42 [])),[dH (.pr (.cP (.bG 1) 0) (.pr (.b8 (.bG 2) 0 [] 0 0 a) kO)),dH (.mp bP eR b),dH (.vec 139 cD c)],(ai 53 [])⟩)
abbrev Kj:=((List dS)×Nat×(List (cC×eU))×(List cZ))×(Int)
def uC:Kj->Exit×AS:=λ((a,b,c,e),f)=>(.exit 0,⟨([cw,.d (.slice fg) a]++bg 7 ([.d ti f]++bg 43 [])),[dH (.pr (.cP (.bG 1) 0) (.pr (.b8 (.bG 2) 0 [] 0 0 b) kO)),dH (.mp bP eR c),dH (.vec 139 cD e)],(ai 53 [])⟩)
abbrev Ey:=(Ki)⊕(Kj)
abbrev O2:=((Int×Int×Int))⊕(Int)
def AY:Ey->Out (Exit×AS):=λx=> .br x.isLeft (.get x.getLeft? λa=> .ok (np a)) (.get x.getRight? λb=> .ok (uC b))
def jF:vm->O2->Ey:=λ(Lj,ei,fees,t18,t19,t20,o0L,ed,dm,TV,n17,E8) y=>match y with | .inl y=> .inl ((o0L,ed,dm),y) | .inr z=> .inr (((Lj,o0L,ed,dm),z))
abbrev ady:=(List dS)×Int×Nat×(List (cC×eU))×(List cZ)
theorem aBd(t:dS):BM qf.zero t=aR:=by unfold BM;rw[jg];intro x _;show ¬(([]:List cC).any (aao x.1))=aT;simp
def DI(l:List dS):Prop:=l.length<=100/\∀t∈l,vW t/\t.1.length<=1000000
def uB:vm->Prop:=λ(_,_,fees,l,n',i,_,_,_,n,a,s)=>DI l/\n'=(l.length:Int)/\∃k:Nat,k<=l.length/\i=k/\sq (500+k) n a s/\0<=fees/\fees+iI a<=1125899906842624
def mc:vm->O2:=λ(_,h,fees,l,_,i,_,_,_,_,a,_)=>fM qf.zero h (l.drop i.toNat) i fees a
def ahR:ady->Prop:=λ(l,_,n,a,s)=>DI l/\sq 500 n a s
def R7:ady->(Int×Int×Int×Nat×(List (cC×eU))×(List cZ)):=λ(l,h,n,a,s)=>((lK qf.zero h l a).1,(lK qf.zero h l a).2.1,(lK qf.zero h l a).2.2,n,a,s)
def O0:=ee.gQ mI uB jF mc AY
def Ez:vm->Option Ey:=ji O0 mI
def vZ:Fs Tryz.prog ahR bF R7:=gg 54 Tryz.f54 (λ(l,height,o0baL,o1,o2)=>([.ptr (.bG 0) 0 [] 0,.d (.slice fg) l,.d ti height,.fn 55 (.nil)],[.obj 0 aR (.pr (.cP (.bG 1) 0) (.pr (.b8 (.bG 2) 0 [] 0 0 o0baL) (.d .unit ()))),.obj 0 aR (.mp bP eR o1),.obj 0 aR (.vec 139 cD o2)])) (λx=>⟨.cons (.d ti x.1) (.cons (.d ti x.2.1) (.cons (.d ti x.2.2.1) (.nil))),[.obj 0 aR (.pr (.cP (.bG 1) 0) (.pr (.b8 (.bG 2) 0 [] 0 0 x.2.2.2.1) (.d .unit ()))),.obj 0 aR (.mp bP eR x.2.2.2.2.1),.obj 0 aR (.vec 139 cD x.2.2.2.2.2)],[]⟩) [aJ,al (.slice fg),al ti,aJ] [Gx,aym,KJ,KF] {loops:=sk [(3,{bu:=[1,2,3,9,11,18,19,20],sites:=[17],owns:=[⟨11,[.snd,.fst],17,32⟩]})],outs:=sj [(3,{bu:=[1,9]},{bu:=[8,9,10]})],gV:=tK [(3,O0)]}
def O1:= @fK Tryz.prog (mN vZ.G) vZ.an 0 Tryz.f54 0 _ mI
abbrev Kh:=nE Tryz.prog (mN vZ.G) vZ.an 0 Tryz.f54 0 mI uB jF mc AY
theorem Wp:lN Ez uB jF mc:=qe (oE [.d (.slice fg),.d ti,.d ti,.d (.slice fg),.d ti,.d ti,.n,.d (.slice (.pair bP eR)),.d (.slice cD),.n,.d (.slice (.pair bP eR)),.d (.slice cD)] λ_=>cT)
theorem It:sx @O1 mI uB jF mc AY Kh:=tI
theorem yQ(Lj ei fees t18 t19 t20 o0L ed dm TV n17 E8)(kn:K2 R)(kx:K3 R):O1 (Lj,ei,fees,t18,t19,t20,o0L,ed,dm,TV,n17,E8) kn kx=aS (iE t20 t19) (aS (gU t20 (((ag t18):Nat):Int)) (aq (ahL.call (nth fg t18 (ab t20))) λx1=>aS (x1) (kx (np ((o0L,ed,dm),(t20,fees,(14:Int)))).1 (np ((o0L,ed,dm),(t20,fees,(14:Int)))).2) (aq (lH.call ((nth fg t18 (ab t20)),ei,TV,n17,E8)) λx2=>aS (G5 x2.2.1 (0:Int)) (kx (np ((o0L,ed,dm),(t20,fees,x2.2.1))).1 (np ((o0L,ed,dm),(t20,fees,x2.2.1))).2) (aq (re ((nth fg t18 (ab t20)),ei,x2.2.2.1,x2.2.2.2.1,x2.2.2.2.2)) λx3=>aS x3.isLeft (aq x3.getLeft? λaEg=>kn (mI (Lj,ei,(bV .i64 fees x2.1),t18,t19,(bV .i64 t20 (1:Int)),o0L,ed,dm,aEg.2.1,aEg.2.2.1,aEg.2.2.2))) (aq x3.getRight? λaEh=>kn (mI (Lj,ei,(bV .i64 fees x2.1),t18,t19,(bV .i64 t20 (1:Int)),o0L,ed,dm,aEh.2.1,aEh.2.2.1,aEh.2.2.2)))))) aJ) (kx (uC ((Lj,o0L,ed,dm),fees)).1 (uC ((Lj,o0L,ed,dm),fees)).2):=cT
theorem anJ(l height o0baL o1 o2)(k:K1 R):vZ.A (l,height,o0baL,o1,o2) k=aq (sK.call (o0baL,o1,o2)) λx1=>aq (Ez (l,height,0,l,(l.length:Int),0,x1.1,x1.2.1,x1.2.2.1,x1.2.2.2.1,x1.2.2.2.2.1,x1.2.2.2.2.2)) λx8=>aS x8.isLeft (aq x8.getLeft? λa9=>k (vZ.out (a9.2.1,a9.2.2.1,a9.2.2.2,a9.1.1,a9.1.2.1,a9.1.2.2))) (aq x8.getRight? λb10=>k (vZ.out ((b10.1.1.length:Int),b10.2,0,b10.1.2.1,b10.1.2.2.1,b10.1.2.2.2))):=cT
theorem ZI:Kh:=by
 refine It (λ(_,_,_,l,_,i,_)=>l.length - i.toNat) ?_
 rintro⟨l0,h,fees,l,n',i,nS,a0,s0,n,a,s⟩ ⟨⟨h1,h2⟩,rfl,k,hk,rfl,hg,f0,f1⟩;have h1:l.length<=100:=h1;have hk:k<=l.length:=hk;have f0:0<=fees:=f0;have f1:fees+iI a<=1125899906842624:=f1;have hg:sq (500+k) n a s:=hg;by_cases jb:k < l.length
 ·have n1:nth fg l k=l[k]:=dj (t:=fg) jb;have hd:l.drop k=l[k]::l.drop (k+1):=aC jb;obtain⟨hv,hi⟩:=h2 _ (aX jb);have G2:=asl (d:=l[k]) trivial;have hb:¬BM qf.zero l[k]=aT:=by rw[aBd];decide
  have hb':BM qf.zero l[k]=aR:=aBd _
  ·skip
   have hc:=hg.check (t:=l[k]) (h:=h) hv;rcases hg.apply (t:=l[k]) (h:=h) au hv with⟨he,_⟩ | ⟨aHU,he,ha,hg'⟩
   ·right;refine⟨np ((nS,a0,s0),((k:Int),fees,(dL l[k] h a).2)),?_,λkn kx=> ?_⟩;rotate_left
    ·rw[yQ,bm au,ak,bz au au,ak,aa,n1,G2];simp only[ae,bF,ahM,ao];rw[hc];simp only[ae];rw[iJ he,ak]
    ·simp only[jF,mc,aa,hd,fM,if_neg hb,if_pos he];rfl
   ·left;have zW:=(aHU.sum hg.vu.1).1;have aCV:0<=(dL l[k] h a).1:=by obtain⟨_,_,_,f,_,_,hp,aFn⟩:=Gr he;rw[aFn];exact hp
    have sh:=JY λp hp=>(hg'.vu.2 p hp).2.2.2.1
    refine⟨(l0,h,fees+(dL l[k] h a).1,l,(l.length:Int),((k+1:Nat):Int),nS,a0,s0,n+1,cm l[k] h a,s.take n++ [stepOf l[k] a]),⟨⟨h1,h2⟩,rfl,k+1,au,rfl,hg',by show(0:Int)<=fees+(dL l[k] h a).1;omega,by show fees+(dL l[k] h a).1+iI (cm l[k] h a)<=_;omega⟩,by simp only[aa];omega,?_,λkn kx=> ?_⟩
    ·simp only[jF,mc,aa,hd,fM,if_neg hb,if_neg (λe=>e he:¬(dL l[k] h a).2≠0)];rfl
    ·rw[yQ,bm au,ak,bz au au,ak,aa,n1,G2];simp only[ae,bF,ahM,ao];rw[hc];simp only[ae];rw[eJ he,ao,ha];simp only[ae,e7,ao,dT];rw[hZ (x:=fees) au au,N.pn au]
 ·right;obtain rfl:k=l.length:=au;refine⟨uC ((l0,nS,a0,s0),fees),?_,λkn kx=> ?_⟩;rotate_left
  ·rw[yQ,bn au,ao]
  ·simp only[jF,mc,aa,aU,fM];rfl
theorem anK:vZ.Ok:=by
 rintro⟨l,h,n,a,s⟩ ⟨hw,hg⟩;have hg:sq 500 n a s:=hg;obtain⟨hc,hl⟩:=hg.canon;have z1:((0:Int)).toNat=0:=rfl;rw[anJ,hg.copy au];simp only[ae];rw[hl,Wp (d:=(l,h,0,l,(l.length:Int),0,n,a,s,n,eH a,s.take n)) ⟨hw,rfl,0,aP _,rfl,hc,fx 0,by show(0:Int)+iI (eH a)<=_;have:=hc.sum;omega⟩];simp only[ae,jF,mc,z1,aQ,bF,R7,lK];cases fM qf.zero h l 0 0 (eH a) with
 |inl x=>rfl
 |inr f=>rfl
theorem ahS:vZ.RS:=rE [.d (.slice fg),.d ti,.n,.d (.slice (.pair bP eR)),.d (.slice cD)] vZ
def anL:=vZ.gm anK 1 ⟨.gQ ZI,trivial⟩
abbrev ak8:=Bs×Int×Int×(List cC)×Nat×(List (cC×eU))×(List cZ)×(Int×((List eC)×Unit))×Nat×(List (cC×eU))×(List cZ)
def P8(p:aGN)(bar:List cC)(fill:Int):List dS:=(jI bar p.2.1 100 (dM .i64 4000 fill) [] []).getD []
theorem amT(b:pX)(h:Int):∀(l:List dS) (k f:Int) (a:At) (x:Int×Int×Int),fM b h l k f a= .inl x->k<=x.1/\x.1<=k+l.length
 |[],_,_,_,_,e=>by cases e
 |t::l,k,f,a,x,e=>by
  rw[fM]at e;rw[aH];split at e
  ·obtain rfl:=Sum.inl.inj e;exact⟨fx _,by show k<=_;omega⟩
  ·split at e
   ·obtain rfl:=Sum.inl.inj e;exact⟨fx _,by show k<=_;omega⟩
   ·have:=amT b h l _ _ _ _ e;omega
theorem aA2(b:pX)(h:Int)(l:List dS)(a:At):0<=(lK b h l a).1/\(lK b h l a).1<=l.length:=by
 unfold lK;cases e:fM b h l 0 0 (eH a) with
 |inl x=>have:=amT b h l _ _ _ _ e;simp only;omega
 |inr f=>exact⟨by show(0:Int)<=(l.length:Int);omega,fx _⟩
def aBK(parent:Bs)(h fill:Int)(bar:List cC)(a:At)(p:aGN):pX:=(h,(parent,((P8 p bar fill).take (lK qf.zero h (P8 p bar fill) a).1.toNat,(fill,(bar,())))))
def anA:ak8->Prop:=λ(_,h,fill,bar,n,a,s,p,_)=>wE h fill=aT->(Xx bar p.2.1/\(jI bar p.2.1 100 (dM .i64 4000 fill) [] []).isSome=aT)/\DI (P8 p bar fill)/\sq 500 n a s
def ZG:ak8->(pX×Int×Nat×(List (cC×eU))×(List cZ)×(Int×((List eC)×Unit))×Nat×(List (cC×eU))×(List cZ)):=λ(parent,h,fill,bar,n,a,s,p,n2,a2,s2)=>if wE h fill=aT then(aBK parent h fill bar a p,0,n,a,s,p,n2,a2,s2) else((0,(ai 32 0,([],(0,([],()))))),1,n,a,s,p,n2,a2,s2)
def BQ:Fs Tryz.prog anA bF ZG:=gg 22 Tryz.f22 (λ(parent,height,fill,bar,o0baL,o1,o2,o3b,o4baL,o5,o6)=>([.ptr (.bG 0) 0 [] 0,.ptr (.bG 3) 0 [] 0,.d tH parent,.d ti height,.d ti fill,.d (.slice bP) bar],[.obj 0 aR (.pr (.cP (.bG 1) 0) (.pr (.b8 (.bG 2) 0 [] 0 0 o0baL) (.d .unit ()))),.obj 0 aR (.mp bP eR o1),.obj 0 aR (.vec 139 cD o2),.obj 0 aR (.pr (.ptr (.bG 4) 0 [] 0) (.d (.pair ti (.pair (.slice di) .unit)) o3b)),.obj 0 aR (.pr (.cP (.bG 5) 0) (.pr (.b8 (.bG 6) 0 [] 0 0 o4baL) (.d .unit ()))),.obj 0 aR (.mp bP eR o5),.obj 0 aR (.vec 139 cD o6)])) (λx=>⟨.cons (.d qf x.1) (.cons (.d ti x.2.1) (.nil)),[.obj 0 aR (.pr (.cP (.bG 1) 0) (.pr (.b8 (.bG 2) 0 [] 0 0 x.2.2.1) (.d .unit ()))),.obj 0 aR (.mp bP eR x.2.2.2.1),.obj 0 aR (.vec 139 cD x.2.2.2.2.1),.obj 0 aR (.pr (.ptr (.bG 4) 0 [] 0) (.d (.pair ti (.pair (.slice di) .unit)) x.2.2.2.2.2.1)),.obj 0 aR (.pr (.cP (.bG 5) 0) (.pr (.b8 (.bG 6) 0 [] 0 0 x.2.2.2.2.2.2.1) (.d .unit ()))),.obj 0 aR (.mp bP eR x.2.2.2.2.2.2.2.1),.obj 0 aR (.vec 139 cD x.2.2.2.2.2.2.2.2)],[]⟩) [aJ,aJ,al tH,al ti,al ti,al (.slice bP)] [XJ,awl,anL,ayA] {res:=[al qf,aJ]}
theorem asg(parent height fill bar o0baL o1 o2 o3b o4baL o5 o6)(k:K1 R):BQ.A (parent,height,fill,bar,o0baL,o1,o2,o3b,o4baL,o5,o6) k=aq (yN.call (height,fill)) λx1=>aS (!x1) (k (BQ.out ((0,((ai 32 0),(([]:List dS),(0,(([]:List cC),()))))),1,o0baL,o1,o2,o3b,o4baL,o5,o6))) (aq (tg.call ((dM .i64 4000 fill),bar,o3b,o4baL,o5,o6)) λx2=>aS (decide (0=0/\(0+x2.1)<=(ag x2.2.2.2.2.2))) (aq (vZ.call ((cut x2.2.2.2.2.2 0 x2.1),height,o0baL,o1,o2)) λx3=>aS (decide (0<=x3.1/\x3.1<=x3.1/\x3.1<=((x2.1:Nat):Int))) (aS (inc x3.1 ((x2.1:Nat):Int)) (aq (ZO.call bar) λx4=>aS (decide (0=0/\(0+((ab x3.1) - 0))<=(ag x2.2.2.2.2.2))) (k (BQ.out ((height,(parent,((cut x2.2.2.2.2.2 0 ((ab x3.1) - 0)),(fill,(x4,()))))),0,x3.2.2.2.1,x3.2.2.2.2.1,x3.2.2.2.2.2,x2.2.1,x2.2.2.1,x2.2.2.2.1,x2.2.2.2.2.1))) aJ) aJ) aJ) aJ):=cT
theorem ash:BQ.Ok:=by
 rintro⟨parent,h,fill,bar,n,a,s,p,n2,a2,s2⟩ hp;rw[asg,R0 (d:=(h,fill)) trivial];simp only[ae,bF,J8,bF,ZG];cases hf:wE h fill with
 |false=>rfl
 |true=>
  obtain⟨⟨hg,hs⟩,hw,nG⟩:=hp hf;have G2:bar.length<=1000:=hg.2.1;rw[cv,ao,aqb (d:=(dM .i64 4000 fill,bar,p,n2,a2,s2)) ⟨hg,hs⟩];simp only[ae,bF,amx];rw[show(jI bar p.2.1 100 (dM .i64 4000 fill) [] []).getD []=P8 p bar fill from rfl,bf ⟨trivial,au⟩,ak,fp rfl,ahS (d:=(P8 p bar fill,h,n,a,s)) ⟨hw,nG⟩];simp only[ae,bF,R7];have hk:=aA2 qf.zero h (P8 p bar fill) a;rw[bf ⟨hk.1,fx _,hk.2⟩,ak,qp hk.1 hk.2,ak,asJ (d:=bar) (by show bar.length<=_;omega)];simp only[ae,bF,ahZ];rw[bf ⟨trivial,au⟩,ak,if_pos trivial];rfl
theorem XL:BQ.RS:=rE [.d tB,.d ti,.d ti,.d (.slice bP),.n,.d (.slice (.pair bP eR)),.d (.slice cD),.d (.pair ti (.pair (.slice di) .unit)),.n,.d (.slice (.pair bP eR)),.d (.slice cD)] BQ
def asi:=BQ.gm ash
abbrev ade:=pX×Nat×(List (cC×eU))×(List cZ)
def ahC:ade->Prop:=λ(b,n,a,s)=>akM b/\sq 500 n a s
def BP:ade->(Int×Bool×Nat×(List (cC×eU))×(List cZ)):=λ(b,n,a,s)=>if(km b a).2≠0 then(0,aR,n,a,s) else((km b a).1,aT,n,a,s)
def vX:Fs Tryz.prog ahC bF BP:=gg 14 Tryz.f14 (λ(b,o0baL,o1,o2)=>([.ptr (.bG 0) 0 [] 0,.d qf b],[.obj 0 aR (.pr (.cP (.bG 1) 0) (.pr (.b8 (.bG 2) 0 [] 0 0 o0baL) (.d .unit ()))),.obj 0 aR (.mp bP eR o1),.obj 0 aR (.vec 139 cD o2)])) (λx=>⟨.cons (.d ti x.1) (.cons (.d .bool x.2.1) (.nil)),[.obj 0 aR (.pr (.cP (.bG 1) 0) (.pr (.b8 (.bG 2) 0 [] 0 0 x.2.2.1) (.d .unit ()))),.obj 0 aR (.mp bP eR x.2.2.2.1),.obj 0 aR (.vec 139 cD x.2.2.2.2)],[]⟩) [aJ,al qf] [XK]
theorem ano(b o0baL o1 o2)(k:K1 R):vX.A (b,o0baL,o1,o2) k=aq (yO.call (b,o0baL,o1,o2)) λx1=>aS (G5 x1.2.1 0) (k (vX.out (0,aR,x1.2.2.1,x1.2.2.2.1,x1.2.2.2.2))) (k (vX.out (x1.1,aT,x1.2.2.1,x1.2.2.2.1,x1.2.2.2.2))):=cT
theorem anp:vX.Ok:=by
 rintro⟨b,n,a,s⟩ h;rw[ano,R2 (d:=(b,n,a,s)) h];simp only[ae,bF,R1,bF,BP];by_cases h0:(km b a).2=0
 ·rw[eJ h0,ao,if_neg (λx=>x h0)]
 ·rw[iJ h0,ak,if_pos h0]
theorem Cx:vX.RS:=rE [.d qf,.n,.d (.slice (.pair bP eR)),.d (.slice cD)] vX
def XI:=vX.gm anp
def LK(k:Int):Lk:=([([gD k],(0,(0,(0,()))))],())
def TA(m:Bs)(x to:Int):dS:=([((m,((0:Int),())),(((0:Int),(([]:List Sg),((0:Int),()))),()))],([(x,(LK to,()))],((0:Int),())))
def UA(m:Bs)(x to k:Int):dS:=Q9 (TA m x to) (ab 0) (W7 (TA m x to) 0 [k] 0)
def KG(k:Int):Prop:=0 < k/\k < 2305843009213688669
theorem aF8(k:Int):nI (LK k)=aT:=by have e:nI (LK k)=((Ed ([gD k],0,0,0,()) && aT) && aT):=rfl;rw[e,ayn _ _ _ (dG rfl)];simp only[lq,List.all_nil,Tl,cH,Bool.and_true];rfl
theorem aHe(k:Int):akP (LK k):=λb hb=>by rw[bq.1 (show b∈ [([gD k],(0,(0,(0,()))))] from hb)];exact⟨aiO (akX k) ao0,axB⟩
theorem axJ:Sm z32:=⟨dF,λx hx=>by rw[(qV.1 (show x∈ai 32 (0:Int) from hx)).2];exact⟨fb,fb⟩⟩
theorem azU(m:Bs){x:Int}(hx:qk 0 x=aT)(to:Int):iM (TA m x to)=aT:=by
 have e2:Be 0 (TA m x to).2.1=((qk 0 x && nI (LK to)) && aT):=rfl;have e1:Eh [] (TA m x to).1=aT:=by show Eh [] [((m,((0:Int),())),(((0:Int),(([]:List Sg),((0:Int),()))),()))]=aT;rw[Eh,Eh];rfl
 unfold iM;rw[e1,e2,aF8 to,hx];rfl
theorem aJ6{m:Bs}(hm:Sm m)(x to:Int):vW (TA m x to):=by
 refine⟨⟨λo ho=> ?_,by show 1<=_;decide,by show 1<=_;decide⟩,λy hy=> ?_,by show(0:Int)<=_;decide⟩
 ·rw[bq.1 (show o∈ [(x,(LK to,()))] from ho)];exact⟨aHe to,by show 1<=_;decide⟩
 ·rw[bq.1 (show y∈ [((m,((0:Int),())),(((0:Int),(([]:List Sg),((0:Int),()))),()))] from hy)];exact⟨hm,⟨λs hs=>(by cases hs),axB⟩,aP _⟩
theorem aGv{m:Bs}{x to k:Int}(hx:qk 0 x=aT)(hk:KG k):Dv (TA m x to) 0 0 [k]=aT:=by unfold Dv;rw[azU m hx,bf ⟨fb,by show(0:Int) < ((1:Nat):Int);decide,fb,fb,dG rfl⟩];simp only[gb,kG,Ik];have:=hk.1;have:=hk.2;rw[bI au];rfl
theorem ax2{m:Bs}{x to k:Int}(hm:Sm m)(hx:qk 0 x=aT)(hk:KG k):iM (UA m x to k)=aT/\vW (UA m x to k)/\wI (UA m x to k)=wI (TA m x to)/\dV (UA m x to k)=dV (TA m x to)/\gq (UA m x to k)=gq (TA m x to):=awZ (aJ6 hm x to) (aGv hx hk) axB
theorem aK1{k:Int}(hk:KG k)(m:List Int)(h a:Int)(h0:0<=h)(a0:0<=a):B7 (LK k) (((0:Nat):Int),([k].map (λk=>mn k m),((0:Int),()))) m h a=0:=by have s1:=abg [k] (aGf hk) 0 0 0 0 m h a (.inl rfl);rw[if_neg au]at s1;exact(azX (l:=LK k) (i:=0) (b:=([k].map gD,0,0,0,())) (aF8 k) (by show 0 < 1;decide) rfl _ _ _ _ _).trans s1
theorem aJ7{m:Bs}{x to k:Int}(hm:Sm m)(hx:qk 0 x=aT)(hk:KG k):kq (UA m x to k)=36:=by unfold kq;rw[if_pos (ax2 hm hx hk).1];rfl
theorem aGu{m:Bs}{x to k:Int}(hm:Sm m)(hx:qk 0 x=aT)(hk:KG k):vV.call (TA m x to,0,0,[k],0)=al (UA m x to k,0):=by rw[ark (d:=(TA m x to,0,0,[k],0)) ⟨aJ6 hm x to,λy hy=>by rw[bq.1 hy];have:=hk.1;have:=hk.2;exact⟨au,au⟩,by show 1<=1000000000;decide⟩];simp only[bF,acm,awY,aGv hx hk,da];rfl
theorem aJo{m:Bs}{x to k y h g:Int}{C:At}(hm:Sm m)(hx:qk 0 x=aT)(hk:KG k)(hy:0<=y - x)(h1:1<=h)(h2:h<=1048576)(hg:0<=g/\g<=h)
  (hc:cq bP (m,((0:Int),())) C=al ((y,(LK k,())),(g,()))) (hn:cq bP (wI (TA m x to),((0:Int),())) C=aJ):dL (UA m x to k) h C=(y - x,0):=by
 obtain⟨a1,a2,a3,a4,a5⟩:=ax2 (m:=m) (x:=x) (to:=to) (k:=k) hm hx hk;have aeB:(UA m x to k).1=[((m,((0:Int),())),(((((0:Nat):Int),([k].map (λk=>mn k (wI (TA m x to))),((0:Int),())))),()))]:=rfl;have aJM:gq (UA m x to k)=[(wI (TA m x to),((0:Int),()))]:=by rw[a5];unfold gq;rw[if_pos (azU m hx to)];rfl
 generalize wI (TA m x to)=id at hn aeB aJM a3;unfold dL;rw[if_pos ⟨a1,h1,h2⟩,aeB,a3];have e:tT h id C [((m,((0:Int),())),(((((0:Nat):Int),([k].map (λk=>mn k id),((0:Int),())))),()))] 0= .inr y:=by rw[tT,hc];show(if B7 (LK k) (((0:Nat):Int),([k].map (λk=>mn k id),((0:Int),()))) id h (h - g)≠0 then _ else tT h id C [] (0+y))=_;rw[aK1 hk id h (h - g) au au,if_neg (λe=>e rfl),tT,Int.zero_add]
 rw[e,aJM];have n1:([(id,((0:Int),()))]:List cC).any (pC C)=aR:=by simp only[gb,kG,pC,hn,qX,uu]
 have n2:lB (UA m x to k).2.1=x:=by show x+0=x;omega
 simp only[n1,bW,cK,n2];rw[if_neg au]
theorem aHI{t:dS}{h:Int}{C:At}{o:cC}{w:Re×Unit}(jd:iM t=aT)(h1:1<=h)(h2:h<=1048576)(hi:t.1=[(o,w)])(hn:cq bP o C=aJ):dL t h C=(0,5):=by unfold dL;rw[if_pos ⟨jd,h1,h2⟩,hi,tT,hn]
structure eg(a b:dS)(ia ib:Bs):Prop where
 ta:vW a
 tb:vW b
 aEL:iM a=aT
 aGg:iM b=aT
 aHb:wI a=ia
 aHc:wI b=ib
 aI6:dV a=[(z32,((0:Int),()))]
 aI7:dV b=[(ia,((0:Int),()))]
 aIG:gq a=[(ia,((0:Int),()))]
 aJY:gq b=[(ib,((0:Int),()))]
 aF5:∃w,a.1=[((z32,((0:Int),())),w)]
 gU:∃w,b.1=[((ia,((0:Int),())),w)]
 aIK:a.2.1=[((910:Int),(LK 3,()))]
 wa:kq a=36
 wb:kq b=36
 la:Sm ia
 lb:Sm ib
 aDy:¬ia=z32
 aGb:¬ib=z32
 aHh:¬ib=ia
 aJp:∀ {h:Int} {C:At},1<=h->h<=1048576->cq bP (z32,((0:Int),())) C=al (((1000:Int),(LK 2,())),((0:Int),()))->cq bP (ia,((0:Int),())) C=aJ->dL a h C=(90,0)
 aJq:∀ {h g:Int} {C:At},1<=h->h<=1048576->0<=g/\g<=h->cq bP (ia,((0:Int),())) C=al (((910:Int),(LK 3,())),(g,()))->cq bP (ib,((0:Int),())) C=aJ->dL b h C=(80,0)
def iA:Bs:=wI (TA z32 910 3)
def iB:Bs:=wI (TA iA 830 2)
theorem aKY:¬iA=z32:=by decide+kernel
theorem aKZ:¬iB=z32:=by decide+kernel
theorem aII:¬iB=iA:=by decide+kernel
theorem k2:KG 2:=⟨fb,fb⟩
theorem k3:KG 3:=⟨fb,fb⟩
theorem aGy:eg (UA z32 910 3 2) (UA iA 830 2 3) iA iB:=by
  have x1:qk 0 910=aT:=rfl;have x2:qk 0 830=aT:=rfl;have hm:Sm iA:=BF;obtain⟨a1,a2,a3,a4,a5⟩:=ax2 (m:=z32) (x:=910) (to:=3) (k:=2) axJ x1 k2;obtain⟨b1,b2,b3,b4,b5⟩:=ax2 (m:=iA) (x:=830) (to:=2) (k:=3) hm x2 k3;have sp:∀ {m:Bs} {x to:Int},qk 0 x=aT->dV (TA m x to)=[(m,((0:Int),()))]:=λ {m x to} hx=>by unfold dV;rw[if_pos (azU m hx to)];rfl
  have md:∀ {m:Bs} {x to:Int},qk 0 x=aT->gq (TA m x to)=[(wI (TA m x to),((0:Int),()))]:=λ {m x to} hx=>by unfold gq;rw[if_pos (azU m hx to)];rfl
  exact {ta:=a2,tb:=b2,aEL:=a1,aGg:=b1,aHb:=a3,aHc:=b3,aI6:=a4.trans (sp x1),aI7:=b4.trans (sp x2),aIG:=a5.trans (md x1),aJY:=b5.trans (md x2),aF5:=⟨_,rfl⟩,gU:=⟨_,rfl⟩,aIK:=rfl,
          wa:=aJ7 axJ x1 k2,wb:=aJ7 hm x2 k3,la:=hm,lb:=BF,aDy:=aKY,aGb:=aKZ,aHh:=aII,
          aJp:=λh1 h2 hc hn=>aJo (y:=1000) (g:=0) axJ x1 k2 fb h1 h2 ⟨fx 0,au⟩ hc hn,
          aJq:=λh1 h2 hg hc hn=>aJo (y:=910) hm x2 k3 fb h1 h2 hg hc hn}
section
def jw:At:=[Ac 0 ((1000:Int),(LK 2,())),Ac 1 ((500:Int),(LK 3,()))]
theorem g0:cq bP (z32,((0:Int),())) jw=al (((1000:Int),(LK 2,())),((0:Int),())):=by unfold jw Ac;rw[eT];exact if_pos ((Ni _ _).2 rfl)
theorem aJs(m:Bs)(k:Int×Unit)(hm:¬m=z32):cq bP (m,k) jw=aJ:=by
 have h:∀k':Int×Unit,¬Ty.beq bP (m,k) (ai 32 (0:Int),k')=aT:=λk' e=>hm (bE (λo:cC=>o.1) ((Ni _ _).1 e))
 unfold jw Ac;rw[eT,if_neg (h _),eT,if_neg (h _),ua]
theorem ax3:iI jw=1500:=rfl
theorem agC:sq 0 0 jw []:=by
 have aua:(ez jw).Nodup:=by show(([(z32,((((0:Nat):Int)),())),(z32,((((1:Nat):Int)),()))]:List cC)).Nodup;refine dr.2 ⟨λh=> ?_,dr.2 ⟨λh=>(by cases h),gZ⟩⟩;have:=bE (λo:cC=>o.2.1) (bq.1 h);exact absurd this fb
 have one:∀(k:Nat) (x j:Int),k < 64->0<=x->x<=1125899906842624->acC (Ac k (x,(LK j,()))).1/\aEl (Ac k (x,(LK j,()))).2:=λk x j _ h0 h1=>⟨axJ,aF8 j,aHe j,h0,h1,fx 0,by show(0:Int)<=_;decide⟩
 refine⟨⟨aua,λp hp=> ?_⟩,aF _,aF _,λst h=>(by cases h),by rw[ax3];decide,by show 2<=_;decide⟩;rcases cg.1 (show p∈ [Ac 0 ((1000:Int),(LK 2,())),Ac 1 ((500:Int),(LK 3,()))] from hp) with rfl | hp
 ·exact one 0 1000 2 fb fb fb
 ·rw[bq.1 hp];exact one 1 500 3 fb fb fb
theorem aGc:rh [((1000:Int),(LK 2,())),((500:Int),(LK 3,()))]=al (.inr (jw,[])):=by
 have e:aba [((1000:Int),(LK 2,())),((500:Int),(LK 3,()))]=al jw:=by
  unfold aba;rw[if_pos (dG rfl)];have e0:zs 0 ((1000:Int),(LK 2,()))=aT:=by unfold zs;rw[aF8 2];rfl
  have e1:zs (0+1000) ((500:Int),(LK 3,()))=aT:=by unfold zs;rw[aF8 3];rfl
  rw[LD,e0];show Option.map _ (LD (0+1000) 1 [((500:Int),(LK 3,()))])=_;rw[LD,e1];rfl
 rw[XZ (d:=[((1000:Int),(LK 2,())),((500:Int),(LK 3,()))]) (λo ho=>by
  rcases cg.1 ho with rfl | ho
  ·exact⟨aHe 2,by show 1<=_;decide,by show(1000:Int)<=_;decide⟩
  ·rw[bq.1 ho];exact⟨aHe 3,by show 1<=_;decide,by show(500:Int)<=_;decide⟩)]
 simp only[Gy,e];rfl
def CG(C:At):Prop:=qg C jw/\(ez C).Nodup
theorem adA:CG jw:=⟨qg.refl _,agC.vu.1⟩
theorem CG.can{C:At}(h:CG C):CG (eH C):=⟨(tR h.2).1.trans h.1,(tR h.2).2⟩
theorem avp{m m':Bs}{k k':Int×Unit}(h:¬m=m'):¬((m,k):cC)=(m',k'):=λe=>h (bE (λo:cC=>o.1) e)
theorem abf{m m':Bs}{k k':Int×Unit}(h:¬m=m'):(m,k) ∉ ([(m',k')]:List cC):=λe=>avp h (bq.1 e)
theorem atB{x y:cC}(h:¬x=y):aao x y=aR:=by
 cases e:aao x y with
 |false=>rfl
 |true=>exact absurd ((Ni _ _).1 e) h
theorem alv(x:cC):aao x x=aT:=(Ni _ _).2 rfl
section
variable {a b:dS} {ia ib:Bs} {C:At}
theorem eg.c1(T:eg a b ia ib)(hC:CG C){h:Int}(h1:1<=h)(h2:h<=1048576):dL a h C=(90,0):=T.aJp h1 h2 ((hC.1 _).trans g0) ((hC.1 _).trans (aJs ia _ T.aDy))
theorem eg.f1(T:eg a b ia ib)(hC:CG C):qT a 1 C 90:=by have c:=T.c1 hC (h:=1) fb fb;have:=Ad (t:=a) (h:=1) (a:=C) (by rw[c]);rw[c]at this;exact this
theorem eg.g1(T:eg a b ia ib)(hC:CG C):cq bP (ia,((0:Int),())) (cm a 1 C)=al (((910:Int),(LK 3,())),((1:Int),())):=by have hm:=T.aIG;have ho:=T.aIK;have:=(T.f1 hC).new (k:=0) (by rw[hm];exact Nat.one_pos) (by rw[ho];exact Nat.one_pos);simp only[hm,ho,List.getElem_cons_zero]at this;exact this
theorem eg.n1(T:eg a b ia ib)(hC:CG C):cq bP (ib,((0:Int),())) (cm a 1 C)=aJ:=by rw[wN hC.2 (by rw[T.aI6];exact abf T.aGb) (by rw[T.aIG];exact abf T.aHh)];exact(hC.1 _).trans (aJs ib _ T.aGb)
theorem eg.c2(T:eg a b ia ib)(hC:CG C){h:Int}(h1:1<=h)(h2:h<=1048576):dL b h (cm a 1 C)=(80,0):=T.aJq h1 h2 ⟨fb,h1⟩ (T.g1 hC) (T.n1 hC)
theorem eg.nd(T:eg a b ia ib)(hC:CG C):(ez (cm a 1 C)).Nodup:=fE hC.2
theorem eg.f2(T:eg a b ia ib)(hC:CG C):qT b 1 (cm a 1 C) 80:=by have c:=T.c2 hC (h:=1) fb fb;have:=Ad (t:=b) (h:=1) (a:=cm a 1 C) (by rw[c]);rw[c]at this;exact this
theorem eg.c3(T:eg a b ia ib)(hC:CG C):dL a 1 (cm b 1 (cm a 1 C))=(0,5):=by
 obtain⟨w,hw⟩:=T.aF5;refine aHI T.aEL fb fb hw ?_
 rw[wN (T.nd hC) (by rw[T.aI7];exact abf (λe=>T.aDy e.symm)) (by rw[T.aJY];exact abf (λe=>T.aGb e.symm))];exact(T.f1 hC).aBX hC.2 (by rw[T.aI6];exact bq.2 rfl)
theorem eg.aCb(T:eg a b ia ib){wZ:pX}{l:List cC}(h:wZ.2.2.2.2.1=l):BM wZ a=l.any (aao (z32,((0:Int),()))):=by obtain⟨w,hw⟩:=T.aF5;unfold BM J1;rw[hw,h,gb,kG,uu]
theorem eg.aEY(T:eg a b ia ib){wZ:pX}{l:List cC}(h:wZ.2.2.2.2.1=l):BM wZ b=l.any (aao (ia,((0:Int),()))):=by obtain⟨w,hw⟩:=T.gU;unfold BM J1;rw[hw,h,gb,kG,uu]
theorem eg.walk(T:eg a b ia ib)(hC:CG C){wZ:pX}(h:wZ.2.2.2.2.1=[]):lK wZ 1 [a,b] C=(2,170,0):=by
 have hC:=hC.can;have e1:BM wZ a=aR:=(T.aCb h).trans rfl;have e2:BM wZ b=aR:=(T.aEY h).trans rfl;unfold lK;have c1:=T.c1 hC (h:=1) fb fb;have c2:=T.c2 hC (h:=1) fb fb;have e:fM wZ 1 [a,b] 0 0 (eH C)= .inr 170:=by rw[fM,e1,if_neg fb,c1,if_neg (λe=>e rfl),fM,e2,if_neg fb,c2,if_neg (λe=>e rfl),fM];rfl
 rw[e];rfl
theorem eg.aEc(T:eg a b ia ib){wZ:pX}(h:wZ.2.2.2.2.1=[(ia,((0:Int),()))])(hC:CG C):(lK wZ 1 [a,b] C).2.2=14:=by
 have hC:=hC.can;have e1:BM wZ a=aR:=by rw[T.aCb h,gb,kG,atB (avp λe=>T.aDy e.symm)];rfl
 have e2:BM wZ b=aT:=by rw[T.aEY h,gb,alv];rfl
 unfold lK;have c1:=T.c1 hC (h:=1) fb fb;rw[fM,e1,if_neg fb,c1,if_neg (λe=>e rfl),fM,e2,if_pos rfl]
def wA(n:Nat)(a:dS)(ia:Bs):Nat×yJ:=(n,(a,(ia,(90,(36,())))))
def wB(n:Nat)(b:dS)(ib:Bs):Nat×yJ:=(n,(b,(ib,(80,(36,())))))
variable {n k:Nat}
theorem aDP:yi [al (wA n a ia)]=[(ia,al (wA n a ia))]:=rfl
theorem eg.aDQ(T:eg a b ia ib):yi [al (wA n a ia),al (wB k b ib)]=[(ia,al (wA n a ia)),(ib,al (wB k b ib))]:=by show ff tH ib (al (wB k b ib)) [(ia,al (wA n a ia))]=_;rw[zj,if_neg (by rw[aan,bI T.aHh];decide),NZ]
theorem Ys{q:axL}{t:dS}{i:kj}{m:Mk}{j:Nat}(h:t.1=[i]):jj q (j+1) t m=match Rb q i with
   |none=>al m
   |some x=>if iQ m (al x)=aT then al m else if i.1.2.1 < 0 then al m else if(x.2.1.2.1.length:Int)<=i.1.2.1 then al m else jj q j x.2.1 (ff di (al x) aT m):=by
 obtain⟨l,o⟩:=t;have h:l=[i]:=h;subst h;rfl
def akR(a b:dS)(ia ib:Bs)(q:axL)(n:Nat):Prop:=cq tH z32 q=aJ/\cq tH ia q=al (al (wA n a ia))
theorem eg.r1(T:eg a b ia ib):akR a b ia ib (yi [al (wA n a ia)]) n:=by rw[aDP];exact⟨by rw[eT,if_neg (by rw[aan,bI (λe=>T.aDy e.symm)];decide),ua],by rw[eT,if_pos (by rw[aan,bf rfl])]⟩
theorem eg.r2(T:eg a b ia ib):akR a b ia ib (yi [al (wA n a ia),al (wB k b ib)]) n:=by rw[T.aDQ];exact⟨by rw[eT,if_neg (by rw[aan,bI (λe=>T.aDy e.symm)];decide),eT,if_neg (by rw[aan,bI (λe=>T.aGb e.symm)];decide),ua],by rw[eT,if_pos (by rw[aan,bf rfl])]⟩
variable {q:axL}
theorem eg.mA(T:eg a b ia ib)(h:cq tH z32 q=aJ)(j:Nat)(m:Mk):jj q (j+1) a m=al m:=by
 obtain⟨w,hw⟩:=T.aF5;have e:Rb q ((z32,((0:Int),())),w)=aJ:=by unfold Rb;rw[h];rfl
 rw[Ys hw,e]
theorem eg.mB(T:eg a b ia ib)(h:akR a b ia ib q n)(j:Nat):jj q (j+2) b []=al [(al (wA n a ia),aT)]:=by
 obtain⟨w,hw⟩:=T.gU;have e:Rb q ((ia,((0:Int),())),w)=al (wA n a ia):=by unfold Rb;rw[h.2];rfl
 rw[Ys hw,e];show(if iQ [] (al (wA n a ia))=aT then al [] else if(0:Int) < 0 then al [] else if(a.2.1.length:Int)<=0 then al [] else jj q (j+1) a (ff di (al (wA n a ia)) aT []))=_;rw[apj,if_neg fb,if_neg fb,if_neg (by rw[T.aIK];decide),T.mA h.1];rfl
theorem eg.aA(T:eg a b ia ib){row:List eC}(h:cq tH z32 (yi row)=aJ):lU row a=[]:=by unfold lU;rw[T.mA h];rfl
theorem eg.aB(T:eg a b ia ib){row:List eC}(h:akR a b ia ib (yi row) n):lU row b=[(al (wA n a ia),aT)]:=by unfold lU;rw[T.mB h];rfl
theorem ad9{row:List eC}{t:dS}{j:Nat}(h:(jj (yi row) 3 t []).isSome=aT)(h2:lU row t=[]):sP row (j+1) t=al 1:=by rw[sP,if_pos h,h2]
theorem atq{row:List eC}{t:dS}{x:Nat×yJ}{j:Nat}{d:Int}(h:(jj (yi row) 3 t []).isSome=aT)(h2:lU row t=[(al x,aT)])(h3:sP row j x.2.1=al d):sP row (j+1) t=al (bV .i64 (imax 0 d) 1):=by rw[sP,if_pos h,h2];simp only[h3]
theorem eg.one(T:eg a b ia ib):arH (wA n a ia)/\arH (wB k b ib):=⟨⟨T.ta,T.aEL,T.la.1⟩,T.tb,T.aGg,T.lb.1⟩
theorem eg.aIZ(T:eg a b ia ib):El [al (wA n a ia)]:=⟨dG rfl,λx hx=>⟨_,bq.1 hx,(T.one (n:=n) (k:=0)).1⟩⟩
theorem eg.aI0(T:eg a b ia ib):El [al (wA n a ia),al (wB k b ib)]:=⟨dG rfl,λx hx=>by
 rcases cg.1 hx with h | h
 ·exact⟨_,h,(T.one (n:=n) (k:=k)).1⟩
 ·exact⟨_,bq.1 h,(T.one (n:=n) (k:=k)).2⟩⟩
theorem eg.aDZ(T:eg a b ia ib)(l:List cC):jl a l=l.any (aao (z32,((0:Int),()))):=by obtain⟨w,hw⟩:=T.aF5;unfold jl aqR;rw[hw,gb,kG,uu]
theorem eg.aI5(T:eg a b ia ib)(l:List cC):jl b l=l.any (aao (ia,((0:Int),()))):=by obtain⟨w,hw⟩:=T.gU;unfold jl aqR;rw[hw,gb,kG,uu]
theorem sq.zero{C:At}(hC:CG C)(hp:C.Perm jw):sq 300 0 C []:=by
 have hg:Na jw:=agC.vu;exact⟨hg.perm hp.symm,aF _,aP _,λst h=>(by cases h),by
  have e:iI C=iI jw:=yC hp;rw[e,ax3];decide,by rw[hp.length_eq];show 2<=_;decide⟩
theorem eg.aCs(T:eg a b ia ib)(hC:CG C):Eg 1 [] a 0 C []=(90,0):=by show dL a 1 (eH C)=_;exact T.c1 hC.can fb fb
theorem eg.aCt(T:eg a b ia ib)(hC:CG C):Eg 1 [al (wA n a ia)] b 0 C []=(80,0):=by
 unfold Eg aDp;rw[T.aB T.r1];show dL b 1 (I7 1 [(al (wA n a ia),aT)] (0,eH C,[]) (al (wA n a ia))).2.1=_;have hm:iQ [(al (wA n a ia),aT)] (al (wA n a ia))=aT:=by unfold iQ;rw[eT,if_pos (beq_refl di _ rfl)];rfl
 rw[show I7 1 [(al (wA n a ia),aT)] (0,eH C,[]) (al (wA n a ia))=En 1 (0,eH C,[]) a from if_pos hm];have c1:=T.c1 hC.can (h:=1) fb fb;rw[show En 1 (0,eH C,[]) a=(1,cm a 1 (eH C),[stepOf a (eH C)]) from if_neg (by show ¬(dL a 1 (eH C)).2≠0;rw[c1];exact λe=>e rfl)];exact T.c2 hC.can fb fb
theorem eg.aHA(T:eg a b ia ib)(hC:CG C)(hp:C.Perm jw):aB2 a (1,([],())) 0 C [] where
 tv:=T.ta
 tok:=T.aEL
 row:=⟨aP _,λx hx=>by cases hx⟩
 new:=rfl
 aGe:=λw hw=>by cases hw
 ah:=λw hw=>by cases hw
 dp:=⟨1,ad9 (by rw[T.mA rfl];rfl) (T.aA rfl),fb⟩
 st:=sq.zero hC hp
 ck:=by show(Eg 1 [] a 0 C []).2=0;rw[T.aCs hC]
 fe:=by show kq a<=(Eg 1 [] a 0 C []).1;rw[T.aCs hC,T.wa];decide
theorem eg.aGk(T:eg a b ia ib)(hC:CG C):avn (1,([],())) a 0 C []=(wA n a ia).2:=by show(a,(wI a,((Eg 1 [] a 0 C []).1,(kq a,()))))=_;rw[T.aCs hC,T.wa,T.aHb];rfl
theorem eg.aHB(T:eg a b ia ib)(hC:CG C)(hp:C.Perm jw):aB2 b (1,([al (wA n a ia)],())) 0 C [] where
 tv:=T.tb
 tok:=T.aGg
 row:=T.aIZ
 new:=by rw[T.aHc];show [al (wA n a ia)].find? (aF2 ib)=aJ;rw[List.find?_cons_of_neg (by show ¬decide (ia=ib)=aT;rw[bI λe=>T.aHh e.symm];decide)];rfl
 aGe:=λw hw=>by obtain rfl:=aO (bq.1 hw);show jl a (dV b)=aR;rw[T.aDZ,T.aI7,gb,kG,atB (avp λe=>T.aDy e.symm)];rfl
 ah:=λw hw=>by obtain rfl:=aO (bq.1 hw);show(jj (yi [al (wA n a ia)]) 3 a []).isSome=aT;rw[T.mA T.r1.1];rfl
 dp:=⟨2,atq (by show(jj (yi [al (wA n a ia)]) 3 b []).isSome=aT;rw[T.mB T.r1];rfl) (T.aB T.r1) (ad9 (by show(jj (yi [al (wA n a ia)]) 3 a []).isSome=aT;rw[T.mA T.r1.1];rfl) (T.aA T.r1.1)),fb⟩
 st:=sq.zero hC hp
 ck:=by show(Eg 1 [al (wA n a ia)] b 0 C []).2=0;rw[T.aCt hC]
 fe:=by show kq b<=(Eg 1 [al (wA n a ia)] b 0 C []).1;rw[T.aCt hC,T.wb];decide
theorem eg.aGl(T:eg a b ia ib)(hC:CG C):avn (1,([al (wA n a ia)],())) b 0 C []=(wB k b ib).2:=by show(b,(wI b,((Eg 1 [al (wA n a ia)] b 0 C []).1,(kq b,()))))=_;rw[T.aCt hC,T.wb,T.aHc];rfl
theorem afj(h:¬k=n):Ty.beq di (al (wA n a ia)) (al (wB k b ib))=aR/\Ty.beq di (al (wB k b ib)) (al (wA n a ia))=aR:=by
 constructor
 ·cases e:Ty.beq di (al (wA n a ia)) (al (wB k b ib)) with
  |false=>rfl
  |true=>exact absurd (bE (λx:Nat×yJ=>x.1) (aO (beq_eq di _ _ rfl e))) λx=>h x.symm
 ·cases e:Ty.beq di (al (wB k b ib)) (al (wA n a ia)) with
  |false=>rfl
  |true=>exact absurd (bE (λx:Nat×yJ=>x.1) (aO (beq_eq di _ _ rfl e))) h
theorem Ri(x:eC):Ty.beq di x x=aT:=beq_refl di x rfl
theorem Kg{bar:List cC}{pk mk:Mk}{x:eC}{S:Bt}{w:Nat×yJ}(h1:iQ pk (al w)=aR)(h2:¬(Ty.beq di (al w) x=aR/\iQ mk (al w)=aR)):Ee bar pk mk x S (al w)=(S.1 && !jl w.2.1 bar,S.2.1+1,(bV .i64 S.2.2.1.1 w.2.2.2.1,(bV .i64 S.2.2.1.2.1 w.2.2.2.2.1,S.2.2.1.2.2)),S.2.2.2++ [al w]):=
 (if_neg (by rw[h1];decide)).trans (if_neg h2)
theorem adx{bar:List cC}{pk mk:Mk}{x y:eC}{S:Bt}(h1:iQ pk y=aT\/(Ty.beq di y x=aR/\iQ mk y=aR)):Ee bar pk mk x S y=S:=by
 unfold Ee;by_cases h0:iQ pk y=aT
 ·rw[if_pos h0]
 ·rw[if_neg h0,if_pos (h1.resolve_left h0)]
theorem Lx{x:eC}{m:Mk}:iQ ((x,aT)::m) x=aT:=by unfold iQ;rw[eT,if_pos (Ri x)];rfl
theorem TM{x y:eC}{m:Mk}(h:Ty.beq di x y=aR):iQ ((y,aT)::m) x=iQ m x:=by unfold iQ;rw[eT,if_neg (by rw[h];decide)]
variable {bar:List cC}
theorem eg.aCn(T:eg a b ia ib)(h:¬k=n):mH bar [al (wA n a ia),al (wB k b ib)] [] (wA n a ia)=(!jl a bar,1,(90,(36,())),[al (wA n a ia)]):=by unfold mH;rw[show(wA n a ia).2.1=a from rfl,T.aA T.r2.1,aY,aY,dd,adx (y:=al (wB k b ib)) (.inr ⟨(afj h).2,rfl⟩),Kg (w:=wA n a ia) rfl (λe=>by rw[Ri]at e;cases e.1)];simp only[cH,aV];exact bE (λz:Bool=>(z,1,(90,(36,())),[al (wA n a ia)])) rfl
theorem eg.aCo(T:eg a b ia ib)(h:¬k=n):mH bar [al (wA n a ia),al (wB k b ib)] [] (wB k b ib)=(!jl a bar && !jl b bar,2,(170,(72,())),[al (wA n a ia),al (wB k b ib)]):=by unfold mH;rw[show(wB k b ib).2.1=b from rfl,T.aB T.r2,aY,aY,dd,Kg (w:=wB k b ib) rfl (λe=>by rw[Ri]at e;cases e.1),Kg (w:=wA n a ia) rfl (λe=>by rw[Lx]at e;cases e.2)];simp only[cH,aV];rfl
theorem eg.aHH(T:eg a b ia ib)(h:¬k=n):mH bar [al (wA n a ia),al (wB k b ib)] [(al (wA n a ia),aT)] (wB k b ib)=(!jl b bar,1,(80,(36,())),[al (wB k b ib)]):=by unfold mH;rw[show(wB k b ib).2.1=b from rfl,T.aB T.r2,aY,aY,dd,Kg (w:=wB k b ib) ((TM (afj h).2).trans rfl) (λe=>by rw[Ri]at e;cases e.1),adx (y:=al (wA n a ia)) (.inl Lx)];simp only[cH,aV];rfl
theorem rD{room:Int}{row:List eC}{pk:Mk}{B:axZ}{w:Nat×yJ}(h:iQ pk (al w)=aT\/(mH bar row pk w).1=aR\/¬(mH bar row pk w).2.2.1.2.1<=room\/(B.1.isNone=aR/\X2 (al w,((mH bar row pk w).2.2.2,(mH bar row pk w).2.2.1)) B=aR)):z6 room bar row pk B (al w)=B:=by
 unfold z6;split
 ·rfl
 rename_i h0;rcases h with h | h | h | ⟨h,h'⟩
 ·exact absurd h h0
 ·simp only;rw[if_neg (by rw[h];decide)]
 ·simp only;split <;> rfl
 ·simp only;split
  ·split
   ·rw[if_neg (by rw[h];decide),if_neg (by rw[h'];decide)]
   ·rfl
  ·rfl
theorem XH{room:Int}{row:List eC}{pk:Mk}{B:axZ}{w:Nat×yJ}(h0:iQ pk (al w)=aR)(h1:(mH bar row pk w).1=aT)(h2:(mH bar row pk w).2.2.1.2.1<=room)(h3:B.1.isNone=aT):z6 room bar row pk B (al w)=(al w,((mH bar row pk w).2.2.2,(mH bar row pk w).2.2.1)):=
 (if_neg (by rw[h0];decide)).trans ((if_pos h1).trans ((if_pos h2).trans (if_pos h3)))
theorem N9{room:Int}{row:List eC}{pk:Mk}{out:List dS}{f:Nat}(h:(iX room bar row pk).1=aJ):jI bar row (f+1) room pk out=al out:=by rw[jI,h]
theorem amm{room:Int}{row:List eC}{pk:Mk}{out:List dS}{f:Nat}{w:Nat×yJ}{B:(List eC)×(Int×(Int×Unit))}(h:iX room bar row pk=(al w,B)):jI bar row (f+1) room pk out=jI bar row f (dM .i64 room B.2.2.1) (zJ B.1 pk out).2.1 (zJ B.1 pk out).2.2:=by rw[jI,h]
theorem ac7{room:Int}{pk:Mk}{x y:eC}:iX room bar [x,y] pk=z6 room bar [x,y] pk (z6 room bar [x,y] pk (aJ,([],(0,(0,())))) x) y:=rfl
theorem eg.aGh(T:eg a b ia ib)(h:¬k=n):jI [] [al (wA n a ia),al (wB k b ib)] 100 3900 [] []=al [a,b]:=by
 have s1:jl a []=aR:=T.aDZ [];have s2:jl b []=aR:=T.aI5 [];have hA:=T.aCn (bar:=[]) h;have hB:=T.aCo (bar:=[]) h;have hC:=T.aHH (bar:=[]) h;rw[s1]at hA hB;rw[s2]at hB hC;have b1:iX 3900 [] [al (wA n a ia),al (wB k b ib)] []=(al (wA n a ia),([al (wA n a ia)],(90,(36,())))):=by rw[ac7,XH (w:=wA n a ia) rfl (by rw[hA];rfl) (by rw[hA];show(36:Int)<=3900;decide) rfl,hA,rD (w:=wB k b ib) (.inr (.inr (.inr ⟨rfl,by rw[hB];rfl⟩)))]
 have b2:iX 3864 [] [al (wA n a ia),al (wB k b ib)] [(al (wA n a ia),aT)]=(al (wB k b ib),([al (wB k b ib)],(80,(36,())))):=by rw[ac7,rD (w:=wA n a ia) (.inl Lx),XH (w:=wB k b ib) ((TM (afj h).2).trans rfl) (by rw[hC];rfl) (by rw[hC];show(36:Int)<=3864;decide) rfl,hC]
 have t2:zJ [al (wB k b ib)] [(al (wA n a ia),aT)] [a]=(2,[(al (wA n a ia),aT),(al (wB k b ib),aT)],[a,b]):=by show(2,ff di (al (wB k b ib)) aT [(al (wA n a ia),aT)],[a,b])=_;rw[zj,if_neg (by rw[(afj h).2];decide),NZ]
 have b3:iX 3828 [] [al (wA n a ia),al (wB k b ib)] [(al (wA n a ia),aT),(al (wB k b ib),aT)]=(aJ,([],(0,(0,())))):=by rw[ac7,rD (w:=wA n a ia) (.inl Lx),rD (w:=wB k b ib) (.inl ((TM (afj h).2).trans Lx))]
 rw[amm b1];show jI [] _ 99 3864 [(al (wA n a ia),aT)] [a]=_;rw[amm b2,t2];show jI [] _ 98 3828 _ _=_;rw[N9 (by rw[b3])]
theorem eg.aGi(T:eg a b ia ib)(h:¬k=n):jI [] [al (wA n a ia),al (wB k b ib)] 100 0 [] []=al []:=by
 have hA:=T.aCn (bar:=[]) h;have hB:=T.aCo (bar:=[]) h;refine N9 ?_
 rw[ac7,rD (w:=wA n a ia) (.inr (.inr (.inl (by rw[hA];show ¬(36:Int)<=0;decide)))),rD (w:=wB k b ib) (.inr (.inr (.inl (by rw[hB];show ¬(72:Int)<=0;decide))))]
theorem eg.aGj(T:eg a b ia ib)(h:¬k=n):jI [(z32,((0:Int),()))] [al (wA n a ia),al (wB k b ib)] 100 3900 [] []=al []:=by
 have s1:jl a [(z32,((0:Int),()))]=aT:=by rw[T.aDZ,gb,alv];rfl
 have hA:=T.aCn (bar:=[(z32,((0:Int),()))]) h;have hB:=T.aCo (bar:=[(z32,((0:Int),()))]) h;rw[s1]at hA hB;refine N9 ?_
 rw[ac7,rD (w:=wA n a ia) (.inr (.inl (by rw[hA];rfl))),rD (w:=wB k b ib) (.inr (.inl (by rw[hB];rfl)))]
theorem eg.pg(T:eg a b ia ib)(hb:bar.length<=1000):Xx bar [al (wA n a ia),al (wB k b ib)]:=⟨T.aI0,hb,λw hw=>by
 rcases cg.1 hw with e | e
 ·obtain rfl:=aO e;show(jj _ 3 a []).isSome=aT;rw[T.mA T.r2.1];rfl
 ·obtain rfl:=aO (bq.1 e);show(jj _ 3 b []).isSome=aT;rw[T.mB T.r2];rfl⟩
end
end
section
def aoZ:Int->Prop:=λk=>nY k
def alQ:Int->Lk:=λk=>LK k
def ET:Fs Tryz.prog aoZ bF alQ:=gg 17 Tryz.f17 (λkv=>([.d tu kv],[])) (λx=>⟨.d ahh x,[],[]⟩) [al tu] [LM]
theorem auz(kv)(k:K1 R):ET.A kv k=aq (Fg.call kv) λx1=>k (ET.out ([([x1],(0,(0,(0,()))))],())):=cT
theorem auA:ET.Ok:=by intro k hk;rw[auz,Ca (d:=k) hk];rfl
theorem NR:ET.RS:=rE [.d tu] ET
def aeV:=ET.gm auA
abbrev amc:=cC×Int×Int×Int×Int
def apM:amc->Prop:=λ(o,amt,k,to,jG)=>(Sm o.1/\o.2.1=0)/\qk 0 (dM .i64 amt jG)=aT/\KG k/\nY to
def az8:amc->dS:=λ(o,amt,k,to,jG)=>UA o.1 (dM .i64 amt jG) to k
def HK:Fs Tryz.prog apM bF az8:=gg 19 Tryz.f19 (λ(fromv,amount,kv,to,jG)=>([.d bP fromv,.d ti amount,.d tu kv,.d tu to,.d ti jG],[])) (λx=>⟨.d fg x,[],[]⟩) [al bP,al ti,al tu,al tu,al ti] [aeV,axt]
theorem avB(fromv amount kv to jG)(k:K1 R):HK.A (fromv,amount,kv,to,jG) k=aq (ET.call to) λx1=>aq (vV.call (([(fromv,((0,(([]:List Sg),(0,()))),()))],([((dM .i64 amount jG),(x1,()))],(0,()))),0,0,[kv],0)) λx2=>k (HK.out x2.1):=cT
theorem avC:HK.Ok:=by
 rintro⟨⟨m,z,u⟩,amt,k,to,jG⟩ ⟨⟨hm,hz⟩,hx,hk,ht⟩;have hz:z=0:=hz;subst hz;rw[avB,NR (d:=to) ht];simp only[ae,bF,alQ];refine(bE (λz=>aq z _) (aGu (m:=m) (x:=dM .i64 amt jG) (to:=to) (k:=k) hm hx hk)).trans ?_
 rfl
theorem YJ:HK.RS:=rE [.d bP,.d ti,.d tu,.d tu,.d ti] HK
def avD:=HK.gm avC
def aDI:Bs:=[1,0,0,0,0,0,0,0,0,0,0,0,0,0,0,0,0,0,0,0,0,0,0,0,0,0,0,0,0,0,0,0]
def pq(l:List dS)(fill:Int)(bar:List cC):pX:=(1,(aDI,(l,(fill,(bar,())))))
def aJ0:Bs:=cE (⟨#[98,108,111,99,107]⟩:ByteArray)
def aF3(ia ib:Bs):Bs:=tag aJ0 [dW (dW ((dW (dW [] 1++aDI) 2++ia)++ib) 100) 0]
theorem eg.aF3{a b:dS}{ia ib:Bs}(T:eg a b ia ib):aCg (pq [a,b] 100 [])=Ab.aF3 ia ib:=by unfold aCg aHG;show tag aJ0 [dW (dW ((dW (dW [] 1++aDI) 2++wI a)++wI b) 100) 0]=_;rw[T.aHb,T.aHc];rfl
theorem aIJ:¬aF3 iA iB=aCg (pq [] 4000 []):=by decide+kernel
section
variable {a b:dS} {ia ib:Bs} {C:At}
theorem eg.bk(T:eg a b ia ib){l:List dS}(hl:l=[a,b]\/l=[]){fill:Int}{bar:List cC}(hf:fill<=1000000)(hb:bar.length<=1000/\∀o∈bar,ahj o):akM (pq l fill bar):=by
 have hv:l.length<=2/\∀t∈l,vW t/\iM t=aT:=by
  rcases hl with rfl | rfl
  ·refine⟨dG rfl,λt ht=> ?_⟩;rcases cg.1 ht with rfl | ht
   ·exact⟨T.ta,T.aEL⟩
   ·rw[bq.1 ht];exact⟨T.tb,T.aGg⟩
  ·exact⟨aP _,λt ht=>by cases ht⟩
 exact⟨⟨⟨by show l.length<=_;omega,λt ht=>(hv.2 t ht).1⟩,⟨by show(1:Int)<=_;decide,rfl,by show fill<=_;omega⟩,hb.1,hb.2⟩,by show l.length<=_;omega,λt ht=>jx (jo (hv.2 t ht).2).1.2.1 fb⟩
theorem ave:([]:List cC).length<=1000/\∀o∈([]:List cC),ahj o:=⟨aP _,λo ho=>by cases ho⟩
theorem eg.acE(T:eg a b ia ib)(fill:Int)(bar:List cC):aye (pq [a,b] fill bar)=fill+72:=by show fill+kq a+kq b=_;rw[T.wa,T.wb];omega
theorem abk{l:List dS}{fill:Int}{bar:List cC}:km (pq l fill bar) C=if wE 1 fill=aT then(if 4000 < aye (pq l fill bar) then(0,3) else(lK (pq l fill bar) 1 l C).2) else(0,1):=rfl
theorem eg.aBT(T:eg a b ia ib)(hC:CG C):km (pq [a,b] 100 []) C=(170,0):=by rw[abk,if_pos (show wE 1 100=aT from rfl),T.acE,if_neg fb];rw[T.walk hC rfl]
theorem eg.aDK(T:eg a b ia ib)(hC:CG C):(km (pq [a,b] 100 [(ia,((0:Int),()))]) C).2=14:=by rw[abk,if_pos (show wE 1 100=aT from rfl),T.acE,if_neg fb];exact T.aEc rfl hC
theorem eg.avz(T:eg a b ia ib):(km (pq [a,b] 3980 []) C).2=3:=by rw[abk,if_pos (show wE 1 3980=aT from rfl),T.acE,if_pos fb]
theorem eg.aJZ(T:eg a b ia ib)(hC:CG C):(ez (cm b 1 (cm a 1 C))).Nodup:=fE (T.nd hC)
theorem eg.aDL(T:eg a b ia ib)(hC:CG C):(km (pq [a,b] 100 []) (cm b 1 (cm a 1 C))).2=5:=by have hn:=T.aJZ hC;have e:=(tR hn).1;rw[abk,if_pos (show wE 1 100=aT from rfl),T.acE,if_neg fb];have e1:BM (pq [a,b] 100 []) a=aR:=(T.aCb rfl).trans rfl;unfold lK;rw[fM,e1,if_neg fb,e.check,T.c3 hC,if_pos fb]
theorem eg.comes(T:eg a b ia ib)(hC:CG C):sy C ([a,b].map λt=>(t,(1:Int))):=by
 refine⟨?_,T.ta,?_,T.tb,trivial⟩
 ·show(dL a 1 C).2=0;rw[T.c1 hC fb fb]
 ·show(dL b 1 (cm a 1 C)).2=0;rw[T.c2 hC fb fb]
theorem eg.st2(T:eg a b ia ib):sq 2 2 (cm b 1 (cm a 1 jw)) [stepOf a jw,stepOf b (cm a 1 jw)]:=CD ([a,b].map λt=>(t,(1:Int))) (n:=0) (a:=jw) (s:=[]) rfl agC (T.comes adA)
theorem eg.aI8(T:eg a b ia ib):iI (cm b 1 (cm a 1 jw))=1330:=by rw[((T.f2 adA).sum (T.nd adA)).1,((T.f1 adA).sum adA.2).1,ax3];rfl
theorem eg.wZ(T:eg a b ia ib):asf (pq [a,b] 100 []) (0,jw,[])=(2,cm b 1 (cm a 1 jw),[stepOf a jw,stepOf b (cm a 1 jw)]):=by show En 1 (En 1 (0,jw,[]) a) b=_;have c1:=T.c1 adA (h:=1) fb fb;have c2:=T.c2 adA (h:=1) fb fb;rw[show En 1 (0,jw,[]) a=(1,cm a 1 jw,[stepOf a jw]) from if_neg (by show ¬(dL a 1 jw).2≠0;rw[c1];exact λe=>e rfl)];exact if_neg (by show ¬(dL b 1 (cm a 1 jw)).2≠0;rw[c2];exact λe=>e rfl)
theorem eg.aK7(T:eg a b ia ib):∃A,OK 2 (2,cm b 1 (cm a 1 jw),[stepOf a jw,stepOf b (cm a 1 jw)])=(aT,0,A,[stepOf a jw,stepOf b (cm a 1 jw)])/\A.Perm jw:=by obtain⟨A,h1,h2,h3,_⟩:=zQ 2 ([a,b].map λt=>(t,(1:Int))) (a0:=jw) (a:=cm b 1 (cm a 1 jw)) (n:=2) (s:=[stepOf a jw,stepOf b (cm a 1 jw)]) (p:=[]) rfl (T.comes adA) adA.2 (T.aJZ adA) (qg.refl _) (aF _) rfl;exact⟨A,h1,h2.perm h3 adA.2⟩
theorem DI.two(T:eg a b ia ib):DI [a,b]:=⟨dG rfl,λt ht=>by
 rcases cg.1 ht with rfl | ht
 ·exact⟨T.ta,jx (jo T.aEL).1.2.1 fb⟩
 ·rw[bq.1 ht];exact⟨T.tb,jx (jo T.aGg).1.2.1 fb⟩⟩
theorem DI.nil:DI []:=⟨aP _,λt ht=>by cases ht⟩
theorem ag6(wZ:pX)(h:Int)(a:At):lK wZ h [] a=(0,0,0):=rfl
theorem ai0{l:List dS}{fill:Int}{bar:List cC}{k:Int}{row:List eC}{D:At}(h0:wE 1 fill=aT)(hg:Xx bar row)(hp:jI bar row 100 (dM .i64 4000 fill) [] []=al l)(hw:DI l)(hk:lK qf.zero 1 l jw=(k,(lK qf.zero 1 l jw).2))(hl:l.take k.toNat=l):
  BQ.call (aDI,1,fill,bar,0,jw,[],(1,(row,())),0,D,[])=al (pq l fill bar,0,0,jw,[],(1,(row,())),0,D,[]):=by
 have e:P8 (1,(row,())) bar fill=l:=by show(jI bar row 100 (dM .i64 4000 fill) [] []).getD []=l;rw[hp];rfl
 rw[XL (d:=(aDI,1,fill,bar,0,jw,[],(1,(row,())),0,D,[])) λ_=>⟨⟨hg,by show(jI bar row 100 (dM .i64 4000 fill) [] []).isSome=aT;rw[hp];rfl⟩,by show DI (P8 (1,(row,())) bar fill);rw[e];exact hw,agC.mono (aP _)⟩];simp only[bF,ZG,if_pos h0,aBK,e];rw[hk];simp only[hl];rfl
theorem eg.has(T:eg a b ia ib){l:List dS}(hl:l=[a,b]\/l=[]){fill:Int}(hf:fill<=1000000):Io.call (pq l fill [])=al (aCg (pq l fill [])):=asb (d:=pq l fill []) (T.bk hl hf ave).1
theorem ayS{n k:Nat}{w:yJ}(h:k ∉ [al (n,w)].flatMap (ij di)):¬k=n:=λe=>h (by
 subst e;rw[du];exact List.mem_append_left _ aL)
end
abbrev tr:=Int×Int×Int×Int×Int×Int×Bool×Bool×pX×pX×Nat×(List (cC×eU))×(List cZ)
def DZ:tr->AS:=λ(kv,l,wv,m,n,total,back,one,n7,n9,QZ,n32,rQ)=>⟨([cw,fI 32]++bg 5 ([fI 7,cw,fI 9]++bg 8 ([.d ti kv,cw,.d ti l,.d ti wv,.d ti m,.d ti n,.d ti total,.d .bool back,.d .bool one]++bg 174 []))),[],(bK 7 ([dK (.d qf n7),[],dK (.d qf n9)]++bK 22 ([[dH (.pr (.cP (.new 32 1) 0) (.pr (.b8 (.new 32 2) 1 [] 0 0 QZ) kO)),dH (.mp bP eR n32),.obj 1 aR (.vec 139 cD rQ)]]++bK 168 [])))⟩
def FQ:RK:=RK.of {bu:=[1,7,9,18,20,21,22,23,24,25,26],sites:=[7,9,32]} DZ
def eZ:tr->Option tr:=λx=>(FQ).aEJ .normal (DZ x)
theorem G9(x:tr):eZ x=al x:=RK.aDE (oE [.d ti,.d ti,.d ti,.d ti,.d ti,.d ti,.d .bool,.d .bool,.d qf,.d qf,.n,.d (.slice (.pair bP eR)),.d (.slice cD)] λ_=>cT) x
def agz:Unit->Prop:=λ_=>True
def Za:Unit->Bool:=λ_=>aT
def ki:Fs Tryz.prog agz bF Za:=gg 5 Tryz.f5 (λ_=>([],[])) (λx=>⟨.d .bool x,[],[]⟩) [] [aeV,ad2,aAo,avD,OG,av6,asi,XI,adb,ase,ada,ad4,adl,ayh] {aBG:=tK [(28,FQ)]}
theorem akf(d)(k:K1 R):ki.A d k=aq (ET.call 2) λart=>aq (ET.call 3) λamV=>aq (rh [(1000,(art,())),(500,(amV,()))]) λakI=>aS akI.isLeft (aq akI.getLeft? λaLb=>k (ki.out aR)) (aq akI.getRight? λaGC=>aq (Oc (1,0,aGC.1,aGC.2)) λtP=>aS tP.isLeft (aq tP.getLeft? λaLd=>k (ki.out aR)) (aq tP.getRight? λakJ=>aq (HK.call (((ai 32 0),(0,())),1000,2,3,90)) λaEf=>aq (tid.call aEf) λaHn=>aq (HK.call ((aHn,(0,())),910,3,2,80)) λaLh=>QP (Ob (aEf,akJ.2.2.2.1,akJ.2.2.2.2.1,akJ.2.2.2.2.2.1,akJ.2.2.2.2.2.2)) λaB0=>QP (Ob (aLh,aB0.2.1,aB0.2.2.1,aB0.2.2.2.1,aB0.2.2.2.2)) λaB1=>aq (BQ.call ([1,0,0,0,0,0,0,0,0,0,0,0,0,0,0,0,0,0,0,0,0,0,0,0,0,0,0,0,0,0,0,0],1,100,([]:List cC),akJ.1,akJ.2.1,akJ.2.2.1,aB1.2.1,aB1.2.2.1,aB1.2.2.2.1,aB1.2.2.2.2)) λGY=>aq (BQ.call ([1,0,0,0,0,0,0,0,0,0,0,0,0,0,0,0,0,0,0,0,0,0,0,0,0,0,0,0,0,0,0,0],1,4000,([]:List cC),GY.2.2.1,GY.2.2.2.1,GY.2.2.2.2.1,GY.2.2.2.2.2.1,GY.2.2.2.2.2.2.1,GY.2.2.2.2.2.2.2.1,GY.2.2.2.2.2.2.2.2)) λZs=>aq (BQ.call ([1,0,0,0,0,0,0,0,0,0,0,0,0,0,0,0,0,0,0,0,0,0,0,0,0,0,0,0,0,0,0,0],1,100,[((ai 32 0),(0,()))],Zs.2.2.1,Zs.2.2.2.1,Zs.2.2.2.2.1,Zs.2.2.2.2.2.1,Zs.2.2.2.2.2.2.1,Zs.2.2.2.2.2.2.2.1,Zs.2.2.2.2.2.2.2.2)) λaA8=>aq (BQ.call ([1,0,0,0,0,0,0,0,0,0,0,0,0,0,0,0,0,0,0,0,0,0,0,0,0,0,0,0,0,0,0,0],0,100,([]:List cC),aA8.2.2.1,aA8.2.2.2.1,aA8.2.2.2.2.1,aA8.2.2.2.2.2.1,aA8.2.2.2.2.2.2.1,aA8.2.2.2.2.2.2.2.1,aA8.2.2.2.2.2.2.2.2)) λaHp=>aq (vX.call (GY.1,aHp.2.2.1,aHp.2.2.2.1,aHp.2.2.2.2.1)) λaGJ=>aq (tid.call aEf) λaER=>aq (BO.call ((GY.1.1,(GY.1.2.1,(GY.1.2.2.1,(GY.1.2.2.2.1,([(aER,(0,()))],GY.1.2.2.2.2.2))))),aGJ.2.2.1,aGJ.2.2.2.1,aGJ.2.2.2.2)) λacz=>aq (BO.call ((GY.1.1,(GY.1.2.1,(GY.1.2.2.1,(3980,GY.1.2.2.2.2)))),acz.2.1,acz.2.2.1,acz.2.2.2)) λamX=>aq (acE.call GY.1) λahi=>aq (wC.call (GY.1,amX.2.1,amX.2.2.1,amX.2.2.2)) λacA=>aq (BO.call (GY.1,acA.2.1,acA.2.2.1,acA.2.2.2)) λamY=>aq (y4.call (amY.2.1,amY.2.2.1,amY.2.2.2)) λamZ=>aq (wD.call (GY.1,amZ.2.1,amZ.2.2.1,amZ.2.2.2)) λzU=>aq (aS (HA aB0.1 0) (aS (HA aB1.1 0) (aS (HA GY.2.1 0) (aS (HA (GY.1.2.2.1.length:Int) 2) (aS (HA Zs.2.1 0) (aS (HA (Zs.1.2.2.1.length:Int) 0) (aS (HA aA8.2.1 0) (aS (HA (aA8.1.2.2.1.length:Int) 0) (aS (HA aHp.2.1 1) (aS (aGJ.2.1) (eZ (acz.1,amX.1,ahi,acA.1,amY.1,amZ.1,zU.1,(HA aGJ.1 170),GY.1,Zs.1,zU.2.1,zU.2.2.1,zU.2.2.2)) (eZ (acz.1,amX.1,ahi,acA.1,amY.1,amZ.1,zU.1,aR,GY.1,Zs.1,zU.2.1,zU.2.2.1,zU.2.2.2))) (eZ (acz.1,amX.1,ahi,acA.1,amY.1,amZ.1,zU.1,aR,GY.1,Zs.1,zU.2.1,zU.2.2.1,zU.2.2.2))) (eZ (acz.1,amX.1,ahi,acA.1,amY.1,amZ.1,zU.1,aR,GY.1,Zs.1,zU.2.1,zU.2.2.1,zU.2.2.2))) (eZ (acz.1,amX.1,ahi,acA.1,amY.1,amZ.1,zU.1,aR,GY.1,Zs.1,zU.2.1,zU.2.2.1,zU.2.2.2))) (eZ (acz.1,amX.1,ahi,acA.1,amY.1,amZ.1,zU.1,aR,GY.1,Zs.1,zU.2.1,zU.2.2.1,zU.2.2.2))) (eZ (acz.1,amX.1,ahi,acA.1,amY.1,amZ.1,zU.1,aR,GY.1,Zs.1,zU.2.1,zU.2.2.1,zU.2.2.2))) (eZ (acz.1,amX.1,ahi,acA.1,amY.1,amZ.1,zU.1,aR,GY.1,Zs.1,zU.2.1,zU.2.2.1,zU.2.2.2))) (eZ (acz.1,amX.1,ahi,acA.1,amY.1,amZ.1,zU.1,aR,GY.1,Zs.1,zU.2.1,zU.2.2.1,zU.2.2.2))) (eZ (acz.1,amX.1,ahi,acA.1,amY.1,amZ.1,zU.1,aR,GY.1,Zs.1,zU.2.1,zU.2.2.1,zU.2.2.2))) (eZ (acz.1,amX.1,ahi,acA.1,amY.1,amZ.1,zU.1,aR,GY.1,Zs.1,zU.2.1,zU.2.2.1,zU.2.2.2))) λaru=>aS (aru.2.2.2.2.2.2.2.1) (aS (HA aru.1 14) (aS (HA aru.2.1 3) (aS (HA aru.2.2.1 172) (aS (HA aru.2.2.2.1 0) (aS (HA aru.2.2.2.2.1 5) (aS (HA aru.2.2.2.2.2.1 1330) (aS (aru.2.2.2.2.2.2.1) (aq (y4.call (aru.2.2.2.2.2.2.2.2.2.2.1,aru.2.2.2.2.2.2.2.2.2.2.2.1,aru.2.2.2.2.2.2.2.2.2.2.2.2)) λaLk=>aS (HA aLk.1 1500) (aq (Io.call aru.2.2.2.2.2.2.2.2.1) λaLl=>aq (Io.call aru.2.2.2.2.2.2.2.2.2.1) λaLm=>k (ki.out (!(Ty.beq tH aLl aLm)))) (k (ki.out aR))) (k (ki.out aR))) (k (ki.out aR))) (k (ki.out aR))) (k (ki.out aR))) (k (ki.out aR))) (k (ki.out aR))) (k (ki.out aR))) (k (ki.out aR)))):=cT
theorem akg:ki.Ok:=by
 rintro⟨⟩ _;have T:=aGy;have gJ:=aIJ;have p1:HK.call ((z32,((0:Int),())),1000,2,3,90)=al (UA z32 910 3 2):=YJ (d:=((z32,((0:Int),())),1000,2,3,90)) ⟨⟨axJ,rfl⟩,rfl,k2,fb,fb⟩;have sA:Sm iA:=BF;have p2:HK.call ((iA,((0:Int),())),910,3,2,80)=al (UA iA 830 2 3):=YJ (d:=((iA,((0:Int),())),910,3,2,80)) ⟨⟨sA,rfl⟩,rfl,k3,fb,fb⟩;generalize UA z32 910 3 2=a at T p1;generalize UA iA 830 2 3=b at T p2;generalize iA=ia at T p2 gJ;generalize iB=ib at T gJ;have q1:ET.call 2=al (LK 2):=NR (d:=2) ⟨fb,fb⟩;have q2:ET.call 3=al (LK 3):=NR (d:=3) ⟨fb,fb⟩;have q3:Oc (1,0,jw,[])=al (.inr (0,jw,[],(1,([],())),0,eH jw,[])):=awi (d:=(1,0,jw,[])) (agC.mono (aP _));have hC:CG (eH jw):=adA.can;have hp:(eH jw).Perm jw:=me jw;generalize eH jw=D at q3 hC hp;have q4:tid.call a=al ia:=(GR (d:=a) T.ta).trans (bE al T.aHb);rw[akf,q1,ae,q2,ae];refine(bE (λz=>aq z _) aGc).trans ?_
 simp only[e7,ao,dT,ae];refine(bE (λz=>aq z _) q3).trans ?_
 simp only[e7,ao,dT,ae];refine(bE (λz=>aq z _) p1).trans ?_
 rw[ae,q4,ae];refine(bE (λz=>aq z _) p2).trans ?_
 rw[ae];refine YO (d:=(a,(1,([],())),0,D,[])) (T.aHA hC hp) ⟨_,0,(λh=>by cases h),rfl⟩ λy hy=> ?_
 obtain⟨n,_,rfl⟩:=hy;simp only[Cd,aV];rw[show(al (n,avn (1,([],())) a 0 D []):eC)=al (wA n a ia) from bE (λz=>al (n,z)) (T.aGk (n:=n) hC)];obtain⟨f0,aKp⟩:=NF ([al (wA n a ia)].flatMap (ij di));refine YO (d:=(b,(1,([al (wA n a ia)],())),0,D,[])) (T.aHB hC hp) ⟨_,f0,(λh=>absurd (aKp _ h) (gC _)),rfl⟩ λy hy=> ?_
 obtain⟨k,hk,rfl⟩:=hy;have aFE:¬k=n:=ayS hk;simp only[Cd];rw[show [al (wA n a ia)]++ [(al (k,avn (1,([al (wA n a ia)],())) b 0 D []):eC)]=[al (wA n a ia),al (wB k b ib)] from bE (λz=> [al (wA n a ia),al (k,z)]) (T.aGl (n:=n) (k:=k) hC)];have w2:=T.walk adA (wZ:=qf.zero) rfl;have m1:=ai0 (l:=[a,b]) (fill:=100) (k:=2) (D:=D) rfl (T.pg (n:=n) (k:=k) (bar:=[]) (aP _)) (T.aGh aFE) (DI.two T) (by rw[w2]) rfl;have m2:=ai0 (l:=[]) (fill:=4000) (k:=0) (D:=D) rfl (T.pg (n:=n) (k:=k) (bar:=[]) (aP _)) (T.aGi aFE) DI.nil (by rw[ag6]) rfl;have m3:=ai0 (l:=[]) (fill:=100) (k:=0) (D:=D) rfl (T.pg (n:=n) (k:=k) (bar:=[(z32,((0:Int),()))]) (by show 1<=_;decide)) (T.aGj aFE) DI.nil (by rw[ag6]) rfl;have m4:BQ.call (aDI,0,100,[],0,jw,[],(1,([al (wA n a ia),al (wB k b ib)],())),0,D,[])=al ((0,(ai 32 0,([],(0,([],()))))),1,0,jw,[],(1,([al (wA n a ia),al (wB k b ib)],())),0,D,[]):=XL (d:=(aDI,0,100,[],0,jw,[],(1,([al (wA n a ia),al (wB k b ib)],())),0,D,[])) (λe=>by cases e);have aqJ:sq 500 0 jw []:=agC.mono (aP _);have bX:=T.bk (l:=[a,b]) (.inl rfl) (fill:=100) fb ave;have r1:vX.call (pq [a,b] 100 [],0,jw,[])=al (170,aT,0,jw,[]):=by rw[Cx (d:=(pq [a,b] 100 [],0,jw,[])) ⟨bX,aqJ⟩];simp only[bF,BP,T.aBT adA];rfl
 have r2:BO.call (pq [a,b] 100 [(ia,((0:Int),()))],0,jw,[])=al (14,0,jw,[]):=by rw[Gl (d:=(pq [a,b] 100 [(ia,((0:Int),()))],0,jw,[])) ⟨T.bk (.inl rfl) fb ⟨by show 1<=_;decide,λo ho=>by rw[bq.1 ho];exact⟨T.la.1,by show(0:Int)<=_;decide⟩⟩,aqJ⟩];simp only[bF,J7,T.aDK adA]
 have r3:BO.call (pq [a,b] 3980 [],0,jw,[])=al (3,0,jw,[]):=by rw[Gl (d:=(pq [a,b] 3980 [],0,jw,[])) ⟨T.bk (.inl rfl) fb ave,aqJ⟩];simp only[bF,J7,T.avz]
 have r4:acE.call (pq [a,b] 100 [])=al 172:=by rw[ak7 (d:=pq [a,b] 100 []) ⟨bX.1,by show(0:Int)<=100;decide,by show(100:Int)<=_;decide⟩];simp only[bF,ak6,T.acE];rfl
 have r5:wC.call (pq [a,b] 100 [],0,jw,[])=al (0,2,cm b 1 (cm a 1 jw),[stepOf a jw,stepOf b (cm a 1 jw)]):=by rw[Gk (d:=(pq [a,b] 100 [],0,jw,[])) ⟨bX,agC.mono (aP _)⟩];simp only[bF,Gj,T.aBT adA,T.wZ];rfl
 have hS:=T.st2;have r6:BO.call (pq [a,b] 100 [],2,cm b 1 (cm a 1 jw),[stepOf a jw,stepOf b (cm a 1 jw)])=al (5,2,cm b 1 (cm a 1 jw),[stepOf a jw,stepOf b (cm a 1 jw)]):=by rw[Gl (d:=(pq [a,b] 100 [],2,cm b 1 (cm a 1 jw),[stepOf a jw,stepOf b (cm a 1 jw)])) ⟨bX,hS.mono fb⟩];simp only[bF,J7,T.aDL adA]
 have r7:=hS.total;rw[T.aI8]at r7;obtain⟨E,hE,hEp⟩:=T.aK7;have r8:wD.call (pq [a,b] 100 [],2,cm b 1 (cm a 1 jw),[stepOf a jw,stepOf b (cm a 1 jw)])=al (aT,0,E,[stepOf a jw,stepOf b (cm a 1 jw)]):=by rw[Gq (d:=(pq [a,b] 100 [],2,cm b 1 (cm a 1 jw),[stepOf a jw,stepOf b (cm a 1 jw)])) ⟨by show 2<=1000;decide,hS.le,by have:=hS.len;show _<=1000000;omega,hS.aEP⟩];simp only[bF,Gp];exact bE al hE
 have eE:iI E=1500:=(yC hEp).trans ax3;have r9:y4.call (0,E,[stepOf a jw,stepOf b (cm a 1 jw)])=al (1500,0,E,[stepOf a jw,stepOf b (cm a 1 jw)]):=by rw[X0 (d:=(0,E,[stepOf a jw,stepOf b (cm a 1 jw)])) ⟨λp hp=>(agC.vu.2 p (hEp.mem_iff.1 hp)).2.2.2.1,by show iI E<=_;rw[eE];decide⟩];simp only[bF,Z9,eE]
 have dg:=T.aF3;have i1:=T.has (l:=[a,b]) (.inl rfl) (fill:=100) fb;have i2:=T.has (l:=[]) (.inr rfl) (fill:=4000) fb;rw[dg]at i1;generalize [stepOf a jw,stepOf b (cm a 1 jw)]=S at r5 r6 r7 r8 r9;generalize cm b 1 (cm a 1 jw)=A2 at r5 r6 r7 r8;generalize aCg (pq [] 4000 [])=iy at gJ i2;generalize aF3 ia ib=ix at gJ i1;refine(bE (λz=>aq z _) m1).trans ?_
 rw[ae];refine(bE (λz=>aq z _) m2).trans ?_
 rw[ae];refine(bE (λz=>aq z _) m3).trans ?_
 rw[ae];refine(bE (λz=>aq z _) m4).trans ?_
 rw[ae];refine(bE (λz=>aq z _) r1).trans ?_
 rw[ae];rw[ae];refine(bE (λz=>aq z _) r2).trans ?_
 rw[ae];refine(bE (λz=>aq z _) r3).trans ?_
 rw[ae];refine(bE (λz=>aq z _) r4).trans ?_
 rw[ae];refine(bE (λz=>aq z _) r5).trans ?_
 rw[ae];refine(bE (λz=>aq z _) r6).trans ?_
 rw[ae];refine(bE (λz=>aq z _) r7).trans ?_
 rw[ae];refine(bE (λz=>aq z _) r8).trans ?_
 rw[ae];refine(bE (λz=>aq z _) (G9 (14,3,172,0,5,1330,aT,aT,pq [a,b] 100 [],pq [] 4000 [],0,E,S))).trans ?_
 rw[ae];dsimp only
 repeat (first | rw[ak] | rw[qo rfl])
 refine(bE (λz=>aq z _) r9).trans ?_
 rw[ae,qo rfl,ak];refine(bE (λz=>aq z _) i1).trans ?_
 rw[ae];refine(bE (λz=>aq z _) i2).trans ?_
 rw[ae,aan,bI gJ];rfl
theorem agA:ki.RS:=rE [] ki
def akh:=ki.gm akg
end
section
def aji:(List lM)->Prop:=λ_=>True
def Uh:(List lM)->Bool:=λl=>if l.length<=12 then oV ([],(l,((0:Int),()))) else aR
def Fb:Fs Tryz.prog aji bF Uh:=gg 6 Tryz.f6 (λl=>([.d (.slice jv) l],[])) (λx=>⟨.d .bool x,[],[]⟩) [al (.slice jv)] [Qp]
theorem apH(l)(k:K1 R):Fb.A l k=aS (Ap (l.length:Int) 12) (k (Fb.out aR)) (aq (fW.call (([]:List kj),(l,(0,())))) λx1=>k (Fb.out x1)):=cT
theorem apI:Fb.Ok:=by
 intro l _;rw[apH];simp only[bF,Uh];by_cases h:l.length<=12
 ·rw[dx au,ao,if_pos h,Mf (d:=(([]:List kj),(l,((0:Int),())))) trivial];rfl
 ·rw[dX au,ak,if_neg h]
theorem ajj:Fb.RS:=rE [.d (.slice jv)] Fb
def apJ:=Fb.gm apI
abbrev y8:=pX×Int
def ow:y8->AS:=λ(nZ,i)=>⟨([cw,.eN qf nZ,cw,.d ti i]++bg 24 []),[],(ai 28 [])⟩
def py:Unit->Exit×AS:=λx=>(.ret,⟨([cw,cw,.d .bool aR]++bg 25 []),[],(ai 28 [])⟩)
def xw:Unit->Exit×AS:=λx=>(.exit 0,⟨(bg 28 []),[],(ai 28 [])⟩)
abbrev IV:=(Unit)⊕(Unit)
abbrev SK:=(Unit)⊕(Unit)
def CW:IV->Out (Exit×AS):=λx=> .br x.isLeft (.get x.getLeft? λa=> .ok (py a)) (.get x.getRight? λb=> .ok (xw b))
def kQ:y8->SK->IV:=λ(nZ,i) y=>match y with | .inl y=> .inl y | .inr z=> .inr (z)
def xv:y8->Prop:=λ(b,i)=>b.2.2.1.length<=1000000000/\∃k:Nat,k<=b.2.2.1.length/\i=k
def ov:y8->SK:=λ(b,i)=>if(bT (ab i) b.2.2.1).all oV then .inr () else .inl ()
def aom:pX->Prop:=λ_=>True
def aas:pX->Bool:=λb=>if b.2.2.1.length<=12 then(if b.2.2.2.2.1.length<=12 then b.2.2.1.all oV else aR) else aR
def SJ:=ee.gQ ow xv kQ ov CW
def Hu:y8->Option IV:=ji SJ ow
def Ak:Fs Tryz.prog aom bF aas:=gg 7 Tryz.f7 (λb=>([.d qf b],[])) (λx=>⟨.d .bool x,[],[]⟩) [al qf] [Qp] {loops:=sk [(4,{bu:=[1,3]})],outs:=sj [(4,{},{bu:=[2]})],gV:=tK [(4,SJ)]}
def IU:= @fK Tryz.prog (mN Ak.G) Ak.an 0 Tryz.f7 0 _ ow
abbrev Pq:=nE Tryz.prog (mN Ak.G) Ak.an 0 Tryz.f7 0 ow xv kQ ov CW
theorem aat:lN Hu xv kQ ov:=qe (oE [.d qf,.d ti] λ_=>cT)
theorem KT:sx @IU ow xv kQ ov CW Pq:=tI
theorem Hv(nZ i)(kn:K2 R)(kx:K3 R):IU (nZ,i) kn kx=aS (iE i (((ag nZ.2.2.1):Nat):Int)) (aS (gU i (((ag nZ.2.2.1):Nat):Int)) (aq (fW.call (nth fg nZ.2.2.1 (ab i))) λx1=>aS (!x1) (kx (py ()).1 (py ()).2) (kn (ow (nZ,(bV .i64 i (1:Int)))))) aJ) (kx (xw ()).1 (xw ()).2):=cT
theorem atI(b)(k:K1 R):Ak.A b k=aS (Ap (b.2.2.1.length:Int) 12) (k (Ak.out aR)) (aS (Ap (b.2.2.2.2.1.length:Int) 12) (k (Ak.out aR)) (aq (Hu (b,0)) λx2=>aS x2.isLeft (aq x2.getLeft? λa3=>k (Ak.out aR)) (aq x2.getRight? λb4=>k (Ak.out aT)))):=cT
theorem aei:Pq:=by
 refine KT (λ(b,i)=>b.2.2.1.length - ab i) ?_
 rintro⟨b,i⟩ ⟨hlen,k,hk,rfl⟩;have hlen:b.2.2.1.length<=1000000000:=hlen;have hk:k<=b.2.2.1.length:=hk;by_cases h:k < b.2.2.1.length
 ·have n1:nth fg b.2.2.1 k=b.2.2.1[k]:=dj (t:=fg) h;have hd:(bT k b.2.2.1).all oV=(oV b.2.2.1[k] && (bT (k+1) b.2.2.1).all oV):=by rw[aC h,lq]
  have step:∀ {R:Type} (kn:AS->Option R) (kx:Exit->AS->Option R),IU (b,(k:Int)) kn kx=aS (oV b.2.2.1[k]) (kn (ow (b,((k+1:Nat):Int)))) (kx (py ()).1 (py ()).2):=by
   intro R kn kx;rw[Hv,bm au,bz (show(0:Int)<=(k:Int) by omega) au,aa,n1];simp only[ak];rw[Mf (d:=b.2.2.1[k]) trivial,N.pn au];simp only[ae,bF,Jy];cases oV b.2.2.1[k]
   ·rfl
   ·rfl
  cases hp:oV b.2.2.1[k]
  ·right;refine⟨py (),?_,λkn kx=> ?_⟩
   ·simp only[kQ,ov,aa,hd,hp,fJ,bW,cK];rfl
   ·rw[step,hp,ao]
  ·left;refine⟨(b,((k+1:Nat):Int)),⟨hlen,k+1,au,rfl⟩,by simp only[aa];omega,?_,λkn kx=> ?_⟩
   ·simp only[kQ,ov,aa,hd,hp,cH]
   ·rw[step,hp,ak]
 ·right;obtain rfl:k=b.2.2.1.length:=au;refine⟨xw (),?_,λkn kx=> ?_⟩
  ·simp only[kQ,ov,aa,aU];rfl
  ·rw[Hv,bn au,ao]
theorem atJ:Ak.Ok:=by
 intro b _;rw[atI];simp only[bF,aas];by_cases h:b.2.2.1.length<=12
 ·rw[dx au,ao,if_pos h];by_cases h2:b.2.2.2.2.1.length<=12
  ·rw[dx au,ao,if_pos h2,aat (d:=(b,0)) ⟨by show b.2.2.1.length<=_;omega,0,aP _,rfl⟩];simp only[ae,kQ,ov,bt,aQ];cases b.2.2.1.all oV
   ·rfl
   ·rfl
  ·rw[dX au,ak,if_neg h2]
 ·rw[dX au,ak,if_neg h]
theorem aon:Ak.RS:=rE [.d qf] Ak
def atK:=Ak.gm atJ 1 ⟨.gQ aei,trivial⟩
open Classical in
open Classical in
open Classical in
end
theorem Wg{b c:pX}(e:b.2.2.2.2.1=c.2.2.2.2.1)(h:Int):∀(l:List dS) (k f:Int) (a:At),fM b h l k f a=fM c h l k f a
 |[],_,_,_=>rfl
 |t::l,k,f,a=>by
  have et:BM b t=BM c t:=by unfold BM J1;rw[e]
  rw[fM,fM,et,Wg e h l]
theorem ag5(b:pX)(h:Int):∀(l:List dS) (k f:Int) {a a':At},qg a a'->(ez a).Nodup->(ez a').Nodup->fM b h l k f a=fM b h l k f a'
 |[],_,_,_,_,_,_,_=>rfl
 |t::l,k,f,a,a',e,ha,hb=>by rw[fM,fM,e.check t h,ag5 b h l _ _ (e.apply ha hb t h) (fE ha) (fE hb)]
theorem ag3(b:pX)(h:Int):∀(l:List dS) (k f:Int) (a:At) (F k' f':Int),fM b h l k f a= .inr F->fM b h l k' f' a= .inr (F - f+f')
 |[],k,f,a,F,k',f',e=>by rw[fM]at e ⊢;rw[<-Sum.inr.inj e,show f - f+f'=f' by omega]
 |t::l,k,f,a,F,k',f',e=>by
  rw[fM]at e ⊢;split at e
  ·cases e
  ·rename_i h1;split at e
   ·cases e
   ·rename_i h2;rw[if_neg h1,if_neg h2,ag3 b h l _ _ _ F (k'+1) (f'+(dL t h a).1) e];exact bE Sum.inr au
theorem ag4(b:pX)(h:Int):∀(l l':List dS) (k f:Int) (a:At) (F:Int),fM b h (l++l') k f a= .inr F->∃f1,fM b h l k f a= .inr f1/\fM b h l' (k+l.length) f1 (eA a (l.map λt=>(t,h)))= .inr F
 |[],l',k,f,a,F,e=>⟨f,rfl,by rw[show k+(([]:List dS).length:Int)=k from Int.add_zero k];exact e⟩
 |t::l,l',k,f,a,F,e=>by
  rw[List.cons_append,fM]at e;rw[fM];split at e
  ·cases e
  ·rename_i h1;split at e
   ·cases e
   ·rename_i h2;obtain⟨f1,e1,e2⟩:=ag4 b h l l' _ _ _ F e;refine⟨f1,by rw[if_neg h1,if_neg h2];exact e1,?_⟩;rw[aH,show k+((l.length+1:Nat):Int)=k+1+(l.length:Int) by omega];exact e2
theorem M3(b:pX)(h:Int):∀(l:List dS) (k f:Int) (a:At) (F:Int),Na a->(∀t∈l,vW t)->fM b h l k f a= .inr F->f<=F/\F - f<=iI a
 |[],k,f,a,F,hg,_,e=>by
  rw[fM]at e;have:=JY λp hp=>(hg.2 p hp).2.2.2.1
  rw[<-Sum.inr.inj e];exact⟨fx _,au⟩
 |t::l,k,f,a,F,hg,hv,e=>by
  rw[fM]at e;split at e
  ·cases e
  ·split at e
   ·cases e
   ·rename_i h2;have hc:=Ad (t:=t) (h:=h) (a:=a) (Decidable.not_not.1 h2);have:=M3 b h l _ _ _ F (hc.vu hg (hv t aL)) (λy hy=>hv y (aK _ hy)) e;have hs:=(hc.sum hg.1).1;have hp:=hc.pos;omega
theorem Zp:∀(l:List dS) (n:Int),l.foldl Gf n=n+l.foldl Gf 0/\0<=l.foldl Gf 0
 |[],n=>⟨(Int.add_zero n).symm,fx _⟩
 |t::l,n=>by have h1:=Zp l (Gf n t);have h2:=Zp l (Gf 0 t);have h3:=GX t;rw[aY,aY];unfold Gf at h1 h2 ⊢;omega
theorem ar4(b:pX):aye b=b.2.2.2.1+b.2.2.1.foldl Gf 0:=(Zp _ _).1
theorem aA3(l l':List dS):(l++l').foldl Gf 0=l.foldl Gf 0+l'.foldl Gf 0:=by rw[List.foldl_append];exact(Zp l' _).1
theorem az7{b:pX}{a:At}(e:(km b a).2=0):wE b.1 b.2.2.2.1=aT/\¬4000 < aye b/\∃F,fM b b.1 b.2.2.1 0 0 (eH a)= .inr F/\km b a=(F,0):=by
 have e0:=e;unfold km at e;split at e
 ·rename_i h1;split at e
  ·cases e
  ·rename_i h2;have e:(lK b b.1 b.2.2.1 a).2.2=0:=e;unfold lK at e;cases hw:fM b b.1 b.2.2.1 0 0 (eH a) with
   |inl x=>
    rw[hw]at e;exact absurd e (Wh _ _ _ _ _ _ _ hw)
   |inr F=>
    refine⟨h1,h2,F,rfl,?_⟩;unfold km lK;rw[if_pos h1,if_neg h2,hw]
 ·cases e
theorem amb{b:pX}{a:At}{F:Int}(h1:wE b.1 b.2.2.2.1=aT)(h2:¬4000 < aye b)(h3:fM b b.1 b.2.2.1 0 0 (eH a)= .inr F):km b a=(F,0):=by unfold km lK;rw[if_pos h1,if_neg h2,h3]
theorem ZF(h:Int):∀(l:List dS) {n:Nat} {a:At} {s:List cZ},s.length=n->sy a (l.map λt=>(t,h))->l.foldl (En h) (n,a,s)=(n+l.length,eA a (l.map λt=>(t,h)),s++fm a (l.map λt=>(t,h)))
 |[],n,a,s,_,_=>by show(n,a,s)=(n,a,s++ []);rw[bO]
 |t::l,n,a,s,hs,hc=>by
  obtain⟨c1,c2,c3⟩:=hc;have e:En h (n,a,s) t=(n+1,cm t h a,s++ [stepOf t a]):=by rw[show En h (n,a,s) t=(n+1,cm t h a,s.take n++ [stepOf t a]) from if_neg (λx=>x c1),bC au]
  rw[aY,e,ZF h l (by rw[aj,hs];rfl) c3,aM,aH,show n+1+l.length=n+(l.length+1) by omega];rfl
theorem avA{b:pX}{a:At}(ha:(ez a).Nodup)(hg:Na a)(hv:∀t∈b.2.2.1,vW t)(e:(km b a).2=0)(l l':List dS)(hl:b.2.2.1=l++l'):∃f f',km (b.1,(b.2.1,(l,b.2.2.2))) a=(f,0)/\km (b.1,(b.2.1,(l',b.2.2.2))) (eA a (l.map λt=>(t,b.1)))=(f',0)/\
  (km b a).1=f+f'/\0<=f/\0<=f'/\f+f'<=iI a:=by
 obtain⟨h1,h2,F,hF,hp⟩:=az7 e;obtain⟨ec,hc⟩:=tR ha;have aJF:Na (eH a):=hg.perm (me a).symm;rw[ar4,hl,aA3]at h2;have w1:=(Zp l 0).2;have w2:=(Zp l' 0).2;have aCV:=M3 b b.1 _ _ _ _ F aJF hv hF;rw[hl]at hF;obtain⟨f,e1,e2⟩:=ag4 b b.1 l l' _ _ _ F hF;have aJT:∀t∈l,vW t:=λt ht=>hv t (by rw[hl];exact List.mem_append_left _ ht)
 have aCU:=M3 b b.1 l _ _ _ f aJF aJT e1;have e3:qg (eH (eA a (l.map λt=>(t,b.1)))) (eA (eH a) (l.map λt=>(t,b.1))):=(tR (mz _ ha)).1.trans (ec.eA _ hc ha).symm;rw[<-ag5 b b.1 l' _ _ e3 (tR (mz _ ha)).2 (mz _ hc)]at e2;have e4:=ag3 b b.1 l' _ _ _ F 0 0 e2;have hF2:f<=F:=by
  have alC:=JR b b.1 l _ _ _ f aJT e1;have aGZ:Na (eH (eA a (l.map λt=>(t,b.1)))):=by
   have hcl':sy a (l.map λt=>(t,b.1)):=ec.ah0 _ hc ha alC;refine Na.perm ?_ (me _).symm
   have:∀(l:ahm) {a:At},Na a->sy a l->Na (eA a l):=by
    intro l
    induction l with
    |nil=>intro a h _;exact h
    |cons x l ih=>intro a h hc;exact ih ((Ad hc.1).vu h hc.2.1) hc.2.2
   exact this _ hg hcl'
  exact(M3 b b.1 l' _ _ _ F aGZ (λt ht=>hv t (by rw[hl];exact List.mem_append_right _ ht)) e2).1
 have eS:iI (eH a)=iI a:=yC (me a);refine⟨f,F - f,amb h1 (by rw[ar4];show ¬4000 < b.2.2.2.1+l.foldl Gf 0;omega) ((Wg (b:=(b.1,(b.2.1,(l,b.2.2.2)))) (c:=b) rfl _ _ _ _ _).trans e1),amb h1 (by rw[ar4];show ¬4000 < b.2.2.2.1+l'.foldl Gf 0;omega) ?_,by rw[hp];show F=f+(F - f);omega,aCU.1,au,by rw[eS]at aCV;omega⟩;refine(Wg (b:=(b.1,(b.2.1,(l',b.2.2.2)))) (c:=b) rfl _ _ _ _ _).trans ?_
 rw[show F - f=F - f+0 by omega];exact e4
theorem Xz{a:At}(h:Na a):(JX a).length=a.length:=by rw[(arQ h).length_eq,cF]
def arE(b:pX):Prop:=(∀t∈b.2.2.1,vW t)/\(b.1<=9223372036854775807/\b.2.1.length=32/\b.2.2.2.1<=9223372036854775807)/\∀o∈b.2.2.2.2.1,ahj o
theorem aE5{b:pX}(h:(if b.2.2.1.length<=12 then(if b.2.2.2.2.1.length<=12 then b.2.2.1.all oV else aR) else aR)=aT):b.2.2.1.length<=12/\b.2.2.2.2.1.length<=12/\∀t∈b.2.2.1,t.1.length<=66:=by
 split at h
 ·rename_i h1;split at h
  ·rename_i h2;exact⟨h1,h2,λt ht=>(aw3 (c7.1 h t ht)).1⟩
  ·cases h
 ·cases h
theorem arE.ok{b:pX}(h:arE b)(h2:b.2.2.1.length<=12/\b.2.2.2.2.1.length<=12/\∀t∈b.2.2.1,t.1.length<=66):akM b:=
 ⟨⟨⟨by have:=h2.1;omega,h.1⟩,h.2.1,by have:=h2.2.1;omega,h.2.2⟩,by have:=h2.1;omega,λt ht=>by have:=h2.2.2 t ht;omega⟩
abbrev ads:=(List lM)×pX×Int
def ahO:ads->Prop:=λ(l,b,_)=>(∀o∈l,acL o)/\arE b
def adt:ads->Bool:=λ_=>aT
theorem atp{α:Type}(l:List α)(m:Nat):cut l 0 (m - 0)=l.take m:=by unfold cut;rw[aQ,Nat.sub_zero]
theorem ato{α:Type}(l:List α)(m:Nat):cut l m (l.length - m)=l.drop m:=by unfold cut;rw[bC (by rw[de];exact aF _)]
theorem akM.part{b:pX}(h:akM b){l:List dS}(hs:∀t∈l,t∈b.2.2.1)(hl:l.length<=b.2.2.1.length):akM (b.1,(b.2.1,(l,b.2.2.2))):=
 ⟨⟨⟨by have:=h.1.1.1;show l.length<=_;omega,λt ht=>h.1.1.2 t (hs t ht)⟩,h.1.2⟩,by have:=h.2.1;show l.length<=_;omega,λt ht=>h.2.2 t (hs t ht)⟩
def hP:Fs Tryz.prog ahO bF adt:=gg 4 Tryz.f4 (λ(l,b,kv)=>([.d (.slice jv) l,.d qf b,.d ti kv],[])) (λx=>⟨.d .bool x,[],[]⟩) [al (.slice jv),al qf,al ti] [akh,apJ,atK,ad2,XI,ada,ata,abO,ad4,adl]
theorem anG(l b kv)(k:K1 R):hP.A (l,b,kv) k=aq (ki.call ()) λx4=>aq (Fb.call l) λx8=>aq (Ak.call b) λakI=>aS (!x8) (k (hP.out x4)) (aS (!akI) (k (hP.out x4)) (aS (iE kv 0) (k (hP.out x4)) (aS (Ap kv (b.2.2.1.length:Int)) (k (hP.out x4)) (aq (rh l) λaJe=>aS aJe.isLeft (aq aJe.getLeft? λaLc=>aq (rh l) λarD=>aS arD.isLeft (aq arD.getLeft? λaLe=>aS (x4) (k (hP.out aT)) (k (hP.out aR))) (aq arD.getRight? λaLf=>aS (x4) (k (hP.out aR)) (k (hP.out aR)))) (aq aJe.getRight? λaGE=>aq (rh l) λaJh=>aS aJh.isLeft (aq aJh.getLeft? λaLg=>aS (x4) (k (hP.out aR)) (k (hP.out aR))) (aq aJh.getRight? λaGF=>aq (vX.call (b,0,aGE.1,aGE.2)) λaGG=>aS (!aGG.2.1) (k (hP.out x4)) (aS (inc kv (b.2.2.1.length:Int)) (aS (inc kv (b.2.2.1.length:Int)) (aq (vX.call ((b.1,(b.2.1,((cut b.2.2.1 0 ((ab kv) - 0)),b.2.2.2))),0,aGF.1,aGF.2)) λaGH=>aS (!aGH.2.1) (k (hP.out aR)) (aq (wC.call ((b.1,(b.2.1,((cut b.2.2.1 0 ((ab kv) - 0)),b.2.2.2))),aGH.2.2.1,aGH.2.2.2.1,aGH.2.2.2.2)) λaHo=>aS (G5 aHo.1 0) (k (hP.out aR)) (aq (vX.call ((b.1,(b.2.1,((cut b.2.2.1 (ab kv) ((ag b.2.2.1) - (ab kv))),b.2.2.2))),aHo.2.1,aHo.2.2.1,aHo.2.2.2)) λaGI=>aS (!aGI.2.1) (k (hP.out aR)) (aq (wC.call ((b.1,(b.2.1,((cut b.2.2.1 (ab kv) ((ag b.2.2.1) - (ab kv))),b.2.2.2))),aGI.2.2.1,aGI.2.2.2.1,aGI.2.2.2.2)) λaHq=>aS (G5 aHq.1 0) (k (hP.out aR)) (aq (wC.call (b,aGG.2.2.1,aGG.2.2.2.1,aGG.2.2.2.2)) λaER=>aS (G5 aER.1 0) (k (hP.out aR)) (aS (G5 (bV .i64 aGH.1 aGI.1) aGG.1) (k (hP.out aR)) (aq (vp.call (aER.2.1,aER.2.2.1,aER.2.2.2)) λaEi=>aq (vp.call (aHq.2.1,aHq.2.2.1,aHq.2.2.2)) λaEj=>aS (decide (0=0/\(0+aEi.1)<=(ag aEi.2.2.2.2))) (aS (decide (0=0/\(0+aEj.1)<=(ag aEj.2.2.2.2))) (aq (jk.call ((cut aEi.2.2.2.2 0 aEi.1),(cut aEj.2.2.2.2 0 aEj.1))) λaLi=>aS (!aLi) (k (hP.out aR)) (aq (y4.call (aEi.2.1,aEi.2.2.1,aEi.2.2.2.1)) λacz=>aq (y4.call (aEj.2.1,aEj.2.2.1,aEj.2.2.2.1)) λaHr=>aS (G5 acz.1 aHr.1) (k (hP.out aR)) (aS (x4) (aq (wD.call ((b.1,(b.2.1,((cut b.2.2.1 (ab kv) ((ag b.2.2.1) - (ab kv))),b.2.2.2))),aHr.2.1,aHr.2.2.1,aHr.2.2.2)) λahi=>aS (ahi.1) (aq (wD.call ((b.1,(b.2.1,((cut b.2.2.1 0 ((ab kv) - 0)),b.2.2.2))),ahi.2.1,ahi.2.2.1,ahi.2.2.2)) λaHs=>aS (aHs.1) (aq (wD.call (b,acz.2.1,acz.2.2.1,acz.2.2.2)) λaHt=>aS (aHt.1) (aq (vp.call (aHt.2.1,aHt.2.2.1,aHt.2.2.2)) λaHu=>aq (vp.call (aHs.2.1,aHs.2.2.1,aHs.2.2.2)) λacA=>aS (decide (0=0/\(0+aHu.1)<=(ag aHu.2.2.2.2))) (aS (decide (0=0/\(0+acA.1)<=(ag acA.2.2.2.2))) (aq (jk.call ((cut aHu.2.2.2.2 0 aHu.1),(cut acA.2.2.2.2 0 acA.1))) λaLj=>k (hP.out aLj)) aJ) aJ) (k (hP.out aR))) (k (hP.out aR))) (k (hP.out aR))) (k (hP.out aR))))) aJ) aJ))))))) aJ) aJ))))))):=cT
theorem anH:hP.Ok:=by
 rintro⟨l,b,kv⟩ ⟨ho,hb⟩;have ho:∀o∈l,acL o:=ho;have hb:arE b:=hb;rw[anG,agA (d:=()) trivial,ajj (d:=l) trivial,aon (d:=b) trivial];simp only[ae,bF,Za,bF,Uh,bF,aas,bF,adt];cases h1:(if l.length<=12 then oV ([],(l,((0:Int),()))) else aR) with
 |false=>rfl
 |true=>
 rw[cv,ao];cases h2:(if b.2.2.1.length<=12 then(if b.2.2.2.2.1.length<=12 then b.2.2.1.all oV else aR) else aR) with
 |false=>rfl
 |true=>
 rw[cv,ao];by_cases h3:kv < 0
 ·rw[bm h3,ak]
 rw[bn h3,ao];by_cases h4:kv > (b.2.2.1.length:Int)
 ·rw[dX h4,ak]
 rw[dx h4,ao,azR ho];cases hA:aba l with
 |none=>rfl
 |some A=>
 simp only[ae,e7,ao,dT];obtain⟨hg,_,hAl,_⟩:=apw ho hA;have hf:=aE5 h2;have hB:akM b:=hb.ok hf;have aqJ:sq 500 0 A []:=hg.mono (aP _);rw[Cx (d:=(b,0,A,[])) ⟨hB,aqJ⟩];simp only[ae,bF,BP];by_cases he:(km b A).2=0
 case neg=>
  rw[if_pos he];rfl
 have gJ:¬(km b A).2≠0:=λx=>x he
 have aua:=hg.vu.1;rw[if_neg gJ];dsimp only;rw[cv,ao,qp au au,ak,ak];obtain⟨m,rfl⟩:∃m:Nat,kv=m:=⟨kv.toNat,au⟩;have hm:m<=b.2.2.1.length:=au;rw[aa,atp,ato];have hl:b.2.2.1=b.2.2.1.take m++b.2.2.1.drop m:=(dw m _).symm;obtain⟨f,f',p1,p2,p3,q1,q2,q3⟩:=avA aua hg.vu hb.1 he _ _ hl;have ay5:=ajo hB aua he;have ht:axA b=(b.2.2.1.take m).map (λt=>(t,b.1))++(b.2.2.1.drop m).map (λt=>(t,b.1)):=by unfold axA;rw[<-List.map_append,dw]
 have hbX:=hB.part (l:=b.2.2.1.take m) (λt ht=>kJ ht) (by rw[cG];omega);have hbY:=hB.part (l:=b.2.2.1.drop m) (λt ht=>nW ht) (by rw[de];omega);have lx:(b.2.2.1.take m).length=m:=by rw[cG];omega
 have ly:(b.2.2.1.drop m).length=b.2.2.1.length - m:=de;have eb:asf b (0,A,[])=(0+b.2.2.1.length,eA A (axA b),[]++fm A (axA b)):=ZF b.1 b.2.2.1 (n:=0) (a:=A) (s:=[]) rfl ay5;have zW:=hg.sum;have aoE:=hf.1;rw[ht]at ay5 eb;obtain⟨cX,cY⟩:=(Iw _ _ _).1 ay5;rw[Cu,Dw]at eb;have eX:asf (b.1,(b.2.1,(b.2.2.1.take m,b.2.2.2))) (0,A,[])=(0+(b.2.2.1.take m).length,eA A ((b.2.2.1.take m).map λt=>(t,b.1)),[]++fm A ((b.2.2.1.take m).map λt=>(t,b.1))):=ZF b.1 (b.2.2.1.take m) (n:=0) (a:=A) (s:=[]) rfl cX;have gX:=CD ((b.2.2.1.take m).map λt=>(t,b.1)) (n:=0) (a:=A) (s:=[]) rfl hg cX;have kX:((b.2.2.1.take m).map λt=>(t,b.1)).length=(b.2.2.1.take m).length:=cF ..;have kY:((b.2.2.1.drop m).map λt=>(t,b.1)).length=(b.2.2.1.drop m).length:=cF ..;have sX:(fm A ((b.2.2.1.take m).map λt=>(t,b.1))).length=(b.2.2.1.take m).length:=(JC _ _).trans kX;have eY:=ZF b.1 (b.2.2.1.drop m) (n:=0+(b.2.2.1.take m).length) (s:=[]++fm A ((b.2.2.1.take m).map λt=>(t,b.1))) (by rw[aV,sX,ba]) cY;have gY:=CD ((b.2.2.1.drop m).map λt=>(t,b.1)) (n:=0+(b.2.2.1.take m).length) (s:=[]++fm A ((b.2.2.1.take m).map λt=>(t,b.1))) (by rw[aV,sX,ba]) (by rw[kX]at gX;exact gX) cY;rw[kX]at gX;rw[kY]at gY;generalize hLX:((b.2.2.1.take m).map λt=>(t,b.1))=LX at*;generalize hLY:((b.2.2.1.drop m).map λt=>(t,b.1))=LY at*;have hndX:(ez (eA A LX)).Nodup:=mz _ aua;have hndY:(ez (eA (eA A LX) LY)).Nodup:=mz _ hndX;rw[Cx (d:=((b.1,(b.2.1,(b.2.2.1.take m,b.2.2.2))),0,A,[])) ⟨hbX,aqJ⟩];simp only[ae,bF,BP,p1];rw[if_neg (λx=>x rfl)];dsimp only;rw[cv,ao,Gk (d:=((b.1,(b.2.1,(b.2.2.1.take m,b.2.2.2))),0,A,[])) ⟨hbX,hg.mono (aP _)⟩];simp only[ae,bF,Gj,p1];rw[eJ rfl,ao,if_neg (λx=>x rfl),eX];dsimp only;have gX5:sq 500 (0+(b.2.2.1.take m).length) (eA A LX) ([]++fm A LX):=gX.mono au;rw[Cx (d:=((b.1,(b.2.1,(b.2.2.1.drop m,b.2.2.2))),0+(b.2.2.1.take m).length,eA A LX,[]++fm A LX)) ⟨hbY,gX5⟩];simp only[ae,bF,BP,p2];rw[if_neg (λx=>x rfl)];dsimp only;rw[cv,ao,Gk (d:=((b.1,(b.2.1,(b.2.2.1.drop m,b.2.2.2))),0+(b.2.2.1.take m).length,eA A LX,[]++fm A LX)) ⟨hbY,gX.mono au⟩];simp only[ae,bF,Gj,p2];have eY':asf (b.1,(b.2.1,(b.2.2.1.drop m,b.2.2.2))) (0+(b.2.2.1.take m).length,eA A LX,[]++fm A LX)=(0+(b.2.2.1.take m).length+(b.2.2.1.drop m).length,eA (eA A LX) LY,[]++fm A LX++fm (eA A LX) LY):=eY;rw[eJ rfl,ao,if_neg (λx=>x rfl),eY'];dsimp only;rw[Gk (d:=(b,0,A,[])) ⟨hB,hg.mono (aP _)⟩];simp only[ae,bF,Gj,he];rw[eJ rfl,ao,if_neg (λx=>x rfl),eb,hZ au au,eJ p3.symm,ao];dsimp only;have en:0+(b.2.2.1.take m).length+(b.2.2.1.drop m).length=0+b.2.2.1.length:=au;rw[en]at gY ⊢;have eS:([]:List cZ)++(fm A LX++fm (eA A LX) LY)=[]++fm A LX++fm (eA A LX) LY:=(aM _ _ _).symm;rw[eS];have sY:(fm (eA A LX) LY).length=(b.2.2.1.drop m).length:=(JC _ _).trans kY;have u1:=zQ (b.2.2.1.drop m).length LY (a0:=eA A LX) (a:=eA (eA A LX) LY) (n:=0+b.2.2.1.length) (s:=[]++fm A LX++fm (eA A LX) LY) (p:=[]++fm A LX) kY cY hndX hndY (qg.refl _) gY.le (bC (by rw[aV,aj,sX,sY];omega));obtain⟨a1,u1,v1,w1,x1,_⟩:=u1;have u2:=zQ (b.2.2.1.take m).length LX (a0:=A) (a:=a1) (n:=0+b.2.2.1.length - (b.2.2.1.drop m).length) (s:=[]++fm A LX++fm (eA A LX) LY) (p:=[]) kX cX aua w1 v1 (by have:=gY.le;omega) x1;obtain⟨a2,u2,v2,w2,_⟩:=u2;have u3:=zQ b.2.2.1.length (LX++LY) (a0:=A) (a:=eA (eA A LX) LY) (n:=0+b.2.2.1.length) (s:=[]++fm A LX++fm (eA A LX) LY) (p:=[]) (by rw[aj,kX,kY];omega) ay5 aua hndY (by rw[Cu];exact qg.refl _) gY.le (by rw[Dw];exact bC (by rw[aV,aj,sX,sY];omega));obtain⟨a3,u3,v3,w3,_⟩:=u3;generalize hS: []++fm A LX++fm (eA A LX) LY=S at*;generalize hA2:eA (eA A LX) LY=A2 at*;have cAll:vp.call (0+b.2.2.1.length,A2,S)=al (A2.length,0+b.2.2.1.length,A2,S,JX A2):=gY.all au;have e2:=Xz gY.vu;have l2:A2.length<=1000000:=by have:=gY.aEp;omega
 rw[cAll];simp only[ae];rw[bf ⟨trivial,au⟩,ak,ak,fp e2,HT (d:=(JX A2,JX A2)) (by show(JX A2).length<=_;omega)];simp only[ae,bF,AH,cR,cv,ao];rw[gY.total];simp only[ae];rw[eJ rfl,ao,ak];have pre:∀(n:Nat) (a:At),n<=0+b.2.2.1.length->ax1 n S:=λn a hn=>⟨jx hn gY.le,by have:=gY.len;omega,gY.aEP⟩
 rw[Gq (d:=((b.1,(b.2.1,(b.2.2.1.drop m,b.2.2.2))),0+b.2.2.1.length,A2,S)) ⟨by show(b.2.2.1.drop m).length<=1000;omega,pre _ A2 (aF _)⟩];simp only[ae,bF,Gp,u1,ak];rw[Gq (d:=((b.1,(b.2.1,(b.2.2.1.take m,b.2.2.2))),0+b.2.2.1.length - (b.2.2.1.drop m).length,a1,S)) ⟨by show(b.2.2.1.take m).length<=1000;omega,pre _ a1 au⟩];simp only[ae,bF,Gp,u2,ak];rw[Gq (d:=(b,0+b.2.2.1.length,A2,S)) ⟨au,pre _ A2 (aF _)⟩];simp only[ae,bF,Gp,u3,ak];have p2:a2.Perm A:=v2.perm w2 aua;have p3:a3.Perm A:=v3.perm w3 aua;have lA:A.length<=1000000:=by have:=hg.aEp;omega
 have all:∀(n:Nat) (a:At),a.Perm A->vp.call (n,a,S)=al (A.length,n,a,S,JX A):=λn a hp=>by rw[XX (d:=(n,a,S)) ⟨by show a.length<=_;rw[hp.length_eq];exact lA,λp hm=>(hg.vu.2 p (hp.mem_iff.1 hm)).1⟩];simp only[bF,ZV];rw[hp.length_eq,show Ha (t:=bP) G0 (a.map (·.1))=JX a from rfl,am5 hg.vu hp]
 rw[all _ a3 p3];simp only[ae];rw[all _ a2 p2];simp only[ae];have e3:=Xz hg.vu;rw[bf ⟨trivial,au⟩,ak,ak,fp e3,HT (d:=(JX A,JX A)) (by show(JX A).length<=_;omega)];simp only[ae,bF,AH,cR]
theorem ahP:hP.RS:=rE [.d (.slice jv),.d qf,.d ti] hP
def anI:=hP.gm anH
end Go.Ab
end
