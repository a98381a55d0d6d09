/-
  Made short by a program of mine (wip/tools/mini.py).
-/
import Derived.Test.YtomcjgkejmaocaaGreatS36x5
set_option linter.unusedVariables false
set_option linter.unusedSimpArgs false
set_option maxRecDepth 100000
set_option synthInstance.maxSize 5000
open List renaming replicate->ag,map->dH,set->eE,length->ae,take->aP,all->eD
open Int renaming toNat->ab
open Option renaming some->aw,none->aF
open Bool renaming true->aW,false->aQ
noncomputable section
variable {R:Type}
namespace Go.Ab
open Go.Proofs
def at4(o:tj):fB:=(o,((0,([],(0,()))),()))
def Cq:Nat->Int->dQ->List tj×dQ
 | 0,_,r=>([],r)
 |f+1,n,r=>if 0 < n/\r.2.1=aQ then((adR r).1::(Cq f (n - 1) (adR r).2).1,(Cq f (n - 1) (adR r).2).2) else([],r)
def Av:Nat->Int->dQ->Option (List gb×dQ)
 | 0,_,r=>aw ([],r)
 |f+1,n,r=>if 0 < n/\r.2.1=aQ then(if(qA (wA (bX r).2).1).2=aW then(match Av f (n - 1) (Bk r).2 with
  |some x=>aw ((Bk r).1::x.1,x.2)
  |none=>aF) else aF) else aw ([],r)
def CV:Nat->Int->dQ->List Sg×dQ
 | 0,_,r=>([],r)
 |f+1,n,r=>if 0 < n/\r.2.1=aQ then((aeU r).1::(CV f (n - 1) (aeU r).2).1,(CV f (n - 1) (aeU r).2).2) else([],r)
def ayW(r:dQ):List Sg×dQ:=CV 13 (bX (bX r).2).1 (bX (bX r).2).2
def FI(r:dQ):FB×dQ:=(((bX r).1,((ayW r).1,((oo (ayW r).2).1,()))),(oo (ayW r).2).2)
def rr:List tj->dQ->List fB×dQ
 |[],r=>([],r)
 |o::l,r=>if r.2.1=aQ then((o,((FI r).1,()))::(rr l (FI r).2).1,(rr l (FI r).2).2) else((o::l).map at4,r)
def azt(b:List Int)(t:eT)(r:dQ):eT×Bool:=if r.2.1=aQ/\r.1.length=0/\gS t=aW/\aap t=b then(t,aW) else aq6
def sH(b:List Int):List tj×dQ:=Cq 65 (bX (b,aQ,())).1 (bX (b,aQ,())).2
def aiv(b:List Int):eT×Bool:=match Av 65 (bX (sH b).2).1 (bX (sH b).2).2 with
 |none=>aq6
 |some x=>azt b ((rr (sH b).1 (bX x.2).2).1,(x.1,((bX x.2).1,()))) (rr (sH b).1 (bX x.2).2).2
theorem aBZ{r:dQ}(h:iB r):iB (adR r).2:=(gv (Mn h).1).1.1
theorem aB3{r:dQ}(h:iB r):iB (aeU r).2:=(uM (uM h).1).1
theorem adU:∀(f:Nat) (n:Int) (r:dQ),iB r->iB (Cq f n r).2/\(Cq f n r).1.length<=f/\∀o∈(Cq f n r).1,Sm o.1
 | 0,n,r,h=>⟨h,az _,λx hx=>by cases hx⟩
 |f+1,n,r,h=>by
  rw[Cq];split
  ·have ih:=adU f (n - 1) _ (aBZ h);refine⟨ih.1,Nat.succ_le_succ ih.2.1,λo ho=> ?_⟩;rcases cz.1 ho with rfl | ho
   ·exact agw h.1
   ·exact ih.2.2 o ho
  ·exact⟨h,aL _,λx hx=>by cases hx⟩
theorem adY:∀(f:Nat) (n:Int) (r:dQ) (x:List gb×dQ),iB r->Av f n r=aw x->iB x.2/\x.1.length<=f/\∀o∈x.1,aBm o.2.1
 | 0,n,r,x,h,hx=>by cases hx;exact⟨h,az _,λx hx=>by cases hx⟩
 |f+1,n,r,x,h,hx=>by
  rw[Av]at hx;split at hx
  ·split at hx
   ·rename_i hr;split at hx
    ·rename_i y hy;cases hx;have ih:=adY f (n - 1) _ y (awC h) hy;refine⟨ih.1,Nat.succ_le_succ ih.2.1,λo ho=> ?_⟩;rcases cz.1 ho with rfl | ho
     ·have e2:=L0 (gv h).1.1;obtain⟨l,hl,aqt,he,hle⟩:=W5 hr;have hu:=TO e2.2.1 e2.2.2;have el:(Bk r).1.2.1=l:=by show(qA (wA (bX r).2).1).1=l;rw[he]
      rw[el,hle];exact⟨hu.1,by show(rb _).length<=_;omega⟩
     ·exact ih.2.2 o ho
    ·cases hx
   ·cases hx
  ·cases hx;exact⟨h,aL _,λx hx=>by cases hx⟩
theorem ax5:∀(f:Nat) (n:Int) (r:dQ),iB r->iB (CV f n r).2/\(CV f n r).1.length<=f/\∀o∈(CV f n r).1,ay2 o
 | 0,n,r,h=>⟨h,az _,λx hx=>by cases hx⟩
 |f+1,n,r,h=>by
  rw[CV];split
  ·have ih:=ax5 f (n - 1) _ (aB3 h);refine⟨ih.1,Nat.succ_le_succ ih.2.1,λo ho=> ?_⟩;rcases cz.1 ho with rfl | ho
   ·exact⟨(B5 h.1).1,(B5 (uM h).1.1).1⟩
   ·exact ih.2.2 o ho
  ·exact⟨h,aL _,λx hx=>by cases hx⟩
theorem aiY{r:dQ}(h:iB r):iB (ayW r).2/\(ayW r).1.length<=13/\∀o∈(ayW r).1,ay2 o:=ax5 13 _ _ (gv (gv h).1.1).1.1
theorem an2{r:dQ}(h:iB r):iB (FI r).2/\OU (FI r).1/\(FI r).1.2.1.length<=13:=⟨(uM (aiY h).1).1,⟨(aiY h).2.2,(B5 (aiY h).1.1).1⟩,(aiY h).2.1⟩
theorem afz:∀(l:List tj) (r:dQ),iB r->iB (rr l r).2/\(rr l r).1.map (·.1)=l/\∀y∈(rr l r).1,OU y.2.1/\y.2.1.2.1.length<=13
 |[],r,h=>⟨h,rfl,λx hx=>by cases hx⟩
 |o::l,r,h=>by
  rw[rr];split
  ·have ih:=afz l _ (an2 h).1;refine⟨ih.1,by rw[bS,ih.2.1],λy hy=> ?_⟩;rcases cz.1 hy with rfl | hy
   ·exact(an2 h).2
   ·exact ih.2.2 y hy
  ·refine⟨h,by rw[lq];exact jP _,λy hy=> ?_⟩;obtain⟨x,_,rfl⟩:=fm.1 hy;exact⟨⟨λs hs=>(by cases hs),(by decide:(0:Int)<=0),(by decide:(0:Int) < 18446744073709551616)⟩,aL _⟩
theorem ahu:∀(l:List tj) (f:Nat) (rest:List Int),l.length<=f->(∀o∈l,o.1.length=32/\zX o.2.1)->Cq f l.length (l.flatMap Zc++rest,aQ,())=(l,(rest,aQ,()))
 |[],0,rest,_,_=>rfl
 |[],f+1,rest,_,_=>by rw[Cq,if_neg (by rintro⟨a,_⟩;exact absurd a gw)];rfl
 |o::l,0,rest,h,_=>by cases h
 |o::l,f+1,rest,hf,h=>by
  obtain⟨h1,h2⟩:=h o bf;have hf:l.length+1<=f+1:=hf;have e:adR ((o::l).flatMap Zc++rest,aQ,())=(o,(l.flatMap Zc++rest,aQ,())):=by unfold adR Zc;rw[cI,aC,aC,aaY _ _ h1];simp only[];rw[mM _ h2]
  rw[Cq,if_pos ⟨by rw[aE];omega,rfl⟩,e];simp only[];rw[show((o::l).length:Int) - 1=(l.length:Int) by rw[aE];omega,ahu l f rest ak λx hx=>h x (aV _ hx)]
theorem abr:∀(l:List gb) (f:Nat) (rest:List Int),l.length<=f->(∀o∈l,zX o.1/\og o.2.1=aW/\YH o.2.1)->Av f l.length (l.flatMap qS++rest,aQ,())=aw (l,(rest,aQ,()))
 |[],0,rest,_,_=>rfl
 |[],f+1,rest,_,_=>by rw[Av,if_neg (by rintro⟨a,_⟩;exact absurd a gw)];rfl
 |o::l,0,rest,h,_=>by cases h
 |o::l,f+1,rest,hf,h=>by
  obtain⟨h1,h2,h3⟩:=h o bf;have hf:l.length+1<=f+1:=hf;have hl:=Dk o.2.1;have e0:bX ((o::l).flatMap qS++rest,aQ,())=(o.1,(fe (EO o.2.1).length++(EO o.2.1++(l.flatMap qS++rest)),aQ,())):=by rw[cI];unfold qS;simp only[aC];exact mM _ h1 _
  have e1:wA (bX ((o::l).flatMap qS++rest,aQ,())).2=(EO o.2.1,(l.flatMap qS++rest,aQ,())):=by rw[e0];exact af5 _ _ ak
  have e2:Bk ((o::l).flatMap qS++rest,aQ,())=(o,(l.flatMap qS++rest,aQ,())):=by unfold Bk;rw[e1,e0,CQ h3 h2]
  rw[Av,if_pos ⟨by rw[aE];omega,rfl⟩,e1,CQ h3 h2,if_pos rfl,e2];simp only[];rw[show((o::l).length:Int) - 1=(l.length:Int) by rw[aE];omega,abr l f rest ak λx hx=>h x (aV _ hx)]
theorem ai2:∀(l:List Sg) (f:Nat) (rest:List Int),l.length<=f->(∀s∈l,iN s.1/\iN s.2.1)->CV f l.length (l.flatMap ai0++rest,aQ,())=(l,(rest,aQ,()))
 |[],0,rest,_,_=>rfl
 |[],f+1,rest,_,_=>by rw[CV,if_neg (by rintro⟨a,_⟩;exact absurd a gw)];rfl
 |o::l,0,rest,h,_=>by cases h
 |s::l,f+1,rest,hf,h=>by
  obtain⟨h1,h2⟩:=h s bf;have hf:l.length+1<=f+1:=hf;have e:aeU ((s::l).flatMap ai0++rest,aQ,())=(s,(l.flatMap ai0++rest,aQ,())):=by unfold aeU ai0;rw[cI,aC,aC,w7 _ h1];simp only[];rw[w7 _ h2]
  rw[CV,if_pos ⟨by rw[aE];omega,rfl⟩,e];simp only[];rw[show((s::l).length:Int) - 1=(l.length:Int) by rw[aE];omega,ai2 l f rest ak λx hx=>h x (aV _ hx)]
theorem ayL(w:FB)(rest:List Int)(hw:OU w)(hb:zX w.1)(Q3:w.2.1.length<=12):FI (rq w++rest,aQ,())=(w,(rest,aQ,())):=by
 have e0:bX (rq w++rest,aQ,())=(w.1,(fe w.2.1.length++(w.2.1.flatMap ai0++(gV w.2.2.1++rest)),aQ,())):=by unfold rq;simp only[aC];exact mM _ hb _
 have e2:ayW (rq w++rest,aQ,())=(w.2.1,(gV w.2.2.1++rest,aQ,())):=by unfold ayW;rw[e0];simp only[];rw[mM _ (lC ak)];exact ai2 _ 13 _ ak hw.1
 unfold FI;rw[e2,e0];simp only[];rw[w7 _ hw.2]
theorem acv:∀(l:List fB) (rest:List Int),(∀x∈l,OU x.2.1/\zX x.2.1.1/\x.2.1.2.1.length<=12)->rr (l.map (·.1)) (l.flatMap (λx=>rq x.2.1)++rest,aQ,())=(l,(rest,aQ,()))
 |[],rest,_=>rfl
 |x::l,rest,h=>by obtain⟨h1,h2,h3⟩:=h x bf;rw[cI,aC,bS,rr,if_pos rfl,ayL _ _ h1 h2 h3];simp only[];rw[acv l rest λy hy=>h y (aV _ hy)]
theorem asE{t:eT}(hv:Ca t)(gT:gS t=aW):aiv (aap t)=(t,aW):=by
 obtain⟨⟨a1,a2,a3,a4⟩,b1,b2⟩:=jO gT;have aaZ:∀x∈t.1,_:=λx hx=>qE (iD _ _ b1 x hx)
 have aG3:=hv.2.2;have e1:bX (aap t,aQ,())=((t.1.length:Int),((t.1.map (·.1)).flatMap Zc++(fe t.2.1.length++(t.2.1.flatMap qS++(fe t.2.2.1++t.1.flatMap λx=>rq x.2.1))),aQ,())):=by rw[afs gT,List.flatMap_map];exact mM _ (lC ak) _
 have e2:=ahu (t.1.map (·.1)) 65 (fe t.2.1.length++(t.2.1.flatMap qS++(fe t.2.2.1++t.1.flatMap λx=>rq x.2.1))) (by rw[bR];omega) λo ho=>by obtain⟨x,hx,rfl⟩:=fm.1 ho;exact⟨(hv.2.1 x hx).1.1,(aaZ x hx).1,by have:=(aaZ x hx).2.1;omega⟩
 rw[bR]at e2;have e3:=mM (t.2.1.length:Int) (lC ak) (t.2.1.flatMap qS++(fe t.2.2.1++t.1.flatMap λx=>rq x.2.1));have e4:=abr t.2.1 65 (fe t.2.2.1++t.1.flatMap λx=>rq x.2.1) ak λo ho=>by have:=ku _ _ b2 o ho;exact⟨⟨this.1.1,ak⟩,this.2,(hv.1.1 o ho).1⟩
 have e5:=mM t.2.2.1 ⟨a4,aG3⟩ (t.1.flatMap λx=>rq x.2.1);have e6:=acv t.1 [] λx hx=>⟨(hv.2.1 x hx).2.1,⟨(aaZ x hx).2.2.1,by have:=(aaZ x hx).2.2.2.1;omega⟩,(aaZ x hx).2.2.2.2⟩
 rw[bn]at e6;have ep:sH (aap t)=(t.1.map (·.1),(fe t.2.1.length++(t.2.1.flatMap qS++(fe t.2.2.1++t.1.flatMap λx=>rq x.2.1)),aQ,())):=by unfold sH;rw[e1];exact e2
 unfold aiv;rw[ep];simp only[e3,e4,e5,e6];unfold azt;exact if_pos ⟨rfl,rfl,gT,rfl⟩
theorem axu{b:List Int}(hb:Bytes b)(hl:b.length<=1000000000):aiv b=py b:=by
 cases h:(py b).2
 case true=>
  obtain⟨t,e,gT,hv,aJD⟩:=abO hb hl h;rw[e,<-aJD];exact asE hv gT
 rw[abP h];have k1:=(gv (TN hb hl)).1.1;have k2:=adU 65 (bX (b,aQ,())).1 _ k1;have k3:=(gv k2.1).1.1;unfold aiv;split
 ·rfl
 ·rename_i x hx;have k4:=adY 65 _ _ x k3 hx;have k5:=gv k4.1;have k6:=afz (sH b).1 _ k5.1.1;unfold azt;split
  ·rename_i hc;exfalso;have aCy:=c7 ae k6.2.1;rw[bR]at aCy;have aJf:(sH b).1.length<=65:=k2.2.1;have hv:Ca ((rr (sH b).1 (bX x.2).2).1,(x.1,((bX x.2).1,()))):=by
    refine⟨⟨k4.2.2,by show(rr (sH b).1 (bX x.2).2).1.length<=_;omega,by show x.1.length<=_;omega⟩,λy hy=>⟨?_,(k6.2.2 y hy).1,by have:=(k6.2.2 y hy).2;omega⟩,(iA k4.1.1).2.1⟩;refine k2.2.2 y.1 ?_
    show y.1∈(sH b).1;rw[<-k6.2.1];exact List.mem_map_of_mem hy
   have:=W6 hv hc.2.2.1;rw[hc.2.2.2]at this;rw[this]at h;cases h
  ·rfl
abbrev xo:=Int×Int×dQ×Int×(Int×Unit)×Int×Nat×(Int×Unit)×(List Sg)
abbrev Fe:=dQ×Nat×(List Sg)
def oQ:xo->Fe->((Int×(Int×Unit)×Int×(Int×Unit))×(dQ×Nat×(List Sg))):=λ(n,i,fc,n2,gD,n3,OP,KR,ahd) y=>((n2,gD,n3,KR),y)
def Ny:xo->Prop:=λ(n,i,r,z,z2,br,L,z3,l)=>iB r/\∃k:Nat,i=k/\k<=13/\L=l.length/\l.length=k
def rX:xo->Fe:=λ(n,i,r,z,z2,br,L,z3,l)=>((CV (13 - i.toNat) (n - i) r).2,L+(CV (13 - i.toNat) (n - i) r).1.length,l++(CV (13 - i.toNat) (n - i) r).1)
def Wu:dQ->Prop:=λr=>iB r
def Nx:dQ->(FB×dQ):=λr=>FI r
def gE:Ls Ny oQ rX:=oP (λ(n,i,fc,n2,gD,n3,OP,KR,ahd)=>⟨([.ptr (.eC 0) 0 [] 0,bK,dX 2,dX 3,.d ti n,.d ti i]++a9 32 []),cH (.d gK fc),([[],[],cH (.pr (.d ti n2) (.pr (.cw) (.d (.pair tu .unit) gD))),cH (.pr (.d ti n3) (.pr (iw 32 OP) (.d (.pair tu .unit) KR)))]++bC 28 ([cH (.vec 50 oE ahd)]++bC 5 []))⟩) (λx=>(.exit 0,⟨([.ptr (.eC 0) 0 [] 0,bK,dX 2,dX 3]++a9 34 []),cH (.d gK x.2.1),([[],[],cH (.pr (.d ti x.1.1) (.pr (.cw) (.d (.pair tu .unit) x.1.2.1))),cH (.pr (.d ti x.1.2.2.1) (.pr (iw 32 x.2.2.1) (.d (.pair tu .unit) x.1.2.2.2)))]++bC 28 ([cH (.vec 50 oE x.2.2.2)]++bC 5 []))⟩))
def mf:Fs Tryz.prog Wu bm Nx:=fg 45 Tryz.f45 (λo0=>([.ptr (.eC 0) 0 [] 0],[.obj 0 aQ (.d gK o0)])) (λx=>⟨.d TS x.1,[.obj 0 aQ (.d gK x.2)],[]⟩) [aF] [ND,aoZ,aiu] {loops:=oN [(4,{aY:=[0,2,3,4,5],sites:=[2,3,32],owns:=[⟨3,[.snd,.fst],32,39⟩]})],outs:=oM [(4,{aY:=[0,2,3],sites:=[2,3,32]},{aY:=[2]})],fE:=pX [(4,gE.E)],res:=[aw TS]}
theorem Nz:gE.RS:=rL [.d ti,.d ti,.d gK,.d ti,.d (.pair tu .unit),.d ti,.n,.d (.pair tu .unit),.d (.slice oE)] gE
theorem zt(n i fc n2 gD n3 OP KR ahd)(kn:K2 R)(kx:K3 R):mf.R 0 gE (n,i,fc,n2,gD,n3,OP,KR,ahd) kn kx=aG (fV i n) (aG (fV i 13) (aj (WQ.call fc) λx1=>aG (x1.2) (aj (AO.call x1.1) λx2=>aj (AO.call x2.2) λx3=>aG (decide (OP<=(ae ahd))) (aG (db (OP+1) 16) (kn (gE.st (n,(bB .i64 i 1),x3.2,n2,gD,n3,(OP+1),KR,((aP OP ahd)++ [(x2.1,(x3.1,()))])))) aF) aF) (gE.go kx ((n2,gD,n3,KR),(x1.1,OP,ahd)))) (gE.go kx ((n2,gD,n3,KR),(fc,OP,ahd)))) (gE.go kx ((n2,gD,n3,KR),(fc,OP,ahd))):=cK
theorem ZI(o0)(k:K1 R):mf.A o0 k=aj (px.call o0) λx1=>aj (px.call x1.2) λx2=>aj (gE.call (x2.1,0,x2.2,0,(0,()),x1.1,0,(0,()),([]:List Sg))) λx9=>aj (AO.call x9.2.1) λQN=>aG (decide (0=0/\(0+x9.2.2.1)<=(ae x9.2.2.2))) (k (mf.out ((x9.1.2.2.1,((cut x9.2.2.2 0 x9.2.2.1),(QN.1,x9.1.2.2.2.2))),QN.2))) aF:=cK
theorem P4:(mf.j8 0 gE):=by
 refine(mf.lX 0 gE) (λ(n,i,r,z,z2,br,L,z3,l)=>13 - ab i) ?_
 rintro⟨n,i,r,z,z2,br,L,z3,l⟩ ⟨hr,k,rfl,hk,rfl,hl⟩;have hr:iB r:=hr;have hl:l.length=k:=hl;by_cases h:((k:Int) < n/\k < 13)/\r.2.1=aQ
 ·left;have e0:13 - (k:Int).toNat=(12 - k)+1:=by rw[aa];omega
  have e1:13 - ((k+1:Nat):Int).toNat=12 - k:=by rw[aa];omega
  have eb:CV ((12 - k)+1) (n - (k:Int)) r=((aeU r).1::(CV (12 - k) (n - (k:Int) - 1) (aeU r).2).1,(CV (12 - k) (n - (k:Int) - 1) (aeU r).2).2):=by rw[CV,if_pos ⟨ak,h.2⟩]
  refine⟨(n,((k+1:Nat):Int),(aeU r).2,z,z2,br,l.length+1,z3,l++ [(aeU r).1]),⟨aB3 hr,k+1,rfl,ak,by rw[ai];rfl,by rw[ai];show l.length+1=_;omega⟩,by simp only[aa];omega,?_,λkn kx=> ?_⟩
  ·simp only[oQ,rX,e0,e1,eb,aC,bQ,aE];rw[show n - ((k+1:Nat):Int)=n - (k:Int) - 1 by omega,show ∀a:Nat,l.length+1+a=l.length+(a+1) from λa=>ak]
  ·rw[zt,aU h.1.1,aU ak,uq (d:=r) trivial];simp only[ah,ao,ra,BQ,h.2,eP];rw[CP (d:=r) hr.1];simp only[ah,bm,IH];rw[CP (d:=(oo r).2) (uM hr).1.1];simp only[ah,bm,IH];rw[aI (az _),cV ak ak,N.ot ak,bt];rfl
 ·right;intro R kn kx;have eb:CV (13 - k) (n - (k:Int)) r=([],r):=by
   by_cases h5:k=13
   ·subst h5;rfl
   ·rw[show 13 - k=(12 - k)+1 by omega,CV,if_neg (by rintro⟨a,c⟩;exact h ⟨⟨ak,ak⟩,c⟩)]
  rw[zt];simp only[oQ,rX,aa,eb,bj,bM,bn];by_cases h1:(k:Int) < n
  ·rw[aU h1,ao];by_cases h2:k < 13
   ·have h3:r.2.1=aW:=by cases hc:r.2.1 with | true=>rfl | false=>exact absurd ⟨⟨h1,h2⟩,hc⟩ h
    rw[aU ak,ao,uq (d:=r) trivial];simp only[ah,ra,BQ,h3,cd,au]
   ·rw[aT ak];rfl
  ·rw[aT h1];rfl
theorem ZJ:mf.Ok:=by intro r h;have h:iB r:=h;have k1:=gv h;have k2:=gv k1.1.1;have k3:=aiY h;rw[ZI,lh (d:=r) h.1];simp only[ah,bm,oR];rw[lh (d:=(bX r).2) k1.1.1.1];simp only[ah,bm,oR];rw[Nz (d:=((bX (bX r).2).1,0,(bX (bX r).2).2,0,(0,()),(bX r).1,0,(0,()),[])) ⟨k2.1.1,0,rfl,aL _,rfl,rfl⟩];simp only[ah,oQ,rX,aS,nu,iK,aH,aO];rw[show CV 13 (bX (bX r).2).1 (bX (bX r).2).2=ayW r from rfl,CP (d:=(ayW r).2) k3.1.1];simp only[ah,bm,IH];rw[aI ⟨by trivial,az _⟩,ao,dw rfl];rfl
theorem Wv:mf.RS:=rE [.d gK] mf
def ZK:=mf.fh ZJ 1 ⟨.fD P4,trivial⟩
abbrev DX:=Bs×Int×Int×(Int×Unit)×Nat×(Int×Unit)×dQ×(List fB)
abbrev Nl:=Nat×dQ×(List fB)
def tW:DX->Nl->((Bs×(Int×Unit)×(Int×Unit))×(Nat×dQ×(List fB))):=λ(fI,n,i,n2,adJ,n5,aCZ,aAc) y=>((fI,n2,n5),y)
abbrev tX:=Bs×Int×Int×(Int×Unit)×Nat×Nat×(Int×Unit)×dQ×(List fB)×(List gb)
def l7:tX->AS:=λ(xu,m,eI,gD,sZ,At,SJ,MS,EP,at3)=>⟨([.d tB xu,bK,dX 2,bK,dX 15,dX 5,bK,bK,.d ti m,.d ti eI]++a9 112 []),[],([[],[],cH (.pr (.cw) (.pr (.cw) (.d (.pair ti .unit) gD))),[],[],cH (.pr (iw 41 sZ) (.pr (iw 76 At) (.d (.pair ti .unit) SJ)))]++bC 9 ([cH (.d gK MS)]++bC 25 ([cH (.vec 47 dM EP)]++bC 34 ([cH (.vec 55 dO at3)]++bC 45 []))))⟩
def mO:(Int×Unit)->Exit×AS:=λx=>(.ret,⟨([bK,bK,dX 2,.d .bool aQ]++a9 118 []),[],([[],[],cH (.pr (.cw) (.pr (.cw) (.d (.pair ti .unit) x)))]++bC 119 [])⟩)
abbrev Jx:=(Bs×(Int×Unit)×Nat×(Int×Unit)×(List fB))×(Nat×dQ×(List gb))
def jg:Jx->Exit×AS:=λ((a,b,c,e,f),g,h,i)=>(.exit 2,⟨([.d tB a,bK,dX 2,bK,dX 15,dX 5]++a9 116 []),[],([[],[],cH (.pr (.cw) (.pr (.cw) (.d (.pair ti .unit) b))),[],[],cH (.pr (iw 41 c) (.pr (iw 76 g) (.d (.pair ti .unit) e)))]++bC 9 ([cH (.d gK h)]++bC 25 ([cH (.vec 47 dM f)]++bC 34 ([cH (.vec 55 dO i)]++bC 45 []))))⟩)
abbrev DZ:=((Int×Unit))⊕(Jx)
abbrev Nn:=((Int×Unit))⊕((Nat×dQ×(List gb)))
def zp:DZ->Out (Exit×AS):=λx=> .br x.isLeft (.get x.getLeft? λa=> .ok (mO a)) (.get x.getRight? λb=> .ok (jg b))
def jf:tX->Nn->DZ:=λ(xu,m,eI,gD,sZ,At,SJ,MS,EP,at3) y=>match y with | .inl y=> .inl y | .inr z=> .inr (((xu,gD,sZ,SJ,EP),z))
abbrev D0:=Bs×Int×(Int×Unit)×Nat×Nat×(Int×Unit)×dQ×(List fB)×(List gb)
abbrev No:=dQ×(List fB)
def tZ:D0->No->((Bs×(Int×Unit)×Nat×Nat×(Int×Unit)×(List gb))×(dQ×(List fB))):=λ(aBp,oV,kc,Jo,Rx,ahg,abi,Gq,Ry) y=>((aBp,kc,Jo,Rx,ahg,Ry),y)
def Wf:DX->Prop:=λ(b,n,i,z,L,y,r,l)=>iB r/\∃k:Nat,i=k/\k<=65/\L=l.length/\l.length=k
def yk:DX->Nl:=λ(b,n,i,z,L,y,r,l)=>(L+(Cq (65 - i.toNat) (n - i) r).1.length,(Cq (65 - i.toNat) (n - i) r).2,l++(Cq (65 - i.toNat) (n - i) r).1.map at4)
def tY:tX->Prop:=λ(b,m,i,z,L,L3,y,r,l,os)=>iB r/\∃k:Nat,i=k/\k<=65/\L3=os.length/\os.length=k
def lQ:tX->Nn:=λ(b,m,i,z,L,L3,y,r,l,os)=>match Av (65 - i.toNat) (m - i) r with | none=> .inl (0,()) | some x=> .inr (L3+x.1.length,x.2,os++x.1)
def Wi:D0->Prop:=λ(b,i,z,L,L5,y,r,l,os)=>iB r/\l.length<=65/\∃k:Nat,i=k/\k<=l.length/\L=l.length/\∀x∈l.drop k,x=at4 x.1
def ym:D0->No:=λ(b,i,z,L,L5,y,r,l,os)=>((rr ((l.drop i.toNat).map (·.1)) r).2,l.take i.toNat++(rr ((l.drop i.toNat).map (·.1)) r).1)
def ahZ:Bs->Prop:=λb=>Bytes b/\b.length<=1000000000
def abB:Bs->(eT×Bool):=λb=>py b
def kA:Ls Wf tW yk:=oP (λ(fI,n,i,n2,adJ,n5,aCZ,aAc)=>⟨([.d tB fI,bK,dX 2,bK,dX 15,dX 5,.d ti n,.d ti i]++a9 114 []),[],([[],[],cH (.pr (.cw) (.pr (.cw) (.d (.pair ti .unit) n2))),[],[],cH (.pr (iw 41 adJ) (.pr (.cw) (.d (.pair ti .unit) n5)))]++bC 9 ([cH (.d gK aCZ)]++bC 25 ([cH (.vec 47 dM aAc)]++bC 80 [])))⟩) (λx=>(.exit 0,⟨([.d tB x.1.1,bK,dX 2,bK,dX 15,dX 5]++a9 116 []),[],([[],[],cH (.pr (.cw) (.pr (.cw) (.d (.pair ti .unit) x.1.2.1))),[],[],cH (.pr (iw 41 x.2.1) (.pr (.cw) (.d (.pair ti .unit) x.1.2.2)))]++bC 9 ([cH (.d gK x.2.2.1)]++bC 25 ([cH (.vec 47 dM x.2.2.2)]++bC 80 [])))⟩))
def Nm:=eu.fD l7 tY jf lQ zp
def E4:tX->Option DZ:=jq Nm l7
def l9:Ls Wi tZ ym:=oP (λ(aBp,oV,kc,Jo,Rx,ahg,abi,Gq,Ry)=>⟨([.d tB aBp,bK,dX 2,bK,dX 15,dX 5]++a9 7 ([.d ti oV]++a9 108 [])),[],([[],[],cH (.pr (.cw) (.pr (.cw) (.d (.pair ti .unit) kc))),[],[],cH (.pr (iw 41 Jo) (.pr (iw 76 Rx) (.d (.pair ti .unit) ahg)))]++bC 9 ([cH (.d gK abi)]++bC 25 ([cH (.vec 47 dM Gq)]++bC 34 ([cH (.vec 55 dO Ry)]++bC 45 []))))⟩) (λx=>(.exit 4,⟨([.d tB x.1.1,bK,dX 2,bK,dX 15,dX 5]++a9 116 []),[],([[],[],cH (.pr (.cw) (.pr (.cw) (.d (.pair ti .unit) x.1.2.1))),[],[],cH (.pr (iw 41 x.1.2.2.1) (.pr (iw 76 x.1.2.2.2.1) (.d (.pair ti .unit) x.1.2.2.2.2.1)))]++bC 9 ([cH (.d gK x.2.1)]++bC 25 ([cH (.vec 47 dM x.2.2)]++bC 34 ([cH (.vec 55 dO x.1.2.2.2.2.2)]++bC 45 []))))⟩))
def gZ:Fs Tryz.prog ahZ bm abB:=fg 8 Tryz.f8 (λb=>([.d tB b],[])) (λx=>⟨.cons (.d eU x.1) (.cons (.d .bool x.2) (.nil)),[],[]⟩) [aw tB] [abK,ND,aoZ,ar8,amz,alM,ZK,asb,nb,RM] {loops:=oN [(5,{aY:=[0,2,4,5,6,7],sites:=[2,5,15,41],owns:=[⟨5,[.fst],41,22⟩]}),(10,{aY:=[0,2,4,5,8,9],sites:=[2,5,15,41,76],owns:=[⟨5,[.snd,.fst],76,23⟩]}),(20,{aY:=[0,2,4,5,13],sites:=[2,5,15,41,76]})],outs:=oM [(5,{aY:=[0,2,4,5],sites:=[2,5,15,41]},{aY:=[2,3]}),(10,{aY:=[0,2,4,5],sites:=[2,5,15,41,76]},{aY:=[2,3],sites:=[2]}),(20,{aY:=[0,2,4,5],sites:=[2,5,15,41,76]},{aY:=[2,3]})],fE:=pX [(5,kA.E),(10,Nm),(20,l9.E)],res:=[aw eU,aF]}
def DY:= @fO Tryz.prog (oc gZ.G) gZ.an 0 Tryz.f8 1 _ l7
abbrev Jw:=oT Tryz.prog (oc gZ.G) gZ.an 0 Tryz.f8 1 l7 tY jf lQ zp
theorem Wg:kA.RS:=rL [.d tB,.d ti,.d ti,.d (.pair ti .unit),.n,.d (.pair ti .unit),.d gK,.d (.slice dM)] kA
theorem E3(fI n i n2 adJ n5 aCZ aAc)(kn:K2 R)(kx:K3 R):gZ.R 0 kA (fI,n,i,n2,adJ,n5,aCZ,aAc) kn kx=aG (fV i n) (aG (fV i 65) (aj (WQ.call aCZ) λx1=>aG (x1.2) (aj (BO.call x1.1) λx2=>aj (px.call x2.2) λx3=>aG (decide (adJ<=(ae aAc))) (aG (db (adJ+1) 80) (kn (kA.st (fI,n,(bB .i64 i 1),n2,(adJ+1),n5,x3.2,((aP adJ aAc)++ [((x2.1,(x3.1,())),((0,(([]:List Sg),(0,()))),()))])))) aF) aF) (kA.go kx ((fI,n2,n5),(adJ,x1.1,aAc)))) (kA.go kx ((fI,n2,n5),(adJ,aCZ,aAc)))) (kA.go kx ((fI,n2,n5),(adJ,aCZ,aAc))):=cK
theorem Wh:nw E4 tY jf lQ:=qL (qF [.d tB,.d ti,.d ti,.d (.pair ti .unit),.n,.n,.d (.pair ti .unit),.d gK,.d (.slice dM),.d (.slice dO)] λ_=>cK)
theorem IY:qN @DY l7 tY jf lQ zp Jw:=sk
theorem E5(xu m eI gD sZ At SJ MS EP at3)(kn:K2 R)(kx:K3 R):DY (xu,m,eI,gD,sZ,At,SJ,MS,EP,at3) kn kx=aG (fV eI m) (aG (fV eI (65:Int)) (aj (WQ.call MS) λx1=>aG (x1.2) (aj (px.call x1.1) λx2=>aj (AK.call x2.2) λx3=>aj (yf.call x3.1) λx4=>aG (!x4.2) (kx (mO ((0:Int),())).1 (mO ((0:Int),())).2) (aG (decide (At<=(ae at3))) (aG (db (At+1) 32) (kn (l7 (xu,m,(bB .i64 eI (1:Int)),gD,sZ,(At+1),SJ,x3.2,EP,((aP At at3)++ [(x2.1,(x4.1,()))])))) aF) aF)) (kx (jg ((xu,gD,sZ,SJ,EP),(At,x1.1,at3))).1 (jg ((xu,gD,sZ,SJ,EP),(At,x1.1,at3))).2)) (kx (jg ((xu,gD,sZ,SJ,EP),(At,MS,at3))).1 (jg ((xu,gD,sZ,SJ,EP),(At,MS,at3))).2)) (kx (jg ((xu,gD,sZ,SJ,EP),(At,MS,at3))).1 (jg ((xu,gD,sZ,SJ,EP),(At,MS,at3))).2):=cK
theorem Wj:l9.RS:=rL [.d tB,.d ti,.d (.pair ti .unit),.n,.n,.d (.pair ti .unit),.d gK,.d (.slice dM),.d (.slice dO)] l9
theorem E6(aBp oV kc Jo Rx ahg abi Gq Ry)(kn:K2 R)(kx:K3 R):gZ.R 2 l9 (aBp,oV,kc,Jo,Rx,ahg,abi,Gq,Ry) kn kx=aG (fV oV ((Jo:Nat):Int)) (aj (WQ.call abi) λx1=>aG (x1.2) (aj (mf.call x1.1) λx2=>aG (ei oV ((Jo:Nat):Int)) (aG (decide ((0+(ab oV)) < (ae Gq))) (aG (decide ((((0+(ab oV))*36)+33)=((0+((ab oV)*36))+33))) (aG (decide ((0+(ab oV)) < (ae Gq))) (kn (l9.st (aBp,(bB .i64 oV 1),kc,Jo,Rx,ahg,x2.2,(eE Gq (0+(ab oV)) ((nth dM Gq (0+(ab oV))).1,(x2.1,(nth dM Gq (0+(ab oV))).2.2))),Ry))) aF) aF) aF) aF) (l9.go kx ((aBp,kc,Jo,Rx,ahg,Ry),(x1.1,Gq)))) (l9.go kx ((aBp,kc,Jo,Rx,ahg,Ry),(abi,Gq))):=cK
theorem alV(b)(k:K1 R):gZ.A b k=aj (Hd.call b) λx1=>aj (px.call x1) λx2=>aj (kA.call (b,x2.1,0,(0,()),0,(0,()),x2.2,([]:List fB))) λx9=>aj (px.call x9.2.2.1) λQN=>aj (E4 (x9.1.1,QN.1,0,x9.1.2.1,x9.2.1,0,x9.1.2.2,QN.2,x9.2.2.2,([]:List gb))) λajN=>aG ajN.isLeft (aj ajN.getLeft? λa20=>k (gZ.out ((([]:List fB),(([]:List gb),a20)),aQ))) (aj ajN.getRight? λb21=>aj (px.call b21.2.2.1) λFJ=>aj (l9.call (b21.1.1,0,b21.1.2.1,b21.1.2.2.1,b21.2.1,(FJ.1,b21.1.2.2.2.1.2),FJ.2,b21.1.2.2.2.2,b21.2.2.2)) λLL=>aj (WQ.call LL.2.1) λFK=>aG (!FK.2) (k (gZ.out ((([]:List fB),(([]:List gb),(0,()))),aQ))) (aj (Ld.call FK.1) λaIJ=>aG (xS aIJ.2 0) (k (gZ.out ((([]:List fB),(([]:List gb),(0,()))),aQ))) (aG (decide (0=0/\(0+LL.1.2.2.1)<=(ae LL.2.2))) (aG (decide (0=0/\(0+LL.1.2.2.2.1)<=(ae LL.1.2.2.2.2.2))) (aj (dy.call ((cut LL.2.2 0 LL.1.2.2.1),((cut LL.1.2.2.2.2.2 0 LL.1.2.2.2.1),LL.1.2.2.2.2.1))) λaFS=>aG (!aFS) (k (gZ.out ((([]:List fB),(([]:List gb),(0,()))),aQ))) (aG (decide (0=0/\(0+LL.1.2.2.1)<=(ae LL.2.2))) (aG (decide (0=0/\(0+LL.1.2.2.2.1)<=(ae LL.1.2.2.2.2.2))) (aj (fP.call ((cut LL.2.2 0 LL.1.2.2.1),((cut LL.1.2.2.2.2.2 0 LL.1.2.2.2.1),LL.1.2.2.2.2.1))) λaIK=>aG (aGk (cY aIK) (cY LL.1.1)) (k (gZ.out ((([]:List fB),(([]:List gb),(0,()))),aQ))) (aG (decide (0=0/\(0+LL.1.2.2.1)<=(ae LL.2.2))) (aG (decide (0=0/\(0+LL.1.2.2.2.1)<=(ae LL.1.2.2.2.2.2))) (k (gZ.out (((cut LL.2.2 0 LL.1.2.2.1),((cut LL.1.2.2.2.2.2 0 LL.1.2.2.2.1),LL.1.2.2.2.2.1)),aW))) aF) aF)) aF) aF)) aF) aF))):=cK
theorem Zx:(gZ.j8 0 kA):=by
 refine(gZ.lX 0 kA) (λ(b,n,i,z,L,y,r,l)=>65 - ab i) ?_
 rintro⟨b,n,i,z,L,y,r,l⟩ ⟨hr,k,rfl,hk,rfl,hl⟩;have hr:iB r:=hr;have hl:l.length=k:=hl;by_cases h:((k:Int) < n/\k < 65)/\r.2.1=aQ
 ·left;have e0:65 - (k:Int).toNat=(64 - k)+1:=by rw[aa];omega
  have e1:65 - ((k+1:Nat):Int).toNat=64 - k:=by rw[aa];omega
  have eb:Cq ((64 - k)+1) (n - (k:Int)) r=((adR r).1::(Cq (64 - k) (n - (k:Int) - 1) (adR r).2).1,(Cq (64 - k) (n - (k:Int) - 1) (adR r).2).2):=by rw[Cq,if_pos ⟨ak,h.2⟩]
  refine⟨(b,n,((k+1:Nat):Int),z,l.length+1,y,(adR r).2,l++ [at4 (adR r).1]),⟨aBZ hr,k+1,rfl,ak,by rw[ai];rfl,by rw[ai];show l.length+1=_;omega⟩,by simp only[aa];omega,?_,λkn kx=> ?_⟩
  ·simp only[tW,yk,e0,e1,eb,bS,aC,bQ,aE];rw[show n - ((k+1:Nat):Int)=n - (k:Int) - 1 by omega,show ∀a:Nat,l.length+1+a=l.length+(a+1) from λa=>ak]
  ·rw[E3,aU h.1.1,aU ak,uq (d:=r) trivial];simp only[ah,ao,ra,BQ,h.2,eP];rw[amC (d:=r) hr.1];simp only[ah,bm,aip];rw[lh (d:=(Cj r).2) (Mn hr).1.1];simp only[ah,bm,oR];rw[aI (az _),cV ak ak,N.ot ak,bt];rfl
 ·right;intro R kn kx;have eb:Cq (65 - k) (n - (k:Int)) r=([],r):=by
   by_cases h5:k=65
   ·subst h5;rfl
   ·rw[show 65 - k=(64 - k)+1 by omega,Cq,if_neg (by rintro⟨a,c⟩;exact h ⟨⟨ak,ak⟩,c⟩)]
  rw[E3];simp only[tW,yk,aa,eb,bj,bM,eX,bn];by_cases h1:(k:Int) < n
  ·rw[aU h1,ao];by_cases h2:k < 65
   ·have h3:r.2.1=aW:=by cases hc:r.2.1 with | true=>rfl | false=>exact absurd ⟨⟨h1,h2⟩,hc⟩ h
    rw[aU ak,ao,uq (d:=r) trivial];simp only[ah,ra,BQ,h3,cd,au]
   ·rw[aT ak];rfl
  ·rw[aT h1];rfl
theorem Zy:Jw:=by
 refine IY (λ(b,m,i,z,L,L3,y,r,l,os)=>65 - ab i) ?_
 rintro⟨b,m,i,z,L,L3,y,r,l,os⟩ ⟨hr,k,rfl,hk,rfl,hl⟩;have hr:iB r:=hr;have hl:os.length=k:=hl;by_cases h:((k:Int) < m/\k < 65)/\r.2.1=aQ
 ·have e0:65 - (k:Int).toNat=(64 - k)+1:=by rw[aa];omega
  have e1:65 - ((k+1:Nat):Int).toNat=64 - k:=by rw[aa];omega
  have hp:0 < m - (k:Int)/\r.2.1=aQ:=⟨ak,h.2⟩;have h1:=gv hr;have h2:=L0 h1.1.1;have step:∀ {R:Type} (kn:AS->Option R) (kx:Exit->AS->Option R),DY (b,m,(k:Int),z,L,os.length,y,r,l,os) kn kx=aG (!(qA (wA (bX r).2).1).2) (kx (mO (0,())).1 (mO (0,())).2) (kn (l7 (b,m,((k+1:Nat):Int),z,L,os.length+1,y,(Bk r).2,l,os++ [(Bk r).1]))):=by intro R kn kx;rw[E5,aU h.1.1,aU ak,uq (d:=r) trivial];simp only[ah,ao,ra,BQ,h.2,eP];rw[lh (d:=r) hr.1];simp only[ah,bm,oR];rw[aio (d:=(bX r).2) h1.1.1.1];simp only[ah,bm,P5];rw[ahN (d:=(wA (bX r).2).1) ⟨h2.2.1,h2.2.2⟩];simp only[ah,bm,PV];rw[aI (az _),cV ak ak,N.ot ak,bt];rfl
  cases hq:(qA (wA (bX r).2).1).2
  ·right;refine⟨mO (0,()),?_,λkn kx=> ?_⟩
   ·simp only[jf,lQ,e0,Av,if_pos hp,hq,bU,bz];rfl
   ·rw[step,hq];rfl
  ·left;refine⟨(b,m,((k+1:Nat):Int),z,L,os.length+1,y,(Bk r).2,l,os++ [(Bk r).1]),⟨h2.1.1,k+1,rfl,ak,by rw[ai];rfl,by rw[ai];show os.length+1=_;omega⟩,by simp only[aa];omega,?_,λkn kx=> ?_⟩
   ·simp only[jf,lQ,e0,e1,Av,if_pos hp,hq,bN];rw[show m - ((k+1:Nat):Int)=m - (k:Int) - 1 by omega];cases Av (64 - k) (m - (k:Int) - 1) (Bk r).2 with
    |none=>rfl
    |some x=>
     simp only[aE,aC,bQ];rw[show ∀a c:Nat,a+1+c=a+(c+1) from λa c=>ak]
   ·rw[step,hq];rfl
 ·right;have eb:Av (65 - k) (m - (k:Int)) r=aw ([],r):=by
   by_cases h5:k=65
   ·subst h5;rfl
   ·rw[show 65 - k=(64 - k)+1 by omega,Av,if_neg (by rintro⟨a,c⟩;exact h ⟨⟨ak,ak⟩,c⟩)]
  refine⟨jg ((b,z,L,y,l),(os.length,r,os)),?_,λkn kx=> ?_⟩
  ·simp only[jf,lQ,aa,eb,bj,bM,bn];rfl
  ·rw[E5];by_cases h1:(k:Int) < m
   ·rw[aU h1,ao];by_cases h2:k < 65
    ·have h3:r.2.1=aW:=by cases hc:r.2.1 with | true=>rfl | false=>exact absurd ⟨⟨h1,h2⟩,hc⟩ h
     rw[aU ak,ao,uq (d:=r) trivial];simp only[ah,ra,BQ,h3,cd,au]
    ·rw[aT ak];rfl
   ·rw[aT h1];rfl
theorem aoO:∀(l:List fB),(∀x∈l,x=at4 x.1)->(l.map (·.1)).map at4=l
 |[],_=>rfl
 |x::l,h=>by rw[bS,bS,<-h x bf,aoO l λy hy=>h y (aV _ hy)]
theorem Zz:(gZ.j8 2 l9):=by
 refine(gZ.lX 2 l9) (λ(b,i,z,L,L5,y,r,l,os)=>l.length - ab i) ?_
 rintro⟨b,i,z,L,L5,y,r,l,os⟩ ⟨hr,hl,k,rfl,hk,rfl,hg⟩;have hr:iB r:=hr;have hl:l.length<=65:=hl;have hk:k<=l.length:=hk;by_cases h:k < l.length/\r.2.1=aQ
 ·left;have n1:nth dM l k=l[k]:=cC (t:=dM) h.1;have hd:l.drop k=l[k]::l.drop (k+1):=aq h.1;have ew:rr ((l.drop k).map (·.1)) r=((l[k].1,((FI r).1,()))::(rr ((l.drop (k+1)).map (·.1)) (FI r).2).1,(rr ((l.drop (k+1)).map (·.1)) (FI r).2).2):=by rw[hd,bS,rr,if_pos h.2]
  have hs:(l.set k (l[k].1,((FI r).1,()))).length=l.length:=ed;have ht:(l.set k (l[k].1,((FI r).1,()))).take (k+1)=l.take k++ [(l[k].1,((FI r).1,()))]:=by rw[dV (by rw[hs];exact h.1),QD,List.getElem_set_self]
  refine⟨(b,((k+1:Nat):Int),z,l.length,L5,y,(FI r).2,l.set k (l[k].1,((FI r).1,())),os),⟨(an2 hr).1,by rw[hs];exact hl,k+1,rfl,by rw[hs];exact h.1,by rw[hs],by rw[O7];exact λx hx=>hg x (by rw[hd];exact aV _ hx)⟩,by show(l.set k (l[k].1,((FI r).1,()))).length - ab ((k+1:Nat):Int) < l.length - ab (k:Int);rw[hs];simp only[aa];omega,?_,λkn kx=> ?_⟩
  ·simp only[tZ,ym,aa,ew,O7,ht,aC,bQ]
  ·rw[E6,aU ak,uq (d:=r) trivial];simp only[ah,ao,ra,BQ,h.2,eP];rw[Wv (d:=r) hr];simp only[ah,bm,Nx];rw[bo ak ak];simp only[aa,aH,ao,aI h.1,bA,n1];rw[N.ot ak]
 ·right;have ew:rr ((l.drop k).map (·.1)) r=(l.drop k,r):=by
   by_cases h1:k < l.length
   ·have h3:¬r.2.1=aQ:=λhc=>h ⟨h1,hc⟩
    have hd:l.drop k=l[k]::l.drop (k+1):=aq h1;have ea:=aoO _ hg;rw[hd]at ea ⊢;rw[bS,rr,if_neg h3,<-bS,ea]
   ·rw[dh ak];rfl
  intro R kn kx;rw[E6];simp only[tZ,ym,aa,ew,dm];by_cases h1:k < l.length
  ·have h3:r.2.1=aW:=by cases hc:r.2.1 with | true=>rfl | false=>exact absurd ⟨h1,hc⟩ h
   rw[aU ak,ao,uq (d:=r) trivial];simp only[ah,ra,BQ,h3,cd,au]
  ·rw[aT ak];rfl
theorem alW:gZ.Ok:=by
 rintro b ⟨hb,hl⟩;have hb:Bytes b:=hb;have hl:b.length<=1000000000:=hl;have k0:=TN hb hl;have k1:=(gv k0).1.1;have k2:=adU 65 (bX (b,aQ,())).1 _ k1;have aJf:(sH b).1.length<=65:=k2.2.1;have k2:iB (sH b).2:=k2.1;have k3:=(gv k2).1.1;have hm:((sH b).1.map at4).length=(sH b).1.length:=bR _;have hI:∀x∈(sH b).1.map at4,x=at4 x.1:=λx hx=>by obtain⟨o,_,rfl⟩:=fm.1 hx;rfl
 have hM:((sH b).1.map at4).map (·.1)=(sH b).1:=by rw[lq];exact jP _
 rw[alV,WS (d:=b) hl];simp only[ah,bm,WR,bm,abB];rw[lh (d:=(b,aQ,())) k0.1];simp only[ah,bm,oR];rw[Wg (d:=(b,(bX (b,aQ,())).1,0,(0,()),0,(0,()),(bX (b,aQ,())).2,[])) ⟨k1,0,rfl,aL _,rfl,rfl⟩];simp only[ah,tW,yk,aS,nu,iK,aH,aO];rw[show Cq 65 (bX (b,aQ,())).1 (bX (b,aQ,())).2=sH b from rfl,lh (d:=(sH b).2) k2.1];simp only[ah,bm,oR];rw[Wh (d:=(b,(bX (sH b).2).1,0,(0,()),(sH b).1.length,0,(0,()),(bX (sH b).2).2,(sH b).1.map at4,[])) ⟨k3,0,rfl,aL _,rfl,rfl⟩];simp only[ah,jf,lQ,aS,nu,iK,aH,aO];rw[<-axu hb hl];unfold aiv;cases hx:Av 65 (bX (sH b).2).1 (bX (sH b).2).2 with
 |none=>rfl
 |some x=>
  have k4:=adY 65 _ _ x k3 hx;have k5:=(gv k4.1).1.1;have k6:=afz (sH b).1 _ k5;simp only[fb,dW,au,ah];rw[lh (d:=x.2) k4.1.1];simp only[ah,bm,oR];rw[Wj (d:=(b,0,(0,()),(sH b).1.length,x.1.length,((bX x.2).1,()),(bX x.2).2,(sH b).1.map at4,x.1)) ⟨k5,by rw[hm];exact aJf,0,rfl,aL _,hm.symm,hI⟩];simp only[ah,tZ,ym,aS,aM,dI,aO,hM];have aCy:=c7 ae k6.2.1;rw[bR]at aCy;obtain⟨W,hW⟩:∃W,rr (sH b).1 (bX x.2).2=W:=⟨_,rfl⟩;rw[hW]at k6 aCy ⊢;have hv:Ca (W.1,(x.1,((bX x.2).1,()))):=by
   refine⟨⟨k4.2.2,by show W.1.length<=_;omega,by show x.1.length<=_;omega⟩,λy hy=>⟨?_,(k6.2.2 y hy).1,by have:=(k6.2.2 y hy).2;omega⟩,(iA k4.1.1).2.1⟩;refine(adU 65 (bX (b,aQ,())).1 _ k1).2.2 y.1 ?_
   show y.1∈(sH b).1;rw[<-k6.2.1];exact List.mem_map_of_mem hy
  rw[uq (d:=W.2) trivial];simp only[ah,ra,BQ,azt];cases hc:W.2.2.1
  case true=>rw[if_neg (by rintro⟨a,_⟩;cases a)];rfl
  simp only[eP,cd,au];rw[amE (d:=W.2) trivial];simp only[ah,WM,aiq];by_cases h0:W.2.1.length=0
  case neg=>rw[dk ak,if_neg (by rintro⟨_,a,_⟩;exact h0 a)];rfl
  rw[cJ ak,au,aI ⟨by trivial,ak⟩,ao,aI ⟨by trivial,az _⟩,ao,dw aCy,dw rfl,lR (d:=(W.1,(x.1,((bX x.2).1,())))) hv.1];simp only[ah,bm,nK];cases gT:gS (W.1,(x.1,((bX x.2).1,())))
  case false=>rw[if_neg (by rintro⟨_,_,a,_⟩;cases a)];rfl
  rw[cd,au,Na (d:=(W.1,(x.1,((bX x.2).1,())))) hv];simp only[ah,bm,K8];rw[ayc (aco hv).1 hb];by_cases he:aap (W.1,(x.1,((bX x.2).1,())))=b
  ·rw[aI he,if_pos ⟨by trivial,h0,by trivial,he⟩];rfl
  ·rw[aJ he,if_neg (by rintro⟨_,_,_,a⟩;exact he a)];rfl
theorem ah0:gZ.RS:=rE [.d tB] gZ
def alX:=gZ.fh alW 3 ⟨.fD Zx,⟨.fD Zy,⟨.fD Zz,trivial⟩⟩⟩
def aFu:ByteArray:=⟨#[107,101,121]⟩
def ans:Bs->Prop:=λs=>s.length=32
def aya:Bs->Int:=λs=>Af (anF aFu [s])
def HF:Fs Tryz.prog ans bm aya:=fg 26 Tryz.f26 (λseed=>([.d tH seed],[])) (λx=>⟨.d tu x,[],[]⟩) [aw tH] [Tw,Ut]
theorem as9(seed)(k:K1 R):HF.A seed k=aj (Pp.call ((⟨#[107,101,121]⟩:ByteArray),[(cut seed 0 32)])) λx1=>aj (EL.call x1) λx2=>k (HF.out x2):=cK
theorem ata:HF.Ok:=by intro s h;have h:s.length=32:=h;rw[as9,dw h];rw[My (d:=((⟨#[107,101,121]⟩:ByteArray),[s])) (XM gw ak)];simp only[ah,bm,UH];rw[Pb (d:=tag (bw (⟨#[107,101,121]⟩:ByteArray)) [s]) (Qz _ _)];rfl
theorem ant:HF.RS:=rE [.d tB] HF
def atb:=HF.fh ata
def ak0:Int->Prop:=λ_=>True
def avY:Int->Lk:=λp=>(([([p],0,0,0,())],()):Lk)
def Bf:Fs Tryz.prog ak0 bm avY:=fg 28 Tryz.f28 (λp=>([.d tu p],[])) (λx=>⟨.d zV x,[],[]⟩) [aw tu]
theorem aqC(p)(k:K1 R):Bf.A p k=k (Bf.out ([([p],(0,(0,(0,()))))],())):=cK
theorem aqD:Bf.Ok:=by intro p _;rw[aqC];rfl
theorem ak1:Bf.RS:=rE [.d tu] Bf
def aqE:=Bf.fh aqD
def kK:Int:=2280522697135155589
def pK:Int:=261844167819670384
theorem aHq:Af (anF aFu [1::ag 31 0])=kK:=by decide+kernel
theorem aud:iX kK=pK:=by decide+kernel
def aBT:Lk:=([([pK],0,0,0,())],())
def zY(n:Int):fB:=((ag 32 0,n,()),(0,[],0,()),())
def t13:eT:=([zY 3,zY 4],[(5,aBT,()),(0,aBT,()),(0,aBT,())],300,())
def atW:eT:=([],[],0,())
def aGm:eT:=([zY 0,zY 0],[],0,())
theorem awz:gS t13=aW:=by decide+kernel
theorem aBY:gS atW=aQ:=by decide+kernel
theorem aFx:gS aGm=aQ:=by decide+kernel
theorem aFF:uC t13 1 2 [kK]=aW:=by decide+kernel
theorem aFG:uC t13 2 2 [kK]=aQ:=by decide+kernel
theorem aFH:uC t13 1 2 [0]=aQ:=by decide+kernel
theorem avN(n:Int):aIX (zY n):=⟨⟨by show(ag 32 (0:Int)).length=32;rw[cO],λx hx=>by obtain rfl:=(List.mem_replicate.1 hx).2;exact⟨gw,gw⟩⟩,⟨λs hs=>(by cases hs),by show(0:Int)<=0;decide,by show(0:Int) < 18446744073709551616;decide⟩,aL _⟩
theorem aFr:aBm aBT:=⟨λb hb=>by
 have hb:b∈ [(([pK],(0:Int),(0:Int),(0:Int),()):mr)]:=hb;rw[cX]at hb;subst hb;exact⟨λx hx=>by
  have hx:x∈ [pK]:=hx;rw[cX]at hx;subst hx;exact⟨gw,gw⟩,gw,gw⟩,gw⟩
theorem aBf:Ca t13:=⟨⟨λo ho=>by
  have ho:o∈ [((5:Int),aBT,()),(0,aBT,()),(0,aBT,())]:=ho;simp only[cz,j9,or_false]at ho;rcases ho with rfl | rfl | rfl <;> exact aFr,gw,gw⟩,λx hx=>by
  have hx:x∈ [zY 3,zY 4]:=hx;simp only[cz,j9,or_false]at hx;rcases hx with rfl | rfl <;> exact avN _,gw⟩
theorem aFP:Ca atW:=⟨⟨λo ho=>(by cases ho),gw,gw⟩,λx hx=>(by cases hx),gw⟩
theorem aHP:Ca aGm:=⟨⟨λo ho=>(by cases ho),gw,gw⟩,λx hx=>by
  have hx:x∈ [zY 0,zY 0]:=hx;simp only[cz,j9,or_false]at hx;rcases hx with rfl | rfl <;> exact avN _,gw⟩
theorem aue(k:Int):iN (iX k):=(VU _ _).u
theorem aFM:iN 7:=⟨gw,gw⟩
theorem aFq:∀x∈ [kK],iN x:=λx hx=>by rw[cX]at hx;subst hx;exact⟨gw,gw⟩
theorem Z7:∃(m:List Int) (u:eT) (s:Sg) (bs:List Int),tid.call t13=aw m/\rp.call (t13,1,2,[kK],7)=aw (u,0)/\rp.call (t13,2,2,[kK],7)=aw (atW,1)/\rp.call (t13,1,2,[0],7)=aw (atW,1)/\
  jN.call u=aw bs/\kJ.call bs=aw (u,aW)/\eV.call aGm=aw aQ/\rk.call t13=aw [(m,0,()),(m,1,()),(m,2,())]/\iT.call t13=aw [(zY 3).1,(zY 4).1]/\u.1.length=2/\(nth dM u.1 1).2.1=(2,[s],7,())/\
  eV.call t13=aw aW/\tid.call u=aw m/\A0.call (pK,m,s)=aw aW/\hP.call t13=aw 54/\hP.call u=aw 66/\rn.call (u,u)=aw aW/\rn.call (t13,u)=aw aQ/\tid.call atW=aw (ag 32 0)/\eV.call atW=aw aQ:=by
 have all:=ax6 aBf aFF aFM;obtain⟨u,hu⟩:∃u,I2 t13 (ab 1) (El t13 2 [kK] 7)=u:=⟨_,rfl⟩;have zU:nth dM u.1 1=((nth dM t13.1 1).1,El t13 2 [kK] 7,()):=by rw[<-hu];exact aAY gw
 have hlen:u.1.length=2:=by rw[<-hu,aiW];rfl
 have ho:u.2.1.length=3:=by rw[<-hu];rfl
 have hf:u.1=[zY 3,((zY 4).1,El t13 2 [kK] 7,())]:=by rw[<-hu];rfl
 rw[hu]at all;obtain⟨a1,a2,a3,a4,a5⟩:=all;have jR:t13≠u:=λe=>by
  have e1:t13.1=u.1:=by rw[<-e]
  rw[hf]at e1;have e2: [zY 3,zY 4]=[zY 3,((zY 4).1,El t13 2 [kK] 7,())]:=e1;rw[bF,bF]at e2;have e3:(zY 4).2.1.1=(El t13 2 [kK] 7).1:=by rw[e2.2.1]
  cases e3
 obtain⟨m,hm⟩:∃m,OF t13=m:=⟨_,rfl⟩;have bl:=aco a2;refine⟨m,u,pD kK m,aap u,?_,?_,?_,?_,XP (d:=u) a2,?_,?_,?_,?_,hlen,?_,?_,?_,?_,?_,?_,?_,?_,?_,?_⟩
 ·rw[<-hm];exact Es (d:=t13) aBf
 ·rw[QH (d:=(t13,1,2,[kK],7)) ⟨aBf,aFq,gw⟩,<-hu];simp only[bm,OA,CW,aFF,bN]
 ·rw[QH (d:=(t13,2,2,[kK],7)) ⟨aBf,aFq,gw⟩];simp only[bm,OA,CW,aFG,bU,bz];rfl
 ·rw[QH (d:=(t13,1,2,[0],7)) ⟨aBf,λx hx=>by rw[cX]at hx;subst hx;exact⟨gw,gw⟩,gw⟩];simp only[bm,OA,CW,aFH,bU,bz];rfl
 ·rw[acm (d:=aap u) ⟨bl.1,by show(aap u).length<=_;have:=bl.2;omega⟩];simp only[bm,aff,W6 a2 a1]
 ·rw[jz (d:=aGm) aHP.1];simp only[bm,mQ,aFx]
 ·rw[acj (d:=t13) aBf];simp only[bm,ae8];unfold sW;rw[awz,hm];rfl
 ·rw[Sx (d:=t13) aBf.1];simp only[bm,QI];unfold jt;rw[awz];rfl
 ·rw[zU];show El t13 2 [kK] 7=_;unfold El;rw[hm];rfl
 ·rw[jz (d:=t13) aBf.1];simp only[bm,mQ,awz]
 ·rw[Es (d:=u) a2];simp only[bm,X0,a3,hm]
 ·rw[ajg (d:=(pK,m,pD kK m)) ⟨by rw[<-aud];exact aue _,by rw[<-hm];exact aft,aiZ _ _⟩];simp only[bm,acd,<-aud];rw[aA5 kK m gw gw]
 ·rw[H9 (d:=t13) aBf];simp only[bm,IP];unfold Ig;rw[awz];rfl
 ·rw[H9 (d:=u) a2];simp only[bm,IP];unfold Ig;rw[a1,hf,ho];rfl
 ·rw[QE (d:=(u,u)) (N9 a1)];simp only[bm,TT,bA]
 ·rw[QE (d:=(t13,u)) (N9 awz)];simp only[bm,TT,rz jR]
 ·rw[Es (d:=atW) aFP];simp only[bm,X0];unfold OF;rw[aBY];rfl
 ·rw[jz (d:=atW) aFP.1];simp only[bm,mQ,aBY]
theorem ay7(m:List Int):Ty.beq tH m m=aW:=afU tH m rfl
def ai9:Unit->Prop:=λ_=>True
def aca:Unit->Bool:=λ_=>aW
def fJ:Fs Tryz.prog ai9 bm aca:=fg 4 Tryz.f4 (λ_=>([],[])) (λx=>⟨.d .bool x,[],[]⟩) [] [atb,VJ,aqE,ayA,ach,ajy,oF,ajr,Ym,X1,anE,Yp,ajz]
theorem anu(d)(k:K1 R):fJ.A d k=aj (HF.call [1,0,0,0,0,0,0,0,0,0,0,0,0,0,0,0,0,0,0,0,0,0,0,0,0,0,0,0,0,0,0,0]) λx4=>aj (Gt.call x4) λx8=>aj (Bf.call x8) λatS=>aj (Bf.call x8) λajN=>aj (Bf.call x8) λajO=>aj (rp.call (([(((ag 32 0),(3,())),((0,(([]:List Sg),(0,()))),())),(((ag 32 0),(4,())),((0,(([]:List Sg),(0,()))),()))],([(5,(atS,())),(0,(ajN,())),(0,(ajO,()))],(300,()))),1,2,[x4],7)) λFy=>aj (rp.call (([(((ag 32 0),(3,())),((0,(([]:List Sg),(0,()))),())),(((ag 32 0),(4,())),((0,(([]:List Sg),(0,()))),()))],([(5,(atS,())),(0,(ajN,())),(0,(ajO,()))],(300,()))),2,2,[x4],7)) λaFS=>aj (rp.call (([(((ag 32 0),(3,())),((0,(([]:List Sg),(0,()))),())),(((ag 32 0),(4,())),((0,(([]:List Sg),(0,()))),()))],([(5,(atS,())),(0,(ajN,())),(0,(ajO,()))],(300,()))),1,2,[0],7)) λI5=>aj (jN.call Fy.1) λaIL=>aj (kJ.call aIL) λaGp=>aj (eV.call ([(((ag 32 0),(0,())),((0,(([]:List Sg),(0,()))),())),(((ag 32 0),(0,())),((0,(([]:List Sg),(0,()))),()))],(([]:List gb),(0,())))) λaIM=>aj (rk.call ([(((ag 32 0),(3,())),((0,(([]:List Sg),(0,()))),())),(((ag 32 0),(4,())),((0,(([]:List Sg),(0,()))),()))],([(5,(atS,())),(0,(ajN,())),(0,(ajO,()))],(300,())))) λaFT=>aj (iT.call ([(((ag 32 0),(3,())),((0,(([]:List Sg),(0,()))),())),(((ag 32 0),(4,())),((0,(([]:List Sg),(0,()))),()))],([(5,(atS,())),(0,(ajN,())),(0,(ajO,()))],(300,())))) λaFU=>aG (Ak Fy.2 0) (k (fJ.out aQ)) (aG (Ak (Fy.1.1.length:Int) 2) (k (fJ.out aQ)) (aG (ei 1 (Fy.1.1.length:Int)) (aG (Ak (((ae (nth dM Fy.1.1 1).2.1.2.1):Nat):Int) 1) (k (fJ.out aQ)) (aG (Ak (aFT.length:Int) 3) (k (fJ.out aQ)) (aG (Ak (aFU.length:Int) 2) (k (fJ.out aQ)) (aG (ei 1 (Fy.1.1.length:Int)) (aj (eV.call ([(((ag 32 0),(3,())),((0,(([]:List Sg),(0,()))),())),(((ag 32 0),(4,())),((0,(([]:List Sg),(0,()))),()))],([(5,(atS,())),(0,(ajN,())),(0,(ajO,()))],(300,())))) λaIN=>aG (aIN) (aG (wD aFS.2 1) (aG (wD I5.2 1) (aj (tid.call Fy.1) λaIO=>aj (tid.call ([(((ag 32 0),(3,())),((0,(([]:List Sg),(0,()))),())),(((ag 32 0),(4,())),((0,(([]:List Sg),(0,()))),()))],([(5,(atS,())),(0,(ajN,())),(0,(ajO,()))],(300,())))) λaIP=>aG (Ty.beq tH aIO aIP) (aj (tid.call ([(((ag 32 0),(3,())),((0,(([]:List Sg),(0,()))),())),(((ag 32 0),(4,())),((0,(([]:List Sg),(0,()))),()))],([(5,(atS,())),(0,(ajN,())),(0,(ajO,()))],(300,())))) λaIQ=>aG (ei 0 (((ae (nth dM Fy.1.1 1).2.1.2.1):Nat):Int)) (aj (A0.call (x8,aIQ,(nth oE (nth dM Fy.1.1 1).2.1.2.1 0))) λajY=>aG (ajY) (aG (wD (nth dM Fy.1.1 1).2.1.1 2) (aG (wD (nth dM Fy.1.1 1).2.1.2.2.1 7) (aj (hP.call ([(((ag 32 0),(3,())),((0,(([]:List Sg),(0,()))),())),(((ag 32 0),(4,())),((0,(([]:List Sg),(0,()))),()))],([(5,(atS,())),(0,(ajN,())),(0,(ajO,()))],(300,())))) λLO=>aG (wD LO 54) (aj (hP.call Fy.1) λaIR=>aG (wD aIR 66) (aG (aGp.2) (aj (rn.call (aGp.1,Fy.1)) λaIS=>aG (aIS) (aj (rn.call (([(((ag 32 0),(3,())),((0,(([]:List Sg),(0,()))),())),(((ag 32 0),(4,())),((0,(([]:List Sg),(0,()))),()))],([(5,(atS,())),(0,(ajN,())),(0,(ajO,()))],(300,()))),Fy.1)) λaIT=>aG (!aIT) (aG (!aIM) (aG (ei 2 (aFT.length:Int)) (aj (tid.call ([(((ag 32 0),(3,())),((0,(([]:List Sg),(0,()))),())),(((ag 32 0),(4,())),((0,(([]:List Sg),(0,()))),()))],([(5,(atS,())),(0,(ajN,())),(0,(ajO,()))],(300,())))) λaIU=>aG (Ty.beq oS (nth oS aFT 2) (aIU,(2,()))) (aG (ei 1 (aFU.length:Int)) (aG (Ty.beq oS (nth oS aFU 1) ((ag 32 0),(4,()))) (aj (tid.call (([]:List fB),(([]:List gb),(0,())))) λaIV=>aG (Ty.beq tH aIV (ag 32 0)) (aj (eV.call (([]:List fB),(([]:List gb),(0,())))) λaIW=>k (fJ.out (!aIW))) (k (fJ.out aQ))) (k (fJ.out aQ))) aF) (k (fJ.out aQ))) aF) (k (fJ.out aQ))) (k (fJ.out aQ))) (k (fJ.out aQ))) (k (fJ.out aQ))) (k (fJ.out aQ))) (k (fJ.out aQ))) (k (fJ.out aQ))) (k (fJ.out aQ))) (k (fJ.out aQ))) aF) (k (fJ.out aQ))) (k (fJ.out aQ))) (k (fJ.out aQ))) (k (fJ.out aQ))) aF)))) aF)):=cK
theorem anv:fJ.Ok:=by
 rintro⟨⟩ _;obtain⟨m,u,s,bs,f1,f2,f3,f4,f5,f6,f7,f8,f9,f10,f11,f12,f13,f14,f15,f16,f17,f18,f19,f20⟩:=Z7;have c1:HF.call (1::ag 31 0)=aw kK:=by rw[<-aHq];exact ant (d:=1::ag 31 0) (by show(1::ag 31 (0:Int)).length=32;rw[aE,cO])
 have c2:Gt.call kK=aw pK:=by rw[<-aud];exact ID (d:=kK) ⟨gw,gw⟩
 have c3:Bf.call pK=aw aBT:=ak1 (d:=pK) trivial;rw[anu];refine(c7 (λz=>aj z _) c1).trans ?_
 rw[ah,c2,ah,c3];simp only[ah];refine(c7 (λz=>aj z _) f2).trans ?_
 rw[ah];refine(c7 (λz=>aj z _) f3).trans ?_
 rw[ah];refine(c7 (λz=>aj z _) f4).trans ?_
 rw[ah];simp only[f5,f6,ah,f10,f11];refine(c7 (λz=>aj z _) f7).trans ?_
 rw[ah];refine(c7 (λz=>aj z _) f8).trans ?_
 rw[ah];refine(c7 (λz=>aj z _) f9).trans ?_
 rw[ah];rw[show Ak ((2:Nat):Int) 2=aQ from rfl,bo gw gw,show Ak (([s].length:Nat):Int) 1=aQ from rfl,show Ak (([(m,(0:Int),()),(m,1,()),(m,2,())].length:Nat):Int) 3=aQ from rfl,show Ak (([(zY 3).1,(zY 4).1].length:Nat):Int) 2=aQ from rfl];simp only[au,ao,show Ak (0:Int) 0=aQ from rfl];refine(c7 (λz=>aj z _) f12).trans ?_
 rw[ah,ao,dJ rfl,ao,ao,f13,ah];refine(c7 (λz=>aj z _) f1).trans ?_
 rw[ah,ay7,ao];refine(c7 (λz=>aj z _) f1).trans ?_
 rw[ah,show ei 0 (([s].length:Nat):Int)=aW from rfl,ao];refine(c7 (λz=>aj z _) f14).trans ?_
 rw[ah,ao,dJ rfl,ao,dJ rfl,ao];refine(c7 (λz=>aj z _) f15).trans ?_
 rw[ah,dJ rfl,ao,f16,ah,dJ rfl,ao,f17,ah,ao];refine(c7 (λz=>aj z _) f18).trans ?_
 rw[ah];simp only[eP,ao];rw[show ei 2 (([(m,(0:Int),()),(m,1,()),(m,2,())].length:Nat):Int)=aW from rfl,ao];refine(c7 (λz=>aj z _) f1).trans ?_
 rw[ah,T8];refine(c7 (λz=>aG z _ _) (aI (p:=((m,(2:Int),()):tj)=(m,2,())) rfl)).trans ?_
 rw[ao,show ei 1 (([(zY 3).1,(zY 4).1].length:Nat):Int)=aW from rfl,ao,T8];refine(c7 (λz=>aG z _ _) (aI (p:=((ag 32 (0:Int),(4:Int),()):tj)=(ag 32 0,4,())) rfl)).trans ?_
 rw[ao];refine(c7 (λz=>aj z _) f19).trans ?_
 rw[ah,ay7,ao];refine(c7 (λz=>aj z _) f20).trans ?_
 rfl
theorem aja:fJ.RS:=rE [] fJ
def anw:=fJ.fh anv
abbrev OG:=eT×eT×Bool×Bool×Int×Nat×Nat×(Int×Unit)×(List fB)×(List gb)×Nat×Nat×(Int×Unit)×(List FA)×(List gb)
abbrev Ez:=eT×eT×Bool×Bool×Int×Int×Nat×Nat×(Int×Unit)×(List fB)×(List gb)×Nat×Nat×(Int×Unit)×(List FA)×(List gb)
def Ia:Ez->Unit->(eT×eT×Bool×Bool×Int×Nat×Nat×(Int×Unit)×(List fB)×(List gb)×Nat×Nat×(Int×Unit)×(List FA)×(List gb)):=λ(sh,aDw,Kz,Lm,eI,kv,Dv,Dw,KN,KO,KP,xX,Dx,Dz,tG,DA) y=>(sh,aDw,Kz,Lm,eI,Dv,Dw,KN,KO,KP,xX,Dx,Dz,tG,DA)
abbrev EA:=eT×eT×Bool×Bool×Int×Nat×Nat×(Int×Unit)×(List fB)×(List gb)×Nat×Nat×(Int×Unit)×(List FA)×(List gb)
def zN:EA->(List gb)->((eT×eT×Bool×Bool×Nat×Nat×(Int×Unit)×(List fB)×(List gb)×Nat×Nat×(Int×Unit)×(List FA))×((List gb))):=λ(xt,aDx,KA,Ln,oV,Dy,y3,DB,DC,DD,y4,tF,DE,DF,xY) y=>((xt,aDx,KA,Ln,Dy,y3,DB,DC,DD,y4,tF,DE,DF),y)
abbrev acp:=eT×eT×Bs×Int×Int×Bs×Int
theorem apa(s:ByteArray):seq s s=aW:=by simp[seq]
theorem ab8:CZ atW:=⟨⟨aL _,λx hx=>(by cases hx)⟩,aL _,λx hx=>(by cases hx)⟩
theorem C3(x:Bool):Ty.beq .bool x x=aW:=by cases x <;> rfl
theorem KJ(l:List fB):(dH (Ty.om dM) l:List fB)=l:=jP l
theorem Ds(l:List gb):(dH (Ty.om dO) l:List gb)=l:=jP l
theorem alf(l:List FA):(dH (Ty.om yy) l:List FA)=l:=jP l
theorem ale(l:List gb):(dH (Ty.KU dO) l:List gb)=l:=jP l
theorem ald(l:List fB):(dH (Ty.KU nR) (l.map (aoH aW)):List fB)=l:=(show _=dH id l from lq).trans (jP l)
theorem Kf(l:List fB):eD l (Ty.fW dM)=aW:=cf.2 λ_ _=>rfl
theorem Kg(l:List gb):eD l (Ty.fW dO)=aW:=cf.2 λ_ _=>rfl
theorem aj2(l:List FA):eD l (Ty.fW yy)=aW:=cf.2 λ_ _=>rfl
theorem aj3(l:List fB):eD (l.map (aoH aW)) (Ty.fW nR)=aW:=cf.2 λx hx=>by obtain⟨y,_,rfl⟩:=fm.1 hx;rfl
def aKj(x:fB):FA:=(x.1,((x.2.1.1,(x.2.1.2.1.length,x.2.1.2.2)),()))
def aBQ(l:List fB):List FA:=l.map aKj
theorem alg(l:List fB):(dH (Ty.om nR) (l.map (aoH aW)):List FA)=aBQ l:=lq
theorem MG(l:List fB):(aBQ l).length=l.length:=bR _
theorem aCO{l:List fB}{k:Nat}(h:k < l.length):((nth yy (aBQ l) k).2.1.2.1:Nat)=l[k].2.1.2.1.length:=by rw[show nth yy (aBQ l) k=(aBQ l)[k]'(by rw[MG];exact h) from cC (t:=yy) (by rw[MG];exact h)];simp only[aBQ,List.getElem_map];rfl
def aq3(o:gb):gb:=(-7,o.2)
def Yx:Ez->Prop:=λ(t,u,h,s,i,kv,a,b,c,wis,wos,m,m2,vn,vis,vos)=>m=vis.length/\vis.length<=1000/\∃j k:Nat,j < vis.length/\i=j/\kv=k/\k<=((nth yy vis j).2.1.2.1:Nat)/\((nth yy vis j).2.1.2.1:Nat)<=1000
def afv:Ez->Unit:=λ_=>()
def Yv:OG->Prop:=λ(t,u,h,s,i,a,b,c,wis,wos,m,m2,vn,vis,vos)=>m=vis.length/\vis.length<=1000/\(∀k:Nat,k < vis.length->((nth yy vis k).2.1.2.1:Nat)<=1000)/\∃k:Nat,k<=vis.length/\i=k
def afu:OG->(eT×eT×Bool×Bool×Nat×Nat×(Int×Unit)×(List fB)×(List gb)×Nat×Nat×(Int×Unit)×(List FA)×(List gb)):=λ(t,u,h,s,i,a,b,c,wis,wos,m,m2,vn,vis,vos)=>(t,u,h,s,a,b,c,wis,wos,m,m2,vn,vis,vos)
def Yz:EA->Prop:=λ(t,u,h,s,i,a,b,c,wis,wos,m,m2,vn,vis,vos)=>m2=vos.length/\vos.length<=1000/\∃k:Nat,k<=vos.length/\i=k
def EB:EA->(List gb):=λ(t,u,h,s,i,a,b,c,wis,wos,m,m2,vn,vis,vos)=>vos.take i.toNat++(vos.drop i.toNat).map aq3
def ajG:acp->Prop:=λ(t,u,b,i,br,ks,sc)=>(aFY t/\aFY u)/\Bytes b/\∀x∈ks,iN x
def acq:acp->Bool:=λ_=>aW
def fQ:Ls Yv bm afu:=oP (λ(gR,aFN,head,same,i,ahc,MT,awk,Vg,Vh,IB,MU,Vi,Vj,Vk)=>⟨(a9 7 ([.dB eU gR,.dB eU aFN]++a9 6 ([.d .bool head,bK,bK,dX 202]++a9 4 ([.ptr (.new 202 3) 0 [] 0,bK,bK,bK,.d .bool same,.d ti i]++a9 174 [])))),[],(bC 202 [[EJ (.pr (.dx (.new 202 1) 0 [] 0 0 ahc) (.pr (.dx (.new 202 2) 0 [] 0 0 MT) (.d (.pair ti .unit) awk))),EJ (.vec 47 dM Vg),EJ (.vec 55 dO Vh),EJ (.pr (.dx (.new 202 4) 0 [] 0 0 IB) (.pr (.dx (.new 202 5) 0 [] 0 0 MU) (.d (.pair ti .unit) Vi))),EJ (.vec 47 yy Vj),EJ (.vec 55 dO Vk)]])⟩) (λx=>(.exit 0,⟨(a9 7 ([.dB eU x.1,.dB eU x.2.1]++a9 6 ([.d .bool x.2.2.1,bK,bK,dX 202]++a9 4 ([.ptr (.new 202 3) 0 [] 0,bK,bK,bK,.d .bool x.2.2.2.1]++a9 175 [])))),[],(bC 202 [[EJ (.pr (.dx (.new 202 1) 0 [] 0 0 x.2.2.2.2.1) (.pr (.dx (.new 202 2) 0 [] 0 0 x.2.2.2.2.2.1) (.d (.pair ti .unit) x.2.2.2.2.2.2.1))),EJ (.vec 47 dM x.2.2.2.2.2.2.2.1),EJ (.vec 55 dO x.2.2.2.2.2.2.2.2.1),EJ (.pr (.dx (.new 202 4) 0 [] 0 0 x.2.2.2.2.2.2.2.2.2.1) (.pr (.dx (.new 202 5) 0 [] 0 0 x.2.2.2.2.2.2.2.2.2.2.1) (.d (.pair ti .unit) x.2.2.2.2.2.2.2.2.2.2.2.1))),EJ (.vec 47 yy x.2.2.2.2.2.2.2.2.2.2.2.2.1),EJ (.vec 55 dO x.2.2.2.2.2.2.2.2.2.2.2.2.2)]])⟩))
def nW:Ls Yx Ia afv:=oP (λ(sh,aDw,Kz,Lm,eI,kv,Dv,Dw,KN,KO,KP,xX,Dx,Dz,tG,DA)=>⟨(a9 7 ([.dB eU sh,.dB eU aDw]++a9 6 ([.d .bool Kz,bK,bK,dX 202]++a9 4 ([.ptr (.new 202 3) 0 [] 0,bK,bK,bK,.d .bool Lm,.d ti eI,.d ti kv]++a9 173 [])))),[],(bC 202 [[EJ (.pr (.dx (.new 202 1) 0 [] 0 0 Dv) (.pr (.dx (.new 202 2) 0 [] 0 0 Dw) (.d (.pair ti .unit) KN))),EJ (.vec 47 dM KO),EJ (.vec 55 dO KP),EJ (.pr (.dx (.new 202 4) 0 [] 0 0 xX) (.pr (.dx (.new 202 5) 0 [] 0 0 Dx) (.d (.pair ti .unit) Dz))),EJ (.vec 47 yy tG),EJ (.vec 55 dO DA)]])⟩) (λx=>(.exit 2,⟨(a9 7 ([.dB eU x.1,.dB eU x.2.1]++a9 6 ([.d .bool x.2.2.1,bK,bK,dX 202]++a9 4 ([.ptr (.new 202 3) 0 [] 0,bK,bK,bK,.d .bool x.2.2.2.1,.d ti x.2.2.2.2.1]++a9 174 [])))),[],(bC 202 [[EJ (.pr (.dx (.new 202 1) 0 [] 0 0 x.2.2.2.2.2.1) (.pr (.dx (.new 202 2) 0 [] 0 0 x.2.2.2.2.2.2.1) (.d (.pair ti .unit) x.2.2.2.2.2.2.2.1))),EJ (.vec 47 dM x.2.2.2.2.2.2.2.2.1),EJ (.vec 55 dO x.2.2.2.2.2.2.2.2.2.1),EJ (.pr (.dx (.new 202 4) 0 [] 0 0 x.2.2.2.2.2.2.2.2.2.2.1) (.pr (.dx (.new 202 5) 0 [] 0 0 x.2.2.2.2.2.2.2.2.2.2.2.1) (.d (.pair ti .unit) x.2.2.2.2.2.2.2.2.2.2.2.2.1))),EJ (.vec 47 yy x.2.2.2.2.2.2.2.2.2.2.2.2.2.1),EJ (.vec 55 dO x.2.2.2.2.2.2.2.2.2.2.2.2.2.2)]])⟩))
def fR:Ls Yz zN EB:=oP (λ(xt,aDx,KA,Ln,oV,Dy,y3,DB,DC,DD,y4,tF,DE,DF,xY)=>⟨(a9 7 ([.dB eU xt,.dB eU aDx]++a9 6 ([.d .bool KA,bK,bK,dX 202]++a9 4 ([.ptr (.new 202 3) 0 [] 0,bK,bK,bK,.d .bool Ln,bK,bK,.d ti oV]++a9 172 [])))),[],(bC 202 [[EJ (.pr (.dx (.new 202 1) 0 [] 0 0 Dy) (.pr (.dx (.new 202 2) 0 [] 0 0 y3) (.d (.pair ti .unit) DB))),EJ (.vec 47 dM DC),EJ (.vec 55 dO DD),EJ (.pr (.dx (.new 202 4) 0 [] 0 0 y4) (.pr (.dx (.new 202 5) 0 [] 0 0 tF) (.d (.pair ti .unit) DE))),EJ (.vec 47 yy DF),EJ (.vec 55 dO xY)]])⟩) (λx=>(.exit 4,⟨(a9 7 ([.dB eU x.1.1,.dB eU x.1.2.1]++a9 6 ([.d .bool x.1.2.2.1,bK,bK,dX 202]++a9 8 ([.d .bool x.1.2.2.2.1]++a9 175 [])))),[],(bC 202 [[EJ (.pr (.dx (.new 202 1) 0 [] 0 0 x.1.2.2.2.2.1) (.pr (.dx (.new 202 2) 0 [] 0 0 x.1.2.2.2.2.2.1) (.d (.pair ti .unit) x.1.2.2.2.2.2.2.1))),EJ (.vec 47 dM x.1.2.2.2.2.2.2.2.1),EJ (.vec 55 dO x.1.2.2.2.2.2.2.2.2.1),EJ (.pr (.dx (.new 202 4) 0 [] 0 0 x.1.2.2.2.2.2.2.2.2.2.1) (.pr (.dx (.new 202 5) 0 [] 0 0 x.1.2.2.2.2.2.2.2.2.2.2.1) (.d (.pair ti .unit) x.1.2.2.2.2.2.2.2.2.2.2.2.1))),EJ (.vec 47 yy x.1.2.2.2.2.2.2.2.2.2.2.2.2),EJ (.vec 55 dO x.2)]])⟩))
def bG:Fs Tryz.prog ajG bm acq:=fg 3 Tryz.f3 (λ(t,u,b,inv,branch,keys,secret)=>([.d eU t,.d eU u,.d tB b,.d ti inv,.d ti branch,.d tU keys,.d tu secret],[])) (λx=>⟨.d .bool x,[],[]⟩) [aw eU,aw eU,aw tB,aw ti,aw ti,aw tU,aw tu] [anw,ah8,V7,ajy,alX,atL,al3,al0,oF,nb,X1,V8,Yp,aeu,ach,RM,Ym,aer,aem,ajr,alU,ajz] {bD:=[300094],loops:=oN [(13,{aY:=[7,8,15,18,23,27,28],sites:=[18,19,21,23,25,31,33,35,54,57,62,71,80,85,94,144,152,154,159,161,166,168,173,176,182,184,185,189,191,192,197,200,202],owns:=[⟨23,[.fst],110,22⟩,⟨23,[.snd,.fst],132,23⟩],aI0:=aw 202,Tk:=aW,aHH:=[((.new 110 0),nR)]}),(16,{aY:=[7,8,15,18,23,27,28,29],sites:=[202]}),(20,{aY:=[7,8,15,18,23,27,30],sites:=[202]})],outs:=oM [(13,{aY:=[7,8,15,18,23,27],sites:=[202]},{aY:=[14]}),(16,{aY:=[7,8,15,18,23,27,28],sites:=[202]},{aY:=[14]}),(20,{aY:=[7,8,15,18,27],sites:=[202]},{aY:=[14]})],fE:=pX [(13,fQ.E),(16,nW.E),(20,fR.E)]}
theorem Yw:fQ.RS:=rL [.d eU,.d eU,.d .bool,.d .bool,.d ti,.n,.n,.d (.pair ti .unit),.d (.slice dM),.d (.slice dO),.n,.n,.d (.pair ti .unit),.d (.slice yy),.d (.slice dO)] fQ
theorem Fu(gR aFN head same i ahc MT awk Vg Vh IB MU Vi Vj Vk)(kn:K2 R)(kx:K3 R):bG.R 0 fQ (gR,aFN,head,same,i,ahc,MT,awk,Vg,Vh,IB,MU,Vi,Vj,Vk) kn kx=aG (fV i ((IB:Nat):Int)) (aj (nW.call (gR,aFN,head,same,i,0,ahc,MT,awk,Vg,Vh,IB,MU,Vi,Vj,Vk)) λx1=>aG (((eD x1.2.2.2.2.2.2.2.2.1 (Ty.fW dM)) && ((eD x1.2.2.2.2.2.2.2.2.2.1 (Ty.fW dO)) && ((eD x1.2.2.2.2.2.2.2.2.2.2.2.2.2.1 (Ty.fW yy)) && ((eD x1.2.2.2.2.2.2.2.2.2.2.2.2.2.2 (Ty.fW dO)) && aW)))) && aW) (kn (fQ.st (x1.1,x1.2.1,x1.2.2.1,x1.2.2.2.1,(bB .i64 x1.2.2.2.2.1 1),x1.2.2.2.2.2.1,x1.2.2.2.2.2.2.1,x1.2.2.2.2.2.2.2.1,(dH (Ty.om dM) x1.2.2.2.2.2.2.2.2.1),(dH (Ty.om dO) x1.2.2.2.2.2.2.2.2.2.1),x1.2.2.2.2.2.2.2.2.2.2.1,x1.2.2.2.2.2.2.2.2.2.2.2.1,x1.2.2.2.2.2.2.2.2.2.2.2.2.1,(dH (Ty.om yy) x1.2.2.2.2.2.2.2.2.2.2.2.2.2.1),(dH (Ty.om dO) x1.2.2.2.2.2.2.2.2.2.2.2.2.2.2)))) aF) (fQ.go kx (gR,aFN,head,same,ahc,MT,awk,Vg,Vh,IB,MU,Vi,Vj,Vk)):=cK
theorem Yy:nW.RS:=rL [.d eU,.d eU,.d .bool,.d .bool,.d ti,.d ti,.n,.n,.d (.pair ti .unit),.d (.slice dM),.d (.slice dO),.n,.n,.d (.pair ti .unit),.d (.slice yy),.d (.slice dO)] nW
theorem Fv(sh aDw Kz Lm eI kv Dv Dw KN KO KP xX Dx Dz tG DA)(kn:K2 R)(kx:K3 R):bG.R 1 nW (sh,aDw,Kz,Lm,eI,kv,Dv,Dw,KN,KO,KP,xX,Dx,Dz,tG,DA) kn kx=aG (ei eI ((xX:Nat):Int)) (aG (decide ((0+(ab eI)) < (ae tG))) (aG (decide ((((0+(ab eI))*36)+34)=(((0+((ab eI)*36))+33)+1))) (aG (fV kv (((nth yy tG (0+(ab eI))).2.1.2.1:Nat):Int)) (aG (ei eI ((xX:Nat):Int)) (aG (decide ((0+(ab eI)) < (ae tG))) (aG (decide ((((0+(ab eI))*36)+34)=(((0+((ab eI)*36))+33)+1))) (aG (ei kv (((nth yy tG (0+(ab eI))).2.1.2.1:Nat):Int)) (kn (nW.st (sh,aDw,Kz,Lm,eI,(bB .i64 kv 1),Dv,Dw,KN,KO,KP,xX,Dx,Dz,tG,DA))) aF) aF) aF) aF) (nW.go kx (sh,aDw,Kz,Lm,eI,Dv,Dw,KN,KO,KP,xX,Dx,Dz,tG,DA))) aF) aF) aF:=cK
theorem YA:fR.RS:=rL [.d eU,.d eU,.d .bool,.d .bool,.d ti,.n,.n,.d (.pair ti .unit),.d (.slice dM),.d (.slice dO),.n,.n,.d (.pair ti .unit),.d (.slice yy),.d (.slice dO)] fR
theorem Fw(xt aDx KA Ln oV Dy y3 DB DC DD y4 tF DE DF xY)(kn:K2 R)(kx:K3 R):bG.R 2 fR (xt,aDx,KA,Ln,oV,Dy,y3,DB,DC,DD,y4,tF,DE,DF,xY) kn kx=aG (fV oV ((tF:Nat):Int)) (aG (ei oV ((tF:Nat):Int)) (aG (decide ((0+(ab oV)) < (ae xY))) (aG (decide ((((0+(ab oV))*2)+0)=((0+((ab oV)*2))+0))) (aG (decide ((0+(ab oV)) < (ae xY))) (kn (fR.st (xt,aDx,KA,Ln,(bB .i64 oV 1),Dy,y3,DB,DC,DD,y4,tF,DE,DF,(eE xY (0+(ab oV)) ((-7),(nth dO xY (0+(ab oV))).2))))) aF) aF) aF) aF) (fR.go kx ((xt,aDx,KA,Ln,Dy,y3,DB,DC,DD,y4,tF,DE,DF),xY)):=cK
theorem anY(t u b inv branch keys secret)(k:K1 R):bG.A (t,u,b,inv,branch,keys,secret) k=aj (fJ.call ()) λx1=>aj (fC.call t) λx2=>aj (fC.call u) λx3=>aG (!x2) (k (bG.out x1)) (aG (!x3) (k (bG.out x1)) (aG (xS (b.length:Int) 5000) (k (bG.out x1)) (aG (xS (keys.length:Int) 14) (k (bG.out x1)) (aj (kR.call t) λx4=>aj (kJ.call b) λx5=>aj (gZ.call b) λx6=>aj (Sw (t,inv,branch,keys,secret)) λx7=>aG x7.isLeft (aj x7.getLeft? λaEc=>aj (jr.call (t,inv,branch,keys,secret)) λx8=>aj (dL.call (x5.1,x6.1)) λx9=>aG (x9) (aG (Ty.beq .bool x5.2 x6.2) (aj (dL.call ((([]:List fB),(([]:List gb),aEc.1)),x8.1)) λQN=>aG (QN) (aG (((eD x4.2.2.2.1 (Ty.fW dM)) && ((eD x4.2.2.2.2 (Ty.fW dO)) && aW)) && aW) (aj (fQ.call (t,u,x1,(wD aEc.2 x8.2),0,x4.1,x4.2.1,x4.2.2.1,(dH (Ty.om dM) x4.2.2.2.1),(dH (Ty.om dO) x4.2.2.2.2),0,0,aEc.1,([]:List FA),([]:List gb))) λTW=>aj (fR.call (TW.1,TW.2.1,TW.2.2.1,TW.2.2.2.1,0,TW.2.2.2.2.1,TW.2.2.2.2.2.1,TW.2.2.2.2.2.2.1,TW.2.2.2.2.2.2.2.1,TW.2.2.2.2.2.2.2.2.1,TW.2.2.2.2.2.2.2.2.2.1,TW.2.2.2.2.2.2.2.2.2.2.1,TW.2.2.2.2.2.2.2.2.2.2.2.1,TW.2.2.2.2.2.2.2.2.2.2.2.2.1,TW.2.2.2.2.2.2.2.2.2.2.2.2.2)) λOQ=>aG (decide (0=0/\(0+OQ.1.2.2.2.2.1)<=(ae OQ.1.2.2.2.2.2.2.2.1))) (aG (decide (0=0/\(0+OQ.1.2.2.2.2.2.1)<=(ae OQ.1.2.2.2.2.2.2.2.2.1))) (aj (dL.call (OQ.1.1,((cut OQ.1.2.2.2.2.2.2.2.1 0 OQ.1.2.2.2.2.1),((cut OQ.1.2.2.2.2.2.2.2.2.1 0 OQ.1.2.2.2.2.2.1),OQ.1.2.2.2.2.2.2.1)))) λaKt=>aG (!aKt) (k (bG.out aQ)) (aG (OQ.1.2.2.1) (aG (OQ.1.2.2.2.1) (aj (eV.call OQ.1.1) λaFR=>aj (dy.call OQ.1.1) λLK=>aG (Ty.beq .bool aFR LK) (aj (tid.call OQ.1.1) λaKu=>aj (uX.call OQ.1.1) λatS=>aG (Ty.beq tH aKu atS) (aj (hP.call OQ.1.1) λajN=>aj (fZ.call OQ.1.1) λajO=>aG (wD ajN ajO) (aj (jN.call OQ.1.1) λaKv=>aj (fP.call OQ.1.1) λFJ=>aG (seq (cY aKv) (cY FJ)) (aj (iT.call OQ.1.1) λaGn=>aj (fY.call OQ.1.1) λFy=>aj (dR.call (aGn,Fy)) λLL=>aG (LL) (aj (rk.call OQ.1.1) λFK=>aj (jK.call OQ.1.1) λaIJ=>aj (dR.call (FK,aIJ)) λaFS=>aG (aFS) (aj (rn.call (OQ.1.1,OQ.1.2.1)) λaIK=>aj (dL.call (OQ.1.1,OQ.1.2.1)) λI4=>k (bG.out (Ty.beq .bool aIK I4))) (k (bG.out aQ))) (k (bG.out aQ))) (k (bG.out aQ))) (k (bG.out aQ))) (k (bG.out aQ))) (k (bG.out aQ))) (k (bG.out aQ))) (k (bG.out aQ)))) aF) aF) aF) (aG (((eD x4.2.2.2.1 (Ty.fW dM)) && ((eD x4.2.2.2.2 (Ty.fW dO)) && aW)) && aW) (aj (fQ.call (t,u,x1,aQ,0,x4.1,x4.2.1,x4.2.2.1,(dH (Ty.om dM) x4.2.2.2.1),(dH (Ty.om dO) x4.2.2.2.2),0,0,aEc.1,([]:List FA),([]:List gb))) λajP=>aj (fR.call (ajP.1,ajP.2.1,ajP.2.2.1,ajP.2.2.2.1,0,ajP.2.2.2.2.1,ajP.2.2.2.2.2.1,ajP.2.2.2.2.2.2.1,ajP.2.2.2.2.2.2.2.1,ajP.2.2.2.2.2.2.2.2.1,ajP.2.2.2.2.2.2.2.2.2.1,ajP.2.2.2.2.2.2.2.2.2.2.1,ajP.2.2.2.2.2.2.2.2.2.2.2.1,ajP.2.2.2.2.2.2.2.2.2.2.2.2.1,ajP.2.2.2.2.2.2.2.2.2.2.2.2.2)) λI5=>aG (decide (0=0/\(0+I5.1.2.2.2.2.1)<=(ae I5.1.2.2.2.2.2.2.2.1))) (aG (decide (0=0/\(0+I5.1.2.2.2.2.2.1)<=(ae I5.1.2.2.2.2.2.2.2.2.1))) (aj (dL.call (I5.1.1,((cut I5.1.2.2.2.2.2.2.2.1 0 I5.1.2.2.2.2.1),((cut I5.1.2.2.2.2.2.2.2.2.1 0 I5.1.2.2.2.2.2.1),I5.1.2.2.2.2.2.2.1)))) λaKw=>aG (!aKw) (k (bG.out aQ)) (aG (I5.1.2.2.1) (aG (I5.1.2.2.2.1) (aj (eV.call I5.1.1) λaKx=>aj (dy.call I5.1.1) λaKy=>aG (Ty.beq .bool aKx aKy) (aj (tid.call I5.1.1) λaGo=>aj (uX.call I5.1.1) λaKz=>aG (Ty.beq tH aGo aKz) (aj (hP.call I5.1.1) λaKA=>aj (fZ.call I5.1.1) λaIL=>aG (wD aKA aIL) (aj (jN.call I5.1.1) λaGp=>aj (fP.call I5.1.1) λaKB=>aG (seq (cY aGp) (cY aKB)) (aj (iT.call I5.1.1) λaKC=>aj (fY.call I5.1.1) λaKD=>aj (dR.call (aKC,aKD)) λaIM=>aG (aIM) (aj (rk.call I5.1.1) λaKE=>aj (jK.call I5.1.1) λaKF=>aj (dR.call (aKE,aKF)) λaKG=>aG (aKG) (aj (rn.call (I5.1.1,I5.1.2.1)) λaFT=>aj (dL.call (I5.1.1,I5.1.2.1)) λaKH=>k (bG.out (Ty.beq .bool aFT aKH))) (k (bG.out aQ))) (k (bG.out aQ))) (k (bG.out aQ))) (k (bG.out aQ))) (k (bG.out aQ))) (k (bG.out aQ))) (k (bG.out aQ))) (k (bG.out aQ)))) aF) aF) aF)) (aG (((eD x4.2.2.2.1 (Ty.fW dM)) && ((eD x4.2.2.2.2 (Ty.fW dO)) && aW)) && aW) (aj (fQ.call (t,u,x1,aQ,0,x4.1,x4.2.1,x4.2.2.1,(dH (Ty.om dM) x4.2.2.2.1),(dH (Ty.om dO) x4.2.2.2.2),0,0,aEc.1,([]:List FA),([]:List gb))) λapo=>aj (fR.call (apo.1,apo.2.1,apo.2.2.1,apo.2.2.2.1,0,apo.2.2.2.2.1,apo.2.2.2.2.2.1,apo.2.2.2.2.2.2.1,apo.2.2.2.2.2.2.2.1,apo.2.2.2.2.2.2.2.2.1,apo.2.2.2.2.2.2.2.2.2.1,apo.2.2.2.2.2.2.2.2.2.2.1,apo.2.2.2.2.2.2.2.2.2.2.2.1,apo.2.2.2.2.2.2.2.2.2.2.2.2.1,apo.2.2.2.2.2.2.2.2.2.2.2.2.2)) λOR=>aG (decide (0=0/\(0+OR.1.2.2.2.2.1)<=(ae OR.1.2.2.2.2.2.2.2.1))) (aG (decide (0=0/\(0+OR.1.2.2.2.2.2.1)<=(ae OR.1.2.2.2.2.2.2.2.2.1))) (aj (dL.call (OR.1.1,((cut OR.1.2.2.2.2.2.2.2.1 0 OR.1.2.2.2.2.1),((cut OR.1.2.2.2.2.2.2.2.2.1 0 OR.1.2.2.2.2.2.1),OR.1.2.2.2.2.2.2.1)))) λaFU=>aG (!aFU) (k (bG.out aQ)) (aG (OR.1.2.2.1) (aG (OR.1.2.2.2.1) (aj (eV.call OR.1.1) λaKI=>aj (dy.call OR.1.1) λaKJ=>aG (Ty.beq .bool aKI aKJ) (aj (tid.call OR.1.1) λaKK=>aj (uX.call OR.1.1) λaKL=>aG (Ty.beq tH aKK aKL) (aj (hP.call OR.1.1) λaKM=>aj (fZ.call OR.1.1) λaKN=>aG (wD aKM aKN) (aj (jN.call OR.1.1) λaKO=>aj (fP.call OR.1.1) λaKP=>aG (seq (cY aKO) (cY aKP)) (aj (iT.call OR.1.1) λaKQ=>aj (fY.call OR.1.1) λaKR=>aj (dR.call (aKQ,aKR)) λaKS=>aG (aKS) (aj (rk.call OR.1.1) λaKT=>aj (jK.call OR.1.1) λaIN=>aj (dR.call (aKT,aIN)) λaIO=>aG (aIO) (aj (rn.call (OR.1.1,OR.1.2.1)) λaIP=>aj (dL.call (OR.1.1,OR.1.2.1)) λaIQ=>k (bG.out (Ty.beq .bool aIP aIQ))) (k (bG.out aQ))) (k (bG.out aQ))) (k (bG.out aQ))) (k (bG.out aQ))) (k (bG.out aQ))) (k (bG.out aQ))) (k (bG.out aQ))) (k (bG.out aQ)))) aF) aF) aF)) (aG (((eD x4.2.2.2.1 (Ty.fW dM)) && ((eD x4.2.2.2.2 (Ty.fW dO)) && aW)) && aW) (aj (fQ.call (t,u,x1,aQ,0,x4.1,x4.2.1,x4.2.2.1,(dH (Ty.om dM) x4.2.2.2.1),(dH (Ty.om dO) x4.2.2.2.2),0,0,aEc.1,([]:List FA),([]:List gb))) λajY=>aj (fR.call (ajY.1,ajY.2.1,ajY.2.2.1,ajY.2.2.2.1,0,ajY.2.2.2.2.1,ajY.2.2.2.2.2.1,ajY.2.2.2.2.2.2.1,ajY.2.2.2.2.2.2.2.1,ajY.2.2.2.2.2.2.2.2.1,ajY.2.2.2.2.2.2.2.2.2.1,ajY.2.2.2.2.2.2.2.2.2.2.1,ajY.2.2.2.2.2.2.2.2.2.2.2.1,ajY.2.2.2.2.2.2.2.2.2.2.2.2.1,ajY.2.2.2.2.2.2.2.2.2.2.2.2.2)) λLO=>aG (decide (0=0/\(0+LO.1.2.2.2.2.1)<=(ae LO.1.2.2.2.2.2.2.2.1))) (aG (decide (0=0/\(0+LO.1.2.2.2.2.2.1)<=(ae LO.1.2.2.2.2.2.2.2.2.1))) (aj (dL.call (LO.1.1,((cut LO.1.2.2.2.2.2.2.2.1 0 LO.1.2.2.2.2.1),((cut LO.1.2.2.2.2.2.2.2.2.1 0 LO.1.2.2.2.2.2.1),LO.1.2.2.2.2.2.2.1)))) λaIR=>aG (!aIR) (k (bG.out aQ)) (aG (LO.1.2.2.1) (aG (LO.1.2.2.2.1) (aj (eV.call LO.1.1) λaIS=>aj (dy.call LO.1.1) λaIT=>aG (Ty.beq .bool aIS aIT) (aj (tid.call LO.1.1) λaIU=>aj (uX.call LO.1.1) λaIV=>aG (Ty.beq tH aIU aIV) (aj (hP.call LO.1.1) λaIW=>aj (fZ.call LO.1.1) λaKU=>aG (wD aIW aKU) (aj (jN.call LO.1.1) λaKV=>aj (fP.call LO.1.1) λaKW=>aG (seq (cY aKV) (cY aKW)) (aj (iT.call LO.1.1) λaKX=>aj (fY.call LO.1.1) λaKY=>aj (dR.call (aKX,aKY)) λaFV=>aG (aFV) (aj (rk.call LO.1.1) λaKZ=>aj (jK.call LO.1.1) λaK0=>aj (dR.call (aKZ,aK0)) λaK1=>aG (aK1) (aj (rn.call (LO.1.1,LO.1.2.1)) λaK2=>aj (dL.call (LO.1.1,LO.1.2.1)) λaK3=>k (bG.out (Ty.beq .bool aK2 aK3))) (k (bG.out aQ))) (k (bG.out aQ))) (k (bG.out aQ))) (k (bG.out aQ))) (k (bG.out aQ))) (k (bG.out aQ))) (k (bG.out aQ))) (k (bG.out aQ)))) aF) aF) aF)) (aj x7.getRight? λFz=>aj (jr.call (t,inv,branch,keys,secret)) λaFW=>aj (dL.call (x5.1,x6.1)) λaK4=>aG (aK4) (aG (Ty.beq .bool x5.2 x6.2) (aG (decide (0=0/\(0+Fz.1)<=(ae Fz.2.2.2.2.1))) (aG (decide (0=0/\(0+Fz.2.1)<=(ae Fz.2.2.2.2.2))) (aj (dL.call (((cut (dH (Ty.KU nR) Fz.2.2.2.2.1) 0 Fz.1),((cut (dH (Ty.KU dO) Fz.2.2.2.2.2) 0 Fz.2.1),Fz.2.2.1)),aFW.1)) λaK5=>aG (aK5) (aG (((eD x4.2.2.2.1 (Ty.fW dM)) && ((eD x4.2.2.2.2 (Ty.fW dO)) && aW)) && (((eD Fz.2.2.2.2.1 (Ty.fW nR)) && ((eD Fz.2.2.2.2.2 (Ty.fW dO)) && aW)) && aW)) (aj (fQ.call (t,u,x1,(wD Fz.2.2.2.1 aFW.2),0,x4.1,x4.2.1,x4.2.2.1,(dH (Ty.om dM) x4.2.2.2.1),(dH (Ty.om dO) x4.2.2.2.2),Fz.1,Fz.2.1,Fz.2.2.1,(dH (Ty.om nR) Fz.2.2.2.2.1),(dH (Ty.om dO) Fz.2.2.2.2.2))) λapq=>aj (fR.call (apq.1,apq.2.1,apq.2.2.1,apq.2.2.2.1,0,apq.2.2.2.2.1,apq.2.2.2.2.2.1,apq.2.2.2.2.2.2.1,apq.2.2.2.2.2.2.2.1,apq.2.2.2.2.2.2.2.2.1,apq.2.2.2.2.2.2.2.2.2.1,apq.2.2.2.2.2.2.2.2.2.2.1,apq.2.2.2.2.2.2.2.2.2.2.2.1,apq.2.2.2.2.2.2.2.2.2.2.2.2.1,apq.2.2.2.2.2.2.2.2.2.2.2.2.2)) λOS=>aG (decide (0=0/\(0+OS.1.2.2.2.2.1)<=(ae OS.1.2.2.2.2.2.2.2.1))) (aG (decide (0=0/\(0+OS.1.2.2.2.2.2.1)<=(ae OS.1.2.2.2.2.2.2.2.2.1))) (aj (dL.call (OS.1.1,((cut OS.1.2.2.2.2.2.2.2.1 0 OS.1.2.2.2.2.1),((cut OS.1.2.2.2.2.2.2.2.2.1 0 OS.1.2.2.2.2.2.1),OS.1.2.2.2.2.2.2.1)))) λaK6=>aG (!aK6) (k (bG.out aQ)) (aG (OS.1.2.2.1) (aG (OS.1.2.2.2.1) (aj (eV.call OS.1.1) λaK7=>aj (dy.call OS.1.1) λaK8=>aG (Ty.beq .bool aK7 aK8) (aj (tid.call OS.1.1) λan4=>aj (uX.call OS.1.1) λaK9=>aG (Ty.beq tH an4 aK9) (aj (hP.call OS.1.1) λaLa=>aj (fZ.call OS.1.1) λaLb=>aG (wD aLa aLb) (aj (jN.call OS.1.1) λaHQ=>aj (fP.call OS.1.1) λaHR=>aG (seq (cY aHQ) (cY aHR)) (aj (iT.call OS.1.1) λaHS=>aj (fY.call OS.1.1) λaHT=>aj (dR.call (aHS,aHT)) λaHU=>aG (aHU) (aj (rk.call OS.1.1) λaHV=>aj (jK.call OS.1.1) λaDA=>aj (dR.call (aHV,aDA)) λaDB=>aG (aDB) (aj (rn.call (OS.1.1,OS.1.2.1)) λaDC=>aj (dL.call (OS.1.1,OS.1.2.1)) λaHW=>k (bG.out (Ty.beq .bool aDC aHW))) (k (bG.out aQ))) (k (bG.out aQ))) (k (bG.out aQ))) (k (bG.out aQ))) (k (bG.out aQ))) (k (bG.out aQ))) (k (bG.out aQ))) (k (bG.out aQ)))) aF) aF) aF) (aG (((eD x4.2.2.2.1 (Ty.fW dM)) && ((eD x4.2.2.2.2 (Ty.fW dO)) && aW)) && (((eD Fz.2.2.2.2.1 (Ty.fW nR)) && ((eD Fz.2.2.2.2.2 (Ty.fW dO)) && aW)) && aW)) (aj (fQ.call (t,u,x1,aQ,0,x4.1,x4.2.1,x4.2.2.1,(dH (Ty.om dM) x4.2.2.2.1),(dH (Ty.om dO) x4.2.2.2.2),Fz.1,Fz.2.1,Fz.2.2.1,(dH (Ty.om nR) Fz.2.2.2.2.1),(dH (Ty.om dO) Fz.2.2.2.2.2))) λOJ=>aj (fR.call (OJ.1,OJ.2.1,OJ.2.2.1,OJ.2.2.2.1,0,OJ.2.2.2.2.1,OJ.2.2.2.2.2.1,OJ.2.2.2.2.2.2.1,OJ.2.2.2.2.2.2.2.1,OJ.2.2.2.2.2.2.2.2.1,OJ.2.2.2.2.2.2.2.2.2.1,OJ.2.2.2.2.2.2.2.2.2.2.1,OJ.2.2.2.2.2.2.2.2.2.2.2.1,OJ.2.2.2.2.2.2.2.2.2.2.2.2.1,OJ.2.2.2.2.2.2.2.2.2.2.2.2.2)) λuQ=>aG (decide (0=0/\(0+uQ.1.2.2.2.2.1)<=(ae uQ.1.2.2.2.2.2.2.2.1))) (aG (decide (0=0/\(0+uQ.1.2.2.2.2.2.1)<=(ae uQ.1.2.2.2.2.2.2.2.2.1))) (aj (dL.call (uQ.1.1,((cut uQ.1.2.2.2.2.2.2.2.1 0 uQ.1.2.2.2.2.1),((cut uQ.1.2.2.2.2.2.2.2.2.1 0 uQ.1.2.2.2.2.2.1),uQ.1.2.2.2.2.2.2.1)))) λaHY=>aG (!aHY) (k (bG.out aQ)) (aG (uQ.1.2.2.1) (aG (uQ.1.2.2.2.1) (aj (eV.call uQ.1.1) λaHZ=>aj (dy.call uQ.1.1) λaH0=>aG (Ty.beq .bool aHZ aH0) (aj (tid.call uQ.1.1) λaH1=>aj (uX.call uQ.1.1) λaH2=>aG (Ty.beq tH aH1 aH2) (aj (hP.call uQ.1.1) λaH3=>aj (fZ.call uQ.1.1) λaH4=>aG (wD aH3 aH4) (aj (jN.call uQ.1.1) λaH5=>aj (fP.call uQ.1.1) λaH6=>aG (seq (cY aH5) (cY aH6)) (aj (iT.call uQ.1.1) λaH7=>aj (fY.call uQ.1.1) λaH8=>aj (dR.call (aH7,aH8)) λaH9=>aG (aH9) (aj (rk.call uQ.1.1) λayO=>aj (jK.call uQ.1.1) λaIa=>aj (dR.call (ayO,aIa)) λaIb=>aG (aIb) (aj (rn.call (uQ.1.1,uQ.1.2.1)) λaIc=>aj (dL.call (uQ.1.1,uQ.1.2.1)) λaId=>k (bG.out (Ty.beq .bool aIc aId))) (k (bG.out aQ))) (k (bG.out aQ))) (k (bG.out aQ))) (k (bG.out aQ))) (k (bG.out aQ))) (k (bG.out aQ))) (k (bG.out aQ))) (k (bG.out aQ)))) aF) aF) aF)) aF) aF) (aG (((eD x4.2.2.2.1 (Ty.fW dM)) && ((eD x4.2.2.2.2 (Ty.fW dO)) && aW)) && (((eD Fz.2.2.2.2.1 (Ty.fW nR)) && ((eD Fz.2.2.2.2.2 (Ty.fW dO)) && aW)) && aW)) (aj (fQ.call (t,u,x1,aQ,0,x4.1,x4.2.1,x4.2.2.1,(dH (Ty.om dM) x4.2.2.2.1),(dH (Ty.om dO) x4.2.2.2.2),Fz.1,Fz.2.1,Fz.2.2.1,(dH (Ty.om nR) Fz.2.2.2.2.1),(dH (Ty.om dO) Fz.2.2.2.2.2))) λOK=>aj (fR.call (OK.1,OK.2.1,OK.2.2.1,OK.2.2.2.1,0,OK.2.2.2.2.1,OK.2.2.2.2.2.1,OK.2.2.2.2.2.2.1,OK.2.2.2.2.2.2.2.1,OK.2.2.2.2.2.2.2.2.1,OK.2.2.2.2.2.2.2.2.2.1,OK.2.2.2.2.2.2.2.2.2.2.1,OK.2.2.2.2.2.2.2.2.2.2.2.1,OK.2.2.2.2.2.2.2.2.2.2.2.2.1,OK.2.2.2.2.2.2.2.2.2.2.2.2.2)) λuR=>aG (decide (0=0/\(0+uR.1.2.2.2.2.1)<=(ae uR.1.2.2.2.2.2.2.2.1))) (aG (decide (0=0/\(0+uR.1.2.2.2.2.2.1)<=(ae uR.1.2.2.2.2.2.2.2.2.1))) (aj (dL.call (uR.1.1,((cut uR.1.2.2.2.2.2.2.2.1 0 uR.1.2.2.2.2.1),((cut uR.1.2.2.2.2.2.2.2.2.1 0 uR.1.2.2.2.2.2.1),uR.1.2.2.2.2.2.2.1)))) λaIe=>aG (!aIe) (k (bG.out aQ)) (aG (uR.1.2.2.1) (aG (uR.1.2.2.2.1) (aj (eV.call uR.1.1) λaIf=>aj (dy.call uR.1.1) λaIg=>aG (Ty.beq .bool aIf aIg) (aj (tid.call uR.1.1) λaIh=>aj (uX.call uR.1.1) λaIi=>aG (Ty.beq tH aIh aIi) (aj (hP.call uR.1.1) λaBj=>aj (fZ.call uR.1.1) λaDD=>aG (wD aBj aDD) (aj (jN.call uR.1.1) λaDE=>aj (fP.call uR.1.1) λaIj=>aG (seq (cY aDE) (cY aIj)) (aj (iT.call uR.1.1) λaIk=>aj (fY.call uR.1.1) λaIl=>aj (dR.call (aIk,aIl)) λaIm=>aG (aIm) (aj (rk.call uR.1.1) λaIn=>aj (jK.call uR.1.1) λaIo=>aj (dR.call (aIn,aIo)) λaIp=>aG (aIp) (aj (rn.call (uR.1.1,uR.1.2.1)) λaIq=>aj (dL.call (uR.1.1,uR.1.2.1)) λaIr=>k (bG.out (Ty.beq .bool aIq aIr))) (k (bG.out aQ))) (k (bG.out aQ))) (k (bG.out aQ))) (k (bG.out aQ))) (k (bG.out aQ))) (k (bG.out aQ))) (k (bG.out aQ))) (k (bG.out aQ)))) aF) aF) aF)) (aG (((eD x4.2.2.2.1 (Ty.fW dM)) && ((eD x4.2.2.2.2 (Ty.fW dO)) && aW)) && (((eD Fz.2.2.2.2.1 (Ty.fW nR)) && ((eD Fz.2.2.2.2.2 (Ty.fW dO)) && aW)) && aW)) (aj (fQ.call (t,u,x1,aQ,0,x4.1,x4.2.1,x4.2.2.1,(dH (Ty.om dM) x4.2.2.2.1),(dH (Ty.om dO) x4.2.2.2.2),Fz.1,Fz.2.1,Fz.2.2.1,(dH (Ty.om nR) Fz.2.2.2.2.1),(dH (Ty.om dO) Fz.2.2.2.2.2))) λOL=>aj (fR.call (OL.1,OL.2.1,OL.2.2.1,OL.2.2.2.1,0,OL.2.2.2.2.1,OL.2.2.2.2.2.1,OL.2.2.2.2.2.2.1,OL.2.2.2.2.2.2.2.1,OL.2.2.2.2.2.2.2.2.1,OL.2.2.2.2.2.2.2.2.2.1,OL.2.2.2.2.2.2.2.2.2.2.1,OL.2.2.2.2.2.2.2.2.2.2.2.1,OL.2.2.2.2.2.2.2.2.2.2.2.2.1,OL.2.2.2.2.2.2.2.2.2.2.2.2.2)) λuS=>aG (decide (0=0/\(0+uS.1.2.2.2.2.1)<=(ae uS.1.2.2.2.2.2.2.2.1))) (aG (decide (0=0/\(0+uS.1.2.2.2.2.2.1)<=(ae uS.1.2.2.2.2.2.2.2.2.1))) (aj (dL.call (uS.1.1,((cut uS.1.2.2.2.2.2.2.2.1 0 uS.1.2.2.2.2.1),((cut uS.1.2.2.2.2.2.2.2.2.1 0 uS.1.2.2.2.2.2.1),uS.1.2.2.2.2.2.2.1)))) λaIs=>aG (!aIs) (k (bG.out aQ)) (aG (uS.1.2.2.1) (aG (uS.1.2.2.2.1) (aj (eV.call uS.1.1) λaIt=>aj (dy.call uS.1.1) λaIu=>aG (Ty.beq .bool aIt aIu) (aj (tid.call uS.1.1) λaIv=>aj (uX.call uS.1.1) λaIw=>aG (Ty.beq tH aIv aIw) (aj (hP.call uS.1.1) λaIx=>aj (fZ.call uS.1.1) λaIy=>aG (wD aIx aIy) (aj (jN.call uS.1.1) λaIz=>aj (fP.call uS.1.1) λaIA=>aG (seq (cY aIz) (cY aIA)) (aj (iT.call uS.1.1) λaIB=>aj (fY.call uS.1.1) λaIC=>aj (dR.call (aIB,aIC)) λaID=>aG (aID) (aj (rk.call uS.1.1) λaIE=>aj (jK.call uS.1.1) λaIF=>aj (dR.call (aIE,aIF)) λaIG=>aG (aIG) (aj (rn.call (uS.1.1,uS.1.2.1)) λaIH=>aj (dL.call (uS.1.1,uS.1.2.1)) λaII=>k (bG.out (Ty.beq .bool aIH aII))) (k (bG.out aQ))) (k (bG.out aQ))) (k (bG.out aQ))) (k (bG.out aQ))) (k (bG.out aQ))) (k (bG.out aQ))) (k (bG.out aQ))) (k (bG.out aQ)))) aF) aF) aF)))))):=cK
theorem aar:(bG.j8 1 nW):=by
 refine(bG.lX 1 nW) (λ(t,u,h,s,i,kv,a,b,c,wis,wos,m,m2,vn,vis,vos)=>((nth yy vis i.toNat).2.1.2.1:Nat) - kv.toNat) ?_
 rintro⟨t,u,hd,s,i,kv,a,b,c,wis,wos,m,m2,vn,vis,vos⟩ ⟨rfl,hl,j,k,hj,rfl,rfl,hk,hc⟩;have hl:vis.length<=1000:=hl;have hj:j < vis.length:=hj;obtain⟨q,hq⟩:∃q:Nat,(nth yy vis j).2.1.2.1=q:=⟨_,rfl⟩;have hk:k<=q:=by rw[<-hq];exact hk
 have hc:q<=1000:=by rw[<-hq];exact hc
 have i1:ei (j:Int) (vis.length:Int)=aW:=bo ak ak;by_cases jQ:k < q
 ·left;refine⟨(t,u,hd,s,(j:Int),((k+1:Nat):Int),a,b,c,wis,wos,vis.length,m2,vn,vis,vos),⟨rfl,hl,j,k+1,hj,rfl,rfl,by rw[hq];exact jQ,by rw[hq];exact hc⟩,by simp only[aa,hq];omega,rfl,λkn kx=> ?_⟩;rw[Fv,i1];simp only[aa,aH,bM,dz,Nat.reduceAdd,aI hj,ao,hq,bA];rw[aU ak,ao,bo ak ak,ao,N.ot ak]
 ·right;obtain rfl:k=q:=ak;intro R kn kx;rw[Fv,i1];simp only[aa,aH,bM,dz,Nat.reduceAdd,aI hj,ao,hq,bA];rw[aT ak,au];rfl
theorem aaq:(bG.j8 0 fQ):=by
 refine(bG.lX 0 fQ) (λ(t,u,h,s,i,a,b,c,wis,wos,m,m2,vn,vis,vos)=>vis.length - i.toNat) ?_
 rintro⟨t,u,hd,s,i,a,b,c,wis,wos,m,m2,vn,vis,vos⟩ ⟨rfl,hl,hq,k,hk,rfl⟩;have hl:vis.length<=1000:=hl;have hk:k<=vis.length:=hk;by_cases h:k < vis.length
 ·left;have e:=hq k h;refine⟨(t,u,hd,s,((k+1:Nat):Int),a,b,c,wis,wos,vis.length,m2,vn,vis,vos),⟨rfl,hl,hq,k+1,h,rfl⟩,by simp only[aa];omega,rfl,λkn kx=> ?_⟩;rw[Fu,aU ak,ao,Yy (d:=(t,u,hd,s,(k:Int),0,a,b,c,wis,wos,vis.length,m2,vn,vis,vos)) ⟨rfl,hl,k,0,h,rfl,rfl,aL _,e⟩];simp only[ah,Ia,Kf,Kg,aj2,oq,bI,ao];rw[N.ot ak,KJ wis,Ds wos,alf vis,Ds vos]
 ·right;obtain rfl:k=vis.length:=ak;intro R kn kx;rw[Fu,aT ak,au];rfl
theorem aas:(bG.j8 2 fR):=by
 refine(bG.lX 2 fR) (λ(t,u,h,s,i,a,b,c,wis,wos,m,m2,vn,vis,vos)=>vos.length - i.toNat) ?_
 rintro⟨t,u,hd,s,i,a,b,c,wis,wos,m,m2,vn,vis,vos⟩ ⟨rfl,hl,k,hk,rfl⟩;have hl:vos.length<=1000:=hl;have hk:k<=vos.length:=hk;by_cases h:k < vos.length
 ·left;have n1:nth dO vos k=vos[k]:=cC (t:=dO) h;have hs:(vos.set k (aq3 vos[k])).length=vos.length:=ed;refine⟨(t,u,hd,s,((k+1:Nat):Int),a,b,c,wis,wos,m,vos.length,vn,vis,vos.set k (aq3 vos[k])),⟨hs.symm,by rw[hs];exact hl,k+1,by rw[hs];exact h,rfl⟩,by show(vos.set k (aq3 vos[k])).length - ab ((k+1:Nat):Int) < vos.length - ab (k:Int);rw[hs];simp only[aa];omega,?_,λkn kx=> ?_⟩
  ·simp only[zN,EB,aa];rw[apc aq3 h]
  ·rw[Fw,aU ak,bo ak ak];simp only[aa,aH,bM,dz,Nat.reduceAdd,aI h,ao,bA,n1];rw[N.ot ak];rfl
 ·right;obtain rfl:k=vos.length:=ak;intro R kn kx;rw[Fw,aT ak,au];simp only[zN,EB,aa,bt,aN,eX,bn]
theorem anZ:bG.Ok:=by
 rintro⟨t,u,b,i,br,ks,sc⟩ ⟨⟨hg,aLd⟩,hb,hu⟩;have hu:∀x∈ks,iN x:=hu;have hb:Bytes b:=hb;rw[anY,aja (d:=()) trivial,Nv (d:=t) trivial,Nv (d:=u) trivial];rw[ah,ah,ah];simp only[bm,La,bm,aca,bm,acq];cases hs:Lr t
 ·rfl
 cases YI:Lr u
 ·rfl
 obtain⟨hv,adk,aGI⟩:=ayb hg hs;have hn:=(XF hs).1;have aLm:=(XF hs).2.1;rw[cd,au,au];by_cases hl:b.length<=5000
 case neg=>rw[dk ak,ao]
 rw[cJ ak,au];by_cases hk:ks.length<=14
 case neg=>rw[dk ak,ao]
 rw[cJ ak,au];have aGE:b.length<=1000000000:=ak;have cp:kR.call t=aw (t.1.length,t.2.1.length,(t.2.2.1,()),t.1,t.2.1):=RN (d:=t) aGI;have cr:kJ.call b=aw (py b):=acm (d:=b) ⟨hb,aGE⟩;have cR:gZ.call b=aw (py b):=ah0 (d:=b) ⟨hb,aGE⟩;have cs:jr.call (t,i,br,ks,sc)=aw (Oa t i br ks sc):=ah5 (d:=(t,i,br,ks,sc)) ⟨hv,hu,by show ks.length<=_;omega⟩;have sm:∀x:eT,CZ x->dL.call (x,x)=aw aW:=λx h=>by rw[RQ (d:=(x,x)) h];simp only[bm,PZ,bA]
 have hx:CZ (py b).1:=by
  cases hr:(py b).2
  ·rw[abP hr];exact ab8
  ·obtain⟨x,e,gT,_⟩:=abO hb aGE hr;rw[e];exact N9 gT
 have cm:=sm _ hx;have d0:dL.call (t,(t.1,(t.2.1,(t.2.2.1,()))))=aw aW:=sm t adk;have d1:eV.call t=aw (gS t):=jz (d:=t) hv.1;have d2:dy.call t=aw (gS t):=lR (d:=t) hv.1;have d3:tid.call t=aw (OF t):=Es (d:=t) hv;have d4:uX.call t=aw (OF t):=PW (d:=t) hv;have d5:hP.call t=aw (Ig t):=H9 (d:=t) hv;have d6:fZ.call t=aw (Ig t):=ZG (d:=t) hv;have d7:jN.call t=aw (aap t):=XP (d:=t) hv;have d8:fP.call t=aw (aap t):=Na (d:=t) hv;have d9:iT.call t=aw (jt t):=Sx (d:=t) hv.1;have d10:fY.call t=aw (jt t):=ZE (d:=t) hv.1;have d11:dR.call (jt t,jt t)=aw aW:=by rw[Jv (d:=(jt t,jt t)) (by show(jt t).length<=_;unfold jt;split;rw[bR];omega;exact aL _)];simp only[bm,AD,bA]
 have d12:rk.call t=aw (sW t):=acj (d:=t) hv;have d13:jK.call t=aw (sW t):=ahW (d:=t) hv;have d14:dR.call (sW t,sW t)=aw aW:=by rw[Jv (d:=(sW t,sW t)) (by show(sW t).length<=_;unfold sW;split;rw[PD];omega;exact aL _)];simp only[bm,AD,bA]
 have d15:rn.call (t,u)=aw (decide (t=u)):=QE (d:=(t,u)) adk;have d16:dL.call (t,u)=aw (decide (t=u)):=RQ (d:=(t,u)) adk;have l0:∀(s:Bool) (m m2:Nat) (vn:Int×Unit) (vis:List FA) (vos:List gb),m=vis.length->vis.length<=1000->(∀k:Nat,k < vis.length->((nth yy vis k).2.1.2.1:Nat)<=1000)->fQ.call (t,u,aW,s,0,t.1.length,t.2.1.length,(t.2.2.1,()),t.1,t.2.1,m,m2,vn,vis,vos)=aw (t,u,aW,s,t.1.length,t.2.1.length,(t.2.2.1,()),t.1,t.2.1,m,m2,vn,vis,vos):=λs m m2 vn vis vos h1 h2 h3=>
  Yw (d:=(t,u,aW,s,0,t.1.length,t.2.1.length,(t.2.2.1,()),t.1,t.2.1,m,m2,vn,vis,vos)) ⟨h1,h2,h3,0,aL _,rfl⟩
 have l2:∀(s:Bool) (m m2:Nat) (vn:Int×Unit) (vis:List FA) (vos:List gb),m2=vos.length->vos.length<=1000->fR.call (t,u,aW,s,0,t.1.length,t.2.1.length,(t.2.2.1,()),t.1,t.2.1,m,m2,vn,vis,vos)=aw ((t,u,aW,s,t.1.length,t.2.1.length,(t.2.2.1,()),t.1,t.2.1,m,m2,vn,vis),vos.map aq3):=λs m m2 vn vis vos h1 h2=>
  YA (d:=(t,u,aW,s,0,t.1.length,t.2.1.length,(t.2.2.1,()),t.1,t.2.1,m,m2,vn,vis,vos)) ⟨h1,h2,0,aL _,rfl⟩
 have q1:cut t.1 0 t.1.length=t.1:=dw rfl;have q2:cut t.2.1 0 t.2.1.length=t.2.1:=dw rfl;rw[cp,ah,cr,ah,cR,ah,anT (d:=(t,i,br,ks,sc)) ⟨hv,hu,by show ks.length<=_;omega⟩,ah];simp only[zM,H5];cases ho:uC t i br ks
 ·have hT:Oa t i br ks sc=(atW,1):=by rw[CW,ho];rfl
  have ci:dL.call ((([]:List fB),(([]:List gb),((0:Int),()))),atW)=aw aW:=sm atW ab8;have c0:=l0 aW 0 0 ((0:Int),()) [] [] rfl (aL _) (λk h=>by cases h);have c2:=l2 aW 0 0 ((0:Int),()) [] [] rfl (aL _);rw[hT]at cs;rw[if_neg gw,Sum.isLeft_inl,ao,Sum.getLeft?_inl,ah,cs,ah,cm,ah,ao,C3,ao];simp only[];rw[ci,ah,ao,Kf,Kg,KJ t.1,Ds t.2.1,show wD 1 1=aW from rfl];simp only[oq,bI,ao];rw[c0,ah,c2,ah];simp only[aH,az,eW,bA,ao,q1,q2,d0,ah,cd,au,d1,d2,C3,d3,d4,ay7,d5,d6,show ∀x:Int,wD x x=aW from λx=>dJ rfl,d7,d8,apa,d9,d10,d11,d12,d13,d14,d15,d16]
 ·obtain⟨gT,afC,_⟩:=Xy ho;have hT:Oa t i br ks sc=(I2 t i.toNat (El t br ks sc),0):=by rw[CW,ho];rfl
  obtain⟨k,rfl⟩:∃k:Nat,i=k:=⟨i.toNat,ak⟩;have aGT:k < t.1.length:=ak;rw[aa]at hT;have hw:=apd sc ho;have aCz:=N6 aGT gT hw;have YV:=aiW t k (El t br ks sc);obtain⟨v,SH⟩:∃v,I2 t k (El t br ks sc)=v:=⟨_,rfl⟩;have Tv:v.2=t.2:=by rw[<-SH];rfl
  rw[SH]at hT aCz YV;have q3:cut v.1 0 t.1.length=v.1:=dw YV;have ci:dL.call ((v.1,(t.2.1,t.2.2)),v)=aw aW:=by
   have:((v.1,(t.2.1,t.2.2)):eT)=v:=by rw[show((t.2.1,t.2.2):List gb×(Int×Unit))=t.2 from rfl,<-Tv]
   rw[this];exact sm v (N9 aCz)
  have c0:=l0 aW t.1.length t.2.1.length t.2.2 (aBQ v.1) t.2.1 (by rw[MG,YV]) (by rw[MG,YV];omega) (λj h=>by
   rw[MG]at h;rw[aCO h];exact Nat.le_trans (qE (iD _ _ (jO aCz).2.1 _ (ba h))).2.2.2.2 gw)
  have c2:=l2 aW t.1.length t.2.1.length t.2.2 (aBQ v.1) t.2.1 rfl ak;rw[hT]at cs ⊢;rw[if_pos rfl,fb,au,dW,ah,cs,ah,cm,ah,ao,C3,ao];rw[ald v.1,ale t.2.1];simp only[aH,bR,YV,az,eW,bA,ao,q3,q2];rw[ci,ah,ao,Kf,Kg,aj3,KJ t.1,Ds t.2.1,alg v.1,show wD 0 0=aW from rfl];simp only[oq,bI,ao];rw[c0,ah,c2,ah];simp only[aH,az,eW,bA,ao,q1,q2,d0,ah,cd,au,d1,d2,C3,d3,d4,ay7,d5,d6,show ∀x:Int,wD x x=aW from λx=>dJ rfl,d7,d8,apa,d9,d10,d11,d12,d13,d14,d15,d16]
theorem ajH:bG.RS:=rE [.d eU,.d eU,.d tB,.d ti,.d ti,.d tU,.d tu] bG
def an0:=bG.fh anZ 3 ⟨.fD aaq,⟨.fD aar,⟨.fD aas,trivial⟩⟩⟩
end Go.Ab
end
