/-
  Made short by a program of mine (wip/tools/mini.py).
-/
import Derived.Test.YtjalaaoefabepaaGreatS37x4
set_option linter.unusedVariables false
set_option linter.unusedSimpArgs false
set_option maxRecDepth 100000
set_option synthInstance.maxSize 5000
open List renaming replicate->ae,set->dZ,take->aJ,drop->bt
open BitVec renaming ofInt->bn
open Int renaming toNat->ab
open Or renaming inr->ej,inl->jH
open Option renaming some->aj,none->aF
open Bool renaming true->aL,false->aS
noncomputable section
variable {R:Type}
namespace Go.Ab
open Go.Proofs
def Zk(l:List cr)(a:List (cr×fj)):List (cr×fj):=l.foldl (λm o=>mM bX o m) a
def aPt(st:cI):Prop:=st.1.length<=1000/\st.2.1.length<=1000
abbrev CR:=Int×cR×(List cr)×Int×Int×Nat×(List (cr×fj))×(List cI)×Nat×((List cr)×Unit)×(List aEq)
def vi:CR->AS:=λ(fS,il,t28,t29,t30,o0L,jJ,eZ,aK1,n9,aO4)=>⟨([.ptr (.bW 0) 0 [] 0,bC,.d ti fS,bC,.dx dz il]++aQ 4 ([dP 9]++aQ 18 ([.d (.slice bX) t28,.d ti t29,.d ti t30]++aQ 54 []))),[cO (.pr (.cK (.bW 1) 0) (.pr (.cg (.bW 2) 0 [] 0 0 o0L) jL)),cO (.mp bX fh jJ),cO (.vec 95 cv eZ)],(bk 9 ([cJ (.pr (je 45 aK1) (.d (.pair (.slice bX) .unit) n9))]++bk 35 ([cJ (.vec 97 aRn aO4)]++bk 39 [])))⟩
abbrev Ec:=(Int×cR×Nat×(List cI)×((List cr)×Unit))×((List (cr×fj))×Nat×(List aEq))
def A7:Ec->Exit×AS:=λ((a,b,c,e,f),g,h,i)=>(.exit 0,⟨([.ptr (.bW 0) 0 [] 0,bC,.d ti a,bC,.dx dz b]++aQ 4 ([dP 9]++aQ 75 [])),[cO (.pr (.cK (.bW 1) 0) (.pr (.cg (.bW 2) 0 [] 0 0 c) jL)),cO (.mp bX fh g),cO (.vec 95 cv e)],(bk 9 ([cJ (.pr (je 45 h) (.d (.pair (.slice bX) .unit) f))]++bk 35 ([cJ (.vec 97 aRn i)]++bk 39 [])))⟩)
def RN:Ec->Out (Exit×AS):=λx=> .ok (A7 x)
def oC:CR->((List (cr×fj))×Nat×(List aEq))->Ec:=λ(fS,il,t28,t29,t30,o0L,jJ,eZ,aK1,n9,aO4) y=>((fS,il,o0L,eZ,n9),y)
abbrev CS:=Int×cR×(List cr)×Int×Int×Nat×(List (cr×fj))×(List cI)×Nat×((List cr)×Unit)×(List aEq)
def vj:CS->AS:=λ(pq,qi,t54,t55,t56,vA,GN,pX,XO,xY,XM)=>⟨([.ptr (.bW 0) 0 [] 0,bC,.d ti pq,bC,.dx dz qi]++aQ 4 ([dP 9]++aQ 44 ([.d (.slice bX) t54,.d ti t55,.d ti t56]++aQ 28 []))),[cO (.pr (.cK (.bW 1) 0) (.pr (.cg (.bW 2) 0 [] 0 0 vA) jL)),cO (.mp bX fh GN),cO (.vec 95 cv pX)],(bk 9 ([cJ (.pr (je 45 XO) (.d (.pair (.slice bX) .unit) xY))]++bk 35 ([cJ (.vec 97 aRn XM)]++bk 39 [])))⟩
abbrev Ed:=(Nat×(List cI)×Nat×((List cr)×Unit)×(List aEq))×((List (cr×fj)))
def A9:Ed->Exit×AS:=λ((a,b,c,e,f),g)=>(.exit 2,⟨([.ptr (.bW 0) 0 [] 0]++aQ 8 ([dP 9]++aQ 75 [])),[cO (.pr (.cK (.bW 1) 0) (.pr (.cg (.bW 2) 0 [] 0 0 a) jL)),cO (.mp bX fh g),cO (.vec 95 cv b)],(bk 9 ([cJ (.pr (je 45 c) (.d (.pair (.slice bX) .unit) e))]++bk 35 ([cJ (.vec 97 aRn f)]++bk 39 [])))⟩)
def RP:Ed->Out (Exit×AS):=λx=> .ok (A9 x)
def oD:CS->((List (cr×fj)))->Ed:=λ(pq,qi,t54,t55,t56,vA,GN,pX,XO,xY,XM) y=>((vA,pX,XO,xY,XM),y)
abbrev RK:=cR×Int×Nat×(List (cr×fj))×(List cI)
def aaY:RK->SA:=λ(t,height,o0baL,o1,o2)=>([.ptr (.bW 0) 0 [] 0,.d dz t,.d ti height],[cO (.pr (.cK (.bW 1) 0) (.pr (.cg (.bW 2) 0 [] 0 0 o0baL) jL)),cO (.mp bX fh o1),cO (.vec 95 cv o2)])
abbrev axD:=(Int×Nat×(List (cr×fj))×(List cI))⊕(Int×Nat×(List (cr×fj))×(List cI))
abbrev akb:=(Int×Nat×(List (cr×fj))×(List cI))⊕(Int×Nat×(List (cr×fj))×(List cI))
def MQ:akb->ja:=λx=>match x with | .inl x=>⟨.d ti x.1,[cO (.pr (.cK (.bW 1) 0) (.pr (.cg (.bW 2) 0 [] 0 0 x.2.1) jL)),cO (.mp bX fh x.2.2.1),cO (.vec 95 cv x.2.2.2)],[]⟩ | .inr x=>⟨.d ti x.1,[cO (.pr (.cK (.bW 1) 0) (.pr (.cg (.bW 2) 1 [] 0 0 x.2.1) jL)),cO (.mp bX fh x.2.2.1),.obj 1 aS (.vec 95 cv x.2.2.2)],[]⟩
def Cv:RK->axD->akb:=λ(t,height,o0baL,o1,o2) y=>match y with | .inl y=> .inl y | .inr y=> .inr y
def Oc(a:List (cr×fj)):List cr->List aEq
 |[]=> []
 |o::l=>(o,((bV bX o a).getD aKP,()))::Oc (mM bX o a) l
def UW(h:Int):List cr->List gX->List (cr×fj)->List (cr×fj)
 |o::l,x::xs,a=>UW h l xs (cY bX o (x,(h,())) a)
 |_,_,a=>a
def stepOf(t:cR)(a:List (cr×fj)):cI:=(Oc a (da t),(gl t,()))
def jI(t:cR)(h:Int)(a:List (cr×fj)):List (cr×fj):=UW h (gl t) t.2.1 (Zk (da t) a)
def A6:CR->Prop:=λ(_,_,l,n,i,_,_,_,gL,_,g)=>l.length<=1000/\∃k:Nat,k<=l.length/\i=k/\n=l.length/\gL=g.length/\g.length=k
def uL:CR->((List (cr×fj))×Nat×(List aEq)):=λ(_,_,l,_,i,_,a,_,gL,_,g)=>(Zk (l.drop i.toNat) a,gL+(l.drop i.toNat).length,g++Oc a (l.drop i.toNat))
def A8:CS->Prop:=λ(_,t,l,n,i,_,_,_,_,_,_)=>l.length<=1000/\l.length=t.2.1.length/\(∀o∈t.2.1,aWd o.2.1)/\∃k:Nat,k<=l.length/\i=k/\n=l.length
def uM:CS->((List (cr×fj))):=λ(h,t,l,_,i,_,a,_,_,_,_)=>UW h (l.drop i.toNat) (t.2.1.drop i.toNat) a
def Vc:RK->Prop:=λ(t,_,n,a,s)=>xx t/\anE a/\n<=s.length/\s.length<=1000000
def MP:RK->axD:=λ(t,h,n,a,s)=>if(eM t h a).2≠0 then .inl ((eM t h a).2,n,a,s) else .inr (0,n+1,jI t h a,s.take n++ [stepOf t a])
def RL:pb:=jB (P:=Tryz.prog) [aa4,ash,afp,axy]
def aaT:=du.eW vi A6 oC uL RN
def NT:CR->Option Ec:=fP aaT vi
def aaV:=du.eW vj A8 oD uM RP
def NV:CS->Option Ed:=fP aaV vj
def J1:Ae:= {loops:=oI [(6,{aV:=[0,2,4,9,28,29,30],sites:=[9,45],owns:=[⟨9,[.fst],45,93⟩]}),(12,{aV:=[0,2,4,9,54,55,56],sites:=[9,45]})],outs:=oH [(6,{aV:=[0,2,4,9],sites:=[9,45]},{aV:=[6]}),(12,{aV:=[0,9],sites:=[9,45]},{aV:=[6]})],fE:=pW [(6,aaT),(12,aaV)]}
def axB:= @Rl Tryz.prog RL J1 0 Tryz.f9 _ aaY
abbrev aFB:=aze @axB Vc Cv MP MQ
def aaU:= @dV Tryz.prog RL J1 0 Tryz.f9 0 _ vi
abbrev W1:=jh Tryz.prog RL J1 0 Tryz.f9 0 vi A6 oC uL RN
def aaW:= @dV Tryz.prog RL J1 0 Tryz.f9 1 _ vj
abbrev W2:=jh Tryz.prog RL J1 0 Tryz.f9 1 vj A8 oD uM RP
theorem aj9:iy NT A6 oC uL:=kz (jC [.d ti,.d dz,.d (.slice bX),.d ti,.d ti,.n,.d (.slice (.pair bX fh)),.d (.slice cv),.n,.d (.pair (.slice bX) .unit),.d (.slice aRn)] λ_=>cf)
theorem RM:azd @aaU vi A6 oC uL A7 W1:=aLv
theorem NU(fS il t28 t29 t30 o0L jJ eZ aK1 n9 aO4)(kn:K2 R)(kx:K3 R):aaU (fS,il,t28,t29,t30,o0L,jJ,eZ,aK1,n9,aO4) kn kx=aG (fL t30 t29) (aG (eE t30 (((List.length t28):Nat):Int)) (aG (decide (aK1<=(List.length aO4))) (aG (dd (aK1+1) 80) (kn (vi (fS,il,t28,t29,(bA .i64 t30 (1:Int)),o0L,(mM bX (nth bX t28 (ab t30)) jJ),eZ,(aK1+1),n9,((aJ aK1 aO4)++ [((nth bX t28 (ab t30)),(((bV bX (nth bX t28 (ab t30)) jJ).getD (((0:Int),((([]:List pZ),()),())),((0:Int),()))),()))])))) aF) aF) aF) (kx (A7 ((fS,il,o0L,eZ,n9),(jJ,aK1,aO4))).1 (A7 ((fS,il,o0L,eZ,n9),(jJ,aK1,aO4))).2):=cf
theorem aka:iy NV A8 oD uM:=kz (jC [.d ti,.d dz,.d (.slice bX),.d ti,.d ti,.n,.d (.slice (.pair bX fh)),.d (.slice cv),.n,.d (.pair (.slice bX) .unit),.d (.slice aRn)] λ_=>cf)
theorem RO:azd @aaW vj A8 oD uM A9 W2:=aLv
theorem NW(pq qi t54 t55 t56 vA GN pX XO xY XM)(kn:K2 R)(kx:K3 R):aaW (pq,qi,t54,t55,t56,vA,GN,pX,XO,xY,XM) kn kx=aG (fL t56 t55) (aG (eE t56 (((List.length t54):Nat):Int)) (aG (eE t56 (((List.length qi.2.1):Nat):Int)) (al (Zj.call (nth fJ qi.2.1 (ab t56))) λx1=>kn (vj (pq,qi,t54,t55,(bA .i64 t56 (1:Int)),vA,(cY bX (nth bX t54 (ab t56)) (x1,(pq,())) GN),pX,XO,xY,XM))) aF) aF) (kx (A9 ((vA,pX,XO,xY,XM),GN)).1 (A9 ((vA,pX,XO,xY,XM),GN)).2):=cf
theorem aFC(t height o0baL o1 o2)(k:K1 R):axB (t,height,o0baL,o1,o2) k=al (nh.call (t,height,o0baL,o1,o2)) λx1=>aG (Cw x1.2.1 (0:Int)) (k (MQ (.inl (x1.2.1,x1.2.2.1,x1.2.2.2.1,x1.2.2.2.2)))) (al (JB.call t) λx2=>al (uv.call t) λx3=>al (NT (height,t,x3,(((List.length x3):Nat):Int),(0:Int),x1.2.2.1,x1.2.2.2.1,x1.2.2.2.2,0,(x2,()),([]:List aEq))) λx4=>al (NV (x4.1.1,x4.1.2.1,x4.1.2.2.2.2.1,(((List.length x4.1.2.2.2.2.1):Nat):Int),(0:Int),x4.1.2.2.1,x4.2.1,x4.1.2.2.2.1,x4.2.2.1,x4.1.2.2.2.2,x4.2.2.2)) λx6=>aG (decide (0=0/\(0+x6.1.2.2.1)<=(List.length x6.1.2.2.2.2))) (aG (decide (x6.1.1<=(List.length x6.1.2.1))) (aG (dd (x6.1.1+1) 48) (k (MQ (.inr ((0:Int),(x6.1.1+1),x6.2,((aJ x6.1.1 x6.1.2.1)++ [((cut x6.1.2.2.2.2 0 x6.1.2.2.1),x6.1.2.2.2.1)]))))) aF) aF) aF):=cf
theorem aok:W1:=by
 refine RM (λ(_,_,l,_,i,_,_,_,_,_,_)=>l.length - i.toNat) ?_
 rintro⟨h,t,l,n,i,o,a,s,gL,u,g⟩ ⟨hl,k,hk,rfl,rfl,rfl,hg⟩;have hl:l.length<=1000:=hl;have hk:k<=l.length:=hk;have hg:g.length=k:=hg;by_cases iB:k < l.length
 ·left;have n1:nth bX l k=l[k]:=cj (t:=bX) iB;have hd:l.drop k=l[k]::l.drop (k+1):=aq iB;refine⟨(h,t,l,(l.length:Int),((k+1:Nat):Int),o,mM bX l[k] a,s,g.length+1,u,g++ [(l[k],((bV bX l[k] a).getD aKP,()))]),⟨hl,k+1,au,rfl,rfl,by simp,by simp[hg]⟩,by simp only[aa];omega,?_,λkn kx=> ?_⟩
  ·simp only[oC,uL,aa,hd,Zk,aX,Oc,aM,cS,aE];rw[show g.length+1+(l.drop (k+1)).length=g.length+((l.drop (k+1)).length+1) by omega]
  ·rw[NU,aT au,ak,aZ au au,ak,aI (aB _),ak,dk au au,ak,aa,n1,N.lh au,bK];rfl
 ·right;obtain rfl:k=l.length:=au;intro R kn kx;rw[NU,aP au,ao];simp only[oC,uL,aa,aH,Zk,eO,Oc,bJ,bq,de]
theorem aol:W2:=by
 refine RO (λ(_,_,l,_,i,_,_,_,_,_,_)=>l.length - i.toNat) ?_
 rintro⟨h,t,l,n,i,o,a,s,gL,u,g⟩ ⟨hl,he,hb,k,hk,rfl,rfl⟩;have hl:l.length<=1000:=hl;have he:l.length=t.2.1.length:=he;have hk:k<=l.length:=hk;by_cases iB:k < l.length
 ·left;have aQk:k < t.2.1.length:=au;have n1:nth bX l k=l[k]:=cj (t:=bX) iB;have n2:nth fJ t.2.1 k=t.2.1[k]:=cj (t:=fJ) aQk;have hd:l.drop k=l[k]::l.drop (k+1):=aq iB;have aL6:t.2.1.drop k=t.2.1[k]::t.2.1.drop (k+1):=aq aQk;refine⟨(h,t,l,(l.length:Int),((k+1:Nat):Int),o,cY bX l[k] (t.2.1[k],(h,())) a,s,gL,u,g),⟨hl,he,hb,k+1,au,rfl,rfl⟩,by simp only[aa];omega,?_,λkn kx=> ?_⟩
  ·simp only[oD,uM,aa,hd,aL6,UW]
  ·rw[NW,aT au,ak,aZ au au,ak,aZ au au,ak,aa,n1,n2,aog (d:=t.2.1[k]) (hb _ (aR aQk))];simp only[ah,bz,ath];rw[N.lh au]
 ·right;obtain rfl:k=l.length:=au;intro R kn kx;rw[NW,aP au,ao];simp only[oD,uM,aa,aH,UW]
theorem ahQ{t:cR}{h:Int}{a:List (cr×fj)}(e:(eM t h a).2=0):gv t=aL/\1<=h/\h<=1048576/\∃kq,By h (sX t) a t.1 0= .inr kq/\(gl t).any (yG a)=aS/\0<=kq - iN t.2.1/\eM t h a=(kq - iN t.2.1,0):=by
 unfold eM at e ⊢;by_cases h0:gv t=aL/\1<=h/\h<=1048576
 ·rw[if_pos h0]at e;rw[if_pos h0];refine⟨h0.1,h0.2.1,h0.2.2,?_⟩;cases hi:By h (sX t) a t.1 0 with
  |inl x=>
   exfalso;rw[hi]at e;simp only at e;subst e;have key:∀(l:List gK) (f:Int),By h (sX t) a l f≠ .inl 0:=by
    intro l
    induction l with
    |nil=>intro f hf;cases hf
    |cons x l ih=>
     intro f hf;simp only[By]at hf;cases hg:bV bX x.1 a with
     |none=>rw[hg]at hf;simp at hf
     |some c=>
      rw[hg]at hf;simp only at hf;split at hf
      ·rename_i kJ;exact kJ (by injection hf)
      ·exact ih _ hf
   exact key _ _ hi
  |inr kq=>
   rw[hi]at e;simp only at e ⊢;by_cases hm:(gl t).any (yG a)=aL
   ·rw[if_pos hm]at e;cases e
   ·rw[if_neg hm]at e;rw[if_neg hm];by_cases hf:kq - iN t.2.1 < 0
    ·rw[if_pos hf]at e;cases e
    ·rw[if_neg hf];exact⟨kq,rfl,by simpa using hm,au,rfl⟩
 ·rw[if_neg h0]at e;cases e
theorem abL{t:cR}(h:gv t=aL):(da t).length=t.1.length:=by unfold da;rw[if_pos h,List.length_map]
theorem aFD:aFB:=by
 rintro⟨t,h,n,a,s⟩ ⟨hv,ha,hn,hs⟩;have hv:xx t:=hv;have ha:anE a:=ha;have hn:n<=s.length:=hn;have hs:s.length<=1000000:=hs;rw[aFC,ah0 (d:=(t,h,n,a,s)) ⟨hv,ha⟩];simp only[ah,bz,akc,Cv,MP];by_cases he:(eM t h a).2=0
 ·rw[cz he,ao,if_neg (λe=>e he)];obtain⟨gb,_,_,_⟩:=ahQ he;obtain⟨⟨_,a2,a3,_⟩,b1,b2⟩:=iZ gb;rw[ajC (d:=t) hv];simp only[ah,bz,aap];rw[Za (d:=t) hv.1];simp only[ah,bz,Nv];rw[aj9 (d:=(h,t,da t,((da t).length:Int),0,n,a,s,0,(gl t,()),[])) ⟨by rw[abL gb];omega,0,aK _,rfl,rfl,rfl,rfl⟩];simp only[ah,oC,uL,aW,aO,bm,aU];rw[aka (d:=(h,t,gl t,((gl t).length:Int),0,n,Zk (da t) a,s,(da t).length,(gl t,()),Oc a (da t))) ⟨by rw[xW gb];omega,xW gb,λo ho=>by
   have:=abY (kK _ _ b2 o ho).2;exact⟨au,λb hb=>by have:=this.2 b hb;omega⟩,0,aK _,rfl,rfl⟩]
  simp only[ah,oD,uM,aW,aO];have aWC:∀(l:List cr) (a:List (cr×fj)),(Oc a l).length=l.length:=by
   intro l
   induction l with
   |nil=>intro a;rfl
   |cons o l ih=>intro a;simp[Oc,ih]
  rw[aI (by rw[aWC];exact⟨trivial,au⟩),ak,aI hn,ak,dk au au,ak,eF (aWC _ _)];rfl
 ·rw[eA he,ak,if_pos he]
def axC:=Entry.auo [aF,aj dz,aj ti] aaY Vc Cv MP MQ
def xR:RK->Option akb:=NS axC aaY
theorem az0:iy xR Vc Cv MP:=arI (abI [.d dz,.d ti,.n,.d (.slice (.pair bX fh)),.d (.slice cv)] λ_=>cf)
def aaX:SG Tryz.prog:=⟨9,qb,axC,.of (.aTF (.fn 2 cf aFD (And.intro (.eW aok cf) (And.intro (.eW aol cf) trivial)))) (by rfl)⟩
theorem aJP(k:Int)(m:List Int):aPs (mq k m):=by
 unfold mq;split
 ·exact⟨(aNZ _).u,(axc _ _).u⟩
 ·exact⟨⟨eV 0,eG⟩,eV 0,eG⟩
theorem aoJ:∀(l l':List gK) (b:List Int),l.map (·.1)=l'.map (·.1)->l.foldl P5 b=l'.foldl P5 b
 |[],[],_,_=>rfl
 |[],_::_,_,h=>by cases h
 |_::_,[],_,h=>by cases h
 |x::l,y::l',b,h=>by
  rw[bM,bM,ct]at h;have e:P5 b x=P5 b y:=by unfold P5;rw[h.1]
  rw[aX,aX,e,aoJ l l' _ h.2]
theorem aBT{l l':List gK}(t:List gX×Int×Unit)(h:l.map (·.1)=l'.map (·.1)):wE (l,t)=wE (l',t):=by
 have hl:l.length=l'.length:=by have:=congrArg List.length h;simpa using this
 unfold wE;simp only[hl];rw[aoJ l l' _ h]
theorem ao7:∀(l l':List gK) (m:List (cr×Bool)),l.map (·.1)=l'.map (·.1)->Gz m l=aL->(∀x∈l',AV x.2.1=aL)->Gz m l'=aL
 |[],[],_,_,_,_=>rfl
 |[],_::_,_,h,_,_=>by cases h
 |_::_,[],_,h,_,_=>by cases h
 |x::l,y::l',m,h,hi,hw=>by
  rw[bM,bM,ct]at h;rw[Gz,ax,ax]at hi ⊢;have hx:=hi.1.2;unfold Kc at hx;rw[ax]at hx;refine⟨⟨?_,?_⟩,?_⟩
  ·have:=hi.1.1;unfold Od at this ⊢;rw[<-h.1];exact this
  ·unfold Kc;rw[<-h.1,hx.1,hw y aC];rfl
  ·rw[<-h.1];exact ao7 l l' _ h.2 hi.2 λz hz=>hw z (az _ hz)
theorem aKx{l l':List gK}{t:List gX×Int×Unit}(h:l.map (·.1)=l'.map (·.1))(gb:gv (l,t)=aL)(hw:∀x∈l',AV x.2.1=aL):gv (l',t)=aL:=by
 have hl:l.length=l'.length:=by have:=congrArg List.length h;simpa using this
 unfold gv afv at gb ⊢;rw[ax,ax]at gb ⊢;simp only[hl]at gb;exact⟨gb.1,ao7 l l' _ h gb.2.1 hw,gb.2.2⟩
theorem ay6{l l':List gK}{t:List gX×Int×Unit}(h:l.map (·.1)=l'.map (·.1))(h1:gv (l,t)=aL)(h2:gv (l',t)=aL):sX (l',t)=sX (l,t):=by unfold sX;rw[h1,h2,aBT t h]
theorem awu{l l':List gK}{t:List gX×Int×Unit}(h:l.map (·.1)=l'.map (·.1))(h1:gv (l,t)=aL)(h2:gv (l',t)=aL):da (l',t)=da (l,t):=by unfold da;rw[h1,h2];exact h.symm
theorem aHo{l l':List gK}{t:List gX×Int×Unit}(h:l.map (·.1)=l'.map (·.1))(h1:gv (l,t)=aL)(h2:gv (l',t)=aL):gl (l',t)=gl (l,t):=by unfold gl;rw[h1,h2,ay6 h h1 h2]
def ZM(t:cR)(k:Nat)(w:Pq):cR:=(t.1.set k ((nth fo t.1 k).1,w,()),t.2)
theorem Ul(l:List gK)(k:Nat)(w:Pq)(h:k < l.length):l.map (·.1)=(l.set k ((nth fo l k).1,w,())).map (·.1):=by
 have n1:nth fo l k=l[k]:=cj (t:=fo) h;rw[n1,List.map_set];have e:(l[k].1:cr)=(l.map (·.1))[k]'(by rw[List.length_map];exact h):=by rw[List.getElem_map]
 show _=(l.map (·.1)).set k l[k].1;rw[e,iP]
theorem arR{l:List gK}{k:Nat}{w:Pq}{x:gK}(h:k < l.length)(hx:x∈l.set k ((nth fo l k).1,w,())):x∈l\/(x.1=l[k].1/\x.2.1=w):=by
 have n1:nth fo l k=l[k]:=cj (t:=fo) h;rw[n1]at hx;rcases List.mem_or_eq_of_mem_set hx with h1 | h1
 ·exact .inl h1
 ·exact .inr ⟨by rw[h1],by rw[h1]⟩
theorem aao{t:cR}{k:Nat}{w:Pq}(h:k < t.1.length)(gb:gv t=aL)(hw:AV w=aL):gv (ZM t k w)=aL:=by
 obtain⟨_,b1,_⟩:=iZ gb;refine aKx (l:=t.1) (Ul t.1 k w h) gb λx hx=> ?_
 rcases arR h hx with h1 | h1
 ·have:=nj _ _ b1 x h1;unfold Kc at this;rw[ax]at this;exact this.2
 ·rw[h1.2];exact hw
theorem aRb{t:cR}{k:Nat}{w:Pq}(h:k < t.1.length)(hv:xx t)(hu:aaw w)(hl:w.2.1.length<=9223372036854775807):xx (ZM t k w):=by
 refine⟨⟨hv.1.1,by show(t.1.set k _).length<=_;rw[tO];exact hv.1.2.1,hv.1.2.2⟩,λx hx=> ?_,hv.2.2⟩;rcases arR h hx with h1 | h1
 ·exact hv.2.1 x h1
 ·refine⟨?_,by rw[h1.2];exact hu,by rw[h1.2];exact hl⟩;rw[h1.1];exact(hv.2.1 _ (aR h)).1
theorem aNO{t:cR}{k:Nat}{w:Pq}(h:k < t.1.length)(gb:gv t=aL)(hw:AV w=aL):sX (ZM t k w)=sX t/\da (ZM t k w)=da t/\gl (ZM t k w)=gl t:=⟨ay6 (l:=t.1) (Ul t.1 k w h) gb (aao h gb hw),awu (l:=t.1) (Ul t.1 k w h) gb (aao h gb hw),aHo (l:=t.1) (Ul t.1 k w h) gb (aao h gb hw)⟩
def ag4(t:cR)(br:Int)(ks:List Int)(sc:Int):Pq:=(br,ks.map (λk=>mq k (sX t)),sc,())
theorem aJU(t:cR)(i br:Int)(ks:List Int)(sc:Int):aJT t i br ks sc=if IG t i br ks then(ZM t i.toNat (ag4 t br ks sc),0) else(([],[],0,()),1):=rfl
theorem arW{t:cR}{i br:Int}{ks:List Int}(h:IG t i br ks=aL):gv t=aL/\(0<=i/\i < t.1.length/\0<=br/\br < 4/\ks.length<=12)/\∀k∈ks,k < 2305843009213688669/\k≠0:=by unfold IG at h;simp only[ax,bO,dv]at h;refine⟨h.1,h.2.1,λk hk=> ?_⟩;have:=h.2.2;rw[List.any_eq_false]at this;have:=this k hk;unfold Rv at this;simpa using this
theorem aNS{t:cR}{i br:Int}{ks:List Int}(sc:Int)(h:IG t i br ks=aL):AV (ag4 t br ks sc)=aL:=by have e:=(arW h).2.1;unfold AV ag4;rw[aI ⟨e.2.2.1,e.2.2.2.1⟩,aI (by rw[List.length_map];exact e.2.2.2.2)];rfl
theorem aRg(t:cR)(br:Int)(ks:List Int){sc:Int}(h:ow sc):aaw (ag4 t br ks sc):=⟨λs hs=>by
  obtain⟨k,_,rfl⟩:=eu.1 (show s∈ks.map λk=>mq k (sX t) from hs);exact aJP k _,h⟩
theorem aJV{t:cR}{i br sc:Int}{ks:List Int}(hv:xx t)(h:IG t i br ks=aL)(hs:ow sc):
  gv (ZM t i.toNat (ag4 t br ks sc))=aL/\xx (ZM t i.toNat (ag4 t br ks sc))/\sX (ZM t i.toNat (ag4 t br ks sc))=sX t/\da (ZM t i.toNat (ag4 t br ks sc))=da t/\gl (ZM t i.toNat (ag4 t br ks sc))=gl t:=by
 obtain⟨gb,e,_⟩:=arW h;have hk:i.toNat < t.1.length:=au;have hw:=aNS sc h;exact⟨aao hk gb hw,aRb hk hv (aRg t br ks hs) (by show(ks.map _).length<=_;rw[List.length_map];omega),aNO hk gb hw⟩
def R8:gq:=([],aL,())
def vP(r:gq):Prop:=r.1.length<=1000000000/\Bytes r.1
def nF(n:Nat)(r:gq):List Int×gq:=if r.2.1=aL\/r.1.length < n then([],R8) else(r.1.take n,(r.1.drop n,r.2))
def Qq(l:List Int):Int:=l.foldl (λn b=>n*256+b) 0
def mP(r:gq):Int×gq:=(Qq (nF 8 r).1,(nF 8 r).2)
theorem aku:vP R8:=⟨aK _,λx hx=>by cases hx⟩
theorem Ch{n:Nat}{r:gq}(h:vP r):(nF n r).1.length<=n/\Bytes (nF n r).1/\vP (nF n r).2:=by
 unfold nF;split
 ·exact⟨aK _,λx hx=>(by cases hx),aku⟩
 ·refine⟨by rw[dw];omega,λx hx=>h.2 x (qo hx),?_,λx hx=>h.2 x (List.mem_of_mem_drop hx)⟩;show(r.1.drop n).length<=_;rw[gm];have:=h.1;omega
theorem aBf(l:List Int)(b:Int):Qq (l++ [b])=Qq l*256+b:=by unfold Qq;rw[List.foldl_append];rfl
theorem apZ:∀(l:List Int) (n:Int) (k:Nat),Bytes l->0<=n->n < 256^k->0<=l.foldl (λn b=>n*256+b) n/\l.foldl (λn b=>n*256+b) n < 256^(k+l.length)
 |[],n,k,_,h0,h1=>⟨h0,h1⟩
 |b::l,n,k,hb,h0,h1=>by obtain⟨aTg,aQs⟩:=hb b aC;have e:(256:Int)^(k+1)=256^k*256:=fO 256 k;have:=apZ l (n*256+b) (k+1) (λx hx=>hb x (az _ hx)) au (by rw[e];omega);rw[show k+(b::l).length=k+1+l.length by rw[aE];omega];exact this
theorem ayi{l:List Int}(h:Bytes l):0<=Qq l/\Qq l < 256^l.length:=by have:=apZ l 0 0 h (eV 0) eG;rw[aU]at this;exact this
theorem aiV{a b:Nat}(h:a<=b):(256:Int)^a<=256^b:=by have:((256^a:Nat):Int)<=((256^b:Nat):Int):=Int.ofNat_le.2 (Nat.pow_le_pow_right eG h);rw[lu,lu]at this;exact this
theorem aQR{l:List Int}(h:Bytes l)(h8:l.length<=8):ow (Qq l):=by have e:=ayi h;have e2:=aiV h8;have e3:(256:Int)^8=18446744073709551616:=rfl;exact⟨e.1,au⟩
theorem WI{r:gq}(h:vP r):ow (mP r).1/\vP (mP r).2:=⟨aQR (Ch h).2.1 (Ch h).1,(Ch h).2.2⟩
theorem aTC{n b:Int}(h0:0<=n)(h1:n < 72057594037927936)(hb:asJ b):db .or .u64 (nk .u64 n 8) (dO .u64 b)=n*256+b:=by have e:=(Xj (n:=n) (b:=b) ⟨h0,au⟩ hb).1;rw[zh 56 (by rfl) au]at e;have p:(2:Int)^56=72057594037927936:=rfl;rw[p]at e;omega
def aCR:gq->Prop:=λ_=>True
def aNv:gq->gq:=λ_=>R8
def T4:Fs Tryz.prog aCR bz aNv:=fu 139 Tryz.f139 (λo0=>([.ptr (.bW 0) 0 [] 0],[.obj 0 aS (.d qk o0)])) (λx=>⟨.nil,[.obj 0 aS (.d qk x)],[]⟩) [aF] [] {PJ:=[⟨0,[.arr],qk⟩]}
theorem aJm(o0)(k:K1 R):T4.A o0 k=k (T4.out (([]:List Int),(aL,o0.2.2))):=cf
theorem aJn:T4.Ok:=by intro o _;rw[aJm];rfl
theorem Wf:T4.RS:=rE [.d qk] T4
def aro:=T4.fI aJn
def Wg:gq->Int->((gq)×(Int)):=λo0 y=>(o0,y)
def aCT:gq->Prop:=λ_=>True
def amC:gq->Int:=λo=>(o.1.length:Int)
def YI:Fs Tryz.prog aCT Wg amC:=fu 110 Tryz.f110 (λo0=>([.ptr (.bW 0) 0 [] 0],[.obj 0 aS (.d qk o0)])) (λx=>⟨.d ti x.2,[.obj 0 aS (.d qk x.1)],[]⟩) [aF]
theorem aJq(o0)(k:K1 R):YI.A o0 k=k (YI.out (o0,(o0.1.length:Int))):=cf
theorem aJr:YI.Ok:=by intro o _;rw[aJq];rfl
theorem ai8:YI.RS:=rE [.d qk] YI
def art:=YI.fI aJr
def aen:gq->Bool->((gq)×(Bool)):=λo0 y=>(o0,y)
def aJw:gq->Prop:=λ_=>True
def avY:gq->Bool:=λo=> !o.2.1
def arw:Fs Tryz.prog aJw aen avY:=fu 109 Tryz.f109 (λo0=>([.ptr (.bW 0) 0 [] 0],[.obj 0 aS (.d qk o0)])) (λx=>⟨.d .bool x.2,[.obj 0 aS (.d qk x.1)],[]⟩) [aF]
theorem aNz(o0)(k:K1 R):arw.A o0 k=k (arw.out (o0,(!o0.2.1))):=cf
theorem aNA:arw.Ok:=by intro o _;rw[aNz];rfl
theorem arx:arw.RS:=rE [.d qk] arw
def ayX:=arw.fI aNA
def aC1:(Int×gq)->Prop:=λ(n,o)=>0<=n/\o.1.length<=1000000000
def aan:(Int×gq)->(Bs×gq):=λ(n,o)=>nF n.toNat o
def LH:Fs Tryz.prog aC1 bz aan:=fu 140 Tryz.f140 (λ(n,o0)=>([.ptr (.bW 0) 0 [] 0,.d ti n],[.obj 0 aS (.d qk o0)])) (λx=>⟨.d tB x.1,[.obj 0 aS (.d qk x.2)],[]⟩) [aF,aj ti] [aro,U8] {res:=[aj tB],PJ:=[⟨0,[.arr],qk⟩]}
theorem aJG(n o0)(k:K1 R):LH.A (n,o0) k=aG (o0.2.1) (al (T4.call o0) λx1=>k (LH.out (([]:List Int),x1))) (aG (Af n (o0.1.length:Int)) (al (T4.call o0) λx2=>k (LH.out (([]:List Int),x2))) (aG (inc n (o0.1.length:Int)) (al (CQ.call (cut o0.1 0 ((ab n) - 0))) λx3=>aG (inc n (o0.1.length:Int)) (aG (decide (0=0/\(0+x3.1)<=(List.length x3.2))) (k (LH.out ((cut x3.2 0 x3.1),((cut o0.1 (ab n) ((List.length o0.1) - (ab n))),o0.2)))) aF) aF) aF)):=cf
theorem aJH:LH.Ok:=by
 rintro⟨n,o⟩ ⟨h0,hl⟩;have h0:0<=n:=h0;have hl:o.1.length<=1000000000:=hl;obtain⟨k,rfl⟩:∃k:Nat,n=k:=⟨n.toNat,au⟩;rw[aJG];simp only[bz,aan,nF,aa,Nat.sub_zero];cases h2:o.2.1
 ·by_cases hn:o.1.length < k
  ·rw[dj au,if_pos (ej hn),Wf (d:=o) trivial];rfl
  ·have e1:cut o.1 0 k=o.1.take k:=rfl;have e2:cut o.1 k (o.1.length - k)=o.1.drop k:=by unfold cut;rw[bG];rw[gm];omega
   rw[cw au,if_neg (by intro x;rcases x with x | x;exact absurd x eG;exact hn x),C4 au au,e1,e2,Py (d:=o.1.take k) (by show(o.1.take k).length<=_;rw[dw];omega)];simp only[ao,ak,ah,bz,JX,aU,aB,ji,cG,eF]
 ·rw[ak,if_pos (jH rfl),Wf (d:=o) trivial];rfl
theorem Ws:LH.RS:=rE [.d ti,.d qk] LH
def aex:=LH.fI aJH
abbrev Wt:=Int×Bs×Int×Int×gq
def arG:Wt->Int->((gq)×(Int)):=λ(n,t7,t8,t9,tc) y=>(tc,y)
def arF:Wt->Prop:=λ(n,l,m,i,o)=>Bytes l/\l.length<=8/\m=l.length/\∃k:Nat,k<=l.length/\i=k/\n=Qq (l.take k)
def aC3:Wt->Int:=λ(n,l,m,i,o)=>Qq l
def aJK:gq->Prop:=λo=>vP o
def IC:gq->(Int×gq):=λo=>mP o
def Cc:Ls arF arG aC3:=te (λ(n,t7,t8,t9,tc)=>⟨([bC,bC,bC,.d tu n,bC,bC,bC,.d tB t7,.d ti t8,.d ti t9]++aQ 10 []),cJ (.d qk tc),(ae 20 [])⟩) (λx=>(.exit 0,⟨([bC,bC,bC,.d tu x.2]++aQ 16 []),cJ (.d qk x.1),(ae 20 [])⟩))
def LI:Fs Tryz.prog aJK bz IC:=fu 108 Tryz.f108 (λo0=>([.ptr (.bW 0) 0 [] 0],[.obj 0 aS (.d qk o0)])) (λx=>⟨.d tu x.1,[.obj 0 aS (.d qk x.2)],[]⟩) [aF] [aex] {loops:=oI [(3,{aV:=[3,7,8,9]})],outs:=oH [(3,{aV:=[3]},{aV:=[2]})],fE:=pW [(3,Cc.E)]}
theorem arH:Cc.RS:=rL [.d tu,.d tB,.d ti,.d ti,.d qk] Cc
theorem Ug(n t7 t8 t9 tc)(kn:K2 R)(kx:K3 R):LI.R 0 Cc (n,t7,t8,t9,tc) kn kx=aG (fL t9 t8) (aG (eE t9 (t7.length:Int)) (kn (Cc.st ((db .or .u64 (nk .u64 n 8) (dO .u64 (nth tb t7 (ab t9)))),t7,t8,(bA .i64 t9 1),tc))) aF) (Cc.go kx (tc,n)):=cf
theorem aNI(o0)(k:K1 R):LI.A o0 k=al (LH.call (8,o0)) λx1=>al (Cc.call (0,x1.1,(x1.1.length:Int),0,x1.2)) λx2=>k (LI.out (x2.2,x2.1)):=cf
theorem av8:(LI.kA 0 Cc):=by
 refine(LI.nN 0 Cc) (λ(n,l,m,i,o)=>l.length - i.toNat) ?_
 rintro⟨n,l,m,i,o⟩ ⟨hb,h8,rfl,k,hk,rfl,rfl⟩;have h8:l.length<=8:=h8;have hk:k<=l.length:=hk;by_cases h:k < l.length
 ·left;have hx:=hb _ (aR h);have n1:nth (.int .u8) l k=l[k]:=cj (t:= .int .u8) h;have ht:(l.take k).length=k:=by rw[dw];omega
  have b0:=ayi (l:=l.take k) λx hx=>hb x (qo hx)
  rw[ht]at b0;have b1:=aiV (show k<=7 by omega);have b2:(256:Int)^7=72057594037927936:=rfl;refine⟨(Qq (l.take (k+1)),l,l.length,((k+1:Nat):Int),o),⟨hb,h8,rfl,k+1,au,rfl,rfl⟩,by simp only[aa];omega,rfl,λkn kx=> ?_⟩;rw[Ug,aT au,aZ au au,aa,n1,N.lh au,aTC b0.1 au hx,ir h,aBf];rfl
 ·right;obtain rfl:k=l.length:=au;intro R kn kx;rw[Ug,aP au,ao,bK];rfl
theorem aNJ:LI.Ok:=by intro o h;have h:vP o:=h;have t:=Ch (n:=8) h;rw[aNI,Ws (d:=(8,o)) ⟨eG,h.1⟩];simp only[ah,bz,aan];rw[show ab 8=8 from rfl,arH (d:=(0,(nF 8 o).1,(nF 8 o).1.length,0,(nF 8 o).2)) ⟨t.2.1,t.1,rfl,0,aK _,rfl,rfl⟩];rfl
theorem zZ:LI.RS:=rE [.d qk] LI
def amE:=LI.fI aNJ 1 ⟨.eW av8,trivial⟩
def aCW:Bs->Prop:=λb=>b.length<=1000000000
def aam:Bs->gq:=λb=>(b,aS,())
def T9:Fs Tryz.prog aCW bz aam:=fu 102 Tryz.f102 (λb=>([.d tB b],[])) (λx=>⟨.ptr (.new 0 0) 0 [] 0,[],[.obj 0 aS (.d qk x)]⟩) [aj tB] [U8] {bu:=[6],PJ:=[⟨2,[.arr],qk⟩]}
theorem aJx(b)(k:K1 R):T9.A b k=al (CQ.call b) λx1=>aG (decide (0=0/\(0+x1.1)<=(List.length x1.2))) (k (T9.out ((cut x1.2 0 x1.1),(aS,())))) aF:=cf
theorem aJy:T9.Ok:=by intro b hb;have hb:b.length<=1000000000:=hb;rw[aJx,Py (d:=b) (by show b.length<=_;omega)];simp only[ah,bz,JX,aU,aB,ji,cG,ak,eF];rfl
theorem Wl:T9.RS:=rE [.d tB] T9
def aeo:=T9.fI aJy
abbrev aeC:=Int×gq
def ID:aeC->Bool->((Int×gq)×(Bool)):=λ(o0,o2) y=>((o0,o2),y)
def awa:aeC->Prop:=λ(a,o)=>0<=a
def Ui:aeC->Bool:=λ(a,o)=>decide (o.1.length<=a.toNat\/8 < a.toNat\/(0 < a.toNat/\nth (.int .u8) o.1 a.toNat=0))
def F0:Fs Tryz.prog awa ID Ui:=fu 138 Tryz.f138 (λ(o0,o2)=>([.ptr (.bW 0) 0 [] 0,.ptr (.bW 1) 0 [] 0],[.obj 0 aS (.d ti o0),.obj 0 aS (.ptr (.bW 2) 0 [] 0),.obj 0 aS (.d qk o2)])) (λx=>⟨.d .bool x.2,[.obj 0 aS (.d ti x.1.1),.obj 0 aS (.ptr (.bW 2) 0 [] 0),.obj 0 aS (.d qk x.1.2)],[]⟩) [aF,aF]
theorem aC8(o0 o2)(k:K1 R):F0.A (o0,o2) k=aG (D4 o0 (o2.1.length:Int)) (k (F0.out ((o0,o2),aL))) (aG (Af o0 8) (k (F0.out ((o0,o2),aL))) (aG (Af o0 0) (aG (eE o0 (o2.1.length:Int)) (k (F0.out ((o0,o2),(AP (nth tb o2.1 (ab o0)) 0)))) aF) (k (F0.out ((o0,o2),aS))))):=cf
theorem aC9:F0.Ok:=by
 rintro⟨a,o⟩ h0;obtain⟨k,rfl⟩:∃k:Nat,a=k:=⟨a.toNat,by have h0:0<=a:=h0;omega⟩;rw[aC8];simp only[ID,Ui,aa];by_cases h1:o.1.length<=k
 ·rw[gA au,aI (jH h1)];rfl
 by_cases h2:8 < k
 ·rw[eD au,dj au,aI (ej (jH h2))];rfl
 by_cases h3:0 < k
 ·rw[eD au,cw au,dj au,aZ au au];simp only[ao,ak];by_cases h4:nth (.int .u8) o.1 k=0
  ·rw[eU h4,aI (ej (ej ⟨h3,h4⟩))]
  ·rw[fU h4,aN (by rintro(x | x | x);exact h1 x;exact h2 x;exact h4 x.2)]
 ·rw[eD au,cw au,cw au,aN (by rintro(x | x | x);exact h1 x;exact h2 x;exact h3 x.1)];rfl
theorem aeD:F0.RS:=rE [.d ti,.d qk] F0
def aDa:=F0.fI aC9
def Di:List Int->Nat->Int->(Int×Nat)⊕Unit
 |[],_,_=> .inr ()
 |d::l,a,n=>if 8 < a\/(0 < a/\d=0) then .inr () else if d < 128 then .inl (n+d%128*128^a,a+1) else Di l (a+1) (n+d%128*128^a)
def dh(r:gq):Int×gq:=match Di r.1 0 0 with | .inl v=>(v.1,(r.1.drop v.2,r.2)) | .inr _=>(0,R8)
theorem avd(k:Nat):(128:Int)^k=((128^k:Nat):Int):=by rw[lu];rfl
theorem aoy{n d k:Nat}(hk:k<=8)(hn:n < 128^k)(hd:d < 128):db .or .i64 (n:Int) (nk .i64 (d:Int) ((7*k:Nat):Int))=((n+d*128^k:Nat):Int)/\n+d*128^k < 128^(k+1)/\128^(k+1)<=9223372036854775808:=by
 have p:128^k<=128^8:=Nat.pow_le_pow_right eG hk;have p8:128^8=72057594037927936:=rfl;have e1:128^(k+1)=128^k*128:=Nat.pow_succ (n:=128) (m:=k);have e2:2^(7*k)=128^k:=by rw[Nat.pow_mul]
 have e3:d*128^k<=127*128^k:=Nat.mul_le_mul_right _ au;refine⟨?_,au,au⟩;have s:nk .i64 (d:Int) ((7*k:Nat):Int)=((d*128^k:Nat):Int):=by
  rw[nk];have e:min (ab ((7*k:Nat):Int)) IntKind.i64.bits=7*k:=by simp only[IntKind.bits,aa];omega
  rw[e,show(2:Int)^(7*k)=((2^(7*k):Nat):Int) by rw[lu];rfl,e2,<-pf];exact wk au au
 rw[s];have e:(bn 64 (n:Int) ||| bn 64 ((d*128^k:Nat):Int)).toNat=n+d*128^k:=by
  rw[BitVec.toNat_or];have a:(bn 64 ((d*128^k:Nat):Int)).toNat=2^(7*k)*d:=by rw[jf,kB,e2,Nat.mul_comm];exact nc (by rw[Nat.mul_comm];omega)
  have b:(bn 64 (n:Int)).toNat=n:=by rw[jf,kB];exact nc au
  rw[a,b,Nat.or_comm,<-Nat.two_pow_add_eq_or_of_lt (by rw[e2];exact hn),e2,Nat.mul_comm];omega
 show IntKind.i64.wrap ((bn 64 (n:Int) ||| bn 64 ((d*128^k:Nat):Int)).toNat:Int)=_;rw[e];exact wk au au
theorem alm:∀(l:List Int) (a:Nat) (n:Int) (v:Int×Nat),Bytes l->a<=9->0<=n->n < 128^a->Di l a n= .inl v->0<=v.1/\v.1 < 9223372036854775808/\a < v.2/\v.2<=a+l.length/\v.2<=9
 |[],a,n,v,_,_,_,_,h=>by cases h
 |d::l,a,n,v,hb,ha,h0,h1,h=>by
  have hx:=hb d aC;obtain⟨x1,x2⟩:=hx;rw[Di]at h;split at h
  ·cases h
  ·rename_i hc;have aWm:a<=8:=au;rw[avd]at h1 h;obtain⟨nn,rfl⟩:∃m:Nat,n=m:=⟨n.toNat,au⟩;obtain⟨dn,aTT⟩:∃m:Nat,d%128=m:=⟨(d%128).toNat,au⟩;have g:=(aoy (n:=nn) (d:=dn) aWm au au).2;rw[aTT]at h;have ec:((nn:Int)+(dn:Int)*((128^a:Nat):Int))=((nn+dn*128^a:Nat):Int):=by rw[Int.natCast_add,pf]
   rw[ec]at h;split at h
   ·cases h;simp only[aE];exact⟨au,au,au,au,au⟩
   ·have:=alm l (a+1) _ v (λx hx=>hb x (az _ hx)) au au (by rw[avd];omega) h;simp only[aE];exact⟨this.1,this.2.1,au,au,this.2.2.2.2⟩
theorem tQ{r:gq}(h:vP r):0<=(dh r).1/\(dh r).1<=9223372036854775807/\vP (dh r).2:=by
 unfold dh;cases hf:Di r.1 0 0 with
 |inl v=>
  have:=alm r.1 0 0 v h.2 eG eG eG hf;refine⟨this.1,by have:=this.2.1;show v.1<=_;omega,?_,λx hx=>h.2 x (List.mem_of_mem_drop hx)⟩;show(r.1.drop v.2).length<=_;rw[gm];have:=h.1;omega
 |inr _=>exact⟨eV 0,(show(0:Int)<=9223372036854775807 by decide),aku⟩
theorem ap1:∀(f:Nat) (n:Int) (a:Nat) (m:Int) (rest:List Int),0<=n->n < 128^(f+1)->a+f<=8->(a=0\/0 < n)->
  Di ((gT f n).1++(gT f n).2::rest) a m= .inl (m+n*128^a,a+(gT f n).1.length+1)
 | 0,n,a,m,rest,h0,h1,ha,hp=>by have h1:n < 128:=h1;show Di (n::rest) a m=_;rw[Di,if_neg au,if_pos h1,fM h0 h1];rfl
 |f+1,n,a,m,rest,h0,h1,ha,hp=>by
  rw[gT];have e:(128:Int)^(f+1+1)=128^(f+1)*128:=fO 128 (f+1);split
  ·rename_i h;show Di ((n%128+128)::((gT f (n / 128)).1++(gT f (n / 128)).2::rest)) a m=_;rw[Di,if_neg au,if_neg au,ap1 f (n / 128) (a+1) _ rest au au au (ej au)];have e2:(128:Int)^(a+1)=128^a*128:=fO 128 a;have e3:(n%128+128)%128=n%128:=au;have e4:m+n%128*128^a+n / 128*(128^a*128)=m+n*128^a:=by
    have:n*128^a=(n%128+n / 128*128)*128^a:=by rw[show n%128+n / 128*128=n by omega]
    rw[this,Int.add_mul,th (n / 128),vV 128 (128^a),yu]
   rw[e3,e2,e4];simp only[aE];rw[show a+1+(gT f (n / 128)).1.length+1=a+((gT f (n / 128)).1.length+1)+1 by omega]
  ·rename_i h;show Di (n::rest) a m=_;rw[Di,if_neg au,if_pos au,fM h0 au];rfl
theorem Kx(n:Int)(h:JE n)(rest:List Int)(u:Bool×Unit):dh (gH n++rest,u)=(n,(rest,u)):=by
 have h0:=h.1;have h1:=h.2;have e8:(128:Int)^(8+1)=9223372036854775808:=rfl;have e10:(128:Int)^(10+1)=151115727451828646838272:=rfl;have er:gT 10 n=gT 8 n:=Nn 10 8 n (by rw[e10];omega) (by rw[e8];omega);have el:gH n++rest=(gT 8 n).1++(gT 8 n).2::rest:=by unfold gH;rw[er,aM];rfl
 have e:=ap1 8 n 0 0 rest h0 (by rw[e8];omega) eG (jH rfl);unfold dh;show(match Di (gH n++rest) 0 0 with | .inl v=>(v.1,((gH n++rest).drop v.2,u)) | .inr _=>(0,R8))=_;rw[el,e];show(0+n*128^0,(((gT 8 n).1++(gT 8 n).2::rest).drop (0+(gT 8 n).1.length+1),u))=_;rw[lI,zA,Int.zero_add,aU,mZ,ph (by rw[ai];rfl)]
theorem aHG(n:Int)(h:ow n):Qq (jA n)=n:=by obtain⟨h0,h1⟩:=h;unfold Qq jA;simp only[aX,eO];omega
theorem MD(n:Int)(h:ow n)(rest:List Int):mP (jA n++rest,aS,())=(n,(rest,aS,())):=by
 unfold mP nF;have l8:=cl n;rw[if_neg (by
  intro x;rcases x with x | x
  ·have x:aS=aL:=x;cases x
  ·have x:(jA n++rest).length < 8:=x;rw[ai]at x;omega)]
 show(Qq ((jA n++rest).take 8),((jA n++rest).drop 8,aS,()))=_;rw[List.take_left' l8,ph l8,aHG n h]
abbrev Hb:=Int×gq×Int
def u6:Hb->AS:=λ(n,tc,n4)=>⟨([.ptr (.bW 0) 0 [] 0,dP 1,bC,.d ti n,dP 4,.fn 138 (.cons (dP 4) (.cons (dP 1) (.nil)))]++aQ 35 []),cJ (.d qk tc),([[],cJ (.ptr (.bW 0) 0 [] 0),[],[],cJ (.d ti n4)]++bk 36 [])⟩
def EN:gq->Exit×AS:=λx=>(.ret,⟨([.ptr (.bW 0) 0 [] 0,bC,.d ti (0:Int)]++aQ 38 []),cJ (.d qk x),(ae 41 [])⟩)
def vK:(Int×gq×Int)->Exit×AS:=λ(a,b,c)=>(.exit 0,⟨([.ptr (.bW 0) 0 [] 0,dP 1,bC,.d ti a,dP 4]++aQ 36 []),cJ (.d qk b),([[],cJ (.ptr (.bW 0) 0 [] 0),[],[],cJ (.d ti c)]++bk 36 [])⟩)
abbrev Wi:=(gq)⊕((Int×gq×Int))
abbrev aja:=(gq)⊕((Int×gq×Int))
def LD:Wi->Out (Exit×AS):=λx=> .br x.isLeft (.get x.getLeft? λa=> .ok (EN a)) (.get x.getRight? λb=> .ok (vK b))
def oc:Hb->aja->Wi:=λ(n,tc,n4) y=>match y with | .inl y=> .inl y | .inr z=> .inr (z)
def EM:Hb->Prop:=λ(n,o,i)=>vP o/\∃(k m:Nat),k<=9/\i=k/\n=m/\m < 128^k
def vJ:Hb->aja:=λ(n,o,i)=>match Di (o.1.drop i.toNat) i.toNat n with | .inl v=> .inr (v.1,o,(v.2:Int)) | .inr _=> .inl R8
def aJv:gq->Prop:=λo=>vP o
def ra:gq->(Int×gq):=λo=>dh o
def ai9:=du.eW u6 EM oc vJ LD
def T6:Hb->Option Wi:=fP ai9 u6
def Az:Fs Tryz.prog aJv bz ra:=fu 104 Tryz.f104 (λo0=>([.ptr (.bW 0) 0 [] 0],[.obj 0 aS (.d qk o0)])) (λx=>⟨.d ti x.1,[.obj 0 aS (.d qk x.2)],[]⟩) [aF] [aDa,aro] {bu:=[1],loops:=oI [(3,{aV:=[0,1,3,4,5],sites:=[1,4]})],outs:=oH [(3,{aV:=[0,1,3,4],sites:=[1,4]},{aV:=[0,2]})],fE:=pW [(3,ai9)],PJ:=[⟨0,[.arr],qk⟩]}
def Wh:= @dV Tryz.prog (jB Az.G) Az.an 0 Tryz.f104 0 _ u6
abbrev aem:=jh Tryz.prog (jB Az.G) Az.an 0 Tryz.f104 0 u6 EM oc vJ LD
theorem arv:iy T6 EM oc vJ:=kz (jC [.d ti,.d qk,.d ti] λ_=>cf)
theorem Wj:mY @Wh u6 EM oc vJ LD aem:=nJ
theorem T7(n tc n4)(kn:K2 R)(kx:K3 R):Wh (n,tc,n4) kn kx=al (F0.call (n4,tc)) λx1=>aG (x1.2) (al (T4.call x1.1.2) λx2=>kx (EN x2).1 (EN x2).2) (aG (eE x1.1.1 (((List.length x1.1.2.1):Nat):Int)) (aG (nv (gB .i64 (7:Int) x1.1.1)) (aG (fL (nth tb x1.1.2.1 (ab x1.1.1)) (128:Int)) (kx (vK ((db .or .i64 n (nk .i64 (dO .i64 (nM (nth tb x1.1.2.1 (ab x1.1.1)) (128:Int))) (gB .i64 (7:Int) x1.1.1))),x1.1.2,(bA .i64 x1.1.1 (1:Int)))).1 (vK ((db .or .i64 n (nk .i64 (dO .i64 (nM (nth tb x1.1.2.1 (ab x1.1.1)) (128:Int))) (gB .i64 (7:Int) x1.1.1))),x1.1.2,(bA .i64 x1.1.1 (1:Int)))).2) (kn (u6 ((db .or .i64 n (nk .i64 (dO .i64 (nM (nth tb x1.1.2.1 (ab x1.1.1)) (128:Int))) (gB .i64 (7:Int) x1.1.1))),x1.1.2,(bA .i64 x1.1.1 (1:Int)))))) aF) aF):=cf
theorem aNx(o0)(k:K1 R):Az.A o0 k=al (T6 (0,o0,0)) λx3=>aG x3.isLeft (al x3.getLeft? λa4=>k (Az.out (0,a4))) (al x3.getRight? λb5=>aG (inc b5.2.2 (b5.2.1.1.length:Int)) (k (Az.out (b5.1,((cut b5.2.1.1 (ab b5.2.2) ((List.length b5.2.1.1) - (ab b5.2.2))),b5.2.1.2)))) aF):=cf
theorem avX:aem:=by
 refine Wj (λ(n,o,i)=>9 - i.toNat) ?_
 rintro⟨n,o,i⟩ ⟨hr,k,m,hk,rfl,rfl,hm⟩;have hk:k<=9:=hk;have hr:vP o:=hr;by_cases hw:o.1.length<=k\/8 < k\/(0 < k/\nth (.int .u8) o.1 k=0)
 ·right;have hf:Di (o.1.drop k) k (m:Int)= .inr ():=by
   by_cases h:k < o.1.length
   ·have n1:nth (.int .u8) o.1 k=o.1[k]:=cj (t:= .int .u8) h;rw[aq h,Di,if_pos (by rw[n1]at hw;rcases hw with x | x | x;exact absurd x au;exact jH x;exact ej x)]
   ·rw[fv au];rfl
  refine⟨EN R8,?_,λkn kx=> ?_⟩
  ·simp only[oc,vJ,aa,hf];rfl
  ·rw[T7,aeD (d:=((k:Int),o)) (kD k)];simp only[ah,ID,Ui,aa];rw[aI hw,ak,Wf (d:=o) trivial];rfl
 ·have h:k < o.1.length:=au;have hx:=hr.2 _ (aR h);obtain⟨x1,x2⟩:=hx;have n1:nth (.int .u8) o.1 k=o.1[k]:=cj (t:= .int .u8) h;have hc:¬(8 < k\/(0 < k/\o.1[k]=0)):=λx=>hw (x.elim (λy=> .inr (.inl y)) λy=> .inr (.inr ⟨y.1,n1.trans y.2⟩))
  obtain⟨dn,aTT⟩:∃d:Nat,o.1[k]=d:=⟨o.1[k].toNat,au⟩;have g:=aoy (n:=m) (d:=dn%128) (k:=k) au hm au;have step:∀ {R:Type} (kn:AS->Option R) (kx:Exit->AS->Option R),Wh ((m:Int),o,(k:Int)) kn kx=aG (fL o.1[k] 128) (kx (vK (((m+dn%128*128^k:Nat):Int),o,((k+1:Nat):Int))).1 (vK (((m+dn%128*128^k:Nat):Int),o,((k+1:Nat):Int))).2) (kn (u6 (((m+dn%128*128^k:Nat):Int),o,((k+1:Nat):Int)))):=by intro R kn kx;rw[T7,aeD (d:=((k:Int),o)) (kD k)];simp only[ah,ID,Ui,aa];rw[aN hw,ao,aZ au au,n1,aTT,N.aTm au,vz au,N.aUd,N.cN au,g.1,N.lh au];rfl
  have ef:Di (o.1.drop k) k (m:Int)=if o.1[k] < 128 then .inl (((m+dn%128*128^k:Nat):Int),k+1) else Di (o.1.drop (k+1)) (k+1) ((m+dn%128*128^k:Nat):Int):=by
   have ec:(m:Int)+o.1[k]%128*128^k=((m+dn%128*128^k:Nat):Int):=by rw[aTT,avd,Int.natCast_add,pf];rfl
   rw[aq h,Di,if_neg hc,ec]
  by_cases hl:o.1[k] < 128
  ·right;refine⟨vK (((m+dn%128*128^k:Nat):Int),o,((k+1:Nat):Int)),?_,λkn kx=> ?_⟩
   ·simp only[oc,vJ,aa,ef,if_pos hl];rfl
   ·rw[step,aT hl,ak]
  ·left;refine⟨(((m+dn%128*128^k:Nat):Int),o,((k+1:Nat):Int)),⟨hr,k+1,_,au,rfl,rfl,g.2.1⟩,by simp only[aa];omega,?_,λkn kx=> ?_⟩
   ·simp only[oc,vJ,aa,ef,if_neg hl]
   ·rw[step,aP hl,ao]
theorem aNy:Az.Ok:=by
 intro o h;have h:vP o:=h;rw[aNx,arv (d:=(0,o,0)) ⟨h,0,0,eG,rfl,rfl,eG⟩];simp only[ah,oc,vJ,aW,aO,bz,ra,dh];cases hf:Di o.1 0 0 with
 |inl v=>
  have g:=alm o.1 0 0 v h.2 eG eG eG hf;have e2:cut o.1 v.2 (o.1.length - v.2)=o.1.drop v.2:=by unfold cut;rw[bG];rw[gm];omega
  simp only[dN,cV,ao,ah,aa];rw[C4 au au,ak,e2]
 |inr _=>rfl
theorem kU:Az.RS:=rE [.d qk] Az
def T8:=Az.fI aNy 1 ⟨.eW avX,trivial⟩
theorem gr{a b:List Int}(ha:Bytes a)(hb:Bytes b):Bytes (a++b):=λx hx=>by
 rcases bg.1 hx with h | h
 ·exact ha x h
 ·exact hb x h
theorem aes:∀(f:Nat) (n:Int),0<=n->n < 128^(f+1)->Bytes (gT f n).1/\asJ (gT f n).2
 | 0,n,h0,h1=>by have h1:n < 128:=h1;exact⟨λx hx=>(by cases hx),h0,by show n < 256;omega⟩
 |f+1,n,h0,h1=>by
  have e:(128:Int)^(f+1+1)=128^(f+1)*128:=fO 128 (f+1);rw[gT];split
  ·have ih:=aes f (n / 128) au au;refine⟨λx hx=> ?_,ih.2⟩;rcases bI.1 hx with rfl | hx
   ·exact⟨au,au⟩
   ·exact ih.1 x hx
  ·exact⟨λx hx=>(by cases hx),h0,by show n < 256;omega⟩
theorem lH{n:Int}(h:JE n):Bytes (gH n):=by have e10:(128:Int)^(10+1)=151115727451828646838272:=rfl;obtain⟨h0,h1⟩:=h;have:=aes 10 n h0 (by rw[e10];omega);unfold gH;exact gr this.1 λx hx=>by rw[aY]at hx;subst hx;exact this.2
theorem apb:∀(ks:List Int) (o:List Int),np o ks=o++ks.flatMap jA
 |[],o=>by rw[rJ,bJ];rfl
 |k::ks,o=>by show np (o++jA k) ks=_;rw[apb ks,dC,aM]
theorem at6(ks:List Int):Bytes (ks.flatMap jA):=λx hx=>by obtain⟨k,_,hk⟩:=hJ.1 hx;exact Gk k x hk
def aKS(b:pZ):List Int:=gH b.1.length++(b.1.flatMap jA++(gH b.2.1++(gH b.2.2.1++jA b.2.2.2.1)))
theorem aal(o:List Int){n:Int}(h:0<=n):dJ o n=o++gH n:=by rw[dJ,if_neg au]
structure aPp(b:pZ):Prop where
 len:b.1.length<=12
 af:JE b.2.1
 dl:JE b.2.2.1
theorem aPG{b:pZ}(h:xp b=aL):aPp b:=by unfold xp Su at h;simp only[ax,bO]at h;obtain⟨h1,_,h2,h3,_⟩:=h;exact⟨h1,⟨h2.1,au⟩,⟨h3.1,au⟩⟩
theorem wy{n:Nat}(h:n<=1000000000):JE (n:Int):=⟨au,au⟩
theorem aPE(o:List Int){b:pZ}(h:aPp b):aD8 o b=o++aKS b:=by unfold aD8 aKS;rw[aal _ (kD _),apb,aal _ h.af.1,aal _ h.dl.1];simp only[aM]
theorem axs:∀(bs:List pZ) (o:List Int),(∀b∈bs,aPp b)->bs.foldl aD8 o=o++bs.flatMap aKS
 |[],o,_=>by rw[rJ,bJ];rfl
 |b::bs,o,h=>by rw[aX,aPE o (h b aC),axs bs _ λx hx=>h x (az _ hx),dC,aM]
theorem aug{l:Lk}(h:lk l=aL):(∀b∈l.1,aPp b)/\0 < l.1.length/\l.1.length<=4:=by unfold lk at h;simp only[ax,bQ,bO]at h;exact⟨λb hb=>aPG (h.1 b hb),h.2⟩
theorem aG4{l:Lk}(h:lk l=aL):P8 l=gH l.1.length++l.1.flatMap aKS:=by unfold P8;rw[if_pos h,axs _ _ (aug h).1,aal _ (kD _),bm]
theorem azA{b:pZ}(h:aPp b):Bytes (aKS b):=
 have Zm:=h.len
 gr (lH (wy au)) (gr (at6 _) (gr (lH h.af) (gr (lH h.dl) (Gk _))))
theorem aAO(l:Lk):Bytes (P8 l):=by
 cases h:lk l
 ·unfold P8;rw[h,if_neg eG];exact λx hx=>(by cases hx)
 ·have hk:=aug h;rw[aG4 h];refine gr (lH (wy au)) λx hx=> ?_
  obtain⟨b,hb,hx⟩:=hJ.1 hx;exact azA (hk.1 b hb) x hx
theorem avQ{b:List Int}(h:Bytes b)(hl:b.length<=1000000000)(u:Bool×Unit):vP (b,u):=⟨hl,h⟩
abbrev Gg:=Bs×Bs×Int×Int
def uJ:Gg->AS:=λ(DM,kW,t12,t13)=>⟨([.d tB DM,.d tB kW]++aQ 10 ([.d ti t12,.d ti t13]++aQ 12 [])),[],(ae 26 [])⟩
def vh:Unit->Exit×AS:=λx=>(.ret,⟨(aQ 4 ([.d .bool aS]++aQ 21 [])),[],(ae 26 [])⟩)
def Ea:Unit->Exit×AS:=λx=>(.exit 0,⟨(aQ 26 []),[],(ae 26 [])⟩)
abbrev U1:=(Unit)⊕(Unit)
abbrev ahN:=(Unit)⊕(Unit)
def JR:U1->Out (Exit×AS):=λx=> .br x.isLeft (.get x.getLeft? λa=> .ok (vh a)) (.get x.getRight? λb=> .ok (Ea b))
def nO:Gg->ahN->U1:=λ(DM,kW,t12,t13) y=>match y with | .inl y=> .inl y | .inr z=> .inr (z)
def D9:Gg->Prop:=λ(a,b,m,i)=>a.length<=1000000000/\a.length=b.length/\m=a.length/\∃k:Nat,k<=a.length/\i=k
def vg:Gg->ahN:=λ(a,b,m,i)=>if a.drop i.toNat=b.drop i.toNat then .inr () else .inl ()
def aEJ:(Bs×Bs)->Prop:=λ(a,b)=>a.length<=1000000000
def asZ:(Bs×Bs)->Bool:=λ(a,b)=>decide (a=b)
def ahM:=du.eW uJ D9 nO vg JR
def Rx:Gg->Option U1:=fP ahM uJ
def UZ:Fs Tryz.prog aEJ bz asZ:=fu 141 Tryz.f141 (λ(s1,s2)=>([.d tB s1,.d tB s2],[])) (λx=>⟨.d .bool x,[],[]⟩) [aj tB,aj tB] [] {loops:=oI [(4,{aV:=[0,1,12,13]})],outs:=oH [(4,{},{aV:=[4]})],fE:=pW [(4,ahM)]}
def U0:= @dV Tryz.prog (jB UZ.G) UZ.an 0 Tryz.f141 0 _ uJ
abbrev aaG:=jh Tryz.prog (jB UZ.G) UZ.an 0 Tryz.f141 0 uJ D9 nO vg JR
theorem anW:iy Rx D9 nO vg:=kz (jC [.d tB,.d tB,.d ti,.d ti] λ_=>cf)
theorem U2:mY @U0 uJ D9 nO vg JR aaG:=nJ
theorem Ry(DM kW t12 t13)(kn:K2 R)(kx:K3 R):U0 (DM,kW,t12,t13) kn kx=aG (fL t13 t12) (aG (eE t13 (((List.length DM):Nat):Int)) (aG (eE t13 (((List.length kW):Nat):Int)) (aG (Cw (nth tb DM (ab t13)) (nth tb kW (ab t13))) (kx (vh ()).1 (vh ()).2) (kn (uJ (DM,kW,t12,(bA .i64 t13 (1:Int)))))) aF) aF) (kx (Ea ()).1 (Ea ()).2):=cf
theorem aLn(s1 s2)(k:K1 R):UZ.A (s1,s2) k=aG (Cw (s1.length:Int) (s2.length:Int)) (k (UZ.out aS)) (al (Rx (s1,s2,(s1.length:Int),0)) λx1=>aG x1.isLeft (al x1.getLeft? λa2=>k (UZ.out aS)) (al x1.getRight? λb3=>k (UZ.out aL))):=cf
theorem as0:aaG:=by
 refine U2 (λ(a,b,m,i)=>a.length - i.toNat) ?_
 rintro⟨a,b,m,i⟩ ⟨hl,vQ,rfl,k,hk,rfl⟩;have hl:a.length<=1000000000:=hl;have vQ:a.length=b.length:=vQ;have hk:k<=a.length:=hk;by_cases h:k < a.length
 ·have h2:k < b.length:=au;have n1:nth (.int .u8) a k=a[k]:=cj (t:=(.int .u8)) h;have n2:nth (.int .u8) b k=b[k]:=cj (t:=(.int .u8)) h2;have hd:(a.drop k=b.drop k)=(a[k]=b[k]/\a.drop (k+1)=b.drop (k+1)):=by rw[aq h,aq h2,ct]
  have step:∀ {R:Type} (kn:AS->Option R) (kx:Exit->AS->Option R),U0 (a,b,(a.length:Int),(k:Int)) kn kx=if a[k]=b[k] then kn (uJ (a,b,(a.length:Int),((k+1:Nat):Int))) else kx (vh ()).1 (vh ()).2:=by
   intro R kn kx;rw[Ry,aT au,aZ au au,aZ au au,aa,n1,n2,N.lh au];simp only[ak];by_cases hx:a[k]=b[k]
   ·rw[cz hx,if_pos hx];rfl
   ·rw[eA hx,if_neg hx];rfl
  by_cases hx:a[k]=b[k]
  ·left;refine⟨(a,b,(a.length:Int),((k+1:Nat):Int)),⟨hl,vQ,rfl,k+1,au,rfl⟩,by simp only[aa];omega,?_,λkn kx=> ?_⟩
   ·simp only[nO,vg,aa,hd,hx,iw]
   ·rw[step,if_pos hx]
  ·right;refine⟨vh (),?_,λkn kx=> ?_⟩
   ·simp only[nO,vg,aa,hd,hx,pB,bp];rfl
   ·rw[step,if_neg hx]
 ·right;obtain rfl:k=a.length:=au;refine⟨Ea (),?_,λkn kx=> ?_⟩
  ·simp only[nO,vg,aa,aH];rw[vQ,aH,if_pos rfl];rfl
  ·rw[Ry,aP au,ao]
theorem aLo:UZ.Ok:=by
 rintro⟨a,b⟩ hl;have hl:a.length<=1000000000:=hl;rw[aLn];simp only[bz,asZ];by_cases h:a.length=b.length
 ·rw[cz au,ao,anW (d:=(a,b,(a.length:Int),0)) ⟨hl,h,rfl,0,aK _,rfl⟩];simp only[ah,nO,vg,aW,aO];by_cases hx:a=b
  ·rw[if_pos hx,aI hx];rfl
  ·rw[if_neg hx,aN hx];rfl
 ·rw[eA au,aN (λx=>h (by rw[x]))];rfl
theorem aEK:UZ.RS:=rE [.d tB,.d tB] UZ
def aLp:=UZ.fI aLo 1 ⟨.eW as0,trivial⟩
abbrev KI:=Bs×Bs×Int×Int
def yg:KI->AS:=λ(DM,kW,t12,t13)=>⟨([.d tU DM,.d tU kW]++aQ 10 ([.d ti t12,.d ti t13]++aQ 12 [])),[],(ae 26 [])⟩
def yf:Unit->Exit×AS:=λx=>(.ret,⟨(aQ 4 ([.d .bool aS]++aQ 21 [])),[],(ae 26 [])⟩)
def Ib:Unit->Exit×AS:=λx=>(.exit 0,⟨(aQ 26 []),[],(ae 26 [])⟩)
abbrev ac9:=(Unit)⊕(Unit)
abbrev aqm:=(Unit)⊕(Unit)
def Qy:ac9->Out (Exit×AS):=λx=> .br x.isLeft (.get x.getLeft? λa=> .ok (yf a)) (.get x.getRight? λb=> .ok (Ib b))
def qY:KI->aqm->ac9:=λ(DM,kW,t12,t13) y=>match y with | .inl y=> .inl y | .inr z=> .inr (z)
def Ia:KI->Prop:=λ(a,b,m,i)=>a.length<=1000000000/\a.length=b.length/\m=a.length/\∃k:Nat,k<=a.length/\i=k
def zN:KI->aqm:=λ(a,b,m,i)=>if a.drop i.toNat=b.drop i.toNat then .inr () else .inl ()
def aM8:(Bs×Bs)->Prop:=λ(a,b)=>a.length<=1000000000
def aIc:(Bs×Bs)->Bool:=λ(a,b)=>decide (a=b)
def aql:=du.eW yg Ia qY zN Qy
def X2:KI->Option ac9:=fP aql yg
def aBC:Fs Tryz.prog aM8 bz aIc:=fu 48 Tryz.f48 (λ(s1,s2)=>([.d tU s1,.d tU s2],[])) (λx=>⟨.d .bool x,[],[]⟩) [aj tU,aj tU] [] {loops:=oI [(4,{aV:=[0,1,12,13]})],outs:=oH [(4,{},{aV:=[4]})],fE:=pW [(4,aql)]}
def ac8:= @dV Tryz.prog (jB aBC.G) aBC.an 0 Tryz.f48 0 _ yg
abbrev aiR:=jh Tryz.prog (jB aBC.G) aBC.an 0 Tryz.f48 0 yg Ia qY zN Qy
theorem auX:iy X2 Ia qY zN:=kz (jC [.d tU,.d tU,.d ti,.d ti] λ_=>cf)
theorem Zr:mY @ac8 yg Ia qY zN Qy aiR:=nJ
theorem X3(DM kW t12 t13)(kn:K2 R)(kx:K3 R):ac8 (DM,kW,t12,t13) kn kx=aG (fL t13 t12) (aG (eE t13 (((List.length DM):Nat):Int)) (aG (eE t13 (((List.length kW):Nat):Int)) (aG (Cw (nth tu DM (ab t13)) (nth tu kW (ab t13))) (kx (yf ()).1 (yf ()).2) (kn (yg (DM,kW,t12,(bA .i64 t13 (1:Int)))))) aF) aF) (kx (Ib ()).1 (Ib ()).2):=cf
theorem aQW(s1 s2)(k:K1 R):aBC.A (s1,s2) k=aG (Cw (s1.length:Int) (s2.length:Int)) (k (aBC.out aS)) (al (X2 (s1,s2,(s1.length:Int),0)) λx1=>aG x1.isLeft (al x1.getLeft? λa2=>k (aBC.out aS)) (al x1.getRight? λb3=>k (aBC.out aL))):=cf
theorem aBD:aiR:=by
 refine Zr (λ(a,b,m,i)=>a.length - i.toNat) ?_
 rintro⟨a,b,m,i⟩ ⟨hl,vQ,rfl,k,hk,rfl⟩;have hl:a.length<=1000000000:=hl;have vQ:a.length=b.length:=vQ;have hk:k<=a.length:=hk;by_cases h:k < a.length
 ·have h2:k < b.length:=au;have n1:nth (.int .u64) a k=a[k]:=cj (t:=(.int .u64)) h;have n2:nth (.int .u64) b k=b[k]:=cj (t:=(.int .u64)) h2;have hd:(a.drop k=b.drop k)=(a[k]=b[k]/\a.drop (k+1)=b.drop (k+1)):=by rw[aq h,aq h2,ct]
  have step:∀ {R:Type} (kn:AS->Option R) (kx:Exit->AS->Option R),ac8 (a,b,(a.length:Int),(k:Int)) kn kx=if a[k]=b[k] then kn (yg (a,b,(a.length:Int),((k+1:Nat):Int))) else kx (yf ()).1 (yf ()).2:=by
   intro R kn kx;rw[X3,aT au,aZ au au,aZ au au,aa,n1,n2,N.lh au];simp only[ak];by_cases hx:a[k]=b[k]
   ·rw[cz hx,if_pos hx];rfl
   ·rw[eA hx,if_neg hx];rfl
  by_cases hx:a[k]=b[k]
  ·left;refine⟨(a,b,(a.length:Int),((k+1:Nat):Int)),⟨hl,vQ,rfl,k+1,au,rfl⟩,by simp only[aa];omega,?_,λkn kx=> ?_⟩
   ·simp only[qY,zN,aa,hd,hx,iw]
   ·rw[step,if_pos hx]
  ·right;refine⟨yf (),?_,λkn kx=> ?_⟩
   ·simp only[qY,zN,aa,hd,hx,pB,bp];rfl
   ·rw[step,if_neg hx]
 ·right;obtain rfl:k=a.length:=au;refine⟨Ib (),?_,λkn kx=> ?_⟩
  ·simp only[qY,zN,aa,aH];rw[vQ,aH,if_pos rfl];rfl
  ·rw[X3,aP au,ao]
theorem aQX:aBC.Ok:=by
 rintro⟨a,b⟩ hl;have hl:a.length<=1000000000:=hl;rw[aQW];simp only[bz,aIc];by_cases h:a.length=b.length
 ·rw[cz au,ao,auX (d:=(a,b,(a.length:Int),0)) ⟨hl,h,rfl,0,aK _,rfl⟩];simp only[ah,qY,zN,aW,aO];by_cases hx:a=b
  ·rw[if_pos hx,aI hx];rfl
  ·rw[if_neg hx,aN hx];rfl
 ·rw[eA au,aN (λx=>h (by rw[x]))];rfl
theorem aM9:aBC.RS:=rE [.d tU,.d tU] aBC
def aQY:=aBC.fI aQX 1 ⟨.eW aBD,trivial⟩
def vp:Nat->gq->List Int×gq
 | 0,r=>([],r)
 |k+1,r=>((mP r).1::(vp k (mP r).2).1,(vp k (mP r).2).2)
def Gh(k:Nat)(r:gq):pZ×gq:=(((vp k r).1,(dh (vp k r).2).1,(dh (dh (vp k r).2).2).1,(mP (dh (dh (vp k r).2).2).2).1,()),(mP (dh (dh (vp k r).2).2).2).2)
def Gj:Nat->Int->gq->List pZ
 | 0,_,_=> []
 |f+1,n,r=>if 0 < n then(if f=0\/12 < (dh r).1 then [] else(Gh (dh r).1.toNat (dh r).2).1::Gj f (n - 1) (Gh (dh r).1.toNat (dh r).2).2) else []
def vI(b:List Int):List pZ:=Gj 5 (dh (b,aS,())).1 (dh (b,aS,())).2
theorem akW:∀(k:Nat) (r:gq),vP r->IZ (vp k r).1/\(vp k r).1.length=k/\vP (vp k r).2
 | 0,r,h=>⟨λx hx=>(by cases hx),rfl,h⟩
 |k+1,r,h=>by
  have e:=WI h;have ih:=akW k _ e.2;refine⟨λx hx=> ?_,by rw[vp,aE,ih.2.1],ih.2.2⟩;rcases bI.1 hx with rfl | hx
  ·exact e.1
  ·exact ih.1 x hx
theorem axp(k:Nat)(r:gq)(h:vP r):aEm (Gh k r).1/\(Gh k r).1.1.length=k/\vP (Gh k r).2:=by have h1:=akW k r h;have h2:=tQ h1.2.2;have h3:=tQ h2.2.2;have h4:=WI h3.2.2;exact⟨⟨h1.1,h4.1⟩,h1.2.1,h4.2⟩
theorem aE0:∀(f:Nat) (n:Int) (r:gq),vP r->(∀b∈Gj f n r,aEm b)/\(Gj f n r).length<=f
 | 0,n,r,h=>⟨λx hx=>(by cases hx),aB _⟩
 |f+1,n,r,h=>by
  have h1:=tQ h;have h2:=axp (dh r).1.toNat _ h1.2.2;have ih:=aE0 f (n - 1) _ h2.2.2;rw[Gj];split
  ·split
   ·exact⟨λx hx=>(by cases hx),aK _⟩
   ·refine⟨λx hx=> ?_,by rw[aE];omega⟩;rcases bI.1 hx with rfl | hx
    ·exact h2.1
    ·exact ih.1 x hx
  ·exact⟨λx hx=>(by cases hx),aK _⟩
theorem ayV{b:List Int}(h:Bytes b)(hl:b.length<=1000000000):afG (vI b,())/\(vI b).length<=5:=by have e:=aE0 5 (dh (b,aS,())).1 _ (tQ (avQ h hl (aS,()))).2.2;exact⟨e.1,e.2⟩
theorem ais:∀(ks:List Int) (rest:List Int),IZ ks->vp ks.length (ks.flatMap jA++rest,aS,())=(ks,(rest,aS,()))
 |[],rest,_=>rfl
 |k::ks,rest,h=>by
  have e:mP ((k::ks).flatMap jA++rest,aS,())=(k,(ks.flatMap jA++rest,aS,())):=by rw[dC,aM];exact MD k (h k aC) _
  have ih:=ais ks rest λx hx=>h x (az _ hx)
  rw[aE,vp,e,ih]
theorem azv(b:pZ)(hb:aEm b)(hk:aPp b)(rest:List Int):Gh b.1.length (b.1.flatMap jA++(gH b.2.1++(gH b.2.2.1++(jA b.2.2.2.1++rest))),aS,())=(b,(rest,aS,())):=by unfold Gh;rw[ais _ _ hb.1];simp only[];rw[Kx _ hk.af,Kx _ hk.dl,MD _ hb.2]
theorem aEW(b:pZ)(rest:List Int):aKS b++rest=gH b.1.length++(b.1.flatMap jA++(gH b.2.1++(gH b.2.2.1++(jA b.2.2.2.1++rest)))):=by unfold aKS;simp only[aM]
theorem an0:∀(bs:List pZ) (f:Nat) (rest:List Int),(∀b∈bs,aEm b)->(∀b∈bs,aPp b)->bs.length+1<=f->Gj f bs.length (bs.flatMap aKS++rest,aS,())=bs
 |[],0,rest,_,_,h=>absurd h (by simp)
 |[],f+1,rest,_,_,_=>by rw[Gj,if_neg (by show ¬(0:Int) < ((0:Nat):Int);omega)]
 |b::bs,0,rest,_,_,h=>absurd h (by simp)
 |b::bs,f+1,rest,hu,hk,h=>by
  have ub:=hu b aC;have kb:=hk b aC;have h:bs.length+1+1<=f+1:=h;have e:(b::bs).flatMap aKS++rest=gH b.1.length++(b.1.flatMap jA++(gH b.2.1++(gH b.2.2.1++(jA b.2.2.2.1++(bs.flatMap aKS++rest))))):=by rw[dC,aM,aEW]
  have Zm:=kb.len;rw[Gj,if_pos (by rw[aE];omega),e,Kx _ (wy au)];simp only[aa];rw[if_neg au,azv b ub kb];simp only[];rw[show((b::bs).length:Int) - 1=(bs.length:Int) by rw[aE];omega,an0 bs f rest (λx hx=>hu x (az _ hx)) (λx hx=>hk x (az _ hx)) au]
theorem aCO{l:Lk}(hu:afG l)(gb:lk l=aL)(rest:List Int):vI (P8 l++rest)=l.1:=by have hk:=aug gb;unfold vI;rw[aG4 gb,aM,Kx _ (wy au)];exact an0 l.1 5 rest hu hk.1 au
def EK(b:List Int):Lk×Bool:=if lk (vI b,())=aL/\P8 (vI b,())=b then((vI b,()),aL) else(([],()),aS)
theorem ai4{l:Lk}(hu:afG l)(gb:lk l=aL):EK (P8 l)=(l,aL):=by
 have e:vI (P8 l)=l.1:=by have e:=aCO hu gb [];rw[bJ]at e;exact e
 unfold EK;rw[e];have e2:((l.1,()):Lk)=l:=rfl;rw[e2,if_pos ⟨gb,rfl⟩]
theorem aJf{b:List Int}(h:(EK b).2=aL):∃l:Lk,lk l=aL/\P8 l=b/\EK b=(l,aL)/\l=(vI b,()):=by
 unfold EK at h ⊢;split at h
 ·rename_i hc;exact⟨(vI b,()),hc.1,hc.2,by rw[if_pos hc],rfl⟩
 ·cases h
abbrev ab5:=Bs×Int×Int×Nat×gq×(List pZ)
abbrev Qb:=Bs×Int×Int×Int×Int×Nat×Nat×(Int×(Int×(Int×Unit)))×gq×(List Int)×(List pZ)
abbrev ab6:=Nat×gq×(List Int)
def BE:Qb->ab6->((Bs×Int×Int×Nat×(Int×(Int×(Int×Unit)))×(List pZ))×(Nat×gq×(List Int))):=λ(JF,xZ,fK,t27,t28,acL,aML,n8,aiF,aQI,acK) y=>((JF,xZ,fK,acL,n8,acK),y)
def ak8:Qb->Prop:=λ(b,n,i,t,j,m1,m2,x,r,ks,bs)=>vP r/\ks.length=m2/\m2<=1000/\∃k c:Nat,j=k/\t=c/\k<=c/\c<=12/\m2=k
def HQ:Qb->ab6:=λ(b,n,i,t,j,m1,m2,x,r,ks,bs)=>(m2+(t - j).toNat,(vp (t - j).toNat r).2,ks++(vp (t - j).toNat r).1)
def ak6:ab5->Prop:=λ(b,n,i,m,r,bs)=>vP r/\n<=9223372036854775807/\bs.length=m/\∃k:Nat,i=k/\k<=4/\m=k
def C6:ab5->(Bs×Nat×(List pZ)):=λ(b,n,i,m,r,bs)=>(b,m+(Gj (5 - i.toNat) (n - i) r).length,bs++Gj (5 - i.toNat) (n - i) r)
def aAV:Bs->Prop:=λb=>Bytes b/\b.length<=1000000000
def ak5:Bs->(Lk×Bool):=λb=>EK b
def qO:Ls ak6 bz C6:=te (λ(gY,n,i,aQM,agd,aQL)=>⟨([.d tB gY,bC,dP 2,bC,dP 11,dP 5,.d ti n,.d ti i]++aQ 57 []),[],([[],[],cJ (.pr (.cT) jL),[],[],cJ (.pr (je 51 aQM) jL)]++bk 5 ([cJ (.d qk agd)]++bk 39 ([cJ (.vec 120 iS aQL)]++bk 13 [])))⟩) (λx=>(.exit 0,⟨([.d tB x.1,bC,dP 2,bC,bC,dP 5]++aQ 59 []),[],([[],[],cJ (.pr (.cT) jL),[],[],cJ (.pr (je 51 x.2.1) jL)]++bk 45 ([cJ (.vec 120 iS x.2.2)]++bk 13 []))⟩))
def wu:Ls ak8 BE HQ:=te (λ(JF,xZ,fK,t27,t28,acL,aML,n8,aiF,aQI,acK)=>⟨([.d tB JF,bC,dP 2,bC,dP 11,dP 5,.d ti xZ,.d ti fK,dP 8]++aQ 18 ([.d ti t27,.d ti t28]++aQ 36 [])),[],([[],[],cJ (.pr (.cT) jL),[],[],cJ (.pr (je 51 acL) jL),[],[],cJ (.pr (je 35 aML) (.d (.pair ti (.pair ti (.pair tu .unit))) n8)),[],[],cJ (.d qk aiF)]++bk 23 ([cJ (.vec 51 tu aQI)]++bk 15 ([cJ (.vec 120 iS acK)]++bk 13 [])))⟩) (λx=>(.exit 2,⟨([.d tB x.1.1,bC,dP 2,bC,dP 11,dP 5,.d ti x.1.2.1,.d ti x.1.2.2.1,dP 8]++aQ 56 []),[],([[],[],cJ (.pr (.cT) jL),[],[],cJ (.pr (je 51 x.1.2.2.2.1) jL),[],[],cJ (.pr (je 35 x.2.1) (.d (.pair ti (.pair ti (.pair tu .unit))) x.1.2.2.2.2.1)),[],[],cJ (.d qk x.2.2.1)]++bk 23 ([cJ (.vec 51 tu x.2.2.2)]++bk 15 ([cJ (.vec 120 iS x.1.2.2.2.2.2)]++bk 13 [])))⟩))
def AQ:Fs Tryz.prog aAV bz ak5:=fu 106 Tryz.f106 (λb=>([.d tB b],[])) (λx=>⟨.cons (.d Ag x.1) (.cons (.d .bool x.2) (.nil)),[],[]⟩) [aj tB] [aeo,T8,amE,GC,ait,aLp] {loops:=oI [(5,{aV:=[0,2,4,5,6,7],sites:=[2,5,11,51],owns:=[⟨5,[.fst],51,41⟩]}),(11,{aV:=[0,2,4,5,6,7,8,27,28],sites:=[2,5,8,11,35,51],owns:=[⟨8,[.fst],35,102⟩]})],outs:=oH [(5,{aV:=[0,2,5],sites:=[2,5,51]},{aV:=[2,3]}),(11,{aV:=[0,2,4,5,6,7,8],sites:=[2,5,8,11,35,51]},{aV:=[2,3]})],fE:=pW [(5,qO.E),(11,wu.E)],res:=[aj Ag,aF]}
theorem ak7:qO.RS:=rL [.d tB,.d ti,.d ti,.n,.d qk,.d (.slice iS)] qO
theorem Fm(gY n i aQM agd aQL)(kn:K2 R)(kx:K3 R):AQ.R 0 qO (gY,n,i,aQM,agd,aQL) kn kx=aG (fL i n) (al (Az.call agd) λrv=>aG (AP i 4) (qO.go kx (gY,aQM,aQL)) (aG (Af rv.1 12) (qO.go kx (gY,aQM,aQL)) (al (wu.call (gY,n,i,rv.1,0,aQM,0,(0,(0,(0,()))),rv.2,([]:List Int),aQL)) λJK=>al (Az.call JK.2.2.1) λaK9=>al (Az.call aK9.2) λaXl=>al (LI.call aXl.2) λaXm=>aG (decide (0=0/\(0+JK.2.1)<=(List.length JK.2.2.2))) (aG (decide (JK.1.2.2.2.1<=(List.length JK.1.2.2.2.2.2))) (aG (dd (JK.1.2.2.2.1+1) 48) (kn (qO.st (JK.1.1,JK.1.2.1,(bA .i64 JK.1.2.2.1 1),(JK.1.2.2.2.1+1),aXm.2,((aJ JK.1.2.2.2.1 JK.1.2.2.2.2.2)++ [((cut JK.2.2.2 0 JK.2.1),(aK9.1,(aXl.1,(aXm.1,JK.1.2.2.2.2.1.2.2.2))))])))) aF) aF) aF))) (qO.go kx (gY,aQM,aQL)):=cf
theorem ak9:wu.RS:=rL [.d tB,.d ti,.d ti,.d ti,.d ti,.n,.n,.d (.pair ti (.pair ti (.pair tu .unit))),.d qk,.d tU,.d (.slice iS)] wu
theorem Oj(JF xZ fK t27 t28 acL aML n8 aiF aQI acK)(kn:K2 R)(kx:K3 R):AQ.R 1 wu (JF,xZ,fK,t27,t28,acL,aML,n8,aiF,aQI,acK) kn kx=aG (fL t28 t27) (al (LI.call aiF) λx4=>aG (decide (aML<=(List.length aQI))) (aG (dd (aML+1) 8) (kn (wu.st (JF,xZ,fK,t27,(bA .i64 t28 1),acL,(aML+1),n8,x4.2,((aJ aML aQI)++ [x4.1]),acK))) aF) aF) (wu.go kx ((JF,xZ,fK,acL,n8,acK),(aML,aiF,aQI))):=cf
theorem aHg(b)(k:K1 R):AQ.A b k=al (T9.call b) λx4=>al (Az.call x4) λx6=>al (qO.call (b,x6.1,0,0,x6.2,([]:List pZ))) λaD6=>aG (decide (0=0/\(0+aD6.2.1)<=(List.length aD6.2.2))) (al (qP.call ((cut aD6.2.2 0 aD6.2.1),())) λaVX=>aG (!aVX) (k (AQ.out ((([]:List pZ),()),aS))) (aG (decide (0=0/\(0+aD6.2.1)<=(List.length aD6.2.2))) (al (uT.call ((cut aD6.2.2 0 aD6.2.1),())) λaVY=>al (UZ.call (aVY,aD6.1)) λaVZ=>aG (!aVZ) (k (AQ.out ((([]:List pZ),()),aS))) (aG (decide (0=0/\(0+aD6.2.1)<=(List.length aD6.2.2))) (k (AQ.out (((cut aD6.2.2 0 aD6.2.1),()),aL))) aF)) aF)) aF:=cf
theorem apr:(AQ.kA 1 wu):=by
 refine(AQ.nN 1 wu) (λ(b,n,i,t,j,m1,m2,x,r,ks,bs)=>(t - j).toNat) ?_
 rintro⟨b,n,i,t,j,m1,m2,x,r,ks,bs⟩ ⟨hr,aQj,hm,k,c,rfl,rfl,aYW,hc,aKZ⟩;have hr:vP r:=hr;have aQj:ks.length=m2:=aQj;have aKZ:m2=k:=aKZ;by_cases h:k < c
 ·left;have e1:((c:Int) - (k:Int)).toNat=(c - (k+1))+1:=au;have e2:((c:Int) - ((k+1:Nat):Int)).toNat=c - (k+1):=au;refine⟨(b,n,i,(c:Int),((k+1:Nat):Int),m1,m2+1,x,(mP r).2,ks++ [(mP r).1],bs),⟨(WI hr).2,by rw[ai];show ks.length+1=_;omega,au,k+1,c,rfl,rfl,au,hc,au⟩,by show((c:Int) - ((k+1:Nat):Int)).toNat < ((c:Int) - (k:Int)).toNat;omega,?_,λkn kx=> ?_⟩
  ·simp only[BE,HQ,e1,e2,vp,aM,cS];rw[show m2+1+(c - (k+1))=m2+(c - (k+1)+1) by omega]
  ·rw[Oj,aT au,zZ (d:=r) hr];simp only[ah,ak,bz,IC];rw[aI au,dk au au,N.lh au,bG au];rfl
 ·right;obtain rfl:k=c:=au;intro R kn kx;rw[Oj,aP au,ao];simp only[BE,HQ,Int.sub_self,aW,vp,bJ,de]
theorem apq:(AQ.kA 0 qO):=by
 refine(AQ.nN 0 qO) (λ(b,n,i,m,r,bs)=>5 - i.toNat) ?_
 rintro⟨b,n,i,m,r,bs⟩ ⟨hr,hn,aWr,k,rfl,hk,aKZ⟩;have hr:vP r:=hr;have hn:n<=9223372036854775807:=hn;have aWr:bs.length=m:=aWr;have aKZ:m=k:=aKZ;have e0:5 - (k:Int).toNat=(4 - k)+1:=by rw[aa];omega
 have g1:=tQ hr;by_cases h:(k:Int) < n
 ·have hp:0 < n - (k:Int):=au;by_cases hc:4 - k=0\/12 < (dh r).1
  ·right;intro R kn kx;have eb:Gj ((4 - k)+1) (n - (k:Int)) r=[]:=by rw[Gj,if_pos hp,if_pos hc]
   rw[Fm,aT h,kU (d:=r) hr];simp only[ah,ak,bz,ra,bz,C6,e0,eb,bq,de,bJ];by_cases h4:(k:Int)=4
   ·rw[eU h4,ak]
   ·rw[fU h4,ao,dj au,ak]
  ·left;have h4:¬(k:Int)=4:=au;have aXS:¬(dh r).1 > 12:=au;obtain⟨c,aWv⟩:∃c:Nat,(dh r).1=c:=⟨(dh r).1.toNat,au⟩;have atG:=axp c _ g1.2.2;have gk:=akW c _ g1.2.2;have ga:=tQ gk.2.2;have gd:=tQ ga.2.2;have eb:Gj ((4 - k)+1) (n - (k:Int)) r=(Gh c (dh r).2).1::Gj (4 - k) (n - (k:Int) - 1) (Gh c (dh r).2).2:=by rw[Gj,if_pos hp,if_neg hc,aWv,aa]
   have e1:5 - ((k+1:Nat):Int).toNat=4 - k:=by rw[aa];omega
   refine⟨(b,n,((k+1:Nat):Int),m+1,(Gh c (dh r).2).2,bs++ [(Gh c (dh r).2).1]),⟨atG.2.2,hn,by rw[ai];show bs.length+1=_;omega,k+1,rfl,au,au⟩,by simp only[aa];omega,?_,λkn kx=> ?_⟩
   ·simp only[bz,C6,e0,e1,eb,aM,cS,aE];rw[show n - ((k+1:Nat):Int)=n - (k:Int) - 1 by omega,show m+1+(Gj (4 - k) (n - (k:Int) - 1) (Gh c (dh r).2).2).length=m+((Gj (4 - k) (n - (k:Int) - 1) (Gh c (dh r).2).2).length+1) by omega]
   ·rw[Fm,aT h,kU (d:=r) hr];simp only[ah,ak,bz,ra];rw[fU h4,ao,cw aXS,ao,aWv,ak9 (d:=(b,n,(k:Int),(c:Int),0,m,0,(0,0,0,()),(dh r).2,[],bs)) ⟨g1.2.2,rfl,eG,0,c,rfl,rfl,aK _,au,rfl⟩];simp only[ah,BE,HQ,jO,aa,aU,bm];rw[kU (d:=(vp c (dh r).2).2) gk.2.2];simp only[ah,bz,ra];rw[kU (d:=(dh (vp c (dh r).2).2).2) ga.2.2];simp only[ah,bz,ra];rw[zZ (d:=(dh (dh (vp c (dh r).2).2).2).2) gd.2.2];simp only[ah,bz,IC];rw[aI ⟨by trivial,by rw[gk.2.1];exact aB _⟩,aI au,dk au au,N.lh au,bG au,eF gk.2.1];rfl
 ·right;intro R kn kx;have eb:Gj ((4 - k)+1) (n - (k:Int)) r=[]:=by rw[Gj,if_neg au]
  rw[Fm,aP h,ao];simp only[bz,C6,e0,eb,bq,de,bJ]
theorem aHh:AQ.Ok:=by
 rintro b ⟨hb,hl⟩;have hb:Bytes b:=hb;have hl:b.length<=1000000000:=hl;have g0:=avQ hb hl (aS,());have g1:=tQ g0;have gu:=ayV hb hl;rw[aHg,Wl (d:=b) hl];simp only[ah,bz,aam];rw[kU (d:=(b,aS,())) g0];simp only[ah,bz,ra];rw[ak7 (d:=(b,(dh (b,aS,())).1,0,0,(dh (b,aS,())).2,[])) ⟨g1.2.2,g1.2.1,rfl,0,rfl,eG,rfl⟩];simp only[ah,bz,C6,aW,Nat.sub_zero,jO,aU,bm,aB,ji,cG,ak,eF];rw[show Gj 5 (dh (b,aS,())).1 (dh (b,aS,())).2=vI b from rfl];have hL1:((vI b,()):Lk).1.length<=1000000000:=by show(vI b).length<=_;omega
 rw[C7 (d:=(vI b,())) ⟨gu.1,Nat.le_trans hL1 eG⟩];simp only[ah,bz,GB,bz,ak5,EK];cases gb:lk (vI b,())
 ·rw[if_neg (by rintro⟨x,_⟩;cases x)];rfl
 ·rw[abU (d:=(vI b,())) ⟨gu.1,Nat.le_trans hL1 eG⟩];simp only[bY,ao,ah,bz,SH];rw[aEK (d:=(P8 (vI b,()),b)) (by show(P8 _).length<=_;have:=M5 (vI b,());omega)];simp only[ah,bz,asZ];by_cases hx:P8 (vI b,())=b
  ·rw[aI hx,if_pos ⟨by trivial,hx⟩];rfl
  ·rw[aN hx,if_neg (λy=>hx y.2)];rfl
theorem aiv:AQ.RS:=rE [.d tB] AQ
def aps:=AQ.fI aHh 2 ⟨.eW apq,⟨.eW apr,trivial⟩⟩
def I7(r:gq):List Int×gq:=((nF 32 r).1++bt (nF 32 r).1.length (ae 32 (0:Int)),(nF 32 r).2)
def Fa(r:gq):List Int×gq:=if(dh r).2.2.1=aL then([],(dh r).2) else nF (dh r).1.toNat (dh r).2
def IV(most:Int)(r:gq):Int×gq:=(if(dh r).1 > most then -1 else(dh r).1,(dh r).2)
def aK2(r:gq):cr×gq:=(((I7 r).1,(dh (I7 r).2).1,()),(dh (I7 r).2).2)
def Ft:Nat->gq->List cr×gq
 | 0,r=>([],r)
 |k+1,r=>((aK2 r).1::(Ft k (aK2 r).2).1,(Ft k (aK2 r).2).2)
def Qu(r:gq):gX×gq:=(((dh r).1,(EK (Fa (dh r).2).1).1,()),(Fa (dh r).2).2)
def zM:Nat->gq->Option (List gX×gq)
 | 0,r=>aj ([],r)
 |k+1,r=>if(EK (Fa (dh r).2).1).2=aL then(match zM k (Qu r).2 with
  |some x=>aj ((Qu r).1::x.1,x.2)
  |none=>aF) else aF
def aK3(r:gq):Sg×gq:=(((mP r).1,(mP (mP r).2).1,()),(mP (mP r).2).2)
def AD:Nat->gq->List Sg×gq
 | 0,r=>([],r)
 |k+1,r=>((aK3 r).1::(AD k (aK3 r).2).1,(AD k (aK3 r).2).2)
def lr(r:gq):List Sg×gq:=AD (IV 12 (dh r).2).1.toNat (IV 12 (dh r).2).2
def anr(r:gq):Option (Pq×gq):=if(IV 12 (dh r).2).1 < 0 then aF else aj (((dh r).1,(lr r).1,(mP (lr r).2).1,()),(mP (lr r).2).2)
def xL:List cr->gq->Option (List gK×gq)
 |[],r=>aj ([],r)
 |o::l,r=>match anr r with
  |none=>aF
  |some w=>match xL l w.2 with
   |none=>aF
   |some x=>aj ((o,w.1,())::x.1,x.2)
def aQP:cR×Bool:=(([],[],0,()),aS)
def axI(n m:Int)(t:cR)(r:gq):cR×Bool:=if n < 0\/m < 0\/r.2.1=aL\/0 < r.1.length\/gv t=aS then aQP else(t,aL)
def aya(n m:Int)(ops:List cr)(os:List gX)(r:gq):cR×Bool:=match xL ops (dh r).2 with
 |none=>aQP
 |some x=>axI n m (x.1,os,(dh r).1,()) x.2
def Q0(b:List Int):cR×Bool:=
 let n:=IV 64 (b,aS,())
 let ops:=Ft n.1.toNat n.2
 let m:=IV 64 ops.2
 match zM m.1.toNat m.2 with
 |none=>aQP
 |some x=>aya n.1 m.1 ops.1 x.1 x.2
def auG(o:cr):List Int:=o.1++gH o.2.1
def GP(o:gX):List Int:=gH o.1++(gH (P8 o.2.1).length++P8 o.2.1)
def aEk(s:Sg):List Int:=jA s.1++jA s.2.1
def Gc(w:Pq):List Int:=gH w.1++(gH w.2.1.length++(w.2.1.flatMap aEk++jA w.2.2.1))
def aUh(t:cR):List Int:=gH t.1.length++(t.1.flatMap (λx=>auG x.1)++(gH t.2.1.length++(t.2.1.flatMap GP++(gH t.2.2.1++t.1.flatMap λx=>Gc x.2.1))))
theorem Gr{α:Type}(f:List Int->α->List Int)(w:α->List Int):∀(l:List α) (b:List Int),(∀x∈l,∀b,f b x=b++w x)->l.foldl f b=b++l.flatMap w
 |[],b,_=>by simp
 |x::l,b,h=>by rw[aX,h x aC,Gr f w l _ λy hy=>h y (az _ hy),dC,aM]
theorem DB(b:List Int){n:Int}(h:0<=n):dJ b n=b++gH n:=by unfold dJ;rw[if_neg au]
theorem aKw{t:cR}(gb:gv t=aL):aK4 t=aUh t:=by
 obtain⟨⟨_,a2,a3,a4⟩,b1,b2⟩:=iZ gb;have e1:∀b,t.1.foldl P5 b=b++t.1.flatMap λx=>auG x.1:=λb=>Gr _ _ _ _ λx hx b=>by have:=C3 (nj _ _ b1 x hx);unfold P5 auG;rw[DB _ this.1,aM]
 have e2:∀b,t.2.1.foldl Qt b=b++t.2.1.flatMap GP:=λb=>Gr _ _ _ _ λo ho b=>by have:=(kK _ _ b2 o ho).1;unfold Qt GP;rw[DB _ this.1,aM]
 have e3:∀(l:List Sg) b,l.foldl aeH b=b++l.flatMap aEk:=λl b=>Gr _ _ _ _ λs _ b=>by unfold aeH aEk;rw[aM]
 have e4:∀b,t.1.foldl awZ b=b++t.1.flatMap λx=>Gc x.2.1:=λb=>Gr _ _ _ _ λx hx b=>by have:=C3 (nj _ _ b1 x hx);unfold awZ Gc;rw[e3,DB _ this.2.2.1,DB _ au];simp only[aM]
 unfold aK4 wE aUh;rw[if_pos gb,e4,DB _ a4,e2,DB _ au,e1,DB _ au,bm];simp only[aM]
theorem ajx{n:Nat}(a rest:List Int)(h:a.length=n):nF n (a++rest,aS,())=(a,(rest,aS,())):=by
 unfold nF;rw[if_neg (by
  intro x;rcases x with x | x
  ·cases x
  ·have x:(a++rest).length < n:=x;rw[ai]at x;omega)]
 show((a++rest).take n,((a++rest).drop n,aS,()))=_;rw[List.take_left' h,ph h]
theorem aAs(a rest:List Int)(h:a.length=32):I7 (a++rest,aS,())=(a,(rest,aS,())):=by unfold I7;rw[ajx a rest h];simp only[h];rw[show bt 32 (ae 32 (0:Int))=[] from rfl,bJ]
theorem GM(n:Int)(h:JE n)(rest:List Int):dh (gH n++rest,aS,())=(n,(rest,aS,())):=Kx n h rest _
theorem aE3(a rest:List Int)(h:a.length<=1000000000):Fa (gH a.length++(a++rest),aS,())=(a,(rest,aS,())):=by unfold Fa;rw[GM _ (wy au)];simp only[bw,bp,aa];exact ajx a rest rfl
theorem ano{n m:Int}(h:JE n)(hm:n<=m)(rest:List Int):IV m (gH n++rest,aS,())=(n,(rest,aS,())):=by unfold IV;rw[GM n h];simp only[if_neg (show ¬n > m by omega)]
theorem ap7:∀(l:List cr) (rest:List Int),(∀o∈l,o.1.length=32/\JE o.2.1)->Ft l.length (l.flatMap auG++rest,aS,())=(l,(rest,aS,()))
 |[],rest,_=>rfl
 |o::l,rest,h=>by
  obtain⟨h1,h2⟩:=h o aC;have e:aK2 ((o::l).flatMap auG++rest,aS,())=(o,(l.flatMap auG++rest,aS,())):=by unfold aK2 auG;rw[dC,aM,aM,aAs _ _ h1];simp only[];rw[GM _ h2]
  rw[aE,Ft,e,ap7 l rest λx hx=>h x (az _ hx)]
theorem aiN:∀(l:List gX) (rest:List Int),(∀o∈l,JE o.1/\lk o.2.1=aL/\afG o.2.1)->zM l.length (l.flatMap GP++rest,aS,())=aj (l,(rest,aS,()))
 |[],rest,_=>rfl
 |o::l,rest,h=>by
  obtain⟨h1,h2,h3⟩:=h o aC;have hl:=M5 o.2.1;have e0:dh ((o::l).flatMap GP++rest,aS,())=(o.1,(gH (P8 o.2.1).length++(P8 o.2.1++(l.flatMap GP++rest)),aS,())):=by rw[dC];unfold GP;simp only[aM];exact GM _ h1 _
  have e1:Fa (dh ((o::l).flatMap GP++rest,aS,())).2=(P8 o.2.1,(l.flatMap GP++rest,aS,())):=by rw[e0];exact aE3 _ _ au
  have e2:Qu ((o::l).flatMap GP++rest,aS,())=(o,(l.flatMap GP++rest,aS,())):=by unfold Qu;rw[e1,e0,ai4 h3 h2]
  rw[aE,zM,e1,ai4 h3 h2,if_pos rfl,e2,aiN l rest λx hx=>h x (az _ hx)]
theorem arT:∀(l:List Sg) (rest:List Int),(∀s∈l,ow s.1/\ow s.2.1)->AD l.length (l.flatMap aEk++rest,aS,())=(l,(rest,aS,()))
 |[],rest,_=>rfl
 |s::l,rest,h=>by
  obtain⟨h1,h2⟩:=h s aC;have e:aK3 ((s::l).flatMap aEk++rest,aS,())=(s,(l.flatMap aEk++rest,aS,())):=by unfold aK3 aEk;rw[dC,aM,aM,MD _ h1];simp only[];rw[MD _ h2]
  rw[aE,AD,e,arT l rest λx hx=>h x (az _ hx)]
theorem aKI(w:Pq)(rest:List Int)(hw:aaw w)(hb:JE w.1)(Zm:w.2.1.length<=12):anr (Gc w++rest,aS,())=aj (w,(rest,aS,())):=by
 have e0:dh (Gc w++rest,aS,())=(w.1,(gH w.2.1.length++(w.2.1.flatMap aEk++(jA w.2.2.1++rest)),aS,())):=by unfold Gc;simp only[aM];exact GM _ hb _
 have e1:IV 12 (dh (Gc w++rest,aS,())).2=((w.2.1.length:Int),(w.2.1.flatMap aEk++(jA w.2.2.1++rest),aS,())):=by rw[e0];exact ano (wy au) au _
 have e2:lr (Gc w++rest,aS,())=(w.2.1,(jA w.2.2.1++rest,aS,())):=by unfold lr;rw[e1];exact arT _ _ hw.1
 unfold anr;rw[e1,if_neg (by show ¬(w.2.1.length:Int) < 0;omega),e2,e0];simp only[];rw[MD _ hw.2]
theorem ajI:∀(l:List gK) (rest:List Int),(∀x∈l,aaw x.2.1/\JE x.2.1.1/\x.2.1.2.1.length<=12)->xL (l.map (·.1)) (l.flatMap (λx=>Gc x.2.1)++rest,aS,())=aj (l,(rest,aS,()))
 |[],rest,_=>rfl
 |x::l,rest,h=>by obtain⟨h1,h2,h3⟩:=h x aC;rw[dC,aM,bM,xL,aKI _ _ h1 h2 h3];simp only[];rw[ajI l rest λy hy=>h y (az _ hy)]
theorem aei{t:cR}(hv:xx t)(gb:gv t=aL):Q0 (aK4 t)=(t,aL):=by
 obtain⟨⟨a1,a2,a3,a4⟩,b1,b2⟩:=iZ gb;have abB:∀x∈t.1,_:=λx hx=>C3 (nj _ _ b1 x hx)
 have aXZ:=hv.2.2;rw[aKw gb];have e1:=ano (n:=(t.1.length:Int)) (m:=64) (wy au) au (t.1.flatMap (λx=>auG x.1)++(gH t.2.1.length++(t.2.1.flatMap GP++(gH t.2.2.1++t.1.flatMap λx=>Gc x.2.1))));have ef:t.1.flatMap (λx=>auG x.1)=(t.1.map (·.1)).flatMap auG:=by rw[List.flatMap_map]
 have e2:=ap7 (t.1.map (·.1)) (gH t.2.1.length++(t.2.1.flatMap GP++(gH t.2.2.1++t.1.flatMap λx=>Gc x.2.1))) λo ho=>by obtain⟨x,hx,rfl⟩:=eu.1 ho;exact⟨(hv.2.1 x hx).1.1,(abB x hx).1,by have:=(abB x hx).2.1;omega⟩
 rw[<-ef,List.length_map]at e2;have e3:=ano (n:=(t.2.1.length:Int)) (m:=64) (wy au) au (t.2.1.flatMap GP++(gH t.2.2.1++t.1.flatMap λx=>Gc x.2.1));have e4:=aiN t.2.1 (gH t.2.2.1++t.1.flatMap λx=>Gc x.2.1) λo ho=>by have:=kK _ _ b2 o ho;exact⟨⟨this.1.1,au⟩,this.2,(hv.1.1 o ho).1⟩
 have e5:=GM t.2.2.1 ⟨a4,aXZ⟩ (t.1.flatMap λx=>Gc x.2.1);have e6:=ajI t.1 [] λx hx=>⟨(hv.2.1 x hx).2.1,⟨(abB x hx).2.2.1,by have:=(abB x hx).2.2.2.1;omega⟩,(abB x hx).2.2.2.2⟩
 rw[bJ]at e6;unfold Q0 aUh;simp only[e1,aa,e2,e3,e4];unfold aya;simp only[e5,e6];unfold axI;rw[if_neg];rintro(x | x | x | x | x)
 ·omega
 ·omega
 ·cases x
 ·simp at x
 ·rw[show((t.1,t.2.1,t.2.2.1,()):cR)=t from rfl,gb]at x;cases x
def qg(r:gq):Prop:=vP r/\(r.2.1=aL->r.1=[])
def Ov(r r':gq)(e:List Int):Prop:=qg r'/\(r'.2.1=aS->r.2.1=aS/\r.1=e++r'.1)
theorem Ov.trans{r r1 r2:gq}{e1 e2:List Int}(h1:Ov r r1 e1)(h2:Ov r1 r2 e2):Ov r r2 (e1++e2):=
 ⟨h2.1,λh=>⟨(h1.2 (h2.2 h).1).1,by rw[(h1.2 (h2.2 h).1).2,(h2.2 h).2,aM]⟩⟩
theorem Ov.of{r r':gq}{e e':List Int}(h:Ov r r' e)(he:r'.2.1=aS->e=e'):Ov r r' e':=⟨h.1,λh'=>by rw[<-he h'];exact h.2 h'⟩
theorem Ov.refl{r:gq}(h:qg r):Ov r r []:=⟨h,λh'=>⟨h',rfl⟩⟩
theorem aLR:qg R8:=⟨aku,λ_=>rfl⟩
theorem aoE(r:gq)(e:List Int):Ov r R8 e:=⟨aLR,λh=>by cases h⟩
theorem ayU{b:List Int}(hb:Bytes b)(hl:b.length<=1000000000):qg (b,aS,()):=⟨avQ hb hl (aS,()),λh=>by cases h⟩
theorem aeY{r:gq}(h:qg r)(n:Nat):Ov r (nF n r).2 (nF n r).1/\((nF n r).2.2.1=aS->(nF n r).1.length=n):=by
 have hb:=(Ch (n:=n) h.1).2.2
 revert hb
 unfold nF;split
 ·exact λ_=>⟨aoE _ _,λh=>by cases h⟩
 ·rename_i hc;intro hb;have h1:r.2.1=aS:=by cases hr:r.2.1 with | false=>rfl | true=>exact absurd (jH hr) hc
  have h2:¬r.1.length < n:=λx=>hc (ej x)
  exact⟨⟨⟨hb,λ(hx:r.2.1=aL)=>by rw[h1]at hx;cases hx⟩,λ_=>⟨h1,(eJ n r.1).symm⟩⟩,λ_=>by show(r.1.take n).length=n;rw[dw];omega⟩
theorem aeu(f:Nat){d:Int}(h:d < 128):gT f d=([],d):=by
 cases f with
 |zero=>rfl
 |succ f=>rw[gT,if_neg au]
theorem ap0:∀(l:List Int) (a:Nat) (n:Int) (v:Int×Nat),Bytes l->a<=9->Di l a n= .inl v->
  ∃w rest,v.1=n+w*128^a/\0<=w/\(a=0\/0 < w)/\w < 128^(9 - a)/\l=(gT (8 - a) w).1++(gT (8 - a) w).2::rest/\v.2=a+(gT (8 - a) w).1.length+1
 |[],a,n,v,_,_,h=>by cases h
 |d::l,a,n,v,hb,ha,h=>by
  obtain⟨x1,x2⟩:=hb d aC;rw[Di]at h;split at h
  ·cases h
  rename_i hc;have aWm:a<=8:=au;have e9:(128:Int)^(9 - a)=128^(8 - a)*128:=by rw[show 9 - a=(8 - a)+1 by omega];exact fO 128 (8 - a)
  have p8:(0:Int) < 128^(8 - a):=Int.pow_pos eG;split at h
  ·rename_i hd;cases h;refine⟨d,l,by rw[fM x1 hd],x1,au,au,?_,?_⟩
   ·rw[aeu _ hd];rfl
   ·rw[aeu _ hd];rfl
  ·rename_i hd;obtain⟨w,rest,e1,w0,w1,w2,e2,e3⟩:=ap0 l (a+1) _ v (λx hx=>hb x (az _ hx)) au h;have w1:0 < w:=au;rw[show 9 - (a+1)=8 - a by omega]at w2;have aYN:a<=7:=by
    by_cases h8:a=8
    ·rw[h8]at w2;have:(128:Int)^(8 - 8)=1:=rfl;omega
    ·omega
   have er:gT (8 - a) (d%128+128*w)=((d%128+128)::(gT (8 - (a+1)) w).1,(gT (8 - (a+1)) w).2):=by rw[show 8 - a=(8 - (a+1))+1 by omega,gT,if_pos au,show(d%128+128*w)%128=d%128 by omega,show(d%128+128*w) / 128=w by omega]
   refine⟨d%128+128*w,rest,?_,au,au,au,?_,?_⟩
   ·rw[e1,fO,Int.add_mul,yu,vV 128 w,th w,vV 128]
   ·rw[er,e2,show d%128+128=d by omega];rfl
   ·rw[er,e3];simp only[aE];omega
theorem mV{r:gq}(h:qg r):Ov r (dh r).2 (gH (dh r).1)/\((dh r).2.2.1=aS->JE (dh r).1):=by
 have hk:=tQ h.1
 revert hk
 unfold dh;cases hf:Di r.1 0 0 with
 |inr _=>exact λ_=>⟨aoE _ _,λh=>by cases h⟩
 |inl v=>
  intro hk;obtain⟨w,rest,e1,w0,_,w2,e2,e3⟩:=ap0 r.1 0 0 v h.1.2 eG hf;have h1:r.2.1=aS:=by
   cases hr:r.2.1 with
   |false=>rfl
   |true=>rw[h.2 hr]at hf;cases hf
  have ew:v.1=w:=by rw[e1,lI];omega
  have e9:(128:Int)^(9 - 0)=9223372036854775808:=rfl;have e8:(128:Int)^(8+1)=9223372036854775808:=rfl;have e10:(128:Int)^(10+1)=151115727451828646838272:=rfl;have er:gT 10 w=gT 8 w:=Nn 10 8 w (by rw[e10];omega) (by rw[e8];omega);have en:gH v.1=(gT 8 w).1++ [(gT 8 w).2]:=by rw[ew];unfold gH;rw[er]
  refine⟨⟨⟨hk.2.2,λ(hx:r.2.1=aL)=>by rw[h1]at hx;cases hx⟩,λ_=>⟨h1,?_⟩⟩,λ_=>⟨hk.1,hk.2.1⟩⟩;show r.1=gH v.1++r.1.drop v.2;rw[en,e3,aM]
  conv=>rhs;rw[e2]
  rw[mZ,aU,ph (by rw[ai];rfl)];exact e2
theorem aEI{l:List Int}(h:l.length=8)(hb:Bytes l):jA (Qq l)=l:=by
 match l,h with
 |[a,b,c,d,e,f,g,i],_=>
  have h0:=hb a (by simp);have h1:=hb b (by simp);have h2:=hb c (by simp);have h3:=hb d (by simp);have h4:=hb e (by simp);have h5:=hb f (by simp);have h6:=hb g (by simp);have h7:=hb i (by simp);unfold asJ at h0 h1 h2 h3 h4 h5 h6 h7;unfold jA Qq;simp only[aX,eO];congr 1
  ·omega
  congr 1
  ·omega
  congr 1
  ·omega
  congr 1
  ·omega
  congr 1
  ·omega
  congr 1
  ·omega
  congr 1
  ·omega
  congr 1;omega
theorem Cr{r:gq}(h:qg r):Ov r (mP r).2 (jA (mP r).1):=by have e:=aeY h 8;exact e.1.of λhk=>(aEI (e.2 hk) (Ch h.1).2.1).symm
theorem abv{r:gq}(h:qg r):Ov r (I7 r).2 (I7 r).1:=by
 have e:=aeY h 32;refine e.1.of λhk=> ?_
 unfold I7;simp only[e.2 hk];rw[show bt 32 (ae 32 (0:Int))=[] from rfl,bJ]
theorem aGl{r:gq}(h:vP r):Sm (I7 r).1:=by
 have e:=Ch (n:=32) h;refine⟨?_,gr e.2.1 λx hx=> ?_⟩
 ·show((nF 32 r).1++bt (nF 32 r).1.length (ae 32 (0:Int))).length=32;rw[ai,gm,dR];have:=e.1;omega
 ·obtain rfl:=(ou.1 (List.mem_of_mem_drop hx)).2;exact⟨eG,eG⟩
theorem ZT{r:gq}(h:qg r):Ov r (Fa r).2 (gH (Fa r).1.length++(Fa r).1)/\Bytes (Fa r).1/\(Fa r).1.length<=1000000000:=by
 have e:=mV h;unfold Fa;split
 ·rename_i hc;exact⟨⟨e.1.1,λhk=>by rw[hc]at hk;cases hk⟩,λx hx=>(by cases hx),aK _⟩
 ·rename_i hc;have hc:(dh r).2.2.1=aS:=by simpa using hc
  have t:=aeY e.1.1 (dh r).1.toNat;have tb:=Ch (n:=(dh r).1.toNat) e.1.1.1;have n0:=(e.2 hc).1;refine⟨(e.1.trans t.1).of λhk=> ?_,tb.2.1,?_⟩
  ·rw[t.2 hk,Int.toNat_of_nonneg n0]
  ·have hl:(nF (dh r).1.toNat (dh r).2).1.length<=(dh r).2.1.length:=by
    unfold nF;split
    ·exact aK _
    ·show((dh r).2.1.take _).length<=_;rw[dw];omega
   have:=e.1.1.1.1;omega
theorem aRu{r:gq}(h:qg r){m:Int}(h0:0<=(IV m r).1):Ov r (IV m r).2 (gH (IV m r).1)/\(IV m r).1<=m:=by
 have e:=mV h;unfold IV at h0 ⊢;by_cases hc:(dh r).1 > m
 ·simp only[if_pos hc]at h0;omega
 ·simp only[if_neg hc];exact⟨e.1,au⟩
theorem afB{r:gq}(h:qg r)(m:Int):qg (IV m r).2:=(mV h).1.1
theorem afA{r:gq}(h:vP r){m:Int}(hm:0<=m): -1<=(IV m r).1/\(IV m r).1<=m:=by
 have:=(tQ h).1;unfold IV;split
 ·exact⟨au,by show(-1:Int)<=m;omega⟩
 ·rename_i hc;have hc:¬(dh r).1 > m:=hc;exact⟨by show -1<=(dh r).1;omega,by show(dh r).1<=m;omega⟩
theorem alw:∀(k:Nat) {r:gq},qg r->Ov r (Ft k r).2 ((Ft k r).1.flatMap auG)/\(Ft k r).1.length=k/\∀o∈(Ft k r).1,Sm o.1
 | 0,r,h=>⟨Ov.refl h,rfl,λx hx=>by cases hx⟩
 |k+1,r,h=>by
  have e1:=abv h;have e2:=mV e1.1;have ih:=alw k (r:=(aK2 r).2) e2.1.1;refine⟨?_,by rw[Ft,aE,ih.2.1],λo ho=> ?_⟩
  ·have:=(e1.trans e2.1).trans ih.1;rw[Ft,dC];exact this
  ·rcases bI.1 ho with rfl | ho
   ·exact aGl h.1
   ·exact ih.2.2 o ho
theorem aQU{r:gq}(h:qg r):qg (Qu r).2:=(ZT (mV h).1.1).1.1
theorem acY:∀(k:Nat) {r:gq} {x:List gX×gq},qg r->zM k r=aj x->Ov r x.2 (x.1.flatMap GP)/\x.1.length=k/\∀o∈x.1,o.1<=9223372036854775807/\lk o.2.1=aL/\aPr o.2.1
 | 0,r,x,h,hx=>by cases hx;exact⟨Ov.refl h,rfl,λx hx=>by cases hx⟩
 |k+1,r,x,h,hx=>by
  rw[zM]at hx;split at hx
  ·rename_i hr;split at hx
   ·rename_i y hy;cases hx;have e1:=mV h;have e2:=ZT e1.1.1;have ih:=acY k (aQU h) hy;obtain⟨l,hl,aEb,he,hle⟩:=aJf hr;have hu:=ayV e2.2.1 e2.2.2;have el:(Qu r).1.2.1=l:=by show(EK (Fa (dh r).2).1).1=l;rw[he]
    refine⟨?_,by rw[aE,ih.2.1],λo ho=> ?_⟩
    ·have:=(e1.1.trans e2.1).trans ih.1;rw[dC];unfold GP;rw[el,aEb];exact this
    ·rcases bI.1 ho with rfl | ho
     ·refine⟨(tQ h.1).2.1,by rw[el];exact hl,?_⟩;rw[el,hle];exact⟨hu.1,by show(vI _).length<=_;omega⟩
     ·exact ih.2.2 o ho
   ·cases hx
  ·cases hx
theorem amL:∀(k:Nat) {r:gq},qg r->Ov r (AD k r).2 ((AD k r).1.flatMap aEk)/\(AD k r).1.length=k/\∀s∈(AD k r).1,aPs s
 | 0,r,h=>⟨Ov.refl h,rfl,λx hx=>by cases hx⟩
 |k+1,r,h=>by
  have e1:=Cr h;have e2:=Cr e1.1;have ih:=amL k (r:=(aK3 r).2) e2.1;refine⟨?_,by rw[AD,aE,ih.2.1],λo ho=> ?_⟩
  ·have:=(e1.trans e2).trans ih.1;rw[AD,dC];exact this
  ·rcases bI.1 ho with rfl | ho
   ·exact⟨(WI h.1).1,(WI e1.1.1).1⟩
   ·exact ih.2.2 o ho
theorem anq{r:gq}(h:qg r):qg (lr r).2/\(lr r).1.length<=12/\∀s∈(lr r).1,aPs s:=by have e1:=mV h;have ih:=amL (IV 12 (dh r).2).1.toNat (afB e1.1.1 12);have:=afA e1.1.1.1 (m:=12) eG;exact⟨ih.1.1,by show(AD _ _).1.length<=12;rw[ih.2.1];omega,ih.2.2⟩
theorem aOc{r:gq}{w:Pq×gq}(h:qg r)(hw:anr r=aj w):Ov r w.2 (Gc w.1)/\aaw w.1/\w.1.2.1.length<=12:=by
 unfold anr at hw;split at hw
 ·cases hw
 ·rename_i hc;cases hw;have e1:=mV h;have hc:0<=(IV 12 (dh r).2).1:=au;have e2:=aRu e1.1.1 hc;have e3:=amL (IV 12 (dh r).2).1.toNat e2.1.1;have g:=anq h;have e4:=Cr g.1;have hl:((lr r).1.length:Int)=(IV 12 (dh r).2).1:=by show((AD _ _).1.length:Int)=_;rw[e3.2.1];omega
  have:=((e1.1.trans e2.1).trans e3.1).trans e4;refine⟨this.of λ_=> ?_,⟨g.2.2,(WI g.1.1).1⟩,g.2.1⟩;unfold Gc;simp only[hl,aM];rfl
theorem afD:∀(l:List cr) {r:gq} {x:List gK×gq},qg r->xL l r=aj x->Ov r x.2 (x.1.flatMap λy=>Gc y.2.1)/\x.1.map (·.1)=l/\∀y∈x.1,aaw y.2.1/\y.2.1.2.1.length<=12
 |[],r,x,h,hx=>by cases hx;exact⟨Ov.refl h,rfl,λx hx=>by cases hx⟩
 |o::l,r,x,h,hx=>by
  rw[xL]at hx;split at hx
  ·cases hx
  ·rename_i w hw;have e:=aOc h hw;split at hx
   ·cases hx
   ·rename_i y hy;cases hx;have ih:=afD l e.1.1 hy;refine⟨?_,by rw[bM,ih.2.1],λz hz=> ?_⟩
    ·have:=e.1.trans ih.1;rw[dC];exact this
    ·rcases bI.1 hz with rfl | hz
     ·exact e.2
     ·exact ih.2.2 z hz
def alp(o:cr):pg:=(o,(0,aF,0,()),())
def aRT(x:gK):pg:=(x.1,(x.2.1.1,aj x.2.1.2.1,x.2.1.2.2),())
def aVQ(x:pg):gK:=(x.1,(x.2.1.1,x.2.1.2.1.getD [],x.2.1.2.2),())
theorem aFJ(l:List pg):aOu (.slice gU) (.slice fo) l=l.map aVQ:=cf
theorem aKB(l:List gK):(l.map aRT).map aVQ=l:=by rw[List.map_map];have:(aVQ∘aRT)=id:=rfl;rw[this,List.map_id]
theorem ayh{t:Ty}{l:List t.den}{k:Nat}{y:t.den}(h:k < l.length):nth t (l.set k y) k=y:=by simp[nth,h]
theorem ayg{t:Ty}{a b:List t.den}{k:Nat}{y:t.den}(h:a.length=k):nth t (a++y::b) k=y:=by grind [nth]
theorem ay0{α:Type}{a b:List α}{k:Nat}{y z:α}(h:a.length=k):(a++y::b).set k z=a++z::b:=by simp_all
theorem ajy{α:Type}{l:List α}{k:Nat}{y:α}:(l.set k y).take k=l.take k:=by rw[List.take_set,List.set_eq_of_length_le (by rw[dw];omega)]
theorem ah3{α:Type}{l:List α}{k:Nat}{y:α}:(l.set k y).drop (k+1)=l.drop (k+1):=List.drop_set_of_lt au
def aCS:gq->Prop:=λr=>vP r
def amB:gq->(Bs×gq):=λr=>I7 r
def YH:Fs Tryz.prog aCS bz amB:=fu 105 Tryz.f105 (λo0=>([.ptr (.bW 0) 0 [] 0],[.obj 0 aS (.d qk o0)])) (λx=>⟨.d tH x.1,[.obj 0 aS (.d qk x.2)],[]⟩) [aF] [aex]
theorem aJo(o0)(k:K1 R):YH.A o0 k=al (LH.call (32,o0)) λx1=>aG (decide ((List.length x1.1)<=32)) (k (YH.out ((x1.1++(bt (List.length x1.1) (ae 32 0))),x1.2))) aF:=cf
theorem aJp:YH.Ok:=by intro r h;have h:vP r:=h;have e:=(Ch (n:=32) h).1;rw[aJo,Ws (d:=(32,r)) ⟨eG,h.1⟩];simp only[ah,bz,aan];rw[show ab 32=32 from rfl,aI e];rfl
theorem ai7:YH.RS:=rE [.d qk] YH
def ars:=YH.fI aJp
def avP:gq->Prop:=λr=>vP r
def TU:gq->(Bs×gq):=λr=>Fa r
def Ix:Fs Tryz.prog avP bz TU:=fu 107 Tryz.f107 (λo0=>([.ptr (.bW 0) 0 [] 0],[.obj 0 aS (.d qk o0)])) (λx=>⟨.d tB x.1,[.obj 0 aS (.d qk x.2)],[]⟩) [aF] [T8,aex] {res:=[aj tB],PJ:=[⟨0,[.arr],qk⟩]}
theorem aCM(o0)(k:K1 R):Ix.A o0 k=al (Az.call o0) λx1=>aG (x1.2.2.1) (k (Ix.out (([]:List Int),x1.2))) (al (LH.call (x1.1,x1.2)) λx2=>k (Ix.out (x2.1,x2.2))):=cf
theorem aCN:Ix.Ok:=by
 intro r h;have e:=tQ h;rw[aCM,kU (d:=r) h];simp[ra,TU,Fa];cases hc:(dh r).2.2.1
 ·rw[Ws (d:=((dh r).1,(dh r).2)) ⟨e.1,e.2.2.1⟩];rfl
 ·rfl
theorem aeh:Ix.RS:=rE [.d qk] Ix
def ai3:=Ix.fI aCN
def aD0:(Int×gq)->Prop:=λ(m,r)=>vP r
def E6:(Int×gq)->(Int×gq):=λ(m,r)=>IV m r
def Hg:Fs Tryz.prog aD0 bz E6:=fu 103 Tryz.f103 (λ(most,o1)=>([.d ti most,.ptr (.bW 0) 0 [] 0],[.obj 0 aS (.ptr (.bW 1) 0 [] 0),.obj 0 aS (.d qk o1)])) (λx=>⟨.d ti x.1,[.obj 0 aS (.ptr (.bW 1) 0 [] 0),.obj 0 aS (.d qk x.2)],[]⟩) [aj ti,aF] [T8]
theorem aKt(most o1)(k:K1 R):Hg.A (most,o1) k=al (Az.call o1) λx1=>aG (Af x1.1 most) (k (Hg.out ((-1),x1.2))) (k (Hg.out (x1.1,x1.2))):=cf
theorem aKu:Hg.Ok:=by
 rintro⟨m,r⟩ h;rw[aKt,kU (d:=r) h];simp[ra,E6,IV];by_cases hc:(dh r).1 > m
 all_goals simp_all [dj,cw,if_neg]
theorem CD:Hg.RS:=rE [.d ti,.d qk] Hg
def asr:=Hg.fI aKu
abbrev Q9:=Int×Int×Int×(Int×Unit)×Nat×(Int×Unit)×gq×(List pg)
abbrev afd:=Nat×gq×(List pg)
def Ci:Q9->afd->((Int×(Int×Unit)×(Int×Unit))×(Nat×gq×(List pg))):=λ(n,t20,t21,n2,alg,n4,aA6,aab) y=>((n,n2,n4),y)
abbrev DT:=Int×Int×Int×Int×(Int×Unit)×Nat×Nat×(Int×Unit)×gq×(List pg)×(List gX)
def rp:DT->AS:=λ(xZ,m,t37,t38,oJ,zK,tt,tw,Da,nu,apQ)=>⟨([bC,bC,dP 2,bC,dP 4,dP 5,.fn 103 (.cons (dP 5) (.nil)),.d ti xZ,.d ti m]++aQ 28 ([.d ti t37,.d ti t38]++aQ 93 [])),[],([[],[],cJ (.pr (.cT) (.pr (.cT) (.d (.pair ti .unit) oJ))),[],cJ (.pr (je 32 zK) (.pr (je 58 tt) (.d (.pair ti .unit) tw))),cJ (dP 16)]++bk 10 ([cJ (.d qk Da)]++bk 15 ([cJ (.vec 110 gU nu)]++bk 25 ([cJ (.vec 45 fJ apQ)]++bk 73 []))))⟩
def sV:(Int×Unit)->Exit×AS:=λx=>(.ret,⟨([bC,bC,dP 2,.d .bool aS]++aQ 128 []),[],([[],[],cJ (.pr (.cT) (.pr (.cT) (.d (.pair ti .unit) x)))]++bk 129 [])⟩)
abbrev Y2:=(Int×Int×(Int×Unit)×Nat×(Int×Unit)×(List pg))×(Nat×gq×(List gX))
def Ck:Y2->Exit×AS:=λ((a,b,c,e,f,g),h,i,j)=>(.exit 2,⟨([bC,bC,dP 2,bC,dP 4,dP 5,.fn 103 (.cons (dP 5) (.nil)),.d ti a,.d ti b]++aQ 123 []),[],([[],[],cJ (.pr (.cT) (.pr (.cT) (.d (.pair ti .unit) c))),[],cJ (.pr (je 32 e) (.pr (je 58 h) (.d (.pair ti .unit) f))),cJ (dP 16)]++bk 10 ([cJ (.d qk i)]++bk 15 ([cJ (.vec 110 gU g)]++bk 25 ([cJ (.vec 45 fJ j)]++bk 73 []))))⟩)
abbrev Rb:=((Int×Unit))⊕(Y2)
abbrev aff:=((Int×Unit))⊕((Nat×gq×(List gX)))
def IP:Rb->Out (Exit×AS):=λx=> .br x.isLeft (.get x.getLeft? λa=> .ok (sV a)) (.get x.getRight? λb=> .ok (Ck b))
def sU:DT->aff->Rb:=λ(xZ,m,t37,t38,oJ,zK,tt,tw,Da,nu,apQ) y=>match y with | .inl y=> .inl y | .inr z=> .inr (((xZ,m,oJ,zK,tw,nu),z))
abbrev DU:=Int×Int×Int×Int×(Int×Unit)×Nat×Nat×(Int×Unit)×gq×(List pg)×(List gX)
def rr:DU->AS:=λ(auv,afI,t66,t67,uV,zL,Ew,D5,Db,cP,AR)=>⟨([bC,bC,dP 2,bC,dP 4,dP 5,.fn 103 (.cons (dP 5) (.nil)),.d ti auv,.d ti afI]++aQ 57 ([.d ti t66,.d ti t67]++aQ 64 [])),[],([[],[],cJ (.pr (.cT) (.pr (.cT) (.d (.pair ti .unit) uV))),[],cJ (.pr (je 32 zL) (.pr (je 58 Ew) (.d (.pair ti .unit) D5))),cJ (dP 16)]++bk 10 ([cJ (.d qk Db)]++bk 15 ([cJ (.vec 110 gU cP)]++bk 25 ([cJ (.vec 45 fJ AR)]++bk 73 []))))⟩
def sW:(Int×Unit)->Exit×AS:=λx=>(.ret,⟨([bC,bC,dP 2,.d .bool aS]++aQ 128 []),[],([[],[],cJ (.pr (.cT) (.pr (.cT) (.d (.pair ti .unit) x)))]++bk 129 [])⟩)
abbrev Y4:=Int×Int×(Int×Unit)×Nat×Nat×(Int×Unit)×gq×(List pg)×(List gX)
def Cm:Y4->Exit×AS:=λ(a,b,c,e,f,g,h,i,j)=>(.exit 4,⟨([bC,bC,dP 2,bC,dP 4,dP 5,bC,.d ti a,.d ti b]++aQ 123 []),[],([[],[],cJ (.pr (.cT) (.pr (.cT) (.d (.pair ti .unit) c))),[],cJ (.pr (je 32 e) (.pr (je 58 f) (.d (.pair ti .unit) g))),cJ (dP 16)]++bk 10 ([cJ (.d qk h)]++bk 15 ([cJ (.vec 110 gU i)]++bk 25 ([cJ (.vec 45 fJ j)]++bk 73 []))))⟩)
abbrev Rd:=((Int×Unit))⊕(Y4)
abbrev afh:=((Int×Unit))⊕((Int×Int×(Int×Unit)×Nat×Nat×(Int×Unit)×gq×(List pg)×(List gX)))
def IQ:Rd->Out (Exit×AS):=λx=> .br x.isLeft (.get x.getLeft? λa=> .ok (sW a)) (.get x.getRight? λb=> .ok (Cm b))
def mu:DU->afh->Rd:=λ(auv,afI,t66,t67,uV,zL,Ew,D5,Db,cP,AR) y=>match y with | .inl y=> .inl y | .inr z=> .inr (z)
abbrev Re:=Int×Int×Int×Int×Int×Int×(Int×Unit)×Nat×Nat×(Int×Unit)×gq×(List pg)×cr×Int×Nat×(Int×Unit)×(List pg)×(List gX)×(List Sg)
abbrev afi:=gq×(List pg)×(List Sg)
def Cn:Re->afi->((Int×Int×Int×Int×(Int×Unit)×Nat×Nat×(Int×Unit)×(List gX))×(gq×(List pg)×(List Sg))):=λ(auw,auj,DQ,nE,t85,t86,Dc,De,Df,Qm,GG,GI,GJ,GK,Fq,GL,Dd,Dg,alh) y=>((auw,auj,DQ,nE,Dc,De,Df,Qm,Dg),y)
def am6:Q9->Prop:=λ(n,m,i,u,L,v,r,l)=>qg r/\m<=64/\∃k:Nat,i=k/\k<=64/\L=l.length/\l.length=k
def IN:Q9->afd:=λ(n,m,i,u,L,v,r,l)=>(L+(m - i).toNat,(Ft (m - i).toNat r).2,l++(Ft (m - i).toNat r).1.map alp)
def Cj:DT->Prop:=λ(n,m1,m,i,u,L,L2,v,r,l,os)=>qg r/\m<=64/\∃k:Nat,i=k/\k<=64/\L2=os.length/\os.length=k
def rn:DT->aff:=λ(n,m1,m,i,u,L,L2,v,r,l,os)=>match zM (m - i).toNat r with | none=> .inl (0,()) | some x=> .inr (L2+x.1.length,x.2,os++x.1)
def ana:Re->Prop:=λ(n,m1,mo,io,m,i,u,L,L2,v,r,la,op,br,Ls,sc,lb,os,sg)=>qg r/\m<=12/\∃k:Nat,i=k/\k<=12/\Ls=sg.length/\sg.length=k
def IS:Re->afi:=λ(n,m1,mo,io,m,i,u,L,L2,v,r,la,op,br,Ls,sc,lb,os,sg)=>((AD (m - i).toNat r).2,la++(op,(br,aj (sg++(AD (m - i).toNat r).1),sc),())::lb,sg++(AD (m - i).toNat r).1)
def Cl:DU->Prop:=λ(n,m1,m,i,u,L,L2,v,r,l,os)=>qg r/\l.length<=64/\∃k:Nat,i=k/\k<=l.length/\m=l.length/\L=l.length/\∀x∈l.drop k,x=alp x.1
def rq:DU->afh:=λ(n,m1,m,i,u,L,L2,v,r,l,os)=>match xL ((l.drop i.toNat).map (·.1)) r with | none=> .inl (0,()) | some x=> .inr (n,m1,u,L,L2,v,x.2,l.take i.toNat++x.1.map aRT,os)
def aDG:Bs->Prop:=λb=>Bytes b/\b.length<=1000000000
def am5:Bs->(cR×Bool):=λb=>Q0 b
def xj:Ls am6 Ci IN:=te (λ(n,t20,t21,n2,alg,n4,aA6,aab)=>⟨([bC,bC,dP 2,bC,dP 4,dP 5,.fn 103 (.cons (dP 5) (.nil)),.d ti n]++aQ 12 ([.d ti t20,.d ti t21]++aQ 110 [])),[],([[],[],cJ (.pr (.cT) (.pr (.cT) (.d (.pair ti .unit) n2))),[],cJ (.pr (je 32 alg) (.pr (.cT) (.d (.pair ti .unit) n4))),cJ (dP 16)]++bk 10 ([cJ (.d qk aA6)]++bk 15 ([cJ (.vec 110 gU aab)]++bk 99 [])))⟩) (λx=>(.exit 0,⟨([bC,bC,dP 2,bC,dP 4,dP 5,.fn 103 (.cons (dP 5) (.nil)),.d ti x.1.1]++aQ 124 []),[],([[],[],cJ (.pr (.cT) (.pr (.cT) (.d (.pair ti .unit) x.1.2.1))),[],cJ (.pr (je 32 x.2.1) (.pr (.cT) (.d (.pair ti .unit) x.1.2.2))),cJ (dP 16)]++bk 10 ([cJ (.d qk x.2.2.1)]++bk 15 ([cJ (.vec 110 gU x.2.2.2)]++bk 99 [])))⟩))
def afe:=du.eW rp Cj sU rn IP
def Pc:DT->Option Rb:=fP afe rp
def afg:=du.eW rr Cl mu rq IQ
def Pe:DU->Option Rd:=fP afg rr
def xk:Ls ana Cn IS:=te (λ(auw,auj,DQ,nE,t85,t86,Dc,De,Df,Qm,GG,GI,GJ,GK,Fq,GL,Dd,Dg,alh)=>⟨([bC,bC,dP 2,bC,dP 4,dP 5,.fn 103 (.cons (dP 5) (.nil)),.d ti auw,.d ti auj]++aQ 4 ([.ptr (.new 32 0) 0 [.snd,.fst,.snd,.fst] ((0+((ab nE)*36))+33)]++aQ 52 ([.d ti DQ,.d ti nE]++aQ 17 ([.d ti t85,.d ti t86]++aQ 45 [])))),[],([[],[],cJ (.pr (.cT) (.pr (.cT) (.d (.pair ti .unit) Dc))),[],cJ (.pr (je 32 De) (.pr (je 58 Df) (.d (.pair ti .unit) Qm))),cJ (dP 16)]++bk 10 ([cJ (.d qk GG)]++bk 15 ([cJ (.bx 110 36 (.pr (.d (.arr (0+(ab nE)) gU) GI) (.pr (.pr (.d bX GJ) (.pr (.pr (.d ti GK) (.pr (je 99 Fq) (.d (.pair tu .unit) GL))) jL)) (.d (.arr (List.length Dd) gU) Dd))))]++bk 25 ([cJ (.vec 45 fJ Dg)]++bk 40 ([cJ (.vec 117 xn alh)]++bk 32 [])))))⟩) (λx=>(.exit 6,⟨([bC,bC,dP 2,bC,dP 4,dP 5,.fn 103 (.cons (dP 5) (.nil)),.d ti x.1.1,.d ti x.1.2.1]++aQ 4 ([.ptr (.new 32 0) 0 [.idx (0+(ab x.1.2.2.2.1)),.snd,.fst] ((0+((ab x.1.2.2.2.1)*36))+33)]++aQ 52 ([.d ti x.1.2.2.1,.d ti x.1.2.2.2.1]++aQ 64 []))),[],([[],[],cJ (.pr (.cT) (.pr (.cT) (.d (.pair ti .unit) x.1.2.2.2.2.1))),[],cJ (.pr (je 32 x.1.2.2.2.2.2.1) (.pr (je 58 x.1.2.2.2.2.2.2.1) (.d (.pair ti .unit) x.1.2.2.2.2.2.2.2.1))),cJ (dP 16)]++bk 10 ([cJ (.d qk x.2.1)]++bk 15 ([cJ (.vec 110 gU x.2.2.1)]++bk 25 ([cJ (.vec 45 fJ x.1.2.2.2.2.2.2.2.2)]++bk 40 ([[.obj 0 aL (.vec 117 xn x.2.2.2)]]++bk 32 [])))))⟩))
def mN:Fs Tryz.prog aDG bz am5:=fu 66 Tryz.f66 (λb=>([.d tB b],[])) (λx=>⟨.cons (.d dz x.1) (.cons (.d .bool x.2) (.nil)),[],[]⟩) [aj tB] [aeo,asr,ars,T8,ai3,aps,amE,ayX,art,pQ] {bu:=[100031,100032],loops:=oI [(6,{aV:=[2,4,5,6,7,20,21],sites:=[2,4,5,16,32],owns:=[⟨4,[.fst],32,100024⟩]}),(11,{aV:=[2,4,5,6,7,8,37,38],sites:=[2,4,5,16,32,58],owns:=[⟨4,[.snd,.fst],58,22⟩]}),(21,{aV:=[2,4,5,6,7,8,66,67],sites:=[2,4,5,16,32,58]}),(29,{aV:=[2,4,5,6,7,8,13,66,67,85,86],sites:=[2,4,5,16,32,58,99],owns:=[⟨13,[.snd,.fst],99,106⟩],aUx:=[13]})],outs:=oH [(6,{aV:=[2,4,5,6,7],sites:=[2,4,5,16,32]},{aV:=[2,3]}),(11,{aV:=[2,4,5,6,7,8],sites:=[2,4,5,16,32,58]},{aV:=[2,3],sites:=[2]}),(21,{aV:=[2,4,5,7,8],sites:=[2,4,5,16,32,58]},{aV:=[2,3],sites:=[2]}),(29,{aV:=[2,4,5,6,7,8,13,66,67],sites:=[2,4,5,16,32,58,99],aVR:=[13]},{aV:=[2,3]})],fE:=pW [(6,xj.E),(11,afe),(21,afg),(29,xk.E)],res:=[aj dz,aF]}
def Ra:= @dV Tryz.prog (jB mN.G) mN.an 0 Tryz.f66 1 _ rp
abbrev Y1:=jh Tryz.prog (jB mN.G) mN.an 0 Tryz.f66 1 rp Cj sU rn IP
def Rc:= @dV Tryz.prog (jB mN.G) mN.an 0 Tryz.f66 2 _ rr
abbrev Y3:=jh Tryz.prog (jB mN.G) mN.an 0 Tryz.f66 2 rr Cl mu rq IQ
theorem am7:xj.RS:=rL [.d ti,.d ti,.d ti,.d (.pair ti .unit),.n,.d (.pair ti .unit),.d qk,.d (.slice gU)] xj
theorem Pb(n t20 t21 n2 alg n4 aA6 aab)(kn:K2 R)(kx:K3 R):mN.R 0 xj (n,t20,t21,n2,alg,n4,aA6,aab) kn kx=aG (fL t21 t20) (al (YH.call aA6) λx7=>al (Az.call x7.2) λx8=>aG (decide (alg<=(List.length aab))) (aG (dd (alg+1) 80) (kn (xj.st (n,t20,(bA .i64 t21 1),n2,(alg+1),n4,x8.2,((aJ alg aab)++ [((x7.1,(x8.1,())),((0,(aF,(0,()))),()))])))) aF) aF) (xj.go kx ((n,n2,n4),(alg,aA6,aab))):=cf
theorem am8:iy Pc Cj sU rn:=kz (jC [.d ti,.d ti,.d ti,.d ti,.d (.pair ti .unit),.n,.n,.d (.pair ti .unit),.d qk,.d (.slice gU),.d (.slice fJ)] λ_=>cf)
theorem UJ:mY @Ra rp Cj sU rn IP Y1:=nJ
theorem Pd(xZ m t37 t38 oJ zK tt tw Da nu apQ)(kn:K2 R)(kx:K3 R):Ra (xZ,m,t37,t38,oJ,zK,tt,tw,Da,nu,apQ) kn kx=aG (fL t38 t37) (al (Az.call Da) λpS=>al (Ix.call pS.2) λaRA=>al (AQ.call aRA.1) λJK=>aG (!JK.2) (kx (sV ((0:Int),())).1 (sV ((0:Int),())).2) (aG (decide (tt<=(List.length apQ))) (aG (dd (tt+1) 32) (kn (rp (xZ,m,t37,(bA .i64 t38 (1:Int)),oJ,zK,(tt+1),tw,aRA.2,nu,((aJ tt apQ)++ [(pS.1,(JK.1,()))])))) aF) aF)) (kx (Ck ((xZ,m,oJ,zK,tw,nu),(tt,Da,apQ))).1 (Ck ((xZ,m,oJ,zK,tw,nu),(tt,Da,apQ))).2):=cf
theorem am9:iy Pe Cl mu rq:=kz (jC [.d ti,.d ti,.d ti,.d ti,.d (.pair ti .unit),.n,.n,.d (.pair ti .unit),.d qk,.d (.slice gU),.d (.slice fJ)] λ_=>cf)
theorem UK:mY @Rc rr Cl mu rq IQ Y3:=nJ
theorem Pf(auv afI t66 t67 uV zL Ew D5 Db cP AR)(kn:K2 R)(kx:K3 R):Rc (auv,afI,t66,t67,uV,zL,Ew,D5,Db,cP,AR) kn kx=aG (fL t67 t66) (aG (eE t67 ((zL:Nat):Int)) (al (Az.call Db) λpS=>aG (decide ((0+(ab t67)) < (List.length cP))) (aG (decide ((((0+(ab t67))*36)+33)=(((0+((ab t67)*36))+33)+0))) (aG (decide ((0+(ab t67)) < (List.length cP))) (al (Hg.call ((12:Int),pS.2)) λaD5=>aG (fL aD5.1 (0:Int)) (kx (sW ((0:Int),())).1 (sW ((0:Int),())).2) (aG (decide ((0+(ab t67)) < (List.length (dZ cP (0+(ab t67)) ((nth gU cP (0+(ab t67))).1,((pS.1,(nth gU cP (0+(ab t67))).2.1.2),(nth gU cP (0+(ab t67))).2.2)))))) (aG (Option.isNone (nth gU (dZ cP (0+(ab t67)) ((nth gU cP (0+(ab t67))).1,((pS.1,(nth gU cP (0+(ab t67))).2.1.2),(nth gU cP (0+(ab t67))).2.2))) (0+(ab t67))).2.1.2.1) (al (xk.call (auv,afI,t66,t67,aD5.1,(0:Int),uV,zL,Ew,D5,aD5.2,(aJ (0+(ab t67)) (dZ cP (0+(ab t67)) ((nth gU cP (0+(ab t67))).1,((pS.1,(nth gU cP (0+(ab t67))).2.1.2),(nth gU cP (0+(ab t67))).2.2)))),((nth gU (dZ cP (0+(ab t67)) ((nth gU cP (0+(ab t67))).1,((pS.1,(nth gU cP (0+(ab t67))).2.1.2),(nth gU cP (0+(ab t67))).2.2))) (0+(ab t67))).1.1,((nth gU (dZ cP (0+(ab t67)) ((nth gU cP (0+(ab t67))).1,((pS.1,(nth gU cP (0+(ab t67))).2.1.2),(nth gU cP (0+(ab t67))).2.2))) (0+(ab t67))).1.2.1,(nth gU (dZ cP (0+(ab t67)) ((nth gU cP (0+(ab t67))).1,((pS.1,(nth gU cP (0+(ab t67))).2.1.2),(nth gU cP (0+(ab t67))).2.2))) (0+(ab t67))).1.2.2)),(nth gU (dZ cP (0+(ab t67)) ((nth gU cP (0+(ab t67))).1,((pS.1,(nth gU cP (0+(ab t67))).2.1.2),(nth gU cP (0+(ab t67))).2.2))) (0+(ab t67))).2.1.1,0,((nth gU (dZ cP (0+(ab t67)) ((nth gU cP (0+(ab t67))).1,((pS.1,(nth gU cP (0+(ab t67))).2.1.2),(nth gU cP (0+(ab t67))).2.2))) (0+(ab t67))).2.1.2.2.1,(nth gU (dZ cP (0+(ab t67)) ((nth gU cP (0+(ab t67))).1,((pS.1,(nth gU cP (0+(ab t67))).2.1.2),(nth gU cP (0+(ab t67))).2.2))) (0+(ab t67))).2.1.2.2.2),(bt ((0+(ab t67))+1) (dZ cP (0+(ab t67)) ((nth gU cP (0+(ab t67))).1,((pS.1,(nth gU cP (0+(ab t67))).2.1.2),(nth gU cP (0+(ab t67))).2.2)))),AR,([]:List Sg))) λrv=>al (LI.call rv.2.1) λJK=>aG (decide ((0+(ab rv.1.2.2.2.1)) < (List.length rv.2.2.1))) (aG (decide ((((0+(ab rv.1.2.2.2.1))*36)+35)=(((0+((ab rv.1.2.2.2.1)*36))+33)+2))) (aG (decide ((0+(ab rv.1.2.2.2.1)) < (List.length rv.2.2.1))) (kn (rr (rv.1.1,rv.1.2.1,rv.1.2.2.1,(bA .i64 rv.1.2.2.2.1 (1:Int)),rv.1.2.2.2.2.1,rv.1.2.2.2.2.2.1,rv.1.2.2.2.2.2.2.1,rv.1.2.2.2.2.2.2.2.1,JK.2,(dZ rv.2.2.1 (0+(ab rv.1.2.2.2.1)) ((nth gU rv.2.2.1 (0+(ab rv.1.2.2.2.1))).1,(((nth gU rv.2.2.1 (0+(ab rv.1.2.2.2.1))).2.1.1,((nth gU rv.2.2.1 (0+(ab rv.1.2.2.2.1))).2.1.2.1,(JK.1,(nth gU rv.2.2.1 (0+(ab rv.1.2.2.2.1))).2.1.2.2.2))),(nth gU rv.2.2.1 (0+(ab rv.1.2.2.2.1))).2.2))),rv.1.2.2.2.2.2.2.2.2))) aF) aF) aF) aF) aF)) aF) aF) aF) aF) (kx (Cm (auv,afI,uV,zL,Ew,D5,Db,cP,AR)).1 (Cm (auv,afI,uV,zL,Ew,D5,Db,cP,AR)).2):=cf
theorem anb:xk.RS:=rL [.d ti,.d ti,.d ti,.d ti,.d ti,.d ti,.d (.pair ti .unit),.n,.n,.d (.pair ti .unit),.d qk,.d (.slice gU),.d bX,.d ti,.n,.d (.pair tu .unit),.d (.slice gU),.d (.slice fJ),.d (.slice xn)] xk
theorem Pg(auw auj DQ nE t85 t86 Dc De Df Qm GG GI GJ GK Fq GL Dd Dg alh)(kn:K2 R)(kx:K3 R):mN.R 3 xk (auw,auj,DQ,nE,t85,t86,Dc,De,Df,Qm,GG,GI,GJ,GK,Fq,GL,Dd,Dg,alh) kn kx=aG (fL t86 t85) (aG (decide ((((0+(ab nE))*36)+34)=(((0+((ab nE)*36))+33)+1))) (al (LI.call GG) λx7=>al (LI.call x7.2) λx8=>aG (decide (Fq<=(List.length alh))) (aG (dd (Fq+1) 16) (aG (decide ((((0+(ab nE))*36)+34)=(((0+((ab nE)*36))+33)+1))) (kn (xk.st (auw,auj,DQ,nE,t85,(bA .i64 t86 1),Dc,De,Df,Qm,x8.2,GI,GJ,GK,(Fq+1),GL,Dd,Dg,((aJ Fq alh)++ [(x7.1,(x8.1,()))])))) aF) aF) aF) aF) (aG (decide (0=0/\(0+Fq)<=(List.length alh))) (xk.go kx ((auw,auj,DQ,nE,Dc,De,Df,Qm,Dg),(GG,(GI++(GJ,((GK,((aj (cut alh 0 Fq)),GL)),()))::Dd),alh))) aF):=cf
theorem aKh(b)(k:K1 R):mN.A b k=al (T9.call b) λx4=>al (Hg.call (64,x4)) λx8=>al (xj.call (x8.1,x8.1,0,(0,()),0,(0,()),x8.2,([]:List pg))) λPk=>al (Hg.call (64,Pk.2.2.1)) λaas=>al (Pc (Pk.1.1,aas.1,aas.1,0,Pk.1.2.1,Pk.2.1,0,Pk.1.2.2,aas.2,Pk.2.2.2,([]:List gX))) λaRD=>aG aRD.isLeft (al aRD.getLeft? λa83=>k (mN.out ((([]:List gK),(([]:List gX),a83)),aS))) (al aRD.getRight? λb84=>al (Az.call b84.2.2.1) λaTM=>al (Pe (b84.1.1,b84.1.2.1,((b84.1.2.2.2.1:Nat):Int),0,b84.1.2.2.1,b84.1.2.2.2.1,b84.2.1,(aTM.1,b84.1.2.2.2.2.1.2),aTM.2,b84.1.2.2.2.2.2,b84.2.2.2)) λaw2=>aG aw2.isLeft (al aw2.getLeft? λa125=>k (mN.out ((([]:List gK),(([]:List gX),a125)),aS))) (al aw2.getRight? λb126=>aG (fL b126.1 0) (k (mN.out ((([]:List gK),(([]:List gX),(0,()))),aS))) (aG (fL b126.2.1 0) (k (mN.out ((([]:List gK),(([]:List gX),(0,()))),aS))) (al (arw.call b126.2.2.2.2.2.2.1) λaKK=>aG (!aKK.2) (k (mN.out ((([]:List gK),(([]:List gX),(0,()))),aS))) (al (YI.call aKK.1) λaRv=>aG (Af aRv.2 0) (k (mN.out ((([]:List gK),(([]:List gX),(0,()))),aS))) (aG (decide (0=0/\(0+b126.2.2.2.1)<=(List.length b126.2.2.2.2.2.2.2.1))) (aG (decide (0=0/\(0+b126.2.2.2.2.1)<=(List.length b126.2.2.2.2.2.2.2.2))) (al (ij.call ((aOu (.slice gU) (.slice fo) (cut b126.2.2.2.2.2.2.2.1 0 b126.2.2.2.1)),((cut b126.2.2.2.2.2.2.2.2 0 b126.2.2.2.2.1),b126.2.2.2.2.2.1))) λaRw=>aG (!aRw) (k (mN.out ((([]:List gK),(([]:List gX),(0,()))),aS))) (aG (decide (0=0/\(0+b126.2.2.2.1)<=(List.length b126.2.2.2.2.2.2.2.1))) (aG (decide (0=0/\(0+b126.2.2.2.2.1)<=(List.length b126.2.2.2.2.2.2.2.2))) (k (mN.out (((aOu (.slice gU) (.slice fo) (cut b126.2.2.2.2.2.2.2.1 0 b126.2.2.2.1)),((cut b126.2.2.2.2.2.2.2.2 0 b126.2.2.2.2.1),b126.2.2.2.2.2.1)),aL))) aF) aF)) aF) aF)))))):=cf
theorem asl:(mN.kA 0 xj):=by
 refine(mN.nN 0 xj) (λ(n,m,i,u,L,v,r,l)=>(m - i).toNat) ?_
 rintro⟨n,m,i,u,L,v,r,l⟩ ⟨hr,hm,k,rfl,hk,rfl,Zn⟩;have hr:qg r:=hr;have hm:m<=64:=hm;have Zn:l.length=k:=Zn;by_cases h:(k:Int) < m
 ·left;have e1:(m - (k:Int)).toNat=(m - ((k+1:Nat):Int)).toNat+1:=au;have h1:=abv hr;refine⟨(n,m,((k+1:Nat):Int),u,l.length+1,v,(aK2 r).2,l++ [alp (aK2 r).1]),⟨(mV h1.1).1.1,hm,k+1,rfl,au,by rw[ai];rfl,by rw[ai];show l.length+1=_;omega⟩,by show(m - ((k+1:Nat):Int)).toNat < (m - (k:Int)).toNat;omega,?_,λkn kx=> ?_⟩
  ·simp only[Ci,IN,e1,Ft,bM,aM,cS];rw[show ∀a c:Nat,a+1+c=a+(c+1) from λa c=>au]
  ·rw[Pb,aT h,ai7 (d:=r) hr.1];simp only[ak,ah,bz,amB];rw[kU (d:=(I7 r).2) h1.1.1];simp only[ah,bz,ra];rw[aI (aB _),dk au au,N.lh au,bK];rfl
 ·right;intro R kn kx;have e1:(m - (k:Int)).toNat=0:=au;rw[Pb,aP h,ao];simp only[Ci,IN,e1,Ft,gW,bJ,de]
theorem asm:Y1:=by
 refine UJ (λ(n,m1,m,i,u,L,L2,v,r,l,os)=>(m - i).toNat) ?_
 rintro⟨n,m1,m,i,u,L,L2,v,r,l,os⟩ ⟨hr,hm,k,rfl,hk,rfl,Zn⟩;by_cases h:(k:Int) < m
 ·have e1:(m - (k:Int)).toNat=(m - ((k+1:Nat):Int)).toNat+1:=au;have h1:=mV hr;have h2:=ZT h1.1.1;have step:∀ {R:Type} (kn:AS->Option R) (kx:Exit->AS->Option R),Ra (n,m1,m,(k:Int),u,L,os.length,v,r,l,os) kn kx=aG (!(EK (Fa (dh r).2).1).2) (kx (sV (0,())).1 (sV (0,())).2) (kn (rp (n,m1,m,((k+1:Nat):Int),u,L,os.length+1,v,(Qu r).2,l,os++ [(Qu r).1]))):=by intro R kn kx;rw[Pd,aT h,kU (d:=r) hr.1];simp only[ah,ra];rw[aeh (d:=(dh r).2) h1.1.1.1];simp only[ah,TU];rw[aiv (d:=(Fa (dh r).2).1) ⟨h2.2.1,h2.2.2⟩];rw[aI (aB _),dk au au,N.lh au,bK];rfl
  cases hp:(EK (Fa (dh r).2).1).2
  ·right;refine⟨sV (0,()),?_,λkn kx=> ?_⟩
   ·simp[rn,e1,zM,hp,bp];rfl
   simp_all
  ·left;refine⟨(n,m1,m,((k+1:Nat):Int),u,L,os.length+1,v,(Qu r).2,l,os++ [(Qu r).1]),⟨h2.1.1,hm,k+1,rfl,au,by grind,by grind⟩,by grind,?_,λkn kx=> ?_⟩
   ·grind [sU,rn,zM]
   simp_all
 ·right;have e1:(m - (k:Int)).toNat=0:=au;refine⟨Ck ((n,m1,u,L,v,l),(os.length,r,os)),?_,λkn kx=> ?_⟩
  ·simp[rn,e1,zM];rfl
  grind [Pd,aP,aG]
theorem aso:(mN.kA 3 xk):=by
 refine(mN.nN 3 xk) (λ(n,m1,mo,io,m,i,u,L,L2,v,r,la,op,br,Ls,sc,lb,os,sg)=>(m - i).toNat) ?_
 rintro⟨n,m1,mo,io,m,i,u,L,L2,v,r,la,op,br,Ls,sc,lb,os,sg⟩ ⟨hr,hm,k,rfl,hk,rfl,Zn⟩;have hr:qg r:=hr;have hm:m<=12:=hm;have Zn:sg.length=k:=Zn;by_cases h:(k:Int) < m
 ·left;have e1:(m - (k:Int)).toNat=(m - ((k+1:Nat):Int)).toNat+1:=au;have h1:=Cr hr;have h2:=Cr h1.1;refine⟨(n,m1,mo,io,m,((k+1:Nat):Int),u,L,L2,v,(aK3 r).2,la,op,br,sg.length+1,sc,lb,os,sg++ [(aK3 r).1]),⟨h2.1,hm,k+1,rfl,au,by rw[ai];rfl,by rw[ai];show sg.length+1=_;omega⟩,by show(m - ((k+1:Nat):Int)).toNat < (m - (k:Int)).toNat;omega,?_,λkn kx=> ?_⟩
  ·simp only[Cn,IS,e1,AD,aM,cS]
  ·rw[Pg,aT h,aI au,zZ (d:=r) hr.1];simp only[ak,ah,bz,IC];rw[zZ (d:=(mP r).2) h1.1.1];simp only[ah,bz,IC];rw[aI (aB _),dk au au,N.lh au,bK];rfl
 ·right;intro R kn kx;have e1:(m - (k:Int)).toNat=0:=au;rw[Pg,aP h,ao];simp only[Cn,IS,e1,AD,bJ,aU,aB,ji,cG,ak,eF]
theorem asn:Y3:=by
 refine UK (λ(n,m1,m,i,u,L,L2,v,r,l,os)=>l.length - i.toNat) ?_
 rintro⟨n,m1,m,i,u,L,L2,v,r,l,os⟩ ⟨hr,hl,k,rfl,hk,rfl,rfl,hg⟩;have hr:qg r:=hr;have hl:l.length<=64:=hl;have hk:k<=l.length:=hk;by_cases h:k < l.length
 ·have n1:nth gU l k=l[k]:=cj (t:=gU) h;have hd:l.drop k=l[k]::l.drop (k+1):=aq h;have eK:l[k]=alp l[k].1:=hg _ (by rw[hd];exact aC);obtain⟨op,aGv⟩:∃op,l[k].1=op:=⟨_,rfl⟩;rw[aGv]at eK;have h1:=mV hr;have h2:=afB h1.1.1 12;have h3:=afA h1.1.1.1 (m:=12) eG;have hw:=anq hr;have hu:=Cr hw.1;have Gv:(l.take k).length=k:=by rw[dw];omega
  have step:∀ {R:Type} (kn:AS->Option R) (kx:Exit->AS->Option R),Rc (n,m1,(l.length:Int),(k:Int),u,l.length,L2,v,r,l,os) kn kx=aG (fL (IV 12 (dh r).2).1 0) (kx (sW (0,())).1 (sW (0,())).2) (kn (rr (n,m1,(l.length:Int),((k+1:Nat):Int),u,l.length,L2,v,(mP (lr r).2).2,l.take k++(op,((dh r).1,aj (lr r).1,(mP (lr r).2).1,()),())::l.drop (k+1),os))):=by
   intro R kn kx;rw[Pf,aT au,aZ au au,kU (d:=r) hr.1];have ns:∀y:pg,nth gU (l.set k y) k=y:=λy=>ayh (t:=gU) h
   have nm:∀(y:pg) (b:List pg),nth gU (l.take k++y::b) k=y:=λy b=>ayg (t:=gU) Gv
   simp only[ak,ah,bz,ra,aa,aU,de,n1,eK,aI h,cG];rw[CD (d:=(12,(dh r).2)) h1.1.1.1];simp only[ak,ah,bz,E6];refine congrArg (λz=>aG _ _ z) ?_
   simp only[tO,aI h,ak,alp,ns,ajy,ah3,uH];rw[anb (d:=(n,m1,(l.length:Int),(k:Int),(IV 12 (dh r).2).1,0,u,l.length,L2,v,(IV 12 (dh r).2).2,l.take k,op,(dh r).1,0,(0,()),l.drop (k+1),os,[])) ⟨h2,h3.2,0,rfl,eG,rfl,rfl⟩];simp only[ah,Cn,IS,jO,bm];rw[show AD (IV 12 (dh r).2).1.toNat (IV 12 (dh r).2).2=lr r from rfl,zZ (d:=(lr r).2) hw.1.1];simp only[ah,bz,IC,aa,nm,ay0 Gv,aI (show k < (l.take k++(op,((dh r).1,aj (lr r).1,0,()),())::l.drop (k+1)).length by rw[ai,aE];omega),fk,Nat.reduceAdd,cG,ak];rw[N.lh au]
  by_cases hp:(IV 12 (dh r).2).1 < 0
  ·right;refine⟨sW (0,()),?_,λkn kx=> ?_⟩
   ·simp only[mu,rq,aa,hd,bM,xL,anr,if_pos hp];rfl
   ·rw[step,aT hp,ak]
  ·left;have afZ:(l.take k++(op,((dh r).1,aj (lr r).1,(mP (lr r).2).1,()),())::l.drop (k+1)).length=l.length:=by rw[ai,aE,gm];omega
   have aL6:(l.take k++(op,((dh r).1,aj (lr r).1,(mP (lr r).2).1,()),())::l.drop (k+1)).drop (k+1)=l.drop (k+1):=by rw[mZ,ph (by rw[ai];show(l.take k).length+1=_;omega)]
   have aOM:(l.take k++(op,((dh r).1,aj (lr r).1,(mP (lr r).2).1,()),())::l.drop (k+1)).take (k+1)=l.take k++ [(op,((dh r).1,aj (lr r).1,(mP (lr r).2).1,()),())]:=by rw[mZ,List.take_left' (by rw[ai];show(l.take k).length+1=_;omega)]
   refine⟨(n,m1,(l.length:Int),((k+1:Nat):Int),u,l.length,L2,v,(mP (lr r).2).2,l.take k++(op,((dh r).1,aj (lr r).1,(mP (lr r).2).1,()),())::l.drop (k+1),os),⟨hu.1,by rw[afZ];exact hl,k+1,rfl,by rw[afZ];omega,by rw[afZ],by rw[afZ],by rw[aL6];exact λx hx=>hg x (by rw[hd];exact az _ hx)⟩,by simp only[aa,afZ];omega,?_,λkn kx=> ?_⟩
   ·simp only[mu,rq,aa,aL6,aOM,hd,bM,xL,anr,if_neg hp,aGv];cases xL ((l.drop (k+1)).map (·.1)) (mP (lr r).2).2 with
    |none=>rfl
    |some x=>
     simp only[bM,aM,cS];rfl
   ·rw[step,aP hp,ao]
 ·right;obtain rfl:k=l.length:=au;refine⟨Cm (n,m1,u,l.length,L2,v,r,l,os),?_,λkn kx=> ?_⟩
  ·simp only[mu,rq,aa,aH,gW,xL,bK,bJ];rfl
  ·rw[Pf,aP au,ao]
theorem ax8(l:List cr):(l.map alp).map (·.1)=l:=by have:((λx=>x.1)∘alp)=id:=rfl;simp_all
theorem aKi:mN.Ok:=by
 rintro b ⟨hb,hl⟩;have k0:=ayU hb hl;have k1:=afB k0 64;have u1:=afA k0.1 (m:=64) eG;rw[aKh,Wl (d:=b) hl];simp only[ah,bz,aam,bz,am5,Q0];rw[CD (d:=(64,(b,aS,()))) k0.1];simp only[ah,bz,E6];generalize IV 64 (b,aS,())=n at*;have o2:=alw n.1.toNat k1;rw[am7 (d:=(n.1,n.1,0,(0,()),0,(0,()),n.2,[])) ⟨k1,u1.2,0,rfl,eG,rfl,rfl⟩];simp only[ah,Ci,IN,jO,bm,aU];generalize Ft n.1.toNat n.2=ops at*;have k3:=afB o2.1.1 64;have u3:=afA o2.1.1.1 (m:=64) eG;rw[CD (d:=(64,ops.2)) o2.1.1.1];simp only[ah,bz,E6];generalize IV 64 ops.2=m at*;rw[am8 (d:=(n.1,m.1,m.1,0,(0,()),n.1.toNat,0,(0,()),m.2,ops.1.map alp,[])) ⟨k3,u3.2,0,rfl,eG,rfl,rfl⟩];simp only[ah,sU,rn,jO,bm,aU];cases hx:zM m.1.toNat m.2 with
 |none=>rfl
 |some x=>
  have o4:=acY _ k3 hx;have o5:=mV o4.1.1;have ol:(ops.1.map alp).length=n.1.toNat:=by grind
  simp only[dN,cV,ao,ah];rw[kU (d:=x.2) o4.1.1.1];simp only[ah,bz,ra];rw[am9 (d:=(n.1,m.1,(n.1.toNat:Int),0,(0,()),n.1.toNat,x.1.length,((dh x.2).1,()),(dh x.2).2,ops.1.map alp,x.1)) ⟨o5.1.1,by grind,0,rfl,aK _,by rw[ol],by rw[ol],λz hz=>by
   grind [alp]⟩]
  simp only[ah,mu,rq,aW,aO,fe,bm,ax8,aya];cases hy:xL ops.1 (dh x.2).2 with
  |none=>rfl
  |some y=>
   have o6:=afD _ o5.1.1 hy;have yl2:(y.1.map aRT).length=n.1.toNat:=by grind
   simp only[dN,cV,ao,ah,axI];by_cases c1:n.1 < 0
   ·rw[aT c1,ak,if_pos (jH c1)];rfl
   rw[aP c1,ao];by_cases c2:m.1 < 0
   ·rw[aT c2,ak,if_pos (ej (jH c2))];rfl
   rw[aP c2,ao,arx (d:=y.2) trivial];simp only[ah,aen,avY,Bool.not_not];cases c3:y.2.2.1
   ·rw[ao,ai8 (d:=y.2) trivial];simp only[ah,Wg,amC];by_cases c4:0 < y.2.1.length
    ·rw[dj au,ak,if_pos (ej (ej (ej (jH c4))))];rfl
    ·rw[cw au,ao,aI ⟨by trivial,au⟩,aI ⟨by trivial,au⟩,eF yl2,eF rfl,aFJ,aKB];rw[kX (d:=(y.1,x.1,(dh x.2).1,())) ⟨λo ho=>(o4.2.2 o ho).2.2,by grind,by grind⟩];simp only[ah,bz,nG];cases c5:gv (y.1,x.1,(dh x.2).1,())
     ·rw[if_pos (ej (ej (ej (ej (by trivial)))))];rfl
     simp_all [if_neg]
   ·rw[ak,if_pos (ej (ej (jH (by trivial))))];rfl
theorem aDH:mN.RS:=rE [.d tB] mN
def aKj:=mN.fI aKi 4 ⟨.eW asl,⟨.eW asm,⟨.eW asn,⟨.eW aso,trivial⟩⟩⟩⟩
theorem aeG{t:cR}(h:gv t=aL):JM t:=by
 obtain⟨⟨_,a2,a3,_⟩,b1,b2⟩:=iZ h;exact⟨⟨au,λx hx=>by have:=C3 (nj _ _ b1 x hx);omega⟩,au,λo ho=>by
  have:=abY (kK _ _ b2 o ho).2;exact⟨au,λb hb=>by have:=this.2 b hb;omega⟩⟩
theorem Hq{α:Type}{f:α->List Int}{l:List α}(h:∀x∈l,Bytes (f x)):Bytes (l.flatMap f):=λb hb=>by obtain⟨x,hx,hb⟩:=hJ.1 hb;exact h x hx b hb
theorem Kl{α:Type}{f:α->List Int}{n:Nat}:∀ {l:List α},(∀x∈l,(f x).length<=n)->(l.flatMap f).length<=n*l.length
 |[],_=>aK _
 |x::l,h=>by
  rw[dC,ai,aE,Nat.mul_add,hZ];have h1:=h x aC;have h2:=Kl (l:=l) λy hy=>h y (az _ hy)
  omega
theorem ajF{t:cR}(hv:xx t):Bytes (aK4 t)/\(aK4 t).length<=1000000:=by
 cases gb:gv t
 ·unfold aK4;rw[gb];exact⟨λx hx=>(by cases hx),aK _⟩
 obtain⟨⟨a1,a2,a3,a4⟩,b1,b2⟩:=iZ gb;have abB:∀x∈t.1,_:=λx hx=>C3 (nj _ _ b1 x hx)
 rw[aKw gb];have n0:∀ {n:Nat},n<=1000->JE (n:Int):=λh=>wy au
 have e1:∀x∈t.1,Bytes (auG x.1)/\(auG x.1).length<=43:=λx hx=>by have hi:=abB x hx;have hr:=kV x.1.2.1;have hs:=(hv.2.1 x hx).1;exact⟨gr hs.2 (lH ⟨hi.1,au⟩),by unfold auG;rw[ai,hs.1];omega⟩
 have e2:∀o∈t.2.1,Bytes (GP o)/\(GP o).length<=1022:=λo ho=>by have hi:=(kK _ _ b2 o ho).1;have hr:=kV o.1;have asC:=kV (P8 o.2.1).length;have hl:=M5 o.2.1;exact⟨gr (lH ⟨hi.1,au⟩) (gr (lH (n0 hl)) (aAO _)),by unfold GP;rw[ai,ai];omega⟩
 have e3:∀x∈t.1,Bytes (Gc x.2.1)/\(Gc x.2.1).length<=300:=λx hx=>by
  have hi:=abB x hx;have hr:=kV x.2.1.1;have asC:=kV x.2.1.2.1.length;have hf:=Kl (f:=aEk) (n:=16) (l:=x.2.1.2.1) λs _=>by unfold aEk;rw[ai,cl,cl];omega
  refine⟨gr (lH ⟨hi.2.2.1,au⟩) (gr (lH (n0 au)) (gr (Hq λs _=>gr (Gk _) (Gk _)) (Gk _))),?_⟩;unfold Gc;simp only[ai,cl];omega
 have f1:=Kl (f:=λx:gK=>auG x.1) (n:=43) (l:=t.1) λx hx=>(e1 x hx).2
 have f2:=Kl (f:=GP) (n:=1022) (l:=t.2.1) λx hx=>(e2 x hx).2
 have f3:=Kl (f:=λx:gK=>Gc x.2.1) (n:=300) (l:=t.1) λx hx=>(e3 x hx).2
 have r1:=kV t.1.length;have r2:=kV t.2.1.length;have r3:=kV t.2.2.1;refine⟨gr (lH (n0 au)) (gr (Hq λx hx=>(e1 x hx).1) (gr (lH (n0 au)) (gr (Hq λx hx=>(e2 x hx).1) (gr (lH ⟨a4,hv.2.2⟩) (Hq λx hx=>(e3 x hx).1))))),?_⟩;unfold aUh;simp only[ai];omega
section
section
variable {β:Type} {kt:Ty}
theorem Eg(hc:kt.comp=aL)(o o':kt.den)(v:β):∀l:List (kt.den×β),bV kt o (cY kt o' v l)=if kt.beq o o'=aL then aj v else bV kt o l
 |[]=>by rw[si,dQ,nr]
 |p::l=>by
  rw[gG];by_cases h:kt.beq o' p.1=aL
  ·rw[if_pos h,dQ,dQ];have e:=beq_eq kt _ _ hc h;by_cases h2:kt.beq o o'=aL
   ·rw[if_pos h2,if_pos h2]
   ·rw[if_neg h2,if_neg h2,if_neg (by rw[<-e];exact h2)]
  ·rw[if_neg h,dQ,dQ,Eg hc o o' v l];by_cases h3:kt.beq o p.1=aL
   ·rw[if_pos h3,if_pos h3,if_neg];intro h4;apply h;rw[<-beq_eq kt _ _ hc h4];exact h3
   ·rw[if_neg h3,if_neg h3]
theorem axP(hc:kt.comp=aL)(o o':kt.den):∀ {l:List (kt.den×β)},(l.map (·.1)).Nodup->bV kt o (mM kt o' l)=if kt.beq o o'=aL then aF else bV kt o l
 |[],_=>by rw[aA4,nr];split <;> rfl
 |p::l,hn=>by
  rw[bM,ee]at hn;rw[Qf];by_cases h:kt.beq o' p.1=aL
  ·rw[if_pos h,dQ];have e:=beq_eq kt _ _ hc h;by_cases h2:kt.beq o o'=aL
   ·rw[if_pos h2];have e2:=beq_eq kt _ _ hc h2;cases hg:bV kt o l with
    |none=>rfl
    |some v=>exact absurd (eu.2 ⟨_,(lA hc hn.2).1 hg,rfl⟩) (by rw[e2,e];exact hn.1)
   ·rw[if_neg h2,if_neg (by rw[<-e];exact h2)]
  ·rw[if_neg h,dQ,dQ,axP hc o o' hn.2];by_cases h3:kt.beq o p.1=aL
   ·rw[if_pos h3,if_pos h3,if_neg];intro h4;apply h;rw[<-beq_eq kt _ _ hc h4];exact h3
   ·rw[if_neg h3,if_neg h3]
theorem get_none(hc:kt.comp=aL){o:kt.den}{l:List (kt.den×β)}(hn:(l.map (·.1)).Nodup):bV kt o l=aF↔o ∉ l.map (·.1):=by
 constructor
 ·intro h hm;obtain⟨p,hp,e⟩:=eu.1 hm;have e:p.1=o:=e;have:=(lA hc hn (x:=o) (v:=p.2)).2 (by rw[<-e];exact hp);rw[h]at this;cases this
 ·intro h;cases hg:bV kt o l with
  |none=>rfl
  |some v=>exact absurd (eu.2 ⟨_,(lA hc hn).1 hg,rfl⟩) h
theorem Om{l:List (kt.den×β)}(hn:(l.map (·.1)).Nodup):l.Nodup:=by
 induction l with
 |nil=>exact kF
 |cons p l ih=>
  rw[bM,ee]at hn;exact ee.2 ⟨λh=>hn.1 (eu.2 ⟨p,h,rfl⟩),ih hn.2⟩
theorem aqo(hc:kt.comp=aL){l l':List (kt.den×β)}(hn:(l.map (·.1)).Nodup)(hn':(l'.map (·.1)).Nodup)(h:∀o,bV kt o l=bV kt o l'):l.Perm l':=by rw[List.perm_ext_iff_of_nodup (Om hn) (Om hn')];rintro⟨o,v⟩;rw[<-lA hc hn,<-lA hc hn',h]
end
theorem U3(a b:cr):(Ty.beq bX a b=aL)↔a=b:=⟨beq_eq bX a b rfl,λh=>by rw[h];exact beq_refl bX b rfl⟩
abbrev At:=List (cr×fj)
abbrev qd(a:At):List cr:=a.map (·.1)
theorem aP7(o o':cr)(v:fj)(a:At):bV bX o (cY bX o' v a)=if o=o' then aj v else bV bX o a:=by
 rw[Eg gV];by_cases h:o=o'
 ·rw[if_pos ((U3 _ _).2 h),if_pos h]
 ·rw[if_neg (λe=>h ((U3 _ _).1 e)),if_neg h]
theorem aL1(o o':cr){a:At}(hn:(qd a).Nodup):bV bX o (mM bX o' a)=if o=o' then aF else bV bX o a:=by
 rw[axP gV _ _ hn];by_cases h:o=o'
 ·rw[if_pos ((U3 _ _).2 h),if_pos h]
 ·rw[if_neg (λe=>h ((U3 _ _).1 e)),if_neg h]
theorem abt{o:cr}{v:fj}{a:At}(hn:(qd a).Nodup):(qd (cY bX o v a)).Nodup:=XK gV hn
theorem C1{o:cr}{a:At}(hn:(qd a).Nodup):(qd (mM bX o a)).Nodup:=XJ gV hn
theorem aSu{a a':At}(hn:(qd a).Nodup)(hn':(qd a').Nodup)(h:∀o,bV bX o a=bV bX o a'):a.Perm a':=aqo gV hn hn' h
theorem awI{o:cr}{c:fj}{a:At}(hn:(qd a).Nodup)(hg:bV bX o a=aj c):a.Perm ((o,c)::mM bX o a):=by
 refine aSu hn ?_ λx=> ?_
 ·show(o::qd (mM bX o a)).Nodup;refine ee.2 ⟨?_,C1 hn⟩;have:=(get_none gV (C1 (o:=o) hn)).1 (by rw[aL1 o o hn,if_pos rfl]);exact this
 ·rw[dQ,aL1 x o hn];by_cases h:x=o
  ·subst h;rw[if_pos ((U3 _ _).2 rfl),hg]
  ·rw[if_neg (λe=>h ((U3 _ _).1 e)),if_neg h]
theorem Ve(o:cr)(l:List cr)(a:At):Zk (o::l) a=Zk l (mM bX o a):=rfl
theorem PK:∀(l:List cr) {a:At},(qd a).Nodup->(qd (Zk l a)).Nodup
 |[],_,h=>h
 |o::l,a,h=>by rw[Ve];exact PK l (C1 h)
theorem aoO(x:cr):∀(l:List cr) {a:At},(qd a).Nodup->bV bX x (Zk l a)=if x∈l then aF else bV bX x a
 |[],a,_=>by rw[if_neg (by simp)];rfl
 |o::l,a,h=>by
  rw[Ve,aoO x l (C1 h),aL1 x o h];by_cases h1:x∈l
  ·rw[if_pos h1,if_pos (az _ h1)]
  ·rw[if_neg h1];by_cases h2:x=o
   ·rw[if_pos h2,if_pos (by rw[h2];exact aC ..)]
   ·rw[if_neg h2,if_neg (by simp[h1,h2])]
theorem MI(h:Int)(o:cr)(l:List cr)(x:gX)(xs:List gX)(a:At):UW h (o::l) (x::xs) a=UW h l xs (cY bX o (x,(h,())) a):=rfl
theorem aax(h:Int):∀(l:List cr) (xs:List gX) {a:At},(qd a).Nodup->(qd (UW h l xs a)).Nodup
 |[],[],_,hn=>hn
 |[],_::_,_,hn=>hn
 |_::_,[],_,hn=>hn
 |o::l,x::xs,a,hn=>by rw[MI];exact aax h l xs (abt hn)
theorem aoM(h:Int)(x:cr):∀(l:List cr) (xs:List gX) (a:At),x ∉ l->bV bX x (UW h l xs a)=bV bX x a
 |[],[],_,_=>rfl
 |[],_::_,_,_=>rfl
 |_::_,[],_,_=>rfl
 |o::l,y::xs,a,hx=>by rw[MI,aoM h x l xs _ (λe=>hx (az _ e)),aP7,if_neg (λe=>hx (by rw[e];exact aC ..))]
theorem aoN(h:Int):∀(l:List cr) (xs:List gX) (a:At),l.Nodup->∀(k:Nat) (hk:k < l.length) (asB:k < xs.length),bV bX l[k] (UW h l xs a)=aj (xs[k],(h,()))
 |[],_,_,_,k,hk,_=>by simp at hk
 |_::_,[],_,_,k,_,hk=>by simp at hk
 |o::l,y::xs,a,hn,k,hk,asB=>by
  rw[ee]at hn;rw[MI];cases k with
  |zero=>
   show bV bX o _=aj (y,(h,()));rw[aoM h o l xs _ hn.1,aP7,if_pos rfl]
  |succ k=>
   simp only[List.getElem_cons_succ];exact aoN h l xs _ hn.2 k (by simpa using hk) (by simpa using asB)
def AG(a:At)(l:List cr):Int:=(l.map λo=>((bV bX o a).getD aKP).1.1).sum
theorem aov:∀(l:List cr) {a:At},(qd a).Nodup->l.Nodup->(∀o∈l,(bV bX o a).isSome=aL)->AW (Zk l a)=AW a - AG a l/\(Zk l a).length+l.length=a.length
 |[],a,_,_,_=>by simp[Zk,AG]
 |o::l,a,hn,hl,ht=>by
  rw[ee]at hl;obtain⟨c,hc⟩:=Option.isSome_iff_exists.1 (ht o (aC ..));have hg:∀x∈l,bV bX x (mM bX o a)=bV bX x a:=λx hx=>by rw[aL1 x o hn,if_neg (λe=>hl.1 (by rw[<-e];exact hx))]
  obtain⟨h1,h2⟩:=aov l (C1 (o:=o) hn) hl.2 λx hx=>by rw[hg x hx];exact ht x (az _ hx)
  have hp:=awI hn hc;have h3:=ahG hp;have h4:=hp.length_eq;have h5:AG (mM bX o a) l=AG a l:=by unfold AG;congr 1;exact eY λx hx=>by rw[hg x hx]
  rw[rM]at h3;rw[aE]at h4;rw[Ve,h1,h5,aE];have h6:AG a (o::l)=c.1.1+AG a l:=by simp[AG,hc]
  rw[h6];exact⟨by have h3:AW a=c.1.1+AW (mM bX o a):=h3;omega,au⟩
theorem vB(x:gX)(xs:List gX):iN (x::xs)=x.1+iN xs:=by simp[iN]
theorem anH(h:Int):∀(l:List cr) (xs:List gX) {a:At},(qd a).Nodup->l.Nodup->l.length=xs.length->(∀o∈l,bV bX o a=aF)->AW (UW h l xs a)=AW a+iN xs/\(UW h l xs a).length=a.length+l.length
 |[],[],a,_,_,_,_=>by simp[UW,iN]
 |[],_::_,_,_,_,he,_=>by simp at he
 |_::_,[],_,_,_,he,_=>by simp at he
 |o::l,x::xs,a,hn,hl,he,ht=>by
  rw[ee]at hl;have h0:=(get_none gV hn).1 (ht o (aC ..));have e:cY bX o (x,(h,())) a=a++ [(o,(x,(h,())))]:=Ev gV h0;obtain⟨h1,h2⟩:=anH h l xs (abt (o:=o) (v:=(x,(h,()))) hn) hl.2 (by simpa using he) λy hy=>by rw[aP7,if_neg (λe=>hl.1 (by rw[<-e];exact hy))];exact ht y (az _ hy)
  rw[MI,h1,h2,e,anK,vB,ai];simp only[AW,bM,gW,jb,List.sum_nil,aE,bq];omega
theorem abM:∀(l:List gK) (m:List (cr×Bool)),Gz m l=aL->(l.map (·.1)).Nodup/\∀x∈l,bV bX x.1 m≠aj aL
 |[],_,_=>⟨kF,λ_ h=>by cases h⟩
 |x::l,m,h=>by
  rw[Gz,ax,ax]at h;obtain⟨⟨h1,_⟩,h2⟩:=h;obtain⟨h3,h4⟩:=abM l _ h2;have hs:∀y∈l,bV bX y.1 (cY bX x.1 aL m)≠aj aL:=h4;have kJ:∀y∈l,y.1≠x.1:=λy hy e=>hs y hy (by rw[Eg gV,if_pos ((U3 _ _).2 e)])
  refine⟨?_,λy hy=> ?_⟩
  ·rw[bM,ee];refine⟨λhm=> ?_,h3⟩;obtain⟨y,hy,e⟩:=eu.1 hm;exact kJ y hy e
  ·rcases bI.1 hy with rfl | hy
   ·intro e;unfold Od at h1;rw[e]at h1;cases h1
   ·have:=hs y hy;rw[Eg gV,if_neg (λe=>kJ y hy ((U3 _ _).1 e))]at this;exact this
theorem amQ(t:cR):(da t).Nodup:=by
 unfold da;split
 ·rename_i h;exact(abM _ _ (iZ h).2.1).1
 ·exact kF
theorem ab7(t:cR):(gl t).Nodup:=by
 unfold gl;split
 ·unfold GD;refine List.Pairwise.map _ (λa b kJ e=> ?_) (List.nodup_range' (s:=0) (n:=t.2.1.length) (step:=1));have:(a:Int)=b:=congrArg (λo:cr=>o.2.1) e;exact kJ au
 ·exact kF
theorem abK{h:Int}{id:List Int}{a:At}:∀(l:List gK) (f0 f:Int),By h id a l f0= .inr f->(∀o∈l.map (·.1),(bV bX o a).isSome=aL)/\f=f0+AG a (l.map (·.1))
 |[],f0,f,e=>by simp only[By,Sum.inr.injEq]at e;subst e;simp[AG]
 |x::l,f0,f,e=>by
  simp only[By]at e;cases hg:bV bX x.1 a with
  |none=>rw[hg]at e;cases e
  |some c=>
   rw[hg]at e;simp only at e;split at e
   ·cases e
   ·obtain⟨h1,h2⟩:=abK l _ _ e;refine⟨λo ho=> ?_,?_⟩
    ·rw[bM]at ho;rcases bI.1 ho with rfl | ho
     ·rw[hg];rfl
     ·exact h1 o ho
    ·rw[h2];simp only[AG,bM,jb,hg,eB];omega
structure xM(t:cR)(h:Int)(a:At)(kq:Int):Prop where
 ok:gv t=aL
 h1:1<=h
 h2:h<=1048576
 ins:∃f,By h (sX t) a t.1 0= .inr f/\kq=f - iN t.2.1
 there:∀o∈da t,(bV bX o a).isSome=aL
 made:∀o∈gl t,bV bX o a=aF
 aSo:kq=AG a (da t) - iN t.2.1
 pos:0<=kq
theorem ZU{t:cR}{h:Int}{a:At}(e:(eM t h a).2=0):xM t h a (eM t h a).1:=by
 obtain⟨gb,h1,h2,f,hi,hm,hp,hc⟩:=ahQ e;obtain⟨i1,i2⟩:=abK _ _ _ hi;have hs:da t=t.1.map (·.1):=by unfold da;rw[if_pos gb]
 rw[hc];refine⟨gb,h1,h2,⟨f,hi,rfl⟩,by rw[hs];exact i1,λo ho=> ?_,by rw[hs,i2];show 0+_ - _=_;omega,hp⟩;have:=List.any_eq_false.1 hm o ho;unfold yG at this;cases hg:bV bX o a with
 |none=>rfl
 |some c=>rw[hg]at this;simp at this
section
variable {t:cR} {h kq:Int} {a:At}
theorem xM.aTz(hc:xM t h a kq)(ha:(qd a).Nodup){o:cr}(ho:o∈da t):bV bX o (jI t h a)=aF:=by
 have hm:o ∉ gl t:=λe=>by have:=hc.there o ho;rw[hc.made o e]at this;cases this
 unfold jI;rw[aoM h o _ _ _ hm,aoO o _ ha,if_pos ho]
theorem xM.new(hc:xM t h a kq){k:Nat}(hk:k < (gl t).length)(asB:k < t.2.1.length):bV bX (gl t)[k] (jI t h a)=aj (t.2.1[k],(h,())):=by unfold jI;exact aoN h _ _ _ (ab7 t) k hk asB
theorem Rs(ha:(qd a).Nodup){o:cr}(h1:o ∉ da t)(h2:o ∉ gl t):bV bX o (jI t h a)=bV bX o a:=by unfold jI;rw[aoM h o _ _ _ h2,aoO o _ ha,if_neg h1]
theorem Rq(ha:(qd a).Nodup):(qd (jI t h a)).Nodup:=aax h _ _ (PK _ ha)
theorem xM.sum(hc:xM t h a kq)(ha:(qd a).Nodup):AW (jI t h a)=AW a - kq/\(jI t h a).length+t.1.length=a.length+t.2.1.length:=by
 obtain⟨d1,d2⟩:=aov (da t) ha (amQ t) hc.there;obtain⟨e1,e2⟩:=anH h (gl t) t.2.1 (PK (da t) ha) (ab7 t) (xW hc.ok) λo ho=>by
  rw[aoO o _ ha];split
  ·rfl
  ·exact hc.made o ho
 have hf:=hc.aSo;have hl:=abL hc.ok;have hm:=xW hc.ok;unfold jI;rw[e1,e2,d1];exact⟨au,au⟩
theorem xM.J7(hc:xM t h a kq)(ha:anE a)(hv:xx t):anE (jI t h a):=by
 refine⟨Rq ha.1,λp hp=> ?_⟩;have hg:=(lA gV (Rq (t:=t) (h:=h) ha.1) (x:=p.1) (v:=p.2)).2 hp;by_cases h2:p.1∈gl t
 ·obtain⟨k,hk,e⟩:=List.getElem_of_mem h2;have asB:k < t.2.1.length:=by rw[<-xW hc.ok];exact hk
  rw[<-e,hc.new hk asB]at hg;have hg:=(bh hg).symm;have ho:=kK _ _ (iZ hc.ok).2.2 _ (aR asB);have hu:=hv.1.1 _ (aR asB);have h1:=hc.h1;have h3:=hc.h2;refine⟨?_,?_⟩
  ·rw[<-e];have hm:gl t=GD (sX t) 0 t.2.1.length:=by unfold gl;rw[if_pos hc.ok]
   simp only[hm,GD,List.getElem_map];have:=(afu (t:=t));exact⟨this.1,λx hx=>this.2 x hx⟩
  ·rw[hg];exact⟨ho.2,hu.1,ho.1.1,ho.1.2,by show 0<=h;omega,h3⟩
 ·by_cases h1:p.1∈da t
  ·rw[hc.aTz ha.1 h1]at hg;cases hg
  ·rw[Rs ha.1 h1 h2]at hg;exact ha.2 p ((lA gV ha.1).1 hg)
end
end
abbrev aeV:Ty:=(.pair dz (.pair tH (.pair ti (.pair ti .unit))))
abbrev tj:=(cR×(Bs×(Int×(Int×Unit))))
abbrev cd:Ty:=(.gF aeV)
abbrev bN:=(Option (Nat×tj))
abbrev Mk:=List (bN×Bool)
abbrev NN:=List (Bs×bN)
def cX(m:Mk)(x:bN):Bool:=(bV cd x m).getD aS
def xv(q:NN)(i:gK):bN:=(bV tH i.1.1 q).getD aF
def mL(q:NN)(rec:cR->Mk->Mk):List gK->Mk->Mk
 |[],m=>m
 |i::l,m=>mL q rec l (match xv q i with
  |none=>m
  |some x=>if cX m (aj x)=aL then m else if i.1.2.1 < 0 then m else if i.1.2.1>=(x.2.1.2.1.length:Int) then m else rec x.2.1 (cY cd (aj x) aL m))
def tr(q:NN):Nat->cR->Mk->Mk
 | 0,_,m=>m
 |d+1,t,m=>mL q (tr q d) t.1 m
def Fc(q:NN)(m:Mk):Nat:=(q.filter λp=> !cX m p.2).length
theorem ar9:cd.comp=aL:=rfl
theorem I3(a b:bN):(Ty.beq cd a b=aL)↔a=b:=⟨beq_eq cd a b rfl,λh=>by rw[h];exact beq_refl cd b rfl⟩
theorem sh(m:Mk)(x y:bN):cX (cY cd x aL m) y=(Ty.beq cd y x || cX m y):=by
 unfold cX;rw[Eg ar9];split
 ·rename_i h;rw[h];rfl
 ·rename_i h;rw[fi.2 h];rfl
theorem acm{kt:Ty}{β:Type}{o:kt.den}{v:β}:∀ {l:List (kt.den×β)},bV kt o l=aj v->∃p∈l,p.2=v
 |[],h=>by rw[nr]at h;cases h
 |p::l,h=>by
  rw[dQ]at h;split at h
  ·exact⟨p,aC,bh h⟩
  ·obtain⟨r,h1,h2⟩:=acm h;exact⟨r,az _ h1,h2⟩
theorem MF{q:NN}{i:gK}{x:Nat×tj}(h:xv q i=aj x):∃p∈q,p.2=aj x:=by
 unfold xv at h;cases hg:bV tH i.1.1 q with
 |none=>rw[hg]at h;cases h
 |some v=>
  rw[hg]at h;obtain⟨p,h1,h2⟩:=acm hg;exact⟨p,h1,h2.trans h⟩
theorem aj5{q:NN}{m:Mk}{x:Nat×tj}(hm:cX m (aj x)=aS)(hx:∃p∈q,p.2=aj x):Fc q (cY cd (aj x) aL m) < Fc q m:=by
 obtain⟨p,hp,aRN⟩:=hx;have hle:∀l:NN,(l.filter λp=> !cX (cY cd (aj x) aL m) p.2).length<=(l.filter λp=> !cX m p.2).length:=λl=>by
  induction l with
  |nil=>exact aB _
  |cons a l ih=>
   rw[iV,iV,sh];cases Ty.beq cd a.2 (aj x) <;> cases cX m a.2 <;> simp only[Bool.or_true,tf,ot,bY,dK,bE,bw,bp,aE] <;> omega
 unfold Fc
 induction q with
 |nil=>cases hp
 |cons a l ih=>
  rw[iV,iV,sh];rcases bI.1 hp with rfl | hp
  ·have e:Ty.beq cd p.2 (aj x)=aL:=(I3 _ _).2 aRN;have e2:cX m p.2=aS:=by rw[aRN];exact hm
   rw[e,e2];have:=hle l;simp only[tf,bY,dK,bE,bw,bp,aE];omega
  ·have:=ih hp;cases Ty.beq cd a.2 (aj x) <;> cases cX m a.2 <;> simp only[Bool.or_true,tf,ot,bY,dK,bE,bw,bp,aE] <;> omega
theorem aix{q:NN}{rec:cR->Mk->Mk}(hr:∀t m,Fc q (rec t m)<=Fc q m):∀(l:List gK) (m:Mk),Fc q (mL q rec l m)<=Fc q m
 |[],m=>aB _
 |i::l,m=>by
  rw[mL];refine Nat.le_trans (aix hr l _) ?_
  cases hu:xv q i with
  |none=>exact aB _
  |some x=>
   simp only;split
   ·exact aB _
   ·rename_i h1;split
    ·exact aB _
    ·split
     ·exact aB _
     ·exact Nat.le_trans (hr _ _) (Nat.le_of_lt (aj5 (fi.2 h1) (MF hu)))
theorem VJ(q:NN):∀(d:Nat) (t:cR) (m:Mk),Fc q (tr q d t m)<=Fc q m
 | 0,_,m=>aB _
 |d+1,t,m=>aix (λt m=>VJ q d t m) t.1 m
theorem vy{q:NN}{r1 r2:cR->Mk->Mk}{d:Nat}(hr:∀t m,Fc q (r2 t m)<=Fc q m)(he:∀t m,Fc q m < d->r1 t m=r2 t m):∀(l:List gK) (m:Mk),Fc q m<=d->mL q r1 l m=mL q r2 l m
 |[],m,_=>rfl
 |i::l,m,hd=>by
  rw[mL,mL];cases hu:xv q i with
  |none=>exact vy hr he l m hd
  |some x=>
   simp only;by_cases h1:cX m (aj x)=aL
   ·rw[if_pos h1,if_pos h1];exact vy hr he l m hd
   rw[if_neg h1,if_neg h1];by_cases h2:i.1.2.1 < 0
   ·rw[if_pos h2,if_pos h2];exact vy hr he l m hd
   rw[if_neg h2,if_neg h2];by_cases h3:i.1.2.1>=(x.2.1.2.1.length:Int)
   ·rw[if_pos h3,if_pos h3];exact vy hr he l m hd
   have hc:=aj5 (fi.2 h1) (MF hu);rw[if_neg h3,if_neg h3,he _ _ au];exact vy hr he l _ (by have:=hr x.2.1 (cY cd (aj x) aL m);omega)
theorem apy(q:NN):∀(d:Nat) (t:cR) (m:Mk),Fc q m < d->tr q (d+1) t m=tr q d t m
 | 0,_,_,h=>absurd h (jG _)
 |d+1,t,m,h=>vy (d:=d) (λt m=>VJ q d t m) (λt m h=>apy q d t m h) t.1 m au
def QG(q:NN):Prop:=∀p∈q,∃w,p.2=aj w/\w.2.1.1.length<=64
abbrev Dz:=(List gK)×Int×Int×(List (Bs×bN))×(List (bN×Bool))
def jq:Dz->AS:=λ(t9,t10,t11,jJ,gJ)=>⟨([bC,.ptr (.bW 0) 0 [] 0,.ptr (.bW 2) 0 [] 0,.ptr (.bW 4) 0 [] 0]++aQ 5 ([.d (.slice fo) t9,.d ti t10,.d ti t11]++aQ 42 [])),[cO (.cK (.bW 1) 0),cO (.mp tH cd jJ),cO (.cK (.bW 3) 0),cO (.mp cd .bool gJ),cO (.fn 71 (.cons (.ptr (.bW 0) 0 [] 0) (.cons (.ptr (.bW 2) 0 [] 0) (.cons (.ptr (.bW 4) 0 [] 0) (.nil)))))],(ae 54 [])⟩
abbrev EC:=(List (Bs×bN))×(List (bN×Bool))
def B2:EC->Exit×AS:=λx=>(.exit 0,⟨(aQ 54 []),[cO (.cK (.bW 1) 0),cO (.mp tH cd x.1),cO (.cK (.bW 3) 0),cO (.mp cd .bool x.2),cO (.fn 71 (.cons (.ptr (.bW 0) 0 [] 0) (.cons (.ptr (.bW 2) 0 [] 0) (.cons (.ptr (.bW 4) 0 [] 0) (.nil)))))],(ae 54 [])⟩)
def Tu:EC->Out (Exit×AS):=λx=> .ok (B2 x)
def sz:Dz->((List (Bs×bN))×(List (bN×Bool)))->EC:=λ(t9,t10,t11,jJ,gJ) y=>y
abbrev B0:=cR×(List (Bs×bN))×(List (bN×Bool))
def wF:B0->SA:=λ(t,o1,o3)=>([.d dz t,.ptr (.bW 0) 0 [] 0,.ptr (.bW 2) 0 [] 0,.ptr (.bW 4) 0 [] 0],[cO (.cK (.bW 1) 0),cO (.mp tH cd o1),cO (.cK (.bW 3) 0),cO (.mp cd .bool o3),cO (.fn 71 (.cons (.ptr (.bW 0) 0 [] 0) (.cons (.ptr (.bW 2) 0 [] 0) (.cons (.ptr (.bW 4) 0 [] 0) (.nil)))))])
abbrev ayH:=(List (Bs×bN))×(List (bN×Bool))
abbrev aak:=(List (Bs×bN))×(List (bN×Bool))
def V2:aak->ja:=λx=>⟨.nil,[cO (.cK (.bW 1) 0),cO (.mp tH cd x.1),cO (.cK (.bW 3) 0),cO (.mp cd .bool x.2),cO (.fn 71 (.cons (.ptr (.bW 0) 0 [] 0) (.cons (.ptr (.bW 2) 0 [] 0) (.cons (.ptr (.bW 4) 0 [] 0) (.nil)))))],[]⟩
def GR:B0->ayH->aak:=λ(t,o1,o3) y=>y
def B1(dep:Nat):Dz->Prop:=λ(l,n,i,q,m)=>l.length<=64/\QG q/\(Fc q m<=dep/\dep < 200)/\n=(l.length:Int)/\∃k:Nat,k<=l.length/\i=k
def yh:Dz->((List (Bs×bN))×(List (bN×Bool))):=λ(l,_,i,q,m)=>(q,mL q (tr q 1000) (l.drop i.toNat) m)
def Ni:Nat->B0->Prop
 | 0=>λ_=>False
 |dep+1=>λ(t,q,m)=>t.1.length<=64/\QG q/\Fc q m<=dep/\dep < 200
def Tr:B0->ayH:=λ(t,q,m)=>(q,tr q 1001 t m)
theorem aiU:∀d d',wF d=wF d'->d=d':=abI [.d dz,.d (.slice (.pair tH cd)),.d (.slice (.pair cd .bool))] λ_=>cf
def Tv(dep:Nat):Entry:=Entry.of [aj dz,aF,aF,aF] wF (Ni dep) (λd=>GR d (Tr d)) V2
def Yi(dep:Nat):B0->Option aak:=λd=>(Tv dep).run (wF d).1 (wF d).2
theorem au9{dep:Nat}{d:B0}(h:Ni dep d):Yi dep d=aj (GR d (Tr d)):=Entry.wz aiU h
def aaj(dep:Nat):pb:=ah9 71 qb (Tv dep) (jB (P:=Tryz.prog) [])
def adv(dep:Nat):=du.eW jq (B1 dep) sz yh Tu
def OD(dep:Nat):Dz->Option EC:=fP (adv dep) jq
def Tw(dep:Nat):Ae:= {loops:=oI [(2,{aV:=[1,2,3,9,10,11]})],outs:=oH [(2,{},{})],fE:=pW [(2,adv dep)]}
def ayF(dep:Nat):= @Rl Tryz.prog (aaj dep) (Tw dep) 0 Tryz.f71 _ wF
def QK(dep:Nat):= @dV Tryz.prog (aaj dep) (Tw dep) 0 Tryz.f71 0 _ jq
abbrev Yh(dep:Nat):=jh Tryz.prog (aaj dep) (Tw dep) 0 Tryz.f71 0 jq (B1 dep) sz yh Tu
theorem alS{dep:Nat}:iy (OD dep) (B1 dep) sz yh:=kz (jC [.d (.slice fo),.d ti,.d ti,.d (.slice (.pair tH cd)),.d (.slice (.pair cd .bool))] λ_=>cf)
theorem Tt(dep:Nat):azd (@QK dep) jq (B1 dep) sz yh B2 (Yh dep):=aLv
theorem pF(dep t9 t10 t11 jJ gJ)(kn:K2 R)(kx:K3 R):QK dep (t9,t10,t11,jJ,gJ) kn kx=aG (fL t11 t10) (aG (eE t11 (((List.length t9):Nat):Int)) (aG (Option.isNone ((bV tH (nth fo t9 (ab t11)).1.1 jJ).getD aF)) (kn (jq (t9,t10,(bA .i64 t11 (1:Int)),jJ,gJ))) (aG ((bV cd ((bV tH (nth fo t9 (ab t11)).1.1 jJ).getD aF) gJ).getD aS) (kn (jq (t9,t10,(bA .i64 t11 (1:Int)),jJ,gJ))) (aG (fL (nth fo t9 (ab t11)).1.2.1 (0:Int)) (kn (jq (t9,t10,(bA .i64 t11 (1:Int)),jJ,gJ))) (al (((bV tH (nth fo t9 (ab t11)).1.1 jJ).getD aF)) λx1=>aG (D4 (nth fo t9 (ab t11)).1.2.1 (((List.length x1.2.1.2.1):Nat):Int)) (kn (jq (t9,t10,(bA .i64 t11 (1:Int)),jJ,gJ))) (al (((bV tH (nth fo t9 (ab t11)).1.1 jJ).getD aF)) λx2=>al (Yi dep (x2.2.1,jJ,(cY cd ((bV tH (nth fo t9 (ab t11)).1.1 jJ).getD aF) aL gJ))) λx3=>kn (jq (t9,t10,(bA .i64 t11 (1:Int)),x3.1,x3.2))))))) aF) (kx (B2 (jJ,gJ)).1 (B2 (jJ,gJ)).2):=cf
theorem aIz(dep t o1 o3)(k:K1 R):ayF dep (t,o1,o3) k=al (OD dep (t.1,(((List.length t.1):Nat):Int),(0:Int),o1,o3)) λx4=>k (V2 (x4.1,x4.2)):=cf
theorem aqB(dep:Nat):Yh dep:=by
 refine Tt dep (λ(l,_,i,_,_)=>l.length - i.toNat) ?_
 rintro⟨l,n,i,q,m⟩ ⟨hl,hq,⟨hc,hd⟩,rfl,k,hk,rfl⟩;have hl:l.length<=64:=hl;have hk:k<=l.length:=hk;have hc:Fc q m<=dep:=hc;by_cases h:k < l.length
 ·left;have n1:nth fo l k=l[k]:=cj (t:=fo) h;have aXH:l.drop k=l[k]::l.drop (k+1):=aq h;obtain⟨i,hi⟩:∃i,l[k]=i:=⟨_,rfl⟩;have a4:(bV tH i.1.1 q).getD aF=xv q i:=rfl
  suffices hx:∃m':Mk,Fc q m'<=dep/\mL q (tr q 1000) (l.drop (k+1)) m'=mL q (tr q 1000) (l.drop k) m/\∀ {R:Type} (kn:AS->Option R) (kx:Exit->AS->Option R),QK dep (l,(l.length:Int),(k:Int),q,m) kn kx=kn (jq (l,(l.length:Int),((k+1:Nat):Int),q,m')) by obtain⟨m',hm',he,hs⟩:=hx;refine⟨(l,(l.length:Int),((k+1:Nat):Int),q,m'),⟨hl,hq,⟨hm',hd⟩,rfl,k+1,h,rfl⟩,by simp only[aa];omega,?_,hs⟩;simp only[sz,yh,aa,he]
  have hL:mL q (tr q 1000) (l.drop k) m=mL q (tr q 1000) (l.drop (k+1)) (match xv q i with
   |none=>m
   |some x=>if cX m (aj x)=aL then m else if i.1.2.1 < 0 then m else if i.1.2.1>=(x.2.1.2.1.length:Int) then m else tr q 1000 x.2.1 (cY cd (aj x) aL m)):=by rw[aXH,hi,mL]
  cases hu:xv q i with
  |none=>
   rw[hu]at hL;refine⟨m,hc,hL.symm,λkn kx=> ?_⟩;rw[pF,aT au,ak,aZ au au,ak,aa,n1,hi,a4,hu,N.lh au];rfl
  |some x=>
   rw[hu]at hL;simp only at hL;have a5:(bV cd (aj x) m).getD aS=cX m (aj x):=rfl;by_cases h1:cX m (aj x)=aL
   ·rw[if_pos h1]at hL;refine⟨m,hc,hL.symm,λkn kx=> ?_⟩;rw[pF,aT au,ak,aZ au au,ak,aa,n1,hi,a4,hu,N.lh au,a5,h1];rfl
   rw[if_neg h1]at hL;have h1:=fi.2 h1;by_cases h2:i.1.2.1 < 0
   ·rw[if_pos h2]at hL;refine⟨m,hc,hL.symm,λkn kx=> ?_⟩;rw[pF,aT au,ak,aZ au au,ak,aa,n1,hi,a4,hu,N.lh au,a5,h1,aT h2];rfl
   rw[if_neg h2]at hL;by_cases h3:i.1.2.1>=(x.2.1.2.1.length:Int)
   ·rw[if_pos h3]at hL;refine⟨m,hc,hL.symm,λkn kx=> ?_⟩;rw[pF,aT au,ak,aZ au au,ak,aa,n1,hi,a4,hu,N.lh au,a5,h1,aP h2,ah,gA h3];rfl
   rw[if_neg h3]at hL;have hs:=aj5 h1 (MF hu);obtain⟨p,hp,aRN⟩:=MF hu;obtain⟨w,hw,aVi⟩:=hq p hp;obtain rfl:w=x:=bh (hw.symm.trans aRN);obtain⟨e,rfl⟩:∃e,dep=e+1:=⟨dep - 1,au⟩;have P3:tr q 1001 w.2.1 (cY cd (aj w) aL m)=tr q 1000 w.2.1 (cY cd (aj w) aL m):=apy q 1000 _ _ au;refine⟨tr q 1000 w.2.1 (cY cd (aj w) aL m),by have:=VJ q 1000 w.2.1 (cY cd (aj w) aL m);omega,hL.symm,λkn kx=> ?_⟩;rw[pF,aT au,ak,aZ au au,ak,aa,n1,hi,a4,hu,N.lh au,a5,h1,aP h2,ah,eD h3,ah,au9 (dep:=e+1) (d:=(w.2.1,q,cY cd (aj w) aL m)) ⟨aVi,hq,by show Fc q (cY cd (aj w) aL m)<=e;omega,au⟩];simp only[Option.isNone_some,ao,ah,GR,Tr,P3]
 ·right;obtain rfl:k=l.length:=au;intro R kn kx;rw[pF,aP au,ao];simp only[sz,yh,aa,aH,mL]
theorem aIA:∀(dep:Nat) (d:B0),Ni (dep+1) d->ayF dep d aj=aj (V2 (GR d (Tr d))):=by rintro dep ⟨t,q,m⟩ ⟨hl,hq,hc,hd⟩;rw[aIz,alS (d:=(t.1,(t.1.length:Int),0,q,m)) ⟨hl,hq,⟨hc,hd⟩,rfl,0,aK _,rfl⟩];rfl
def ayG:Entry:=Tv 120
def adw:B0->Option aak:=NS ayG wF
theorem aBW{d:B0}(h:Ni 120 d):adw d=aj (GR d (Tr d)):=show(Tv 120).run (wF d).1 (wF d).2=_ from Entry.wz aiU h
def aBV:Ae:= {}
theorem Yj:∀dep,tg Tryz.prog 71 (Tv dep)
 | 0=>tg.of (an:=aBV) (N:=0) (fn:=Tryz.f71) cf (show Sound _ aGj from Sound.nil _) cf cf cf (kA.fn 1 cf (And.intro (.none cf) trivial)) (λ_ h=>False.elim h)
 |dep+1=>tg.of (an:=Tw dep) (N:=0) (fn:=Tryz.f71) cf (show Sound _ (aaj dep) from Sound.cons (D6.of (Yj dep) (by rfl)) (Sound.jB (P:=Tryz.prog) [])) cf cf cf (kA.fn 1 cf (And.intro (.eW (aqB dep) cf) trivial)) (aIA dep)
def aIB:SG Tryz.prog:=⟨71,qb,ayG,.of (Yj 120) (by rfl)⟩
abbrev KB:=cR×(List bN)×Int×Int×(List (Bs×bN))
abbrev XS:=(List (Bs×bN))
def yN:KB->XS->((cR)×((List (Bs×bN)))):=λ(il,t11,t12,t13,I9) y=>(il,y)
abbrev aqb:=(List bN)×cR
def Ro(m:NN)(x:bN):NN:=match x with | none=>m | some w=>cY tH w.2.2.1 (aj w) m
def tK(row:List bN):NN:=row.foldl Ro []
def dF(row:List bN)(t:cR):Mk:=tr (tK row) 1001 t []
def azg(row:List bN):Prop:=row.length<=100/\∀x∈row,∃w,x=aj w/\w.2.1.1.length<=64
def auL:aqb->Prop:=λ(row,t)=>azg row/\t.1.length<=64
def KA:aqb->((List (bN×Bool))):=λ(row,t)=>dF row t
theorem M9{kt:Ty}{β:Type}(o:kt.den)(v:β):∀l:List (kt.den×β),(cY kt o v l).length<=l.length+1
 |[]=>by rw[si];exact aB _
 |p::l=>by
  rw[gG];split
  ·simp only[aE];omega
  ·have:=M9 o v l;simp only[aE];omega
theorem aiD{kt:Ty}{β:Type}{P:β->Prop}(o:kt.den){v:β}(hv:P v):∀ {l:List (kt.den×β)},(∀p∈l,P p.2)->∀p∈cY kt o v l,P p.2
 |[],_,p,hp=>by rw[si]at hp;obtain rfl:=aY.1 hp;exact hv
 |a::l,hl,p,hp=>by
  rw[gG]at hp;split at hp
  ·rcases bI.1 hp with rfl | hp
   ·exact hv
   ·exact hl p (az _ hp)
  ·rcases bI.1 hp with rfl | hp
   ·exact hl _ aC
   ·exact aiD o hv (λp hp=>hl p (az _ hp)) p hp
theorem aJB:∀(l:List bN) (m:NN),(∀x∈l,∃w,x=aj w/\w.2.1.1.length<=64)->QG m->QG (l.foldl Ro m)/\(l.foldl Ro m).length<=m.length+l.length
 |[],m,_,hm=>⟨hm,aB _⟩
 |x::l,m,hx,hm=>by obtain⟨w,rfl,hw⟩:=hx _ aC;have h1:QG (cY tH w.2.2.1 (aj w) m):=aiD (kt:=tH) (P:=λv:bN=>∃w,v=aj w/\w.2.1.1.length<=64) _ ⟨w,rfl,hw⟩ hm;have h2:=M9 (kt:=tH) w.2.2.1 (aj w:bN) m;have ih:=aJB l (cY tH w.2.2.1 (aj w) m) (λx hx'=>hx x (az _ hx')) h1;refine⟨ih.1,Nat.le_trans ih.2 ?_⟩;rw[aE];omega
theorem aQ4{row:List bN}(h:azg row)(m:Mk):QG (tK row)/\Fc (tK row) m<=100:=by have g:=aJB row [] h.2 (λp hp=>by cases hp);refine⟨g.1,Nat.le_trans (List.length_filter_le _ _) ?_⟩;have h1:=g.2;have h2:=h.1;have h0:([]:NN).length=0:=rfl;show(row.foldl Ro []).length<=100;omega
def agk:KB->Prop:=λ(t,l,n,i,m)=>(l).length<=1000000000/\∃k:Nat,k<=(l).length/\i=k/\n=(l).length/\(∀x∈l,∃w,x=aj w/\w.2.1.1.length<=64)
def Ey:KB->XS:=λ(t,l,n,i,m)=>(bt (ab i) l).foldl Ro m
def sw:Ls agk yN Ey:=te (λ(il,t11,t12,t13,I9)=>⟨([bC,bC,bC,.dx dz il,bC,dP 5]++aQ 5 ([.d (.slice cd) t11,.d ti t12,.d ti t13]++aQ 16 [])),[],(bk 5 ([cJ (.cK (.new 10 0) 0)]++bk 4 ([cJ (.mp tH cd I9)]++bk 19 [])))⟩) (λx=>(.exit 0,⟨([bC,bC,bC,.dx dz x.1,bC,dP 5]++aQ 24 []),[],(bk 5 ([cJ (.cK (.new 10 0) 0)]++bk 4 ([cJ (.mp tH cd x.2)]++bk 19 [])))⟩))
def td:Fs Tryz.prog auL bz KA:=fu 32 Tryz.f32 (λ(row,t)=>([.d (.slice cd) row,.d dz t],[])) (λx=>⟨.cK (.new 0 0) 0,[],[.obj 0 aS (.mp cd .bool x)]⟩) [aj (.slice cd),aj dz] [aIB] {loops:=oI [(3,{aV:=[3,5,11,12,13],sites:=[5,10]})],outs:=oH [(3,{aV:=[3,5],sites:=[5,10]},{aV:=[4]})],fE:=pW [(3,sw.E)]}
theorem agl:sw.RS:=rL [.d dz,.d (.slice cd),.d ti,.d ti,.d (.slice (.pair tH cd))] sw
theorem KC(il t11 t12 t13 I9)(kn:K2 R)(kx:K3 R):td.R 0 sw (il,t11,t12,t13,I9) kn kx=aG (fL t13 t12) (aG (eE t13 (t11.length:Int)) (al ((nth cd t11 (ab t13))) λx1=>kn (sw.st (il,t11,t12,(bA .i64 t13 1),(cY tH x1.2.2.1 (nth cd t11 (ab t13)) I9)))) aF) (sw.go kx (il,I9)):=cf
theorem aBq(row t)(k:K1 R):td.A (row,t) k=al (sw.call (t,row,(row.length:Int),0,([]:List (Bs×bN)))) λx2=>al (adw (x2.1,x2.2,([]:List (bN×Bool)))) λx3=>k (td.out x3.2):=cf
theorem alA:(td.kA 0 sw):=by
 refine(td.nN 0 sw) (λ(t,l,n,i,m)=>(l).length - ab i) ?_
 rintro⟨t,l,n,i,m⟩ ⟨hlen,k,hk,rfl,rfl,hs⟩;have hlen:(l).length<=1000000000:=hlen;have hk:k<=(l).length:=hk;have hs:∀x∈l,∃w,x=aj w/\w.2.1.1.length<=64:=hs;by_cases h:k < (l).length
 ·left;have n1:nth cd l k=l[k]:=cj (t:=cd) h;have hd:bt k l=l[k]::bt (k+1) l:=aq h;refine⟨(t,l,((l).length:Int),((k+1:Nat):Int),(Ro m l[k])),⟨hlen,k+1,au,rfl,rfl,hs⟩,by simp only[aa];omega,?_,λkn kx=> ?_⟩
  ·simp only[yN,Ey,aa,hd,aX]
  ·rw[KC,aT au,aZ au au,aa,n1];simp only[ak];obtain⟨w,hw,_⟩:=hs _ (aR h);simp only[hw,ah,Ro];rw[N.lh au]
 ·right;obtain rfl:k=(l).length:=au;intro R kn kx;rw[KC,aP au,ao];simp only[yN,Ey,aa,aH,eO]
theorem aBr:td.Ok:=by rintro⟨row,t⟩ ⟨hr,ht⟩;have hl:row.length<=100:=hr.1;have hq:=aQ4 hr [];rw[aBq,agl (d:=(t,row,(row.length:Int),0,[])) ⟨by show row.length<=_;omega,0,aK _,rfl,rfl,hr.2⟩];simp only[ah,yN,Ey,aW,aO];rw[show List.foldl Ro [] row=tK row from rfl,aBW (d:=(t,tK row,[])) ⟨ht,hq.1,by show Fc (tK row) []<=119;have:=hq.2;omega,eG⟩];rfl
theorem Dp:td.RS:=rE [.d (.slice cd),.d dz] td
def Cy:=td.fI aBr 1 ⟨.eW alA,trivial⟩
theorem ah1{R:Type}{n:Nat}{k k':Nat->Option R}(h:∀j,j < n->k j=k' j):aow n k=aow n k':=by
 have key:∀ {k k':Nat->Option R},(∀j,j < n->k j=k' j)->∀r,aow n k=aj r->aow n k'=aj r:=λh r hr=>by obtain⟨h0,h1⟩:=aox hr;exact atn h0 λj hj=>by rw[<-h j hj];exact h1 j hj
 cases hk:aow n k with
 |some r=>exact(key h r hk).symm
 |none=>
  cases hk':aow n k' with
  |none=>rfl
  |some r=>
   rw[key (λj hj=>(h j hj).symm) r hk']at hk;cases hk
def Gd(x:bN):cR:=match x with | none=>([],[],0,()) | some w=>w.2.1
def GF(f:bN->Int)(n:Int)(m:Mk):Int:=m.foldl (λn p=>imax n (f p.1)) n
theorem aAC(n a b:Int):imax (imax n a) b=imax (imax n b) a:=by
 unfold imax
 (repeat' split) <;> omega
theorem aA0(f:bN->Int){m m':Mk}(h:m.Perm m'):∀n,GF f n m=GF f n m':=by
 unfold GF
 induction h with
 |nil=>exact λ_=>rfl
 |cons x _ ih=>exact λn=>ih _
 |swap x y l=>exact λn=>by rw[aX,aX,aX,aX,aAC]
 |trans _ _ ih1 ih2=>exact λn=>(ih1 n).trans (ih2 n)
theorem acd{f g:bN->Int}:∀(m:Mk) (n:Int),(∀p∈m,f p.1=g p.1)->GF f n m=GF g n m
 |[],_,_=>rfl
 |p::m,n,h=>by have e:=h p aC;show GF f (imax n (f p.1)) m=GF g (imax n (g p.1)) m;rw[e];exact acd m _ λq hq=>h q (az _ hq)
def jV(row:List bN):Nat->cR->Int
 | 0,_=>0
 |d+1,t=>GF (λx=>jV row d (Gd x)) 0 (dF row t)+1
def asK(row:List bN):Nat->cR->Prop
 | 0,t=>dF row t=[]
 |d+1,t=>∀p∈dF row t,asK row d (Gd p.1)
theorem aou(row:List bN):∀(d e:Nat) (t:cR),asK row d t->d < e->jV row (e+1) t=jV row e t
 |_,0,_,_,h=>absurd h (jG _)
 | 0,e+1,t,h,_=>by have h:dF row t=[]:=h;rw[jV,jV,h];rfl
 |d+1,e+1,t,h,hd=>by
  have h:∀p∈dF row t,asK row d (Gd p.1):=h;show GF (λx=>jV row (e+1) (Gd x)) 0 (dF row t)+1=GF (λx=>jV row e (Gd x)) 0 (dF row t)+1;congr 1;refine acd _ _ λp hp=> ?_
  exact aou row d e (Gd p.1) (h p hp) au
theorem akl(row:List bN):∀(d:Nat) (t:cR),0<=jV row d t/\jV row d t<=d
 | 0,_=>⟨eV _,eV _⟩
 |d+1,t=>by
  have key:∀(m:Mk) (n:Int),0<=n->n<=d->0<=GF (λx=>jV row d (Gd x)) n m/\GF (λx=>jV row d (Gd x)) n m<=d:=by
   intro m
   induction m with
   |nil=>exact λn h0 h1=>⟨h0,h1⟩
   |cons p m ih=>
    intro n h0 h1;have:=akl row d (Gd p.1);refine ih (imax n (jV row d (Gd p.1))) ?_ ?_ <;> unfold imax <;> split <;> omega
  have:=key (dF row t) 0 (eV _) au;rw[jV];omega
theorem xX{kt:Ty}{β:Type}{o:kt.den}{v:β}:∀ {l:List (kt.den×β)} {p:kt.den×β},p∈cY kt o v l->p.1=o\/p∈l
 |[],p,h=>by rw[si]at h;exact .inl (by rw[aY.1 h])
 |a::l,p,h=>by
  rw[gG]at h;split at h
  ·rcases bI.1 h with rfl | h
   ·exact .inl rfl
   ·exact .inr (az _ h)
  ·rcases bI.1 h with rfl | h
   ·exact .inr aC
   ·exact(xX h).imp id λh=>az _ h
theorem acb{q:NN}{rec:cR->Mk->Mk}(hr:∀t m,∀p∈rec t m,p∈m\/∃r∈q,r.2=p.1):∀(l:List gK) (m:Mk),∀p∈mL q rec l m,p∈m\/∃r∈q,r.2=p.1
 |[],m,p,hp=> .inl hp
 |i::l,m,p,hp=>by
  rw[mL]at hp;rcases acb hr l _ p hp with h | h
  ·cases hu:xv q i with
   |none=>rw[hu]at h;exact .inl h
   |some x=>
    rw[hu]at h;simp only at h;split at h
    ·exact .inl h
    ·split at h
     ·exact .inl h
     ·split at h
      ·exact .inl h
      ·rcases hr _ _ p h with h | h
       ·rcases xX h with h | h
        ·obtain⟨r,h1,h2⟩:=MF hu;exact .inr ⟨r,h1,h2.trans h.symm⟩
        ·exact .inl h
       ·exact .inr h
  ·exact .inr h
theorem aca(q:NN):∀(d:Nat) (t:cR) (m:Mk),∀p∈tr q d t m,p∈m\/∃r∈q,r.2=p.1
 | 0,_,m,p,hp=> .inl hp
 |d+1,t,m,p,hp=>acb (λt m=>aca q d t m) t.1 m p hp
theorem aer:∀(l:List bN) (m:NN),∀r∈l.foldl Ro m,r.2∈l\/r∈m
 |[],m,r,hr=> .inr hr
 |x::l,m,r,hr=>by
  rcases aer l _ r hr with h | h
  ·exact .inl (az _ h)
  ·cases x with
   |none=>exact .inr h
   |some w=>
    have hx:∀(m:NN) (r:Bs×bN),r∈cY tH w.2.2.1 (aj w:bN) m->r.2=aj w\/r∈m:=by
     intro m
     induction m with
     |nil=>intro r hr;rw[si]at hr;exact .inl (by rw[aY.1 hr])
     |cons a m ih=>
      intro r hr;rw[gG]at hr;split at hr
      ·rcases bI.1 hr with rfl | hr
       ·exact .inl rfl
       ·exact .inr (az _ hr)
      ·rcases bI.1 hr with rfl | hr
       ·exact .inr aC
       ·exact(ih r hr).imp id λh=>az _ h
    rcases hx m r h with h | h
    ·exact .inl (by rw[h];exact aC)
    ·exact .inr h
theorem ahE{row:List bN}{t:cR}{p:bN×Bool}(h:p∈dF row t):p.1∈row:=by
 rcases aca (tK row) 1001 t [] p h with h | ⟨r,h1,h2⟩
 ·cases h
 ·rcases aer row [] r h1 with h | h
  ·rw[<-h2];exact h
  ·cases h
theorem aN3{row:List bN}(h:azg row){x:bN}(hx:x∈row):∃w,x=aj w/\(Gd x).1.length<=64:=by obtain⟨w,rfl,hw⟩:=h.2 x hx;exact⟨w,rfl,hw⟩
abbrev Dr:=(List bN)×Int×(List (bN×Bool))×(List (bN×Bool))
def qX:Dr->AS:=λ(ajf,n,n9,I9)=>⟨([.d (.slice cd) ajf]++aQ 4 ([.d ti n]++aQ 4 ([dP 10]++aQ 14 []))),[],(bk 9 ([[.obj 0 aL (.mp cd .bool n9)],cJ (.rW (.new 9 0) 1 cd .bool I9 aF)]++bk 14 []))⟩
def BP:Int->Exit×AS:=λx=>(.exit 0,⟨(aQ 5 ([.d ti x]++aQ 19 [])),[],(ae 25 [])⟩)
def S9:Int->Out (Exit×AS):=λx=> .ok (BP x)
def sx:Dr->Int->Int:=λ(ajf,n,n9,I9) y=>y
abbrev BN:=(List bN)×cR
def wC:BN->SA:=λ(row,t)=>([.d (.slice cd) row,.d dz t],[])
def VW:Int->ja:=λx=>⟨.d ti x,[],[]⟩
def CA:BN->Int->Int:=λ(row,t) y=>y
def BO(dep:Nat):Dr->Prop:=λ(row,n,m0,m)=>azg row/\(0<=n/\n<=1000)/\dep < 200/\∀p∈m,p.1∈row/\∃e,dep=e+1/\asK row e (Gd p.1)
def ye:Dr->Int:=λ(row,n,m0,m)=>GF (λx=>jV row 1000 (Gd x)) n m
def Nd:Nat->BN->Prop
 | 0=>λ_=>False
 |dep+1=>λ(row,t)=>azg row/\t.1.length<=64/\asK row dep t/\dep < 200
def Nc:BN->Int:=λ(row,t)=>jV row 1001 t
theorem aiQ:∀d d',wC d=wC d'->d=d':=abI [.d (.slice cd),.d dz] λ_=>cf
def Tc(dep:Nat):Entry:=Entry.of [aj (.slice cd),aj dz] wC (Nd dep) (λd=>CA d (Nc d)) VW
def XX(dep:Nat):BN->Option Int:=λd=>(Tc dep).run (wC d).1 (wC d).2
theorem auV{dep:Nat}{d:BN}(h:Nd dep d):XX dep d=aj (CA d (Nc d)):=Entry.wz aiQ h
def aag(dep:Nat):pb:=ah9 33 qb (Tc dep) (jB (P:=Tryz.prog) [Cy])
def ac5(dep:Nat):=du.eW qX (BO dep) sx ye S9
def Ou(dep:Nat):Dr->Option Int:=fP (ac5 dep) qX
def Td(dep:Nat):Ae:= {loops:=oI [(3,{aV:=[0,5,10],sites:=[9,10],aRV:=[10]})],outs:=oH [(3,{aV:=[5]},{aV:=[4]})],fE:=pW [(3,ac5 dep)]}
def ays(dep:Nat):= @Rl Tryz.prog (aag dep) (Td dep) 0 Tryz.f33 _ wC
def ac6(dep:Nat):= @dV Tryz.prog (aag dep) (Td dep) 0 Tryz.f33 0 _ qX
abbrev XW(dep:Nat):=jh Tryz.prog (aag dep) (Td dep) 0 Tryz.f33 0 qX (BO dep) sx ye S9
theorem alG{dep:Nat}:iy (Ou dep) (BO dep) sx ye:=kz (jC [.d (.slice cd),.d ti,.d (.slice (.pair cd .bool)),.d (.slice (.pair cd .bool))] λ_=>cf)
theorem S8(dep:Nat):aLa (@ac6 dep) qX (BO dep) sx ye BP (XW dep):=aPH
theorem Ow(dep ajf n n9 I9)(kn:K2 R)(kx:K3 R):ac6 dep (ajf,n,n9,I9) kn kx=aG (decide (0 < (List.length I9))) (aow (List.length I9) λj1=>al ((sj cd .bool I9 j1).1) λx2=>al (XX dep (ajf,x2.2.1)) λx3=>kn (qX (ajf,(imax n x3),n9,(List.eraseIdx I9 j1)))) (kx (BP n).1 (BP n).2):=cf
theorem aH8(dep row t)(k:K1 R):ays dep (row,t) k=al (td.call (row,t)) λx1=>al (Ou dep (row,(0:Int),x1,x1)) λx5=>k (VW (bA .i64 x5 (1:Int))):=cf
theorem aqk(dep:Nat):XW dep:=by
 refine S8 dep (λ(_,_,_,m)=>m.length) ?_
 rintro⟨row,n,m0,m⟩ ⟨hr,⟨h0,h1⟩,hd,hm⟩;have h0:0<=n:=h0;have h1:n<=1000:=h1;by_cases h:0 < m.length
 ·left;have key:∀j,(hj:j < m.length)->GF (λx=>jV row 1000 (Gd x)) (imax n (jV row 1000 (Gd (m[j]).1))) (m.eraseIdx j)=GF (λx=>jV row 1000 (Gd x)) n m:=λj hj=>
   (aA0 (λx=>jV row 1000 (Gd x)) (CX hj) n).symm
  have ed:∀j,(hj:j < m.length)->jV row 1001 (Gd (m[j]).1)=jV row 1000 (Gd (m[j]).1):=λj hj=>by obtain⟨_,e,he,hg⟩:=hm _ (aR hj);exact aou row e 1000 _ hg au
  refine⟨m.length,λj=>(row,imax n (jV row 1001 (Gd (sj cd .bool m j).1)),m0,m.eraseIdx j),h,λj hj=>⟨⟨hr,?_,hd,λp hp=>hm p ((pT m j).subset hp)⟩,?_,?_⟩,λkn kx=> ?_⟩
  ·rw[H0 hj,ed j hj];have:=akl row 1000 (Gd (m[j]).1);show 0<=imax n _/\imax n _<=1000;unfold imax;split <;> omega
  ·show(m.eraseIdx j).length < m.length;rw[qm,if_pos hj];omega
  ·simp only[sx,ye];rw[H0 hj,ed j hj,key j hj]
  ·rw[Ow,aI h,ak];refine ah1 λj hj=> ?_
   obtain⟨hp,e,rfl,hg⟩:=hm _ (aR hj);obtain⟨w,hw,hl⟩:=aN3 hr hp;have en:(sj cd .bool m j).1=aj w:=by rw[H0 hj,hw]
   rw[hw]at hg hl;show _=kn (qX (row,imax n (jV row 1001 (Gd (sj cd .bool m j).1)),m0,m.eraseIdx j));rw[en,ah,auV (dep:=e+1) (d:=(row,w.2.1)) ⟨hr,hl,hg,au⟩];rfl
 ·right;obtain rfl:m=[]:=bD au;intro T kn kx;rw[Ow,aN h,ao];rfl
theorem aH9:∀(dep:Nat) (d:BN),Nd (dep+1) d->ays dep d aj=aj (VW (CA d (Nc d))):=by
 rintro dep ⟨row,t⟩ ⟨hr,ht,hg,hd⟩;rw[aH8,Dp (d:=(row,t)) ⟨hr,ht⟩];simp only[ah,bz,KA];have hm:∀p∈dF row t,p.1∈row/\∃e,dep=e+1/\asK row e (Gd p.1):=λp hp=>by
  refine⟨ahE hp,?_⟩;cases dep with
  |zero=>
   have hg:dF row t=[]:=hg;rw[hg]at hp;cases hp
  |succ e=>exact⟨e,rfl,hg p hp⟩
 rw[alG (d:=(row,0,dF row t,dF row t)) ⟨hr,⟨eV _,eG⟩,hd,hm⟩];have hb:=akl row 1001 t;have e:jV row 1001 t=GF (λx=>jV row 1000 (Gd x)) 0 (dF row t)+1:=rfl;rw[e]at hb;simp only[ah,sx,ye,CA,Nc];rw[e,jn au au]
def ayt:Entry:=Tc 120
def ac7:BN->Option Int:=NS ayt wC
theorem aBB{d:BN}(h:Nd 120 d):ac7 d=aj (CA d (Nc d)):=show(Tc 120).run (wC d).1 (wC d).2=_ from Entry.wz aiQ h
def aBA:Ae:= {}
theorem XY:∀dep,tg Tryz.prog 33 (Tc dep)
 | 0=>tg.of (an:=aBA) (N:=0) (fn:=Tryz.f33) cf (show Sound _ aGj from Sound.nil _) cf cf cf (kA.fn 1 cf (And.intro (.none cf) trivial)) (λ_ h=>False.elim h)
 |dep+1=>tg.of (an:=Td dep) (N:=0) (fn:=Tryz.f33) cf (show Sound _ (aag dep) from Sound.cons (D6.of (XY dep) (by rfl)) (Sound.jB (P:=Tryz.prog) [Cy])) cf cf cf (kA.fn 1 cf (And.intro (.eW (aqk dep) cf) trivial)) (aH9 dep)
def aIa:SG Tryz.prog:=⟨33,qb,ayt,.of (XY 120) (by rfl)⟩
theorem axh(k:Int):ow (gj k):=(aqT _ _).u
def mT:List Int:=[152,45,158,62,185,150,245,89,230,51,244,209,148,222,243,118,29,144,159,90,59,100,125,26,133,31,234,214,124,50,201,209]
theorem s3:mq 3 mT=(2066670005889522986,1913675330412042729,()):=by decide+kernel
theorem u0:ow 0:=⟨eV 0,eG⟩
theorem at5{x:Int}{l:List Int}(h:ow x)(hl:IZ l):IZ (x::l):=λp hp=>by
 rcases bI.1 hp with rfl | hp
 ·exact h
 ·exact hl p hp
theorem aAH:IZ []:=λp hp=>by cases hp
theorem aVc:Su 0=aL:=rfl
theorem aLt(ks:List Int)(a d:Int)(h:ks.length<=12):xp (ks,a,d,0,())=(ks.all xG && (Su a && Su d)):=by have e:xp (ks,a,d,0,())=(decide (ks.length<=12) && (ks.all xG && (Su a && (Su d && aL)))):=rfl;rw[e,aI h,bF,Bool.and_true]
def aHQ(b:pZ)(sg:List Sg)(s:Int)(m:List Int)(height age:Int):Int:=if height < b.2.1\/age < b.2.2.1 then 11 else if b.2.2.2.1≠0/\gj s≠b.2.2.2.1 then 23 else if sg.length≠b.1.length then 7 else if AI m b.1 sg then 0 else 7
theorem aMV{l:Lk}{i:Nat}{b:pZ}(gb:lk l=aL)(hi:i < l.1.length)(hb:l.1[i]=b)(sg:List Sg)(s:Int)(m:List Int)(h a:Int):GO l ((i:Int),sg,s,()) m h a=aHQ b sg s m h a:=by
 have n1:nth (.pair (.slice (.int .u64)) (.pair (.int .i64) (.pair (.int .i64) (.pair (.int .u64) .unit)))) l.1 i=l.1[i]:=cj (t:=(.pair (.slice (.int .u64)) (.pair (.int .i64) (.pair (.int .i64) (.pair (.int .u64) .unit))))) hi;unfold GO;rw[if_neg (by
  intro hh;rcases hh with hh | hh | hh
  ·rw[gb]at hh;cases hh
  ·have hh:(i:Int) < 0:=hh;omega
  ·have hh:(i:Int)>=l.1.length:=hh;omega)]
 show(if h < (nth (.pair (.slice (.int .u64)) (.pair (.int .i64) (.pair (.int .i64) (.pair (.int .u64) .unit)))) l.1 i).2.1\/a < (nth (.pair (.slice (.int .u64)) (.pair (.int .i64) (.pair (.int .i64) (.pair (.int .u64) .unit)))) l.1 i).2.2.1 then 11 else if(nth (.pair (.slice (.int .u64)) (.pair (.int .i64) (.pair (.int .i64) (.pair (.int .u64) .unit)))) l.1 i).2.2.2.1≠0/\gj s≠(nth (.pair (.slice (.int .u64)) (.pair (.int .i64) (.pair (.int .i64) (.pair (.int .u64) .unit)))) l.1 i).2.2.2.1 then 23 else if sg.length≠(nth (.pair (.slice (.int .u64)) (.pair (.int .i64) (.pair (.int .i64) (.pair (.int .u64) .unit)))) l.1 i).1.length then 7 else if AI m (nth (.pair (.slice (.int .u64)) (.pair (.int .i64) (.pair (.int .i64) (.pair (.int .u64) .unit)))) l.1 i).1 sg then 0 else 7)=_;rw[n1,hb];rfl
theorem afC(m:List Int):∀ks:List Int,(∀k∈ks,0 < k/\k < 2305843009213688669)->AI m (ks.map gj) (ks.map λk=>mq k m)=aL
 |[],_=>rfl
 |k::ks,h=>by have hk:=h k aC;show(CP (gj k) m 1 (mq k m) && AI m (ks.map gj) (ks.map λk=>mq k m))=aL;rw[aNT k m hk.1 hk.2,afC m ks λx hx=>h x (az _ hx)];rfl
theorem alq(ks:List Int)(hk:∀k∈ks,0 < k/\k < 2305843009213688669)(af dl sc s:Int)(m:List Int)(h a:Int)(hs:sc=0\/gj s=sc):
  aHQ (ks.map gj,af,dl,sc,()) (ks.map λk=>mq k m) s m h a=if h < af\/a < dl then 11 else 0:=by
 have e:aHQ (ks.map gj,af,dl,sc,()) (ks.map λk=>mq k m) s m h a=if h < af\/a < dl then 11 else if sc≠0/\gj s≠sc then 23 else if(ks.map λk=>mq k m).length≠(ks.map gj).length then 7 else if AI m (ks.map gj) (ks.map λk=>mq k m) then 0 else 7:=rfl
 rw[e,afC m ks hk,if_neg (c:=sc≠0/\gj s≠sc) (by rintro⟨h1,h2⟩;exact hs.elim h1 h2),if_neg (c:=(ks.map λk=>mq k m).length≠(ks.map gj).length) (by rw[List.length_map,List.length_map];exact λx=>x rfl)];rfl
theorem aTr{k:Int}(h:0 < k/\k < 2305843009213688669):∀x∈ [k],0 < x/\x < 2305843009213688669:=λx hx=>by rw[aY]at hx;subst hx;exact h
def aYL:List Int:=ae 32 0
def aXp:Lk:=aPx [gj 7]
def aWa:At:=[AN 0 ((100:Int),(aXp,()))]
theorem b7:ow (gj 7):=axh 7
theorem aKz:ow 0:=⟨eG,eG⟩
theorem Hi(m:List Int)(hm:¬m=aYL):bV bX (m,((0:Int),())) aWa=aF:=by unfold aWa AN;rw[dQ,if_neg,nr];intro e;have:=(U3 _ _).1 e;exact hm (congrArg (λo:cr=>o.1) this)
section
structure Cs(m n:Nat)(a:At)(s:List cI):Prop where
 J7:anE a
 le:n<=s.length
 len:s.length<=m
 aVO:∀st∈s,aPt st
 sum:AW a<=1125899906842624
 aUv:a.length<=256+64*m
theorem Cs.mono{m m' n:Nat}{a:At}{s:List cI}(h:Cs m n a s)(hm:m<=m'):Cs m' n a s:=⟨h.J7,h.le,Nat.le_trans h.len hm,h.aVO,h.sum,by have:=h.aUv;omega⟩
theorem aEB{a:At}(h:∀p∈a,0<=p.2.1.1):0<=AW a:=by
 induction a with
 |nil=>exact eV 0
 |cons p a ih=>
  rw[rM];have:=h p aC;have:=ih λq hq=>h q (az _ hq)
  omega
theorem anE.pos{a:At}(h:anE a):0<=AW a:=aEB λp hp=>(h.2 p hp).2.2.2.1
theorem aiJ:∀(l:List gX) (sum:Int) (k:Nat) {a:At},0<=sum->sum<=1125899906842624->(∀o∈l,anG o)->HY sum k l=aj a->
  a.length=l.length/\AW a=iN l/\sum+iN l<=1125899906842624/\(∀o∈l,0<=o.1)/\(∀p∈a,aWe p.1/\aUm p.2/\(k:Int)<=p.1.2.1)/\(qd a).Nodup
 |[],sum,k,a,h0,h1,_,e=>by obtain rfl:=bh e;exact⟨rfl,rfl,by show sum+0<=_;omega,λo ho=>(by cases ho),λp hp=>(by cases hp),kF⟩
 |o::l,sum,k,a,h0,h1,hg,e=>by
  rw[HY]at e;cases ho:H5 sum o with
  |false=>rw[ho]at e;cases e
  |true=>
   rw[ho]at e;simp only at e;cases hr:HY (sum+o.1) (k+1) l with
   |none=>rw[hr]at e;cases e
   |some r=>
    rw[hr]at e;obtain rfl:=bh e;have ho':=ho;unfold H5 at ho';simp only[ax,bO]at ho';obtain⟨k1,k2,k3⟩:=ho';obtain⟨i1,i2,i3,i4,i5,i6⟩:=aiJ l (sum+o.1) (k+1) au au (λx hx=>hg x (az _ hx)) hr;have hu:=hg o aC;refine⟨by rw[aE,aE,i1],?_,by rw[vB];omega,λx hx=> ?_,λp hp=> ?_,?_⟩
    ·rw[rM,vB,i2];rfl
    ·rcases bI.1 hx with rfl | hx
     ·exact k2
     ·exact i4 x hx
    ·rcases bI.1 hp with rfl | hp
     ·refine⟨⟨by show(ae 32 (0:Int)).length=32;rw[dR],λx hx=> ?_⟩,⟨k1,hu.1,k2,by show o.1<=_;omega,eV 0,by show(0:Int)<=_;decide⟩,by show(k:Int)<=k;omega⟩;have hx:x∈ae 32 (0:Int):=hx;obtain rfl:=(ou.1 hx).2;exact⟨eG,eG⟩
     ·have:=i5 p hp;exact⟨this.1,this.2.1,au⟩
    ·show((AN k o).1::qd r).Nodup;refine ee.2 ⟨λhm=> ?_,i6⟩;obtain⟨p,hp,he⟩:=eu.1 hm;have:=(i5 p hp).2.2;have he:p.1=(AN k o).1:=he;rw[he]at this;have this:((k+1:Nat):Int)<=(k:Int):=this;omega
theorem VP{outs:List gX}{a:At}(hg:∀o∈outs,anG o)(e:Qp outs=aj a):Cs 0 0 a []/\AW a=iN outs/\a.length=outs.length/\outs.length<=256/\(∀o∈outs,0<=o.1)/\iN outs<=1125899906842624:=by
 unfold Qp at e;by_cases hl:outs.length<=256
 ·rw[if_pos hl]at e;obtain⟨i1,i2,i3,i4,i5,i6⟩:=aiJ outs 0 0 eG eG hg e;exact⟨⟨⟨i6,λp hp=>⟨(i5 p hp).1,(i5 p hp).2.1⟩⟩,aB _,aB _,λst vR=>(by cases vR),au,au⟩,i2,i1,hl,i4,au⟩
 ·rw[if_neg hl]at e;cases e
theorem aac{outs:List gX}(hg:∀o∈outs,anG o):oF outs=aj (match Qp outs with | none=> .inl () | some r=> .inr (r,[])):=by rw[az4 (d:=outs) hg];simp only[Gn,RU];cases Qp outs <;> rfl
theorem aib:∀(l:List cr) (a:At),(Oc a l).length=l.length
 |[],_=>rfl
 |o::l,a=>by rw[Oc,aE,aE,aib l]
theorem aJ4{t:cR}{h kq:Int}{a:At}(hc:xM t h a kq):aPt (stepOf t a):=by have h1:=(iZ hc.ok).1;have h2:=xW hc.ok;have h3:=abL hc.ok;unfold aPt stepOf;rw[aib];exact⟨au,by show(gl t).length<=1000;omega⟩
section
variable {m n:Nat} {t:cR} {h:Int} {a:At} {s:List cI}
theorem Cs.app(hg:Cs m n a s)(hc:xM t h a (eM t h a).1)(hv:xx t):Cs (m+1) (n+1) (jI t h a) (s.take n++ [stepOf t a]):=by
 have hl:=hg.le;have hm:=hg.len;have hs:=hc.sum hg.J7.1;have hp:=hc.pos;have h1:=(iZ hc.ok).1;have e:(s.take n).length=n:=by rw[dw];omega
 refine⟨hc.J7 hg.J7 hv,by rw[ai,e];exact aB _,by rw[ai,e];show n+1<=_;omega,λst vR=> ?_,?_,?_⟩
 ·rcases bg.1 vR with vR | vR
  ·exact hg.aVO st (qo vR)
  ·rw[aY.1 vR];exact aJ4 hc
 ·have:=hg.sum;omega
 ·have:=hg.aUv;omega
theorem Cs.apply(hg:Cs m n a s)(hm:m<=1000)(hv:xx t):((eM t h a).2≠0/\xR (t,h,n,a,s)=aj (.inl ((eM t h a).2,n,a,s)))\/
  (xM t h a (eM t h a).1/\(eM t h a).2=0/\xR (t,h,n,a,s)=aj (.inr (0,n+1,jI t h a,s.take n++ [stepOf t a]))/\Cs (m+1) (n+1) (jI t h a) (s.take n++ [stepOf t a])):=by
 have hr:=az0 (d:=(t,h,n,a,s)) ⟨hv,hg.J7,hg.le,by have:=hg.len;show s.length<=_;omega⟩;by_cases he:(eM t h a).2=0
 ·right;refine⟨ZU he,he,?_,hg.app (ZU he) hv⟩;rw[hr];simp only[Cv,MP,he,ne_eq,not_true_eq_false,bp]
 ·left;refine⟨he,?_⟩;rw[hr];simp only[Cv,MP,ne_eq,he,not_false_eq_true,bE]
theorem Cs.check(hg:Cs m n a s)(hv:xx t):nh.call (t,h,n,a,s)=aj ((eM t h a).1,(eM t h a).2,n,a,s):=ah0 (d:=(t,h,n,a,s)) ⟨hv,hg.J7⟩
theorem Cs.copy(hg:Cs m n a s)(hm:m<=1000):we.call (n,a,s)=aj (n,a,s,(s.take n).length,dq a,s.take n):=atm (d:=(n,a,s)) ⟨hg.le,by have:=hg.len;show s.length<=_;omega,hg.J7.1⟩
theorem anE.perm{a':At}(h:anE a)(hp:a.Perm a'):anE a':=⟨(hp.map _).nodup_iff.1 h.1,λp hm=>h.2 p (hp.mem_iff.2 hm)⟩
theorem Cs.canon(hg:Cs m n a s):Cs m n (dq a) (s.take n)/\(s.take n).length=n:=by
 have hp:=nQ a;have e:(s.take n).length=n:=by rw[dw];have:=hg.le;omega
 exact⟨⟨hg.J7.perm hp.symm,au,by have:=hg.le;have:=hg.len;omega,λst vR=>hg.aVO st (qo vR),by rw[ahG hp];exact hg.sum,by rw[hp.length_eq];exact hg.aUv⟩,e⟩
end
end
theorem aPQ(x y:List Int):Ty.beq tH x y=decide (x=y):=by
 by_cases h:x=y
 ·rw[h,qD rfl];exact beq_refl tH y rfl
 ·rw[decide_eq_false h];cases hb:Ty.beq tH x y with
  |false=>rfl
  |true=>exact absurd (beq_eq tH x y rfl hb) h
def asP(row:List bN):Prop:=∀x∈row,x.isSome=aL
def aKU(v o:cr):Bool:=Ty.beq bX v o
def aJZ(l:List cr)(x:gK):Bool:=l.any (aKU x.1)
def iv(t:cR)(l:List cr):Bool:=t.1.any (aJZ l)
abbrev Dj:=(List cr)×cr×Int×Int
def qU:Dj->AS:=λ(mO,aR3,t7,t8)=>⟨([.d (.slice bX) mO,bC,bC,.dx bX aR3,bC,bC,bC,.d ti t7,.d ti t8]++aQ 10 []),[],(ae 19 [])⟩
def sk:Int->Exit×AS:=λx=>(.ret,⟨(aQ 4 ([.d ti x]++aQ 14 [])),[],(ae 19 [])⟩)
def BJ:Unit->Exit×AS:=λx=>(.exit 0,⟨(aQ 19 []),[],(ae 19 [])⟩)
abbrev Qs:=(Int)⊕(Unit)
abbrev acU:=(Int)⊕(Unit)
def H3:Qs->Out (Exit×AS):=λx=> .br x.isLeft (.get x.getLeft? λa=> .ok (sk a)) (.get x.getRight? λb=> .ok (BJ b))
def l5:Dj->acU->Qs:=λ(mO,aR3,t7,t8) y=>match y with | .inl y=> .inl y | .inr z=> .inr (z)
abbrev aym:=(List cr)×cr
def BI:Dj->Prop:=λ(l,v,n,i)=>l.length<=1000000000/\(True)/\n=l.length/\∃k:Nat,k<=l.length/\i=k
def qT:Dj->acU:=λ(l,v,n,i)=>Ka (aKU v) (l.drop i.toNat) i
def aBl:aym->Prop:=λ(l,v)=>l.length<=1000000000/\(True)
def alu:aym->Int:=λ(l,v)=>ao4 (aKU v) l
def acT:=du.eW qU BI l5 qT H3
def On:Dj->Option Qs:=fP acT qU
def Ja:Fs Tryz.prog aBl bz alu:=fu 113 Tryz.f113 (λ(sv,v)=>([.d (.slice bX) sv,.d bX v],[])) (λx=>⟨.d ti x,[],[]⟩) [aj (.slice bX),aj bX] [] {loops:=oI [(2,{aV:=[0,3,7,8]})],outs:=oH [(2,{},{aV:=[4]})],fE:=pW [(2,acT)]}
def Qr:= @dV Tryz.prog (jB Ja.G) Ja.an 0 Tryz.f113 0 _ qU
abbrev XQ:=jh Tryz.prog (jB Ja.G) Ja.an 0 Tryz.f113 0 qU BI l5 qT H3
theorem alv:iy On BI l5 qT:=kz (jC [.d (.slice bX),.d bX,.d ti,.d ti] λ_=>cf)
theorem SW:mY @Qr qU BI l5 qT H3 XQ:=nJ
theorem Oo(mO aR3 t7 t8)(kn:K2 R)(kx:K3 R):Qr (mO,aR3,t7,t8) kn kx=aG (fL t8 t7) (aG (eE t8 (((List.length mO):Nat):Int)) (aG (Ty.beq bX aR3 (nth bX mO (ab t8))) (kx (sk t8).1 (sk t8).2) (kn (qU (mO,aR3,t7,(bA .i64 t8 (1:Int)))))) aF) (kx (BJ ()).1 (BJ ()).2):=cf
theorem aHR(sv v)(k:K1 R):Ja.A (sv,v) k=al (On (sv,v,(sv.length:Int),0)) λx1=>aG x1.isLeft (al x1.getLeft? λa2=>k (Ja.out a2)) (al x1.getRight? λb3=>k (Ja.out (-1))):=cf
theorem ap6:XQ:=by
 refine SW (λ(l,v,n,i)=>l.length - i.toNat) ?_
 rintro⟨l,v,n,i⟩ ⟨hb,hv,rfl,k,hk,rfl⟩;have hb:l.length<=1000000000:=hb;have hk:k<=l.length:=hk;by_cases h:k < l.length
 ·have n1:nth bX l k=l[k]:=cj (t:=bX) h;have hd:Ka (aKU v) (l.drop k) k=if aKU v l[k] then .inl (k:Int) else Ka (aKU v) (l.drop (k+1)) ((k+1:Nat):Int):=by rw[aq h];rfl
  have step:∀ {R:Type} (kn:AS->Option R) (kx:Exit->AS->Option R),Qr (l,v,(l.length:Int),(k:Int)) kn kx=aG (aKU v l[k]) (kx (sk (k:Int)).1 (sk (k:Int)).2) (kn (qU (l,v,(l.length:Int),((k+1:Nat):Int)))):=by intro R kn kx;rw[Oo,aT au,aZ au au,aa,n1,N.lh au];rfl
  cases hp:aKU v l[k]
  ·left;refine⟨(l,v,l.length,((k+1:Nat):Int)),⟨hb,hv,rfl,k+1,au,rfl⟩,by simp only[aa];omega,?_,λkn kx=> ?_⟩
   ·simp only[l5,qT,aa,hd,hp,bw,bp]
   ·rw[step,hp,ao]
  ·right;refine⟨sk (k:Int),?_,λkn kx=> ?_⟩
   ·simp only[l5,qT,aa,hd,hp,bE];rfl
   ·rw[step,hp,ak]
 ·right;obtain rfl:k=l.length:=au;refine⟨BJ (),?_,λkn kx=> ?_⟩
  ·simp only[l5,qT,aa,aH];rfl
  ·rw[Oo,aP au,ao]
theorem aHS:Ja.Ok:=by rintro⟨l,v⟩ ⟨hb,hv⟩;rw[aHR,alv (d:=(l,v,l.length,0)) ⟨hb,hv,rfl,0,au,rfl⟩];simp only[ah,l5,qT,aW,aO,bz,alu,ao4];cases Ka (aKU v) l 0 <;> rfl
theorem aBm:Ja.RS:=rE [.d (.slice bX),.d bX] Ja
def aHT:=Ja.fI aHS 1 ⟨.eW ap6,trivial⟩
abbrev ayl:=(List cr)×cr
def aBj:ayl->Prop:=λ(l,_)=>l.length<=1000000000
def aMU:ayl->Bool:=λ(l,v)=>l.any (aKU v)
def acS:Fs Tryz.prog aBj bz aMU:=fu 70 Tryz.f70 (λ(sv,v)=>([.d (.slice bX) sv,.d bX v],[])) (λx=>⟨.d .bool x,[],[]⟩) [aj (.slice bX),aj bX] [aHT]
theorem aHN(sv v)(k:K1 R):acS.A (sv,v) k=al (Ja.call (sv,v)) λx1=>k (acS.out (D4 x1 0)):=cf
theorem aHO:acS.Ok:=by rintro⟨l,v⟩ hb;rw[aHN,aBm (d:=(l,v)) ⟨hb,trivial⟩];simp only[ah,bz,alu,abF];rfl
theorem aBk:acS.RS:=rE [.d (.slice bX),.d bX] acS
def aHP:=acS.fI aHO
abbrev ayO:=gK×(List cr)
def aB8:ayO->Prop:=λ(_,l)=>l.length<=1000000
def aNr:ayO->Bool:=λ(x,l)=>aJZ l x
def adG:Fs Tryz.prog aB8 bz aNr:=fu 69 Tryz.f69 (λ(i,t1)=>([.d fo i,.dx (.slice bX) t1],[])) (λx=>⟨.d .bool x,[],[]⟩) [aj fo,aF] [aHP]
theorem aIR(i t1)(k:K1 R):adG.A (i,t1) k=al (acS.call (t1,i.1)) λx1=>k (adG.out x1):=cf
theorem aIS:adG.Ok:=by rintro⟨x,l⟩ hl;have hl:l.length<=1000000:=hl;rw[aIR,aBk (d:=(l,x.1)) (by show l.length<=_;omega)];rfl
theorem aB9:adG.RS:=rE [.d fo,.d (.slice bX)] adG
def aIT:=adG.fI aIS
abbrev zP:=(List gK)×(List cr)×Int×Int
def oM:zP->AS:=λ(mO,f,t7,t8)=>⟨([.d (.slice fo) mO,.fn 69 (.cons (.dx (.slice bX) f) (.nil))]++aQ 5 ([.d ti t7,.d ti t8]++aQ 10 [])),[],(ae 19 [])⟩
def pD:Int->Exit×AS:=λx=>(.ret,⟨(aQ 4 ([.d ti x]++aQ 14 [])),[],(ae 19 [])⟩)
def yS:Unit->Exit×AS:=λx=>(.exit 0,⟨(aQ 19 []),[],(ae 19 [])⟩)
abbrev KN:=(Int)⊕(Unit)
abbrev Yb:=(Int)⊕(Unit)
def Fx:KN->Out (Exit×AS):=λx=> .br x.isLeft (.get x.getLeft? λa=> .ok (pD a)) (.get x.getRight? λb=> .ok (yS b))
def jZ:zP->Yb->KN:=λ(mO,f,t7,t8) y=>match y with | .inl y=> .inl y | .inr z=> .inr (z)
abbrev aqt:=(List gK)×(List cr)
def yR:zP->Prop:=λ(l,v,n,i)=>l.length<=1000000000/\(v.length<=1000000)/\n=l.length/\∃k:Nat,k<=l.length/\i=k
def nX:zP->Yb:=λ(l,v,n,i)=>Ka (aJZ v) (l.drop i.toNat) i
def au5:aqt->Prop:=λ(l,v)=>l.length<=1000000000/\(v.length<=1000000)
def adk:aqt->Int:=λ(l,v)=>ao4 (aJZ v) l
def Ya:=du.eW oM yR jZ nX Fx
def KO:zP->Option KN:=fP Ya oM
def Ao:Fs Tryz.prog au5 bz adk:=fu 112 Tryz.f112 (λ(sv,fc)=>([.d (.slice fo) sv,.fn 69 (.cons (.dx (.slice bX) fc) (.nil))],[])) (λx=>⟨.d ti x,[],[]⟩) [aj (.slice fo),aF] [aIT] {loops:=oI [(2,{aV:=[0,1,7,8]})],outs:=oH [(2,{},{aV:=[4]})],fE:=pW [(2,Ya)]}
def KM:= @dV Tryz.prog (jB Ao.G) Ao.an 0 Tryz.f112 0 _ oM
abbrev Tj:=jh Tryz.prog (jB Ao.G) Ao.an 0 Tryz.f112 0 oM yR jZ nX Fx
theorem agt:iy KO yR jZ nX:=kz (jC [.d (.slice fo),.d (.slice bX),.d ti,.d ti] λ_=>cf)
theorem QE:mY @KM oM yR jZ nX Fx Tj:=nJ
theorem KP(mO f t7 t8)(kn:K2 R)(kx:K3 R):KM (mO,f,t7,t8) kn kx=aG (fL t8 t7) (aG (eE t8 (((List.length mO):Nat):Int)) (al (adG.call ((nth fo mO (ab t8)),f)) λx1=>aG (x1) (kx (pD t8).1 (pD t8).2) (kn (oM (mO,f,t7,(bA .i64 t8 (1:Int)))))) aF) (kx (yS ()).1 (yS ()).2):=cf
theorem aBL(sv fc)(k:K1 R):Ao.A (sv,fc) k=al (KO (sv,fc,(sv.length:Int),0)) λx2=>aG x2.isLeft (al x2.getLeft? λa3=>k (Ao.out a3)) (al x2.getRight? λb4=>k (Ao.out (-1))):=cf
theorem alM:Tj:=by
 refine QE (λ(l,v,n,i)=>l.length - i.toNat) ?_
 rintro⟨l,v,n,i⟩ ⟨hb,hv,rfl,k,hk,rfl⟩;have hb:l.length<=1000000000:=hb;have hk:k<=l.length:=hk;by_cases h:k < l.length
 ·have n1:nth fo l k=l[k]:=cj (t:=fo) h;have hd:Ka (aJZ v) (l.drop k) k=if aJZ v l[k] then .inl (k:Int) else Ka (aJZ v) (l.drop (k+1)) ((k+1:Nat):Int):=by rw[aq h];rfl
  have step:∀ {R:Type} (kn:AS->Option R) (kx:Exit->AS->Option R),KM (l,v,(l.length:Int),(k:Int)) kn kx=aG (aJZ v l[k]) (kx (pD (k:Int)).1 (pD (k:Int)).2) (kn (oM (l,v,(l.length:Int),((k+1:Nat):Int)))):=by intro R kn kx;rw[KP,aT au,aZ au au,aa,n1,aB9 (d:=(l[k],v)) hv,N.lh au];rfl
  cases hp:aJZ v l[k]
  ·left;refine⟨(l,v,l.length,((k+1:Nat):Int)),⟨hb,hv,rfl,k+1,au,rfl⟩,by simp only[aa];omega,?_,λkn kx=> ?_⟩
   ·simp only[jZ,nX,aa,hd,hp,bw,bp]
   ·rw[step,hp,ao]
  ·right;refine⟨pD (k:Int),?_,λkn kx=> ?_⟩
   ·simp only[jZ,nX,aa,hd,hp,bE];rfl
   ·rw[step,hp,ak]
 ·right;obtain rfl:k=l.length:=au;refine⟨yS (),?_,λkn kx=> ?_⟩
  ·simp only[jZ,nX,aa,aH];rfl
  ·rw[KP,aP au,ao]
theorem aBM:Ao.Ok:=by rintro⟨l,v⟩ ⟨hb,hv⟩;rw[aBL,agt (d:=(l,v,l.length,0)) ⟨hb,hv,rfl,0,au,rfl⟩];simp only[ah,jZ,nX,aW,aO,bz,adk,ao4];cases Ka (aJZ v) l 0 <;> rfl
theorem au6:Ao.RS:=rE [.d (.slice fo),.d (.slice bX)] Ao
def aBN:=Ao.fI aBM 1 ⟨.eW alM,trivial⟩
abbrev aqs:=(List gK)×(List cr)
def au1:aqs->Prop:=λ(l,v)=>l.length<=1000000000/\v.length<=1000000
def aIn:aqs->Bool:=λ(l,v)=>l.any (aJZ v)
def QC:Fs Tryz.prog au1 bz aIn:=fu 68 Tryz.f68 (λ(sv,fc)=>([.d (.slice fo) sv,.fn 69 (.cons (.dx (.slice bX) fc) (.nil))],[])) (λx=>⟨.d .bool x,[],[]⟩) [aj (.slice fo),aF] [aBN]
theorem aBF(sv fc)(k:K1 R):QC.A (sv,fc) k=al (Ao.call (sv,fc)) λx1=>k (QC.out (D4 x1 0)):=cf
theorem aBG:QC.Ok:=by rintro⟨l,v⟩ ⟨hb,hv⟩;rw[aBF,au6 (d:=(l,v)) ⟨hb,hv⟩];simp only[ah,bz,adk,abF];rfl
theorem au2:QC.RS:=rE [.d (.slice fo),.d (.slice bX)] QC
def aBH:=QC.fI aBG
abbrev aiY:=cR×(List cr)
def aqL:aiY->Prop:=λ(t,l)=>t.1.length<=1000000000/\l.length<=1000000
def aiZ:aiY->Bool:=λ(t,l)=>iv t l
def yW:Fs Tryz.prog aqL bz aiZ:=fu 30 Tryz.f30 (λ(t,l)=>([.d dz t,.d (.slice bX) l],[])) (λx=>⟨.d .bool x,[],[]⟩) [aj dz,aj (.slice bX)] [aBH]
theorem avh(t l)(k:K1 R):yW.A (t,l) k=al (QC.call (t.1,l)) λx1=>k (yW.out x1):=cf
theorem avi:yW.Ok:=by rintro⟨t,l⟩ ⟨hb,hv⟩;rw[avh,au2 (d:=(t.1,l)) ⟨hb,hv⟩];rfl
theorem Yl:yW.RS:=rE [.d dz,.d (.slice bX)] yW
def adF:=yW.fI avi
def aKC:Int->Prop:=λ_=>True
def ann:Int->Bool:=λ_=>aS
def asx:Fs Tryz.prog aKC bz ann:=fu 114 Tryz.f114 (λx=>([.d tu x],[])) (λx=>⟨.d .bool x,[],[]⟩) [aj tu]
theorem aN7(x)(k:K1 R):asx.A x k=k (asx.out (Cw x x)):=cf
theorem aN8:asx.Ok:=by intro x _;rw[aN7];simp only[bz,ann,cz rfl]
theorem asy:asx.RS:=rE [.d tu] asx
def aN9:=asx.fI aN8
def aKA:(Int×Int)->Prop:=λ_=>True
def anm:(Int×Int)->Int:=λ(x,y)=>azR x y
def WJ:Fs Tryz.prog aKA bz anm:=fu 74 Tryz.f74 (λ(x,yv)=>([.d tu x,.d tu yv],[])) (λx=>⟨.d ti x,[],[]⟩) [aj tu,aj tu] [aN9]
theorem aN4(x yv)(k:K1 R):WJ.A (x,yv) k=al (asx.call x) λx1=>al (asx.call yv) λx2=>aG (x1) (aG (x2) (k (WJ.out 0)) (k (WJ.out (-1)))) (aG (x2) (k (WJ.out 1)) (aG (fL x yv) (k (WJ.out (-1))) (aG (Af x yv) (k (WJ.out 1)) (k (WJ.out 0))))):=cf
theorem aN5:WJ.Ok:=by
 rintro⟨x,y⟩ _;rw[aN4,asy (d:=x) trivial];simp only[ah,bz,ann];rw[asy (d:=y) trivial];simp only[ah,bz,ann,ao,bz,anm,azR];by_cases h:x < y
 ·rw[aT h,ak,if_pos h]
 ·rw[aP h,ao,if_neg h];by_cases h2:x > y
  ·rw[dj h2,ak,if_pos h2]
  ·rw[cw h2,ao,if_neg h2]
theorem asw:WJ.RS:=rE [.d tu,.d tu] WJ
def aN6:=WJ.fI aN5
theorem anl(x:Int):0<=dO .u64 x/\dO .u64 x < 18446744073709551616:=by rw[Sx,ix];omega
def atc(a b c d:Int):Int:=aTs [azR (dO .u64 a*dO .u64 b / 18446744073709551616) (dO .u64 c*dO .u64 d / 18446744073709551616),azR (dO .u64 a*dO .u64 b%18446744073709551616) (dO .u64 c*dO .u64 d%18446744073709551616)]
abbrev aH3:=Int×Int×Int×Int
def aH4:aH3->Prop:=λ_=>True
def auU:aH3->Int:=λ(a,b,c,d)=>atc a b c d
def aqi:Fs Tryz.prog aH4 bz auU:=fu 35 Tryz.f35 (λ(a,b,c,d)=>([.d ti a,.d ti b,.d ti c,.d ti d],[])) (λx=>⟨.d ti x,[],[]⟩) [aj ti,aj ti,aj ti,aj ti] [acn,aN6,aPO]
theorem aM6(a b c d)(k:K1 R):aqi.A (a,b,c,d) k=al (Kv.call ((dO .u64 a),(dO .u64 b))) λx1=>al (Kv.call ((dO .u64 c),(dO .u64 d))) λx2=>al (WJ.call (x1.1,x2.1)) λx3=>al (WJ.call (x1.2,x2.2)) λx4=>al (aD9.call [x3,x4]) λx5=>k (aqi.out x5):=cf
theorem aM7:aqi.Ok:=by rintro⟨a,b,c,d⟩ _;rw[aM6,Na (d:=(dO .u64 a,dO .u64 b)) ⟨anl a,anl b⟩,Na (d:=(dO .u64 c,dO .u64 d)) ⟨anl c,anl d⟩];simp only[ah,bz,SP];rw[asw (d:=(dO .u64 a*dO .u64 b / 18446744073709551616,dO .u64 c*dO .u64 d / 18446744073709551616)) trivial];simp only[ah,bz,anm];rw[asw (d:=(dO .u64 a*dO .u64 b%18446744073709551616,dO .u64 c*dO .u64 d%18446744073709551616)) trivial];simp only[ah,bz,anm];rw[aLE (d:=[azR (dO .u64 a*dO .u64 b / 18446744073709551616) (dO .u64 c*dO .u64 d / 18446744073709551616),azR (dO .u64 a*dO .u64 b%18446744073709551616) (dO .u64 c*dO .u64 d%18446744073709551616)]) (by show 2<=_;decide)];rfl
theorem aqj:aqi.RS:=rE [.d ti,.d ti,.d ti,.d ti] aqi
def ayq:=aqi.fI aM7
def aBR:cR->Prop:=λt=>xx t/\gv t=aL
def aah:cR->cR:=λt=>t
def Yc:Fs Tryz.prog aBR bz aah:=fu 29 Tryz.f29 (λt=>([.d dz t],[])) (λx=>⟨.d dz x,[],[]⟩) [aj dz] [ajz,aKj]
theorem aIo(t)(k:K1 R):Yc.A t k=al (vc.call t) λx1=>al (mN.call x1) λx2=>k (Yc.out x2.1):=cf
theorem aIp:Yc.Ok:=by rintro t ⟨hv,gb⟩;have bl:=ajF hv;rw[aIo,aeZ (d:=t) hv];simp only[ah,bz,Ux];rw[aDH (d:=aK4 t) ⟨bl.1,by have:=bl.2;omega⟩];simp only[ah,bz,am5,bz,aah];rw[aei hv gb]
theorem aiT:Yc.RS:=rE [.d dz] Yc
def aqu:=Yc.fI aIp
abbrev ava:=Int×Nat×(List (cr×fj))×(List cI)
def Tx:ava->Bool->((Nat×(List (cr×fj))×(List cI))×(Bool)):=λ(height,o0baL,o1,o2) y=>((o0baL,o1,o2),y)
def aIC:ava->Prop:=λ_=>True
def alU:ava->Bool:=λ(h,_)=>decide (1<=h/\h<=1048576)
def alT:Fs Tryz.prog aIC Tx alU:=fu 26 Tryz.f26 (λ(height,o0baL,o1,o2)=>([.ptr (.bW 0) 0 [] 0,.d ti height],[.obj 0 aS (.pr (.cK (.bW 1) 0) (.pr (.cg (.bW 2) 0 [] 0 0 o0baL) (.d .unit ()))),.obj 0 aS (.mp bX fh o1),.obj 0 aS (.vec 95 cv o2)])) (λx=>⟨.d .bool x.2,[.obj 0 aS (.pr (.cK (.bW 1) 0) (.pr (.cg (.bW 2) 0 [] 0 0 x.1.1) (.d .unit ()))),.obj 0 aS (.mp bX fh x.1.2.1),.obj 0 aS (.vec 95 cv x.1.2.2)],[]⟩) [aF,aj ti]
theorem aNg(height o0baL o1 o2)(k:K1 R):alT.A (height,o0baL,o1,o2) k=aG (D4 height 1) (k (alT.out ((o0baL,o1,o2),(akP height 1048576)))) (k (alT.out ((o0baL,o1,o2),aS))):=cf
theorem aNh:alT.Ok:=by
 rintro⟨h,n,a,s⟩ _;rw[aNg];simp only[Tx,alU];by_cases h1:1<=h
 ·rw[gA h1,ak];by_cases h2:h<=1048576
  ·rw[pt h2,aI ⟨h1,h2⟩]
  ·rw[kr h2,aN λe=>h2 e.2]
 ·rw[eD h1,ao,aN λe=>h1 e.1]
theorem aqC:alT.RS:=rE [.d ti,.n,.d (.slice (.pair bX fh)),.d (.slice cv)] alT
def ayI:=alT.fI aNh
abbrev ady:=Int×Nat×(List (cr×fj))×(List cI)
def alV:ady->SA:=λ(height,o0baL,o1,o2)=>([.ptr (.bW 0) 0 [] 0,.d ti height],[cO (.pr (.cK (.bW 1) 0) (.pr (.cg (.bW 2) 0 [] 0 0 o0baL) jL)),cO (.mp bX fh o1),cO (.vec 95 cv o2)])
abbrev aIL:=(Nat×(List (cr×fj))×(List cI))⊕(Nat×(List (cr×fj))×(List cI)×(Int×((List bN)×Unit))×Nat×(List (cr×fj))×(List cI))
abbrev avc:=(Nat×(List (cr×fj))×(List cI))⊕(Nat×(List (cr×fj))×(List cI)×(Int×((List bN)×Unit))×Nat×(List (cr×fj))×(List cI))
def TA:avc->ja:=λx=>match x with | .inl x=>⟨.iQ,[cO (.pr (.cK (.bW 1) 0) (.pr (.cg (.bW 2) 0 [] 0 0 x.1) jL)),cO (.mp bX fh x.2.1),cO (.vec 95 cv x.2.2)],[]⟩ | .inr x=>⟨dP 0,[cO (.pr (.cK (.bW 1) 0) (.pr (.cg (.bW 2) 0 [] 0 0 x.1) jL)),cO (.mp bX fh x.2.1),cO (.vec 95 cv x.2.2.1)],[cO (.pr (.ptr (.new 0 1) 0 [] 0) (.d (.pair ti (.pair (.slice cd) .unit)) x.2.2.2.1)),cO (.pr (.cK (.new 0 2) 0) (.pr (.cg (.new 0 3) 0 [] 0 0 x.2.2.2.2.1) jL)),cO (.mp bX fh x.2.2.2.2.2.1),cO (.vec 95 cv x.2.2.2.2.2.2)]⟩
def Tz:ady->aIL->avc:=λ(height,o0baL,o1,o2) y=>match y with | .inl y=> .inl y | .inr y=> .inr y
abbrev ZQ:=Int×((List bN)×Unit)
def adz:ady->Prop:=λ(_,n,a,s)=>Cs 500 n a s
def V3:ady->aIL:=λ(h,n,a,s)=>if 1<=h/\h<=1048576 then .inr (n,a,s,(h,([],())),n,dq a,s.take n) else .inl (n,a,s)
def aQZ:pb:=jB (P:=Tryz.prog) [ayI,MR]
def aNm:Ae:= {bu:=[13],PJ:=[⟨4,[.snd,.snd,.fst],(.slice cd)⟩]}
def aIJ:= @Rl Tryz.prog aQZ aNm 0 Tryz.f7 _ alV
abbrev aNl:=aze @aIJ adz Tz V3 TA
theorem aNn(height o0baL o1 o2)(k:K1 R):aIJ (height,o0baL,o1,o2) k=al (alT.call (height,o0baL,o1,o2)) λx1=>aG (!x1.2) (k (TA (.inl (x1.1.1,x1.1.2.1,x1.1.2.2)))) (al (we.call (x1.1.1,x1.1.2.1,x1.1.2.2)) λx2=>k (TA (.inr (x2.1,x2.2.1,x2.2.2.1,(height,(([]:List bN),())),x2.2.2.2.1,x2.2.2.2.2.1,x2.2.2.2.2.2)))):=cf
theorem aNo:aNl:=by
 rintro⟨h,n,a,s⟩ hg;have hg:Cs 500 n a s:=hg;obtain⟨hc,hl⟩:=hg.canon;rw[aNn,aqC (d:=(h,n,a,s)) trivial];simp only[ah,Tx,alU,Tz,V3];by_cases hh:1<=h/\h<=1048576
 ·rw[aI hh,if_pos hh,bY,ao,hg.copy au];simp only[ah,hl]
 ·rw[aN hh,if_neg hh,dK,ak]
def aIK:=Entry.auo [aF,aj ti] alV adz Tz V3 TA
def pG:ady->Option avc:=NS aIK alV
theorem TC:iy pG adz Tz V3:=arI (abI [.d ti,.n,.d (.slice (.pair bX fh)),.d (.slice cv)] λ_=>cf)
def ayK:SG Tryz.prog:=⟨7,qb,aIK,.of (.aTF (.fn 0 cf aNo trivial)) (by rfl)⟩
abbrev Ds:=Bs×(List bN)×Int×Int×(Int×((List bN)×Unit))×Nat×(List (cr×fj))×(List cI)
def vE:Ds->AS:=λ(aAB,t10,t11,t12,o0,o1L,eZ,gJ)=>⟨([bC,bC,bC,.dx tH aAB]++aQ 6 ([.d (.slice cd) t10,.d ti t11,.d ti t12]++aQ 11 [])),[cO (.pr (.ptr (.bW 1) 0 [] 0) (.d (.pair ti (.pair (.slice cd) .unit)) o0)),cO (.pr (.cK (.bW 2) 0) (.pr (.cg (.bW 3) 0 [] 0 0 o1L) jL)),cO (.mp bX fh eZ),cO (.vec 95 cv gJ)],(ae 24 [])⟩
abbrev X5:=((Int×((List bN)×Unit))×Nat×(List (cr×fj))×(List cI))×(bN)
def BR:X5->Exit×AS:=λ((a,b,c,e),f)=>(.ret,⟨(aQ 4 ([.d cd f]++aQ 19 [])),[cO (.pr (.ptr (.bW 1) 0 [] 0) (.d (.pair ti (.pair (.slice cd) .unit)) a)),cO (.pr (.cK (.bW 2) 0) (.pr (.cg (.bW 3) 0 [] 0 0 b) jL)),cO (.mp bX fh c),cO (.vec 95 cv e)],(ae 24 [])⟩)
abbrev X6:=(Int×((List bN)×Unit))×Nat×(List (cr×fj))×(List cI)
def BS:X6->Exit×AS:=λ(a,b,c,e)=>(.exit 0,⟨(aQ 24 []),[cO (.pr (.ptr (.bW 1) 0 [] 0) (.d (.pair ti (.pair (.slice cd) .unit)) a)),cO (.pr (.cK (.bW 2) 0) (.pr (.cg (.bW 3) 0 [] 0 0 b) jL)),cO (.mp bX fh c),cO (.vec 95 cv e)],(ae 24 [])⟩)
abbrev Qz:=(X5)⊕(X6)
abbrev ade:=(bN)⊕(Unit)
def Ic:Qz->Out (Exit×AS):=λx=> .br x.isLeft (.get x.getLeft? λa=> .ok (BR a)) (.get x.getRight? λb=> .ok (BS b))
def l7:Ds->ade->Qz:=λ(aAB,t10,t11,t12,o0,o1L,eZ,gJ) y=>match y with | .inl y=> .inl ((o0,o1L,eZ,gJ),y) | .inr z=> .inr ((o0,o1L,eZ,gJ))
abbrev Tf:=Bs×(Int×((List bN)×Unit))×Nat×(List (cr×fj))×(List cI)
def adg:Tf->SA:=λ(id,o0b,o1baL,o2,o3)=>([.ptr (.bW 0) 0 [] 0,.d tH id],[cO (.pr (.ptr (.bW 1) 0 [] 0) (.d (.pair ti (.pair (.slice cd) .unit)) o0b)),cO (.pr (.cK (.bW 2) 0) (.pr (.cg (.bW 3) 0 [] 0 0 o1baL) jL)),cO (.mp bX fh o2),cO (.vec 95 cv o3)])
abbrev ayw:=(bN×(Int×((List bN)×Unit))×Nat×(List (cr×fj))×(List cI))⊕((Int×((List bN)×Unit))×Nat×(List (cr×fj))×(List cI))
abbrev alJ:=(bN×(Int×((List bN)×Unit))×Nat×(List (cr×fj))×(List cI))⊕((Int×((List bN)×Unit))×Nat×(List (cr×fj))×(List cI))
def Ng:alJ->ja:=λx=>match x with | .inl x=>⟨.d cd x.1,[cO (.pr (.ptr (.bW 1) 0 [] 0) (.d (.pair ti (.pair (.slice cd) .unit)) x.2.1)),cO (.pr (.cK (.bW 2) 0) (.pr (.cg (.bW 3) 0 [] 0 0 x.2.2.1) jL)),cO (.mp bX fh x.2.2.2.1),cO (.vec 95 cv x.2.2.2.2)],[]⟩ | .inr x=>⟨.iQ,[cO (.pr (.ptr (.bW 1) 0 [] 0) (.d (.pair ti (.pair (.slice cd) .unit)) x.1)),cO (.pr (.cK (.bW 2) 0) (.pr (.cg (.bW 3) 0 [] 0 0 x.2.1) jL)),cO (.mp bX fh x.2.2.1),cO (.vec 95 cv x.2.2.2)],[]⟩
def CB:Tf->ayw->alJ:=λ(id,o0b,o1baL,o2,o3) y=>match y with | .inl y=> .inl y | .inr y=> .inr y
def atX(id:Bs)(x:bN):Bool:=match x with | none=>aS | some w=>decide (w.2.2.1=id)
def lU(id:Bs)(row:List bN):Option bN:=row.find? (atX id)
def BQ:Ds->Prop:=λ(_,l,n,i,_)=>(asP l/\l.length<=1000)/\n=(l.length:Int)/\∃k:Nat,k<=l.length/\i=k
def qZ:Ds->ade:=λ(id,l,_,i,_)=>match lU id (l.drop i.toNat) with | some x=> .inl x | none=> .inr ()
def VX:Tf->Prop:=λ(_,p,_)=>asP p.2.1/\p.2.1.length<=1000
def Nf:Tf->ayw:=λ(id,p,n,a,s)=>match lU id p.2.1 with | some x=> .inl (x,p,n,a,s) | none=> .inr (p,n,a,s)
def alH:pb:=jB (P:=Tryz.prog) []
def ada:=du.eW vE BQ l7 qZ Ic
def Ox:Ds->Option Qz:=fP ada vE
def adf:Ae:= {loops:=oI [(2,{aV:=[3,10,11,12]})],outs:=oH [(2,{},{aV:=[4]})],fE:=pW [(2,ada)]}
def ayu:= @Rl Tryz.prog alH adf 0 Tryz.f53 _ adg
abbrev aIh:=aze @ayu VX CB Nf Ng
def adb:= @dV Tryz.prog alH adf 0 Tryz.f53 0 _ vE
abbrev X4:=jh Tryz.prog alH adf 0 Tryz.f53 0 vE BQ l7 qZ Ic
theorem alI:iy Ox BQ l7 qZ:=kz (jC [.d tH,.d (.slice cd),.d ti,.d ti,.d (.pair ti (.pair (.slice cd) .unit)),.n,.d (.slice (.pair bX fh)),.d (.slice cv)] λ_=>cf)
theorem Tg:mY @adb vE BQ l7 qZ Ic X4:=nJ
theorem Fv(aAB t10 t11 t12 o0 o1L eZ gJ)(kn:K2 R)(kx:K3 R):adb (aAB,t10,t11,t12,o0,o1L,eZ,gJ) kn kx=aG (fL t12 t11) (aG (eE t12 (((List.length t10):Nat):Int)) (al ((nth cd t10 (ab t12))) λx1=>aG (Ty.beq tH x1.2.2.1 aAB) (kx (BR ((o0,o1L,eZ,gJ),(nth cd t10 (ab t12)))).1 (BR ((o0,o1L,eZ,gJ),(nth cd t10 (ab t12)))).2) (kn (vE (aAB,t10,t11,(bA .i64 t12 (1:Int)),o0,o1L,eZ,gJ)))) aF) (kx (BS (o0,o1L,eZ,gJ)).1 (BS (o0,o1L,eZ,gJ)).2):=cf
theorem aIi(id o0b o1baL o2 o3)(k:K1 R):ayu (id,o0b,o1baL,o2,o3) k=al (Ox (id,o0b.2.1,(((List.length o0b.2.1):Nat):Int),(0:Int),o0b,o1baL,o2,o3)) λx2=>aG x2.isLeft (al x2.getLeft? λa3=>k (Ng (.inl (a3.2,a3.1.1,a3.1.2.1,a3.1.2.2.1,a3.1.2.2.2)))) (al x2.getRight? λb4=>k (Ng (.inr (b4.1,b4.2.1,b4.2.2.1,b4.2.2.2)))):=cf
theorem aqp:X4:=by
 refine Tg (λ(_,l,_,i,_)=>l.length - i.toNat) ?_
 rintro⟨id,l,n,i,p,c,a,s⟩ ⟨⟨hs,hl⟩,rfl,k,hk,rfl⟩;have hl:l.length<=1000:=hl;have hk:k<=l.length:=hk;by_cases h:k < l.length
 ·have n1:nth cd l k=l[k]:=cj (t:=cd) h;have hd:l.drop k=l[k]::l.drop (k+1):=aq h;obtain⟨w,hw⟩:=Option.isSome_iff_exists.1 (hs _ (aR h));rw[hw]at n1 hd;by_cases hi:w.2.2.1=id
  ·right;refine⟨BR ((p,c,a,s),aj w),?_,λkn kx=> ?_⟩;rotate_left
   ·rw[Fv,aT au,ak,aZ au au,ak,aa,n1,ah,aPQ,aI hi,ak]
   ·have e:lU id (l.drop k)=aj (aj w):=by rw[hd,lU,List.find?_cons_of_pos (by show decide _=aL;exact aI hi)]
    simp only[l7,qZ,aa,e];rfl
  ·left;refine⟨(id,l,(l.length:Int),((k+1:Nat):Int),p,c,a,s),⟨⟨hs,hl⟩,rfl,k+1,h,rfl⟩,by simp only[aa];omega,?_,λkn kx=> ?_⟩
   ·have e:lU id (l.drop k)=lU id (l.drop (k+1)):=by rw[hd,lU,List.find?_cons_of_neg (by show ¬decide _=aL;rw[aN hi];decide)];rfl
    simp only[l7,qZ,aa,e]
   ·rw[Fv,aT au,ak,aZ au au,ak,aa,n1,ah,aPQ,aN hi,ao,N.lh au]
 ·right;obtain rfl:k=l.length:=au;refine⟨BS (p,c,a,s),?_,λkn kx=> ?_⟩;rotate_left
  ·rw[Fv,aP au,ao]
  ·simp only[l7,qZ,aa,aH];rfl
theorem aIj:aIh:=by
 rintro⟨id,p,n,a,s⟩ ⟨hs,hl⟩;rw[aIi,alI (d:=(id,p.2.1,(p.2.1.length:Int),0,p,n,a,s)) ⟨⟨hs,hl⟩,rfl,0,aK _,rfl⟩];simp only[ah,l7,qZ,aW,aO,CB,Nf];cases lU id p.2.1 with
 |none=>rfl
 |some x=>rfl
def ayv:=Entry.auo [aF,aj tH] adg VX CB Nf Ng
def QA:Tf->Option alJ:=NS ayv adg
theorem aiS:iy QA VX CB Nf:=arI (abI [.d tB,.d (.pair ti (.pair (.slice cd) .unit)),.n,.d (.slice (.pair bX fh)),.d (.slice cv)] λ_=>cf)
def aqq:SG Tryz.prog:=⟨53,qb,ayv,.of (.aTF (.fn 1 cf aIj (And.intro (.eW aqp cf) trivial))) (by rfl)⟩
abbrev aIk:=Bs×(Int×((List bN)×Unit))×Nat×(List (cr×fj))×(List cI)
def aIl:aIk->Prop:=λ(_,p,_)=>asP p.2.1/\p.2.1.length<=1000
def alK:aIk->(Bool×(Int×((List bN)×Unit))×Nat×(List (cr×fj))×(List cI)):=λ(id,p,n,a,s)=>((lU id p.2.1).isSome,p,n,a,s)
def QB:Fs Tryz.prog aIl bz alK:=fu 19 Tryz.f19 (λ(id,o0b,o1baL,o2,o3)=>([.ptr (.bW 0) 0 [] 0,.d tH id],[.obj 0 aS (.pr (.ptr (.bW 1) 0 [] 0) (.d (.pair ti (.pair (.slice cd) .unit)) o0b)),.obj 0 aS (.pr (.cK (.bW 2) 0) (.pr (.cg (.bW 3) 0 [] 0 0 o1baL) (.d .unit ()))),.obj 0 aS (.mp bX fh o2),.obj 0 aS (.vec 95 cv o3)])) (λx=>⟨.d .bool x.1,[.obj 0 aS (.pr (.ptr (.bW 1) 0 [] 0) (.d (.pair ti (.pair (.slice cd) .unit)) x.2.1)),.obj 0 aS (.pr (.cK (.bW 2) 0) (.pr (.cg (.bW 3) 0 [] 0 0 x.2.2.1) (.d .unit ()))),.obj 0 aS (.mp bX fh x.2.2.2.1),.obj 0 aS (.vec 95 cv x.2.2.2.2)],[]⟩) [aF,aj tH] [aqq]
theorem aNd(id o0b o1baL o2 o3)(k:K1 R):QB.A (id,o0b,o1baL,o2,o3) k=al (QA (id,o0b,o1baL,o2,o3)) λx1=>aG x1.isLeft (al x1.getLeft? λasH=>k (QB.out ((!(Option.isNone asH.1)),asH.2.1,asH.2.2.1,asH.2.2.2.1,asH.2.2.2.2))) (al x1.getRight? λaOf=>k (QB.out (aS,aOf.1,aOf.2.1,aOf.2.2.1,aOf.2.2.2))):=cf
theorem aNe:QB.Ok:=by
 rintro⟨id,p,n,a,s⟩ ⟨hs,hl⟩;rw[aNd,aiS (d:=(id,p,n,a,s)) ⟨hs,hl⟩];simp only[ah,CB,Nf,bz,alK];cases h:lU id p.2.1 with
 |none=>rfl
 |some x=>
  have hx:x.isSome=aL:=hs _ (List.mem_of_find?_eq_some h);obtain⟨w,rfl⟩:=Option.isSome_iff_exists.1 hx;rfl
theorem adh:QB.RS:=rE [.d tB,.d (.pair ti (.pair (.slice cd) .unit)),.n,.d (.slice (.pair bX fh)),.d (.slice cv)] QB
def ayx:=QB.fI aNe
abbrev aKQ:=Nat×At×List cI
def aay(h:Int)(S:aKQ)(t:cR):aKQ:=if(eM t h S.2.1).2≠0 then S else(S.1+1,jI t h S.2.1,S.2.2.take S.1++ [stepOf t S.2.1])
def aEt(w:Nat×tj):Prop:=xx w.2.1/\gv w.2.1=aL/\w.2.2.1.length=32
def s5(row:List bN):Prop:=row.length<=90/\∀x∈row,∃w,x=aj w/\aEt w
theorem s5.some{row:List bN}(h:s5 row):asP row:=λx hx=>by obtain⟨w,rfl,_⟩:=h.2 x hx;rfl
theorem s5.w{row:List bN}(h:s5 row):azg row:=⟨by have:=h.1;omega,λx hx=>by
 obtain⟨w,rfl,_,gb,_⟩:=h.2 x hx;exact⟨w,rfl,(iZ gb).1.2.1⟩⟩
def xt(h:Int)(m:Mk)(S:aKQ)(x:bN):aKQ:=match x with | none=>S | some w=>if cX m (aj w)=aL then aay h S w.2.1 else S
def af2(h:Int)(row:List bN)(t:cR)(S:aKQ):aKQ:=row.foldl (xt h (dF row t)) S
abbrev KF:=cR×(List bN)×Int×Int×(Int×((List bN)×Unit))×Nat×(List (cr×fj))×(List cI)×(List (bN×Bool))×Nat×(List (cr×fj))×(List cI)
abbrev XU:=Nat×(List (cr×fj))×(List cI)
def pC:KF->XU->((cR×(Int×((List bN)×Unit))×Nat×(List (cr×fj))×(List cI))×(Nat×(List (cr×fj))×(List cI))):=λ(il,t20,t21,t22,o0,o1L,eZ,gJ,Hi,Qi,VN,qS) y=>((il,o0,o1L,eZ,gJ),y)
abbrev aqh:=(List bN)×cR×(Int×((List bN)×Unit))×Nat×(List (cr×fj))×(List cI)
def agn:KF->Prop:=λ(_,l,m,i,_,_,_,_,_,n,a,s)=>s5 l/\m=(l.length:Int)/\∃k:Nat,k<=l.length/\i=k/\Cs (300+k) n a s
def vC:KF->XU:=λ(_,l,_,i,p,_,_,_,m,n,a,s)=>(l.drop i.toNat).foldl (xt p.1 m) (n,a,s)
def auR:aqh->Prop:=λ(row,t,_,n,a,s)=>s5 row/\t.1.length<=64/\xx t/\Cs 300 n a s
def wb(h:Int)(row:List bN)(t:cR)(n:Nat)(a:At)(s:List cI):Int×Int:=eM t h (af2 h row t (n,dq a,s.take n)).2.1
def ac4:aqh->(Int×Int×(Int×((List bN)×Unit))×Nat×(List (cr×fj))×(List cI)):=λ(row,t,p,n,a,s)=>((wb p.1 row t n a s).1,(wb p.1 row t n a s).2,p,n,a,s)
theorem aGV{h:Int}{mk:Mk}:∀(l:List bN) {m:Nat} {S:aKQ},(∀x∈l,∃w,x=aj w/\aEt w)->m+l.length<=1000->Cs m S.1 S.2.1 S.2.2->Cs (m+l.length) (l.foldl (xt h mk) S).1 (l.foldl (xt h mk) S).2.1 (l.foldl (xt h mk) S).2.2
 |[],_,_,_,_,hg=>hg
 |x::l,m,S,hr,hm,hg=>by
  have hm:m+(l.length+1)<=1000:=hm;have key:Cs (m+1) (xt h mk S x).1 (xt h mk S x).2.1 (xt h mk S x).2.2:=by
   obtain⟨w,rfl,hw⟩:=hr x aC;simp only[xt];split
   ·rcases hg.apply (t:=w.2.1) (h:=h) au hw.1 with⟨hc,_⟩ | ⟨_,hc,_,aKY⟩
    ·rw[show aay h S w.2.1=S from if_pos hc];exact hg.mono au
    ·rw[show aay h S w.2.1=(S.1+1,jI w.2.1 h S.2.1,S.2.2.take S.1++ [stepOf w.2.1 S.2.1]) from if_neg (λx=>x hc)];exact aKY
   ·exact hg.mono au
  have:=aGV (h:=h) (mk:=mk) l (m:=m+1) (λy hy=>hr y (az _ hy)) au key;rw[aX,aE,show m+(l.length+1)=m+1+l.length from au];exact this
def nA:Ls agn pC vC:=te (λ(il,t20,t21,t22,o0,o1L,eZ,gJ,Hi,Qi,VN,qS)=>⟨([.ptr (.bW 0) 0 [] 0]++aQ 4 ([.dx dz il,bC,bC,.cK (.new 14 0) 0,dP 19]++aQ 10 ([.d (.slice cd) t20,.d ti t21,.d ti t22]++aQ 26 []))),[cO (.pr (.ptr (.bW 1) 0 [] 0) (.d (.pair ti (.pair (.slice cd) .unit)) o0)),cO (.pr (.cK (.bW 2) 0) (.pr (.cg (.bW 3) 0 [] 0 0 o1L) jL)),cO (.mp bX fh eZ),cO (.vec 95 cv gJ)],(bk 14 ([cJ (.mp cd .bool Hi)]++bk 4 ([[cO (.pr (.cK (.new 19 1) 0) (.pr (.cg (.new 19 2) 0 [] 0 0 Qi) jL)),cO (.mp bX fh VN),cO (.vec 95 cv qS)]]++bk 29 [])))⟩) (λx=>(.exit 0,⟨([.ptr (.bW 0) 0 [] 0]++aQ 4 ([.dx dz x.1.1,bC,bC,bC,dP 19]++aQ 39 [])),[cO (.pr (.ptr (.bW 1) 0 [] 0) (.d (.pair ti (.pair (.slice cd) .unit)) x.1.2.1)),cO (.pr (.cK (.bW 2) 0) (.pr (.cg (.bW 3) 0 [] 0 0 x.1.2.2.1) jL)),cO (.mp bX fh x.1.2.2.2.1),cO (.vec 95 cv x.1.2.2.2.2)],(bk 19 ([[cO (.pr (.cK (.new 19 1) 0) (.pr (.cg (.new 19 2) 0 [] 0 0 x.2.1) jL)),cO (.mp bX fh x.2.2.1),cO (.vec 95 cv x.2.2.2)]]++bk 29 []))⟩))
def Fu:Fs Tryz.prog auR bz ac4:=fu 34 Tryz.f34 (λ(row,t,o0b,o1baL,o2,o3)=>([.ptr (.bW 0) 0 [] 0,.d (.slice cd) row,.d dz t],[.obj 0 aS (.pr (.ptr (.bW 1) 0 [] 0) (.d (.pair ti (.pair (.slice cd) .unit)) o0b)),.obj 0 aS (.pr (.cK (.bW 2) 0) (.pr (.cg (.bW 3) 0 [] 0 0 o1baL) (.d .unit ()))),.obj 0 aS (.mp bX fh o2),.obj 0 aS (.vec 95 cv o3)])) (λx=>⟨.cons (.d ti x.1) (.cons (.d ti x.2.1) (.nil)),[.obj 0 aS (.pr (.ptr (.bW 1) 0 [] 0) (.d (.pair ti (.pair (.slice cd) .unit)) x.2.2.1)),.obj 0 aS (.pr (.cK (.bW 2) 0) (.pr (.cg (.bW 3) 0 [] 0 0 x.2.2.2.1) (.d .unit ()))),.obj 0 aS (.mp bX fh x.2.2.2.2.1),.obj 0 aS (.vec 95 cv x.2.2.2.2.2)],[]⟩) [aF,aj (.slice cd),aj dz] [Cy,MR,aaX,aa4] {loops:=oI [(4,{aV:=[0,5,8,9,20,21,22],sites:=[14,19],owns:=[⟨9,[.snd,.fst],19,28⟩]})],outs:=oH [(4,{aV:=[0,5,9],sites:=[19]},{aV:=[6,7]})],fE:=pW [(4,nA.E)]}
theorem ago:nA.RS:=rL [.d dz,.d (.slice cd),.d ti,.d ti,.d (.pair ti (.pair (.slice cd) .unit)),.n,.d (.slice (.pair bX fh)),.d (.slice cv),.d (.slice (.pair cd .bool)),.n,.d (.slice (.pair bX fh)),.d (.slice cv)] nA
theorem wB(il t20 t21 t22 o0 o1L eZ gJ Hi Qi VN qS)(kn:K2 R)(kx:K3 R):Fu.R 0 nA (il,t20,t21,t22,o0,o1L,eZ,gJ,Hi,Qi,VN,qS) kn kx=aG (fL t22 t21) (aG (eE t22 (t20.length:Int)) (aG ((bV cd (nth cd t20 (ab t22)) Hi).getD aS) (al ((nth cd t20 (ab t22))) λx1=>al (xR (x1.2.1,o0.1,Qi,VN,qS)) λx2=>aG x2.isLeft (al x2.getLeft? λaPn=>kn (nA.st (il,t20,t21,(bA .i64 t22 1),o0,o1L,eZ,gJ,Hi,aPn.2.1,aPn.2.2.1,aPn.2.2.2))) (al x2.getRight? λaK8=>kn (nA.st (il,t20,t21,(bA .i64 t22 1),o0,o1L,eZ,gJ,Hi,aK8.2.1,aK8.2.2.1,aK8.2.2.2)))) (kn (nA.st (il,t20,t21,(bA .i64 t22 1),o0,o1L,eZ,gJ,Hi,Qi,VN,qS)))) aF) (nA.go kx ((il,o0,o1L,eZ,gJ),(Qi,VN,qS))):=cf
theorem aBt(row t o0b o1baL o2 o3)(k:K1 R):Fu.A (row,t,o0b,o1baL,o2,o3) k=al (td.call (row,t)) λx1=>al (we.call (o1baL,o2,o3)) λx2=>al (nA.call (t,row,(row.length:Int),0,o0b,x2.1,x2.2.1,x2.2.2.1,x1,x2.2.2.2.1,x2.2.2.2.2.1,x2.2.2.2.2.2)) λx7=>al (nh.call (x7.1.1,x7.1.2.1.1,x7.2.1,x7.2.2.1,x7.2.2.2)) λx8=>k (Fu.out (x8.1,x8.2.1,x7.1.2.1,x7.1.2.2.1,x7.1.2.2.2.1,x7.1.2.2.2.2)):=cf
theorem alB:(Fu.kA 0 nA):=by
 refine(Fu.nN 0 nA) (λ(_,l,_,i,_)=>l.length - i.toNat) ?_
 rintro⟨t,l,m,i,p,c,a0,s0,mk,n,a,s⟩ ⟨hr,rfl,k,hk,rfl,hg⟩;have hl:l.length<=90:=hr.1;have hk:k<=l.length:=hk;have hg:Cs (300+k) n a s:=hg;by_cases h:k < l.length
 ·left;have n1:nth cd l k=l[k]:=cj (t:=cd) h;have hd:l.drop k=l[k]::l.drop (k+1):=aq h;obtain⟨w,hw,hv,gb,hlen⟩:=hr.2 _ (aR h);rw[hw]at n1 hd;cases hm:cX mk (aj w) with
  |false=>
   refine⟨(t,l,(l.length:Int),((k+1:Nat):Int),p,c,a0,s0,mk,n,a,s),⟨hr,rfl,k+1,h,rfl,hg.mono au⟩,by simp only[aa];omega,?_,λkn kx=> ?_⟩
   ·simp only[pC,vC,aa,hd,aX,xt,hm,bw,bp]
   ·rw[wB,aT au,ak,aZ au au,ak,aa,n1,show(bV cd (aj w) mk).getD aS=aS from hm,ao,N.lh au]
  |true=>
   rcases hg.apply (t:=w.2.1) (h:=p.1) au hv with⟨hc,ha⟩ | ⟨_,hc,ha,aKY⟩
   ·refine⟨(t,l,(l.length:Int),((k+1:Nat):Int),p,c,a0,s0,mk,n,a,s),⟨hr,rfl,k+1,h,rfl,hg.mono au⟩,by simp only[aa];omega,?_,λkn kx=> ?_⟩
    ·simp only[pC,vC,aa,hd,aX,xt,hm,bE];rw[show aay p.1 (n,a,s) w.2.1=(n,a,s) from if_pos hc]
    ·rw[wB,aT au,ak,aZ au au,ak,aa,n1,show(bV cd (aj w) mk).getD aS=aL from hm,ak,ah,ha];simp only[ah,ng,ak,ko];rw[N.lh au]
   ·refine⟨(t,l,(l.length:Int),((k+1:Nat):Int),p,c,a0,s0,mk,n+1,jI w.2.1 p.1 a,s.take n++ [stepOf w.2.1 a]),⟨hr,rfl,k+1,h,rfl,aKY⟩,by simp only[aa];omega,?_,λkn kx=> ?_⟩
    ·simp only[pC,vC,aa,hd,aX,xt,hm,bE];rw[show aay p.1 (n,a,s) w.2.1=(n+1,jI w.2.1 p.1 a,s.take n++ [stepOf w.2.1 a]) from if_neg (λx=>x hc)]
    ·rw[wB,aT au,ak,aZ au au,ak,aa,n1,show(bV cd (aj w) mk).getD aS=aL from hm,ak,ah,ha];simp only[ah,dN,ao,cV];rw[N.lh au]
 ·right;obtain rfl:k=l.length:=au;intro R kn kx;rw[wB,aP au,ao];simp only[pC,vC,aa,aH,eO]
theorem aBu:Fu.Ok:=by rintro⟨row,t,p,n,a,s⟩ ⟨hr,hm,hv,hg⟩;have hl:row.length<=90:=hr.1;have hg:Cs 300 n a s:=hg;obtain⟨hc,hn⟩:=hg.canon;have z1:((0:Int)).toNat=0:=rfl;rw[aBt,Dp (d:=(row,t)) ⟨hr.w,hm⟩,hg.copy au];simp only[ah,bz,KA,hn];rw[ago (d:=(t,row,(row.length:Int),0,p,n,a,s,dF row t,n,dq a,s.take n)) ⟨hr,rfl,0,aK _,rfl,hc⟩];simp only[ah,pC,vC,z1,aO];have aKY:=aGV (h:=p.1) (mk:=dF row t) row (m:=300) (S:=(n,dq a,s.take n)) hr.2 au hc;obtain⟨S,hS⟩:∃S,row.foldl (xt p.1 (dF row t)) (n,dq a,s.take n)=S:=⟨_,rfl⟩;rw[hS]at aKY ⊢;rw[aKY.check hv];simp only[ah,bz,ac4,wb,af2,hS]
theorem auS:Fu.RS:=rE [.d (.slice cd),.d dz,.d (.pair ti (.pair (.slice cd) .unit)),.n,.d (.slice (.pair bX fh)),.d (.slice cv)] Fu
def aBv:=Fu.fI aBu 1 ⟨.eW alB,trivial⟩
abbrev Du:=cR×Nat×(List bN)×Int×Int×(Int×((List bN)×Unit))×Nat×(List (cr×fj))×(List cI)×tj×(List (bN×Bool))×(List bN)
def iE:Du->AS:=λ(il,restL,t36,t37,t38,o0,o1L,eZ,gJ,aO3,aab,aO5)=>⟨([.ptr (.bW 0) 0 [] 0,bC,bC,.dx dz il,bC,dP 25,.cK (.new 32 0) 0,je 77 restL]++aQ 28 ([.d (.slice cd) t36,.d ti t37,.d ti t38]++aQ 104 [])),[cO (.pr (.ptr (.bW 1) 0 [] 0) (.d (.pair ti (.pair (.slice cd) .unit)) o0)),cO (.pr (.cK (.bW 2) 0) (.pr (.cg (.bW 3) 0 [] 0 0 o1L) jL)),cO (.mp bX fh eZ),cO (.vec 95 cv gJ)],(bk 25 ([cJ (.d aeV aO3)]++bk 6 ([cJ (.mp cd .bool aab)]++bk 44 ([cJ (.vec 80 cd aO5)]++bk 65 []))))⟩
abbrev EA:=cR×Nat×(Int×((List bN)×Unit))×Nat×(List (cr×fj))×(List cI)×tj×(List (bN×Bool))×(List bN)
def BU:EA->Exit×AS:=λ(a,b,c,e,f,g,h,i,j)=>(.exit 0,⟨([.ptr (.bW 0) 0 [] 0,bC,bC,.dx dz a,bC,dP 25,.cK (.new 32 0) 0,je 77 b]++aQ 135 []),[cO (.pr (.ptr (.bW 1) 0 [] 0) (.d (.pair ti (.pair (.slice cd) .unit)) c)),cO (.pr (.cK (.bW 2) 0) (.pr (.cg (.bW 3) 0 [] 0 0 e) jL)),cO (.mp bX fh f),cO (.vec 95 cv g)],(bk 25 ([cJ (.d aeV h)]++bk 6 ([cJ (.mp cd .bool i)]++bk 44 ([cJ (.vec 80 cd j)]++bk 65 []))))⟩)
def Tm:EA->Out (Exit×AS):=λx=> .ok (BU x)
def oN:Du->(cR×Nat×(Int×((List bN)×Unit))×Nat×(List (cr×fj))×(List cI)×tj×(List (bN×Bool))×(List bN))->EA:=λ(il,restL,t36,t37,t38,o0,o1L,eZ,gJ,aO3,aab,aO5) y=>y
abbrev Dv:=cR×Nat×bN×(List bN)×Int×Int×(Int×((List bN)×Unit))×Nat×(List (cr×fj))×(List cI)×tj×(List (bN×Bool))×(List (bN×Bool))×(List (bN×Bool))×(List bN)
def nY:Dv->AS:=λ(qi,B6,yv,Uv,Uw,z7,tc,AT,pX,NC,SQ,nu,aRZ,aMJ,SS)=>⟨([.ptr (.bW 0) 0 [] 0,bC,bC,.dx dz qi,bC,dP 25,.cK (.new 32 0) 0,je 77 B6,bC,.d cd yv]++aQ 26 ([.d (.slice cd) Uv,.d ti Uw,.d ti z7]++aQ 21 ([dP 60]++aQ 82 []))),[cO (.pr (.ptr (.bW 1) 0 [] 0) (.d (.pair ti (.pair (.slice cd) .unit)) tc)),cO (.pr (.cK (.bW 2) 0) (.pr (.cg (.bW 3) 0 [] 0 0 AT) jL)),cO (.mp bX fh pX),cO (.vec 95 cv NC)],(bk 25 ([cJ (.d aeV SQ)]++bk 6 ([cJ (.mp cd .bool nu)]++bk 26 ([[.obj 0 aL (.mp cd .bool aRZ)],cJ (.rW (.new 59 0) 1 cd .bool aMJ aF)]++bk 16 ([cJ (.vec 80 cd SS)]++bk 65 [])))))⟩
abbrev EB:=(cR×Nat×bN×(List bN)×Int×Int×(Int×((List bN)×Unit))×Nat×(List (cr×fj))×(List cI)×tj×(List bN))×((List (bN×Bool)))
def BW:EB->Exit×AS:=λ((a,b,c,e,f,g,h,i,j,k,l,m),n)=>(.exit 2,⟨([.ptr (.bW 0) 0 [] 0,bC,bC,.dx dz a,bC,dP 25,.cK (.new 32 0) 0,je 77 b,bC,.d cd c]++aQ 26 ([.d (.slice cd) e,.d ti f,.d ti g]++aQ 104 [])),[cO (.pr (.ptr (.bW 1) 0 [] 0) (.d (.pair ti (.pair (.slice cd) .unit)) h)),cO (.pr (.cK (.bW 2) 0) (.pr (.cg (.bW 3) 0 [] 0 0 i) jL)),cO (.mp bX fh j),cO (.vec 95 cv k)],(bk 25 ([cJ (.d aeV l)]++bk 6 ([cJ (.mp cd .bool n)]++bk 44 ([cJ (.vec 80 cd m)]++bk 65 []))))⟩)
def To:EB->Out (Exit×AS):=λx=> .ok (BW x)
def wD:Dv->((List (bN×Bool)))->EB:=λ(qi,B6,yv,Uv,Uw,z7,tc,AT,pX,NC,SQ,nu,aRZ,aMJ,SS) y=>((qi,B6,yv,Uv,Uw,z7,tc,AT,pX,NC,SQ,SS),y)
abbrev Dx:=Nat×Int×Int×(Int×((List bN)×Unit))×Nat×(List (cr×fj))×(List cI)×tj×(List (bN×Bool))×(List bN)×(List (bN×Bool))
def zR:Dx->AS:=λ(EL,kq,least,BG,qf,tz,BH,SR,cP,XN,agc)=>⟨([.ptr (.bW 0) 0 [] 0]++aQ 4 ([dP 25,bC,je 77 EL,bC,bC,bC,.d ti kq,bC,.d ti least]++aQ 93 ([dP 107]++aQ 35 []))),[cO (.pr (.ptr (.bW 1) 0 [] 0) (.d (.pair ti (.pair (.slice cd) .unit)) BG)),cO (.pr (.cK (.bW 2) 0) (.pr (.cg (.bW 3) 0 [] 0 0 qf) jL)),cO (.mp bX fh tz),cO (.vec 95 cv BH)],(bk 25 ([cJ (.d aeV SR)]++bk 6 ([[.obj 0 aL (.mp cd .bool cP)]]++bk 44 ([[.obj 0 aL (.vec 80 cd XN)]]++bk 29 ([cJ (.rW (.new 32 0) 1 cd .bool agc aF)]++bk 35 [])))))⟩
abbrev Yf:=(Int×((List bN)×Unit))×Nat×(List (cr×fj))×(List cI)
def BY:Yf->Exit×AS:=λ(a,b,c,e)=>(.ret,⟨([.ptr (.bW 0) 0 [] 0,bC,bC,bC,.d ti (13:Int)]++aQ 138 []),[cO (.pr (.ptr (.bW 1) 0 [] 0) (.d (.pair ti (.pair (.slice cd) .unit)) a)),cO (.pr (.cK (.bW 2) 0) (.pr (.cg (.bW 3) 0 [] 0 0 b) jL)),cO (.mp bX fh c),cO (.vec 95 cv e)],(ae 143 [])⟩)
abbrev Yg:=(Nat×Int×(Int×((List bN)×Unit))×Nat×(List (cr×fj))×(List cI)×tj×(List bN))×(Int)
def BZ:Yg->Exit×AS:=λ((a,b,c,e,f,g,h,i),j)=>(.exit 5,⟨([.ptr (.bW 0) 0 [] 0]++aQ 4 ([dP 25,bC,je 77 a,bC,bC,bC,.d ti b,bC,.d ti j]++aQ 129 [])),[cO (.pr (.ptr (.bW 1) 0 [] 0) (.d (.pair ti (.pair (.slice cd) .unit)) c)),cO (.pr (.cK (.bW 2) 0) (.pr (.cg (.bW 3) 0 [] 0 0 e) jL)),cO (.mp bX fh f),cO (.vec 95 cv g)],(bk 25 ([cJ (.d aeV h)]++bk 51 ([[.obj 0 aL (.vec 80 cd i)]]++bk 65 [])))⟩)
abbrev QH:=(Yf)⊕(Yg)
abbrev ads:=(Unit)⊕(Int)
def Tp:QH->Out (Exit×AS):=λx=> .br x.isLeft (.get x.getLeft? λa=> .ok (BY a)) (.get x.getRight? λb=> .ok (BZ b))
def BX:Dx->ads->QH:=λ(EL,kq,least,BG,qf,tz,BH,SR,cP,XN,agc) y=>match y with | .inl y=> .inl (BG,qf,tz,BH) | .inr z=> .inr (((EL,kq,BG,qf,tz,BH,SR,XN),z))
abbrev Tk:=cR×(Int×((List bN)×Unit))×Nat×(List (cr×fj))×(List cI)
def adt:Tk->SA:=λ(t,o0b,o1baL,o2,o3)=>([.ptr (.bW 0) 0 [] 0,.d dz t],[cO (.pr (.ptr (.bW 1) 0 [] 0) (.d (.pair ti (.pair (.slice cd) .unit)) o0b)),cO (.pr (.cK (.bW 2) 0) (.pr (.cg (.bW 3) 0 [] 0 0 o1baL) jL)),cO (.mp bX fh o2),cO (.vec 95 cv o3)])
abbrev Nh:=Int×(Int×((List bN)×Unit))×Nat×(List (cr×fj))×(List cI)
abbrev aai:=Int×(Int×((List bN)×Unit))×Nat×(List (cr×fj))×(List cI)
def pE:aai->ja:=λx=>⟨.d ti x.1,[cO (.pr (.ptr (.bW 1) 0 [] 0) (.d (.pair ti (.pair (.slice cd) .unit)) x.2.1)),cO (.pr (.cK (.bW 2) 0) (.pr (.cg (.bW 3) 0 [] 0 0 x.2.2.1) jL)),cO (.mp bX fh x.2.2.2.1),cO (.vec 95 cv x.2.2.2.2)],[]⟩
def VZ:Tk->Nh->aai:=λ(t,o0b,o1baL,o2,o3) y=>y
theorem aHk{P:Program}{G:pb}{an:Ae}{N:Nat}{fn:Func}{i:Nat}{D X Y:Type}{st:D->AS}{fT:D->Prop}{add:D->Y->X}{F:D->Y}{out:X->Out (Exit×AS)}(μ:D->Nat)
  (hv:∀d,fT d->∃r,(out (add d (F d))).eval=aj r)
  (h:∀d,fT d->∀r:Exit×AS,(out (add d (F d))).eval=aj r->∀(kn:AS->Option (Exit×AS)) (kx:Exit->AS->Option (Exit×AS)),(∀d',fT d'->μ d' < μ d->add d' (F d')=add d (F d)->kn (st d')=aj r)->kx r.1 r.2=aj r->dV P G an N fn i st d kn kx=aj r):
  jh P G an N fn i st fT add F out:=by
 have key:∀M d,fT d->μ d < M->∀r,(out (add d (F d))).eval=aj r->SM P G an N fn i M (st d) (λe s=>aj (e,s))=aj r:=by
  intro M
  induction M with
  |zero=>intro d _ hm;omega
  |succ M ih=>
   intro d hp hm r hr;rw[Cx];exact h d hp r hr _ _ (λd' h1 h2 h3=>ih d' h1 au r (by rw[h3];exact hr)) rfl
 exact λd hp=>by obtain⟨r,hr⟩:=hv d hp;exact⟨μ d+1,(key _ d hp (Nat.lt_succ_self _) r hr).trans hr.symm⟩
theorem XL{kt:Ty}{β:Type}(hr:∀x:kt.den,kt.beq x x=aL)(o:kt.den)(v:β):∀l:List (kt.den×β),cY kt o v (cY kt o v l)=cY kt o v l
 |[]=>by rw[si,gG,if_pos (hr o)]
 |p::l=>by
  rw[gG];split
  ·rw[gG,if_pos (hr o)]
  ·rename_i h;rw[gG,if_neg h,XL hr o v l]
def anyM(g:Mk)(r:Mk):Bool:=r.any λp=>cX g p.1
def jX(y:bN)(r g:Mk):Mk:=if anyM g r=aL then cY cd y aL g else g
theorem azl{g r r':Mk}(h:r.Perm r'):anyM g r=anyM g r':=by unfold anyM;rw[tM,rH,rH];exact⟨λ⟨x,hx,h2⟩=>⟨x,h.mem_iff.1 hx,h2⟩,λ⟨x,hx,h2⟩=>⟨x,h.mem_iff.2 hx,h2⟩⟩
theorem auI{y:bN}{r g:Mk}{j:Nat}(hj:j < r.length):jX y (r.eraseIdx j) (if cX g (r[j]).1=aL then cY cd y aL g else g)=jX y r g:=by
 have e:anyM g r=(cX g (r[j]).1 || anyM g (r.eraseIdx j)):=azl (CX hj);unfold jX;cases hm:cX g (r[j]).1 with
 |true=>
  rw[e,hm];simp only[bE,ot];rw[XL (λx=>(I3 x x).2 rfl)];split <;> rfl
 |false=>
  rw[e,hm];simp only[bw,bp,pA]
def u9(row:List bN)(t:cR)(S:Mk×List bN)(x:bN):Mk×List bN:=match x with
 |none=>S
 |some w=>
  let g:=jX (aj w) (dF row w.2.1) (if iv w.2.1 (da t)=aL then cY cd (aj w) aL S.1 else S.1)
  (g,if cX g (aj w)=aL then S.2 else S.2++ [aj w])
def Zl(x:bN):Int:=match x with | none=>0 | some w=>w.2.2.2.1
def aEE(f wt:Int)(x:bN):Bool:=match x with | none=>aS | some w=>decide (atc f w.2.2.2.2.1 w.2.2.2.1 wt<=0)
def UX(f wt:Int)(m:Mk):Bool:=m.any λp=>aEE f wt p.1
def Cg(m:Mk):Int:=(m.map λp=>Zl p.1).sum
theorem azk{f wt:Int}{r r':Mk}(h:r.Perm r'):UX f wt r=UX f wt r':=by unfold UX;rw[tM,rH,rH];exact⟨λ⟨x,hx,h2⟩=>⟨x,h.mem_iff.1 hx,h2⟩,λ⟨x,hx,h2⟩=>⟨x,h.mem_iff.2 hx,h2⟩⟩
theorem aDr{r r':Mk}(h:r.Perm r'):Cg r=Cg r':=by
 unfold Cg
 induction h with
 |nil=>rfl
 |cons x _ ih=>rw[bM,jb,bM,jb,ih]
 |swap x y l=>simp only[bM,jb];omega
 |trans _ _ ih1 ih2=>exact ih1.trans ih2
def Nx(x:bN):Prop:=∃w,x=aj w/\0<=w.2.2.2.1/\w.2.2.2.1<=1125899906842624
theorem awA:∀(m:Mk),(∀y∈m,Nx y.1)->0<=Cg m/\Cg m<=m.length*1125899906842624
 |[],_=>⟨eV _,eV _⟩
 |p::m,h=>by
  obtain⟨w,hw,h0,h1⟩:=h p aC;have ih:=awA m λy hy=>h y (az _ hy)
  have e:Cg (p::m)=w.2.2.2.1+Cg m:=by unfold Cg;rw[bM,jb,hw];rfl
  rw[e,aE];omega
def BV:Dv->Prop:=λ_=>True
def Dw:Dv->((List (bN×Bool))):=λ(_,_,y,_,_,_,_,_,_,_,_,gone,_,r,_)=>jX y r gone
def BT:Du->Prop:=λ(t,rL,l,m,i,p,_,_,_,_,_,rest)=>(aPu t/\s5 p.2.1)/\l=p.2.1/\rL=rest.length/\m=(l.length:Int)/\∃k:Nat,k<=l.length/\i=k/\rest.length<=k
def uX:Du->(cR×Nat×(Int×((List bN)×Unit))×Nat×(List (cr×fj))×(List cI)×tj×(List (bN×Bool))×(List bN)):=λ(t,_,l,_,i,p,n,a,s,x,gone,rest)=>(t,((l.drop i.toNat).foldl (u9 p.2.1 t) (gone,rest)).2.length,p,n,a,s,x,((l.drop i.toNat).foldl (u9 p.2.1 t) (gone,rest)).1,((l.drop i.toNat).foldl (u9 p.2.1 t) (gone,rest)).2)
def Ig:Dx->Prop:=λ(_,_,least,_,_,_,_,_,_,_,gone)=>(∀y∈gone,Nx y.1)/\0<=least/\least+Cg gone<=1000000000000000000
def uY:Dx->ads:=λ(_,kq,least,_,_,_,_,x,_,_,gone)=>if UX kq x.2.2.2.1 gone=aL then .inl () else .inr (least+Cg gone)
def JI(p:ZQ)(t:cR)(row:List bN)(n:Nat)(a:At)(s:List cI):tj:=(t,(sX t,((wb p.1 row t n a s).1,(lq t,()))))
def dr(t:cR)(p:ZQ):Mk×List bN:=p.2.1.foldl (u9 p.2.1 t) ([],[])
def Ps(t:cR)(p:ZQ)(n:Nat)(a:At)(s:List cI):Int:=if(lU (sX t) p.2.1).isSome=aL then 4 else if jV (dr t p).2 1001 t > 4 then 25 else if(wb p.1 (dr t p).2 t n a s).2≠0 then(wb p.1 (dr t p).2 t n a s).2 else if UX (wb p.1 (dr t p).2 t n a s).1 (lq t) (dr t p).1=aL then 13 else if(wb p.1 (dr t p).2 t n a s).1 < lq t+Cg (dr t p).1 then 13 else 0
def nI(t:cR)(p:ZQ)(n:Nat)(a:At)(s:List cI):Int:=if gv t=aL then Ps t p n a s else 1
structure aEl(t:cR)(p:ZQ)(n:Nat)(a:At)(s:List cI):Prop where
 tv:xx t
 row:s5 p.2.1
 akv:∀x∈p.2.1,Nx x
 dp:gv t=aL->asK (dr t p).2 100 t
 st:Cs 300 n a s
def VY:Tk->Prop:=λ(t,p,n,a,s)=>aEl t p n a s
def mA:Tk->Nh->Prop:=λ(t,p,n,a,s) y=>(nI t p n a s≠0/\y=(nI t p n a s,p,n,a,s))\/(nI t p n a s=0/\∃k,k ∉ (dr t p).2.flatMap (fy cd)/\y=(0,(p.1,((dr t p).2++ [aj (k,JI p t (dr t p).2 n a s)],())),n,a,s))
def Ie:pb:=jB (P:=Tryz.prog) [pQ,aqu,ae6,afs,ayx,afp,adF,Cy,aIa,aBv,ayq]
def adm:=du.eW iE BT oN uX Tm
def Oy:Du->Option EA:=fP adm iE
def ado:=du.eW nY BV wD Dw To
def yT:Dv->Option EB:=fP ado nY
def adq:=du.eW zR Ig BX uY Tp
def OB:Dx->Option QH:=fP adq zR
def Dy:Ae:= {bu:=[25],loops:=oI [(9,{aV:=[0,3,5,6,7,36,37,38],sites:=[25,32,77],owns:=[⟨7,[],77,77⟩]}),(14,{aV:=[0,3,5,6,7,9,36,37,38,60],sites:=[25,32,59,60,77],aRV:=[60]}),(31,{aV:=[0,5,7,11,13,107],sites:=[25,32,77,107],aRV:=[107]})],outs:=oH [(9,{aV:=[0,3,5,6,7],sites:=[25,32,77]},{aV:=[0,4]}),(14,{aV:=[0,3,5,6,7,9,36,37,38],sites:=[25,32,77]},{aV:=[0,4]}),(31,{aV:=[0,5,7,11,13],sites:=[25,77]},{aV:=[0,4]})],fE:=pW [(9,adm),(14,ado),(31,adq)],PJ:=[⟨0,[.snd,.snd,.fst],(.slice cd)⟩],VR:=λq=>(pW [(38,[⟨5,aeV,7⟩])] q).getD []}
def ayA:= @Rl Tryz.prog Ie Dy 0 Tryz.f8 _ adt
abbrev aIs:=aEo @ayA VY VZ mA pE
def adn:= @dV Tryz.prog Ie Dy 0 Tryz.f8 0 _ iE
abbrev Yd:=jh Tryz.prog Ie Dy 0 Tryz.f8 0 iE BT oN uX Tm
def adp:= @dV Tryz.prog Ie Dy 0 Tryz.f8 1 _ nY
abbrev Ye:=jh Tryz.prog Ie Dy 0 Tryz.f8 1 nY BV wD Dw To
def adr:= @dV Tryz.prog Ie Dy 0 Tryz.f8 2 _ zR
abbrev aqx:=jh Tryz.prog Ie Dy 0 Tryz.f8 2 zR Ig BX uY Tp
theorem alN:iy Oy BT oN uX:=kz (jC [.d dz,.n,.d (.slice cd),.d ti,.d ti,.d (.pair ti (.pair (.slice cd) .unit)),.n,.d (.slice (.pair bX fh)),.d (.slice cv),.d aeV,.d (.slice (.pair cd .bool)),.d (.slice cd)] λ_=>cf)
theorem Tl:azd @adn iE BT oN uX BU Yd:=aLv
theorem Oz(il restL t36 t37 t38 o0 o1L eZ gJ aO3 aab aO5)(kn:K2 R)(kx:K3 R):adn (il,restL,t36,t37,t38,o0,o1L,eZ,gJ,aO3,aab,aO5) kn kx=aG (fL t38 t37) (aG (eE t38 (((List.length t36):Nat):Int)) (al ((nth cd t36 (ab t38))) λx1=>al (uv.call il) λx2=>al (yW.call (x1.2.1,x2)) λx3=>aG (x3) (al ((nth cd t36 (ab t38))) λx4=>al (td.call (o0.2.1,x4.2.1)) λx5=>al (yT (il,restL,(nth cd t36 (ab t38)),t36,t37,t38,o0,o1L,eZ,gJ,aO3,(cY cd (nth cd t36 (ab t38)) aL aab),x5,x5,aO5)) λx6=>aG (!((bV cd x6.1.2.2.1 x6.2).getD aS)) (aG (decide (x6.1.2.1<=(List.length x6.1.2.2.2.2.2.2.2.2.2.2.2))) (aG (dd (x6.1.2.1+1) 8) (kn (iE (x6.1.1,(x6.1.2.1+1),x6.1.2.2.2.1,x6.1.2.2.2.2.1,(bA .i64 x6.1.2.2.2.2.2.1 (1:Int)),x6.1.2.2.2.2.2.2.1,x6.1.2.2.2.2.2.2.2.1,x6.1.2.2.2.2.2.2.2.2.1,x6.1.2.2.2.2.2.2.2.2.2.1,x6.1.2.2.2.2.2.2.2.2.2.2.1,x6.2,((aJ x6.1.2.1 x6.1.2.2.2.2.2.2.2.2.2.2.2)++ [x6.1.2.2.1])))) aF) aF) (kn (iE (x6.1.1,x6.1.2.1,x6.1.2.2.2.1,x6.1.2.2.2.2.1,(bA .i64 x6.1.2.2.2.2.2.1 (1:Int)),x6.1.2.2.2.2.2.2.1,x6.1.2.2.2.2.2.2.2.1,x6.1.2.2.2.2.2.2.2.2.1,x6.1.2.2.2.2.2.2.2.2.2.1,x6.1.2.2.2.2.2.2.2.2.2.2.1,x6.2,x6.1.2.2.2.2.2.2.2.2.2.2.2)))) (al ((nth cd t36 (ab t38))) λx7=>al (td.call (o0.2.1,x7.2.1)) λx8=>al (yT (il,restL,(nth cd t36 (ab t38)),t36,t37,t38,o0,o1L,eZ,gJ,aO3,aab,x8,x8,aO5)) λx9=>aG (!((bV cd x9.1.2.2.1 x9.2).getD aS)) (aG (decide (x9.1.2.1<=(List.length x9.1.2.2.2.2.2.2.2.2.2.2.2))) (aG (dd (x9.1.2.1+1) 8) (kn (iE (x9.1.1,(x9.1.2.1+1),x9.1.2.2.2.1,x9.1.2.2.2.2.1,(bA .i64 x9.1.2.2.2.2.2.1 (1:Int)),x9.1.2.2.2.2.2.2.1,x9.1.2.2.2.2.2.2.2.1,x9.1.2.2.2.2.2.2.2.2.1,x9.1.2.2.2.2.2.2.2.2.2.1,x9.1.2.2.2.2.2.2.2.2.2.2.1,x9.2,((aJ x9.1.2.1 x9.1.2.2.2.2.2.2.2.2.2.2.2)++ [x9.1.2.2.1])))) aF) aF) (kn (iE (x9.1.1,x9.1.2.1,x9.1.2.2.2.1,x9.1.2.2.2.2.1,(bA .i64 x9.1.2.2.2.2.2.1 (1:Int)),x9.1.2.2.2.2.2.2.1,x9.1.2.2.2.2.2.2.2.1,x9.1.2.2.2.2.2.2.2.2.1,x9.1.2.2.2.2.2.2.2.2.2.1,x9.1.2.2.2.2.2.2.2.2.2.2.1,x9.2,x9.1.2.2.2.2.2.2.2.2.2.2.2))))) aF) (kx (BU (il,restL,o0,o1L,eZ,gJ,aO3,aab,aO5)).1 (BU (il,restL,o0,o1L,eZ,gJ,aO3,aab,aO5)).2):=cf
theorem alO:iy yT BV wD Dw:=kz (jC [.d dz,.n,.d cd,.d (.slice cd),.d ti,.d ti,.d (.pair ti (.pair (.slice cd) .unit)),.n,.d (.slice (.pair bX fh)),.d (.slice cv),.d aeV,.d (.slice (.pair cd .bool)),.d (.slice (.pair cd .bool)),.d (.slice (.pair cd .bool)),.d (.slice cd)] λ_=>cf)
theorem Tn:aLa @adp nY BV wD Dw BW Ye:=aPH
theorem OA(qi B6 yv Uv Uw z7 tc AT pX NC SQ nu aRZ aMJ SS)(kn:K2 R)(kx:K3 R):adp (qi,B6,yv,Uv,Uw,z7,tc,AT,pX,NC,SQ,nu,aRZ,aMJ,SS) kn kx=aG (decide (0 < (List.length aMJ))) (aow (List.length aMJ) λj1=>aG ((bV cd (sj cd .bool aMJ j1).1 nu).getD aS) (kn (nY (qi,B6,yv,Uv,Uw,z7,tc,AT,pX,NC,SQ,(cY cd yv aL nu),aRZ,(List.eraseIdx aMJ j1),SS))) (kn (nY (qi,B6,yv,Uv,Uw,z7,tc,AT,pX,NC,SQ,nu,aRZ,(List.eraseIdx aMJ j1),SS)))) (kx (BW ((qi,B6,yv,Uv,Uw,z7,tc,AT,pX,NC,SQ,SS),nu)).1 (BW ((qi,B6,yv,Uv,Uw,z7,tc,AT,pX,NC,SQ,SS),nu)).2):=cf
theorem alP:iy OB Ig BX uY:=kz (jC [.n,.d ti,.d ti,.d (.pair ti (.pair (.slice cd) .unit)),.n,.d (.slice (.pair bX fh)),.d (.slice cv),.d aeV,.d (.slice (.pair cd .bool)),.d (.slice cd),.d (.slice (.pair cd .bool))] λ_=>cf)
theorem OC(EL kq least BG qf tz BH SR cP XN agc)(kn:K2 R)(kx:K3 R):adr (EL,kq,least,BG,qf,tz,BH,SR,cP,XN,agc) kn kx=aG (decide (0 < (List.length agc))) (aow (List.length agc) λj1=>al ((sj cd .bool agc j1).1) λx2=>al ((sj cd .bool agc j1).1) λx3=>al (aqi.call (kq,x2.2.2.2.2.1,x3.2.2.2.1,SR.2.2.2.1)) λx4=>aG (akP x4 (0:Int)) (kx (BY (BG,qf,tz,BH)).1 (BY (BG,qf,tz,BH)).2) (al ((sj cd .bool agc j1).1) λx5=>kn (zR (EL,kq,(bA .i64 least x5.2.2.2.1),BG,qf,tz,BH,SR,cP,XN,(List.eraseIdx agc j1))))) (kx (BZ ((EL,kq,BG,qf,tz,BH,SR,XN),least)).1 (BZ ((EL,kq,BG,qf,tz,BH,SR,XN),least)).2):=cf
theorem aqz(t o0b o1baL o2 o3)(k:K1 R):ayA (t,o0b,o1baL,o2,o3) k=al (ij.call t) λx1=>aG (!x1) (k (pE ((1:Int),(o0b.1,(o0b.2.1,o0b.2.2)),o1baL,o2,o3))) (al (Yc.call t) λx2=>al (tid.call t) λx3=>al (uw.call t) λx4=>al (QB.call (x3,o0b,o1baL,o2,o3)) λx5=>aG (x5.1) (k (pE ((4:Int),(x5.2.1.1,(x5.2.1.2.1,x5.2.1.2.2)),x5.2.2.1,x5.2.2.2.1,x5.2.2.2.2))) (al (Oy (t,0,x5.2.1.2.1,(((List.length x5.2.1.2.1):Nat):Int),(0:Int),x5.2.1,x5.2.2.1,x5.2.2.2.1,x5.2.2.2.2,(x2,(x3,((0:Int),(x4,())))),([]:List (bN×Bool)),([]:List bN))) λpS=>aG (D4 ((pS.2.1:Nat):Int) (100:Int)) (k (pE ((3:Int),(pS.2.2.1.1,(pS.2.2.1.2.1,pS.2.2.1.2.2)),pS.2.2.2.1,pS.2.2.2.2.1,pS.2.2.2.2.2.1))) (aG (decide (0=0/\(0+pS.2.1)<=(List.length pS.2.2.2.2.2.2.2.2))) (al (ac7 ((cut pS.2.2.2.2.2.2.2.2 0 pS.2.1),pS.1)) λaPl=>aG (Af aPl (4:Int)) (k (pE ((25:Int),(pS.2.2.1.1,(pS.2.2.1.2.1,pS.2.2.1.2.2)),pS.2.2.2.1,pS.2.2.2.2.1,pS.2.2.2.2.2.1))) (aG (decide (0=0/\(0+pS.2.1)<=(List.length pS.2.2.2.2.2.2.2.2))) (al (Fu.call ((cut pS.2.2.2.2.2.2.2.2 0 pS.2.1),pS.1,pS.2.2.1,pS.2.2.2.1,pS.2.2.2.2.1,pS.2.2.2.2.2.1)) λazb=>aG (Cw azb.2.1 (0:Int)) (k (pE (azb.2.1,(azb.2.2.1.1,(azb.2.2.1.2.1,azb.2.2.1.2.2)),azb.2.2.2.1,azb.2.2.2.2.1,azb.2.2.2.2.2))) (al (OB (pS.2.1,azb.1,pS.2.2.2.2.2.2.1.2.2.2.1,azb.2.2.1,azb.2.2.2.1,azb.2.2.2.2.1,azb.2.2.2.2.2,(pS.2.2.2.2.2.2.1.1,(pS.2.2.2.2.2.2.1.2.1,(azb.1,pS.2.2.2.2.2.2.1.2.2.2))),pS.2.2.2.2.2.2.2.1,pS.2.2.2.2.2.2.2.2,pS.2.2.2.2.2.2.2.1)) λJK=>aG JK.isLeft (al JK.getLeft? λa25=>k (pE ((13:Int),(a25.1.1,(a25.1.2.1,a25.1.2.2)),a25.2.1,a25.2.2.1,a25.2.2.2))) (al JK.getRight? λb26=>aG (fL b26.1.2.1 b26.2) (k (pE ((13:Int),(b26.1.2.2.1.1,(b26.1.2.2.1.2.1,b26.1.2.2.1.2.2)),b26.1.2.2.2.1,b26.1.2.2.2.2.1,b26.1.2.2.2.2.2.1))) (xS (λn=>n ∉ (List.flatMap (fy cd) b26.1.2.2.2.2.2.2.2)) λaK7=>aG (decide (b26.1.1<=(List.length b26.1.2.2.2.2.2.2.2))) (aG (decide (b26.1.1=(List.length b26.1.2.2.2.2.2.2.2))) (aG (dd (b26.1.1+1) 8) (aG (decide (0=0/\(0+(b26.1.1+1))<=(List.length ((aJ b26.1.1 b26.1.2.2.2.2.2.2.2)++ [(aj (aK7,b26.1.2.2.2.2.2.2.1))])))) (k (pE ((0:Int),(b26.1.2.2.1.1,((cut ((aJ b26.1.1 b26.1.2.2.2.2.2.2.2)++ [(aj (aK7,b26.1.2.2.2.2.2.2.1))]) 0 (b26.1.1+1)),b26.1.2.2.1.2.2)),b26.1.2.2.2.1,b26.1.2.2.2.2.1,b26.1.2.2.2.2.2.1))) aF) aF) aF) aF)))) aF)) aF))):=cf
theorem aNX(t:cR):(da t).length<=64:=by
 unfold da;split
 ·rename_i h;rw[List.length_map];exact(iZ h).1.2.1
 ·simp
theorem Vk:∀l:List Nat,∃b,∀x∈l,x < b
 |[]=>⟨0,λx hx=>by cases hx⟩
 |y::l=>by
  obtain⟨b,hb⟩:=Vk l;refine⟨b+y+1,λx hx=> ?_⟩;rcases bI.1 hx with rfl | hx
  ·omega
  ·have:=hb x hx;omega
theorem aqw:Ye:=by
 refine Tn (λ(_,_,_,_,_,_,_,_,_,_,_,_,_,rest,_)=>rest.length) ?_
 rintro⟨t,rL,y,l,m,i,p,n,a,s,x,gone,all,rest,row⟩ -;by_cases h:0 < rest.length
 ·left;refine⟨rest.length,λj=>(t,rL,y,l,m,i,p,n,a,s,x,(if cX gone (sj cd .bool rest j).1=aL then cY cd y aL gone else gone),all,rest.eraseIdx j,row),h,λj hj=>⟨trivial,?_,?_⟩,λkn kx=> ?_⟩
  ·show(rest.eraseIdx j).length < rest.length;rw[qm,if_pos hj];omega
  ·simp only[wD,Dw];rw[H0 hj,auI hj]
  ·rw[OA,aI h,ak];refine ah1 λj hj=> ?_
   show aG (cX gone (sj cd .bool rest j).1) _ _=kn (nY (t,rL,y,l,m,i,p,n,a,s,x,(if cX gone (sj cd .bool rest j).1=aL then cY cd y aL gone else gone),all,rest.eraseIdx j,row));cases cX gone (sj cd .bool rest j).1 <;> rfl
 ·right;obtain rfl:rest=[]:=bD au;intro T kn kx;rw[OA,aN h,ao];rfl
theorem aqv:Yd:=by
 refine Tl (λ(_,_,l,_,i,_)=>l.length - i.toNat) ?_
 rintro⟨t,rL,l,m,i,p,n,a,s,x,gone,rest⟩ ⟨⟨hu,hr⟩,rfl,rfl,rfl,k,hk,rfl,aRO⟩;have hl:p.2.1.length<=90:=hr.1;have hk:k<=p.2.1.length:=hk;have aRO:rest.length<=k:=aRO;by_cases h:k < p.2.1.length
 ·left;have n1:nth cd p.2.1 k=p.2.1[k]:=cj (t:=cd) h;have hd:p.2.1.drop k=p.2.1[k]::p.2.1.drop (k+1):=aq h;have xU:=aR h;obtain⟨w,hw,hv,gb,hlen⟩:=hr.2 _ xU;rw[hw]at n1 hd xU;have hf:=(iZ gb).1;obtain⟨g1,aAv⟩:∃g,(if iv w.2.1 (da t)=aL then cY cd (aj w) aL gone else gone)=g:=⟨_,rfl⟩;obtain⟨g,hg⟩:∃g,jX (aj w) (dF p.2.1 w.2.1) g1=g:=⟨_,rfl⟩;have eS:u9 p.2.1 t (gone,rest) (aj w)=(g,if cX g (aj w)=aL then rest else rest++ [aj w]):=by show(jX (aj w) (dF p.2.1 w.2.1) (if iv w.2.1 (da t)=aL then cY cd (aj w) aL gone else gone),_)=_;rw[aAv,hg]
  have hR:(if cX g (aj w)=aL then rest else rest++ [aj w]).length<=k+1:=by
   split
   ·omega
   ·rw[ai];show rest.length+1<=_;omega
  refine⟨(t,(if cX g (aj w)=aL then rest else rest++ [aj w]).length,p.2.1,(p.2.1.length:Int),((k+1:Nat):Int),p,n,a,s,x,g,if cX g (aj w)=aL then rest else rest++ [aj w]),⟨⟨hu,hr⟩,rfl,rfl,rfl,k+1,h,rfl,hR⟩,by simp only[aa];omega,?_,λkn kx=> ?_⟩
  ·simp only[oN,uX,aa,hd,aX,eS]
  ·have l1:∀g0,yT (t,rest.length,aj w,p.2.1,(p.2.1.length:Int),(k:Int),p,n,a,s,x,g0,dF p.2.1 w.2.1,dF p.2.1 w.2.1,rest)=aj ((t,rest.length,aj w,p.2.1,(p.2.1.length:Int),(k:Int),p,n,a,s,x,rest),jX (aj w) (dF p.2.1 w.2.1) g0):=λg0=>
    alO (d:=(t,rest.length,aj w,p.2.1,(p.2.1.length:Int),(k:Int),p,n,a,s,x,g0,dF p.2.1 w.2.1,dF p.2.1 w.2.1,rest)) trivial
   have pa:td.call (p.2.1,w.2.1)=aj (dF p.2.1 w.2.1):=Dp (d:=(p.2.1,w.2.1)) ⟨hr.w,by show w.2.1.1.length<=_;omega⟩;have fin:∀ {R:Type} (kn:AS->Option R),aG (!((bV cd (aj w) g).getD aS)) (aG (decide (rest.length<=rest.length)) (aG (dd (rest.length+1) 8) (kn (iE (t,rest.length+1,p.2.1,(p.2.1.length:Int),bA .i64 (k:Int) 1,p,n,a,s,x,g,aJ rest.length rest++ [aj w]))) aF) aF) (kn (iE (t,rest.length,p.2.1,(p.2.1.length:Int),bA .i64 (k:Int) 1,p,n,a,s,x,g,rest)))=kn (iE (t,(if cX g (aj w)=aL then rest else rest++ [aj w]).length,p.2.1,(p.2.1.length:Int),((k+1:Nat):Int),p,n,a,s,x,g,if cX g (aj w)=aL then rest else rest++ [aj w])):=λkn=>by
    rw[show(bV cd (aj w) g).getD aS=cX g (aj w) from rfl,N.lh au];cases hm:cX g (aj w) with
    |true=>rw[bY,ao,if_pos rfl]
    |false=>rw[dK,ak,aI (aB _),ak,dk au au,ak,if_neg eG,bK,ai];rfl
   rw[Oz,aT au,ak,aZ au au,ak,aa,n1,ah,Za (d:=t) hu];simp only[ah,bz,Nv];rw[Yl (d:=(w.2.1,da t)) ⟨by show w.2.1.1.length<=_;omega,by have:=aNX t;show(da t).length<=_;omega⟩];simp only[ah,bz,aiZ];cases hs:iv w.2.1 (da t) with
   |true=>
    rw[hs,if_pos rfl]at aAv;rw[ak,pa,ah,aAv,l1,ah,hg];exact fin kn
   |false=>
    rw[hs,if_neg eG]at aAv;rw[ao,pa,ah,aAv,l1,ah,hg];exact fin kn
 ·right;obtain rfl:k=p.2.1.length:=au;intro T kn kx;rw[Oz,aP au,ao];simp only[oN,uX,aa,aH,eO]
theorem aqy:aqx:=by
 refine aHk (λ(_,_,_,_,_,_,_,_,_,_,gone)=>gone.length) ?_ ?_
 ·rintro⟨rL,kq,least,p,n,a,s,x,g,row,gone⟩ _;simp only[uY];split
  ·exact⟨_,rfl⟩
  ·exact⟨_,rfl⟩
 rintro⟨rL,kq,least,p,n,a,s,x,g,row,gone⟩ ⟨hx,h0,h1⟩ r hr kn kx hN hX;have h0:0<=least:=h0;have h1:least+Cg gone<=1000000000000000000:=h1;show adr (rL,kq,least,p,n,a,s,x,g,row,gone) kn kx=_;by_cases h:0 < gone.length
 ·rw[OC,aI h,ak];refine atn h λj hj=> ?_
  obtain⟨w,hw,w0,w1⟩:=hx _ (aR hj);have en:(sj cd .bool gone j).1=aj w:=by rw[H0 hj,hw]
  have eb:UX kq x.2.2.2.1 gone=(aEE kq x.2.2.2.1 (gone[j]).1 || UX kq x.2.2.2.1 (gone.eraseIdx j)):=azk (CX hj);have es:Cg gone=w.2.2.2.1+Cg (gone.eraseIdx j):=by rw[aDr (CX hj)];unfold Cg;rw[bM,jb,hw];rfl
  have aQs:∀y∈gone.eraseIdx j,Nx y.1:=λy hy=>hx y ((pT gone j).subset hy)
  have aX9:=(awA _ aQs).1;rw[en,ah,ah,ah,aqj (d:=(kq,w.2.2.2.2.1,w.2.2.2.1,x.2.2.2.1)) trivial];simp only[ah,bz,auU];have ebw:aEE kq x.2.2.2.1 (gone[j]).1=decide (atc kq w.2.2.2.2.1 w.2.2.2.1 x.2.2.2.1<=0):=by rw[hw];rfl
  by_cases hb:atc kq w.2.2.2.2.1 w.2.2.2.1 x.2.2.2.1<=0
  ·rw[pt hb,ak];rw[ebw,aI hb,ot]at eb;simp only[uY,eb,bE]at hr;have hr:aj (BY (p,n,a,s))=aj r:=hr;rw[<-bh hr]at hX ⊢;exact hX
  ·rw[kr hb,ao,jn au au];rw[ebw,aN hb,pA]at eb;refine hN (rL,kq,least+w.2.2.2.1,p,n,a,s,x,g,row,gone.eraseIdx j) ⟨aQs,by show 0<=least+w.2.2.2.1;omega,by show least+w.2.2.2.1+Cg (gone.eraseIdx j)<=_;omega⟩ ?_ ?_
   ·show(gone.eraseIdx j).length < gone.length;rw[qm,if_pos hj];omega
   ·simp only[uY,eb,es,yu];split <;> rfl
 ·obtain rfl:gone=[]:=bD au;rw[OC,aN h,ao];have hr:aj (BZ ((rL,kq,p,n,a,s,x,row),least+Cg []))=aj r:=hr;rw[show least+Cg []=least from Int.add_zero _]at hr;rw[<-bh hr]at hX ⊢;exact hX
theorem auH{row:List bN}{y:bN}{r g:Mk}(hy:Nx y)(hg:∀z∈g,Nx z.1):∀z∈jX y r g,Nx z.1:=by
 intro z hz;unfold jX at hz;split at hz
 ·rcases xX hz with h | h
  ·rw[h];exact hy
  ·exact hg z h
 ·exact hg z hz
theorem aBn(y:bN)(r g:Mk):(jX y r g).length<=g.length+1:=by
 unfold jX;split
 ·exact M9 _ _ _
 ·omega
theorem aPg(row:List bN)(t:cR):∀(l:List bN) (S:Mk×List bN),(∀x∈l,Nx x)->(∀z∈S.1,Nx z.1)->
  (∀z∈(l.foldl (u9 row t) S).1,Nx z.1)/\(l.foldl (u9 row t) S).1.length<=S.1.length+2*l.length/\∃k,(l.foldl (u9 row t) S).2=S.2++k/\k.Sublist l
 |[],S,_,hg=>⟨hg,aB _,[],(bJ _).symm,List.Sublist.refl _⟩
 |x::l,S,hl,hg=>by
  obtain⟨w,rfl,hw⟩:=hl x aC;have aWy:Nx (aj w):=⟨w,rfl,hw⟩;obtain⟨g1,aAv⟩:∃g,(if iv w.2.1 (da t)=aL then cY cd (aj w) aL S.1 else S.1)=g:=⟨_,rfl⟩;have h1:(∀z∈g1,Nx z.1)/\g1.length<=S.1.length+1:=by
   rw[<-aAv];split
   ·refine⟨λz hz=> ?_,M9 _ _ _⟩;rcases xX hz with h | h
    ·rw[h];exact aWy
    ·exact hg z h
   ·exact⟨hg,au⟩
  have h2:=auH (row:=row) (r:=dF row w.2.1) aWy h1.1;have h3:=aBn (aj w) (dF row w.2.1) g1;obtain⟨g,aWB⟩:∃g,jX (aj w) (dF row w.2.1) g1=g:=⟨_,rfl⟩;have eS:u9 row t S (aj w)=(g,if cX g (aj w)=aL then S.2 else S.2++ [aj w]):=by show(jX (aj w) (dF row w.2.1) (if iv w.2.1 (da t)=aL then cY cd (aj w) aL S.1 else S.1),_)=_;rw[aAv,aWB]
  rw[aWB]at h2 h3;obtain⟨i1,i2,k,i3,i4⟩:=aPg row t l (g,if cX g (aj w)=aL then S.2 else S.2++ [aj w]) (λy hy=>hl y (az _ hy)) h2;rw[aX,eS];refine⟨i1,by rw[aE];simp only at i2;omega,?_⟩;by_cases hm:cX g (aj w)=aL
  ·rw[if_pos hm]at i3 ⊢;exact⟨k,i3,i4.cons _⟩
  ·rw[if_neg hm]at i3 ⊢;exact⟨aj w::k,by rw[i3,aM];rfl,i4.cons_cons _⟩
theorem T3{t:cR}{p:ZQ}(hr:s5 p.2.1)(hf:∀x∈p.2.1,Nx x):(∀z∈(dr t p).1,Nx z.1)/\(dr t p).1.length<=180/\(dr t p).2.Sublist p.2.1/\s5 (dr t p).2:=by
 obtain⟨h1,h2,k,h3,h4⟩:=aPg p.2.1 t p.2.1 ([],[]) hf (λz hz=>by cases hz);have h3:(dr t p).2=k:=by rw[show(dr t p).2=_ from h3];rfl
 have h2:(dr t p).1.length<=0+2*p.2.1.length:=h2;have hl:=hr.1;refine⟨h1,au,by rw[h3];exact h4,?_⟩;rw[h3];exact⟨Nat.le_trans h4.length_le hl,λx hx=>hr.2 x (h4.subset hx)⟩
theorem asL(row:List bN):∀(d:Nat) (t:cR),asK row d t->asK row (d+1) t
 | 0,t,h=>λp hp=>by have h:dF row t=[]:=h;rw[h]at hp;cases hp
 |d+1,t,h=>λp hp=>asL row d _ (h p hp)
theorem awY(t:cR):0<=lq t/\lq t<=100000:=by
 unfold lq;split
 ·rename_i gb;obtain⟨⟨_,a2,a3,_⟩,b1,b2⟩:=iZ gb;have key:∀(l:List gK) (n:Int),(∀x∈l,x.2.1.2.1.length<=12)->n<=l.foldl AJ n/\l.foldl AJ n<=n+110*l.length:=by
   intro l
   induction l with
   |nil=>intro n _;simp
   |cons x l ih=>
    intro n h;have h1:=ih (AJ n x) λy hy=>h y (az _ hy)
    have h2:=h x (aC ..);have h3:n<=AJ n x/\AJ n x<=n+110:=by unfold AJ;split <;> omega
    rw[aX,aE];omega
  have:=key t.1 (10+8*t.2.1.length) λx hx=>(C3 (nj _ _ b1 x hx)).2.2.2.2
  omega
 ·omega
theorem aIt:aIs:=by
 rintro⟨t,p,n,a,s⟩ ⟨hv,hr,aXK,aUH,hg⟩ kk hk;cases gb:gv t with
 |false=>
  have e:nI t p n a s=1:=by unfold nI;rw[gb];rfl
  rw[aqz,kX (d:=t) hv.1];simp only[ah,bz,nG,gb,dK,ak];exact hk (1,p,n,a,s) (.inl ⟨by rw[e];decide,by rw[e]⟩)
 |true=>
 have aUH:=aUH gb;have hl:p.2.1.length<=90:=hr.1;obtain⟨q1,q2,q3,q4⟩:=T3 (t:=t) hr aXK;have qs:=awA _ q1;have ql:(dr t p).2.length<=90:=q4.1;have hf:=(iZ gb).1;have aWZ:=awY t;rw[aqz,kX (d:=t) hv.1];simp only[ah,bz,nG,gb,bY,ao];rw[aiT (d:=t) ⟨hv,gb⟩,UE (d:=t) hv,Zb (d:=t) hv];simp only[ah,bz,aah,bz,ajB,bz,WH];rw[adh (d:=(sX t,p,n,a,s)) ⟨hr.some,by show p.2.1.length<=_;omega⟩];simp only[ah,bz,alK];by_cases c1:(lU (sX t) p.2.1).isSome=aL
 ·have e:nI t p n a s=4:=by unfold nI;rw[if_pos gb];unfold Ps;rw[if_pos c1]
  rw[c1,ak];exact hk (4,p,n,a,s) (.inl ⟨by rw[e];decide,by rw[e]⟩)
 rw[fi.2 c1,ao];rw[alN (d:=(t,0,p.2.1,(p.2.1.length:Int),0,p,n,a,s,(t,(sX t,(0,(lq t,())))),[],[])) ⟨⟨hv.1,hr⟩,rfl,rfl,rfl,0,aK _,rfl,aK _⟩];simp only[ah,oN,uX,aW,aO];rw[show p.2.1.foldl (u9 p.2.1 t) ([],[])=dr t p from rfl];rw[eD au,ao];simp only[aU,iw,aB,cG,ak];rw[eF rfl,aBB (d:=((dr t p).2,t)) ⟨q4.w,by show t.1.length<=_;omega,by
  have h:∀k d,asK (dr t p).2 d t->asK (dr t p).2 (d+k) t:=λk=>by
   induction k with
   |zero=>exact λd h=>h
   |succ k ih=>exact λd h=>asL _ _ _ (ih d h)
  exact h 19 100 aUH,eG⟩]
 simp only[ah,CA,Nc];by_cases c2:jV (dr t p).2 1001 t > 4
 ·have e:nI t p n a s=25:=by unfold nI;rw[if_pos gb];unfold Ps;rw[if_neg c1,if_pos c2]
  rw[dj c2,ak];exact hk (25,p,n,a,s) (.inl ⟨by rw[e];decide,by rw[e]⟩)
 rw[cw c2,ao,auS (d:=((dr t p).2,t,p,n,a,s)) ⟨q4,by show t.1.length<=_;omega,hv,hg⟩];simp only[ah,bz,ac4];by_cases c3:(wb p.1 (dr t p).2 t n a s).2≠0
 ·have e:nI t p n a s=(wb p.1 (dr t p).2 t n a s).2:=by unfold nI;rw[if_pos gb];unfold Ps;rw[if_neg c1,if_neg c2,if_pos c3]
  rw[eA c3,ak];exact hk ((wb p.1 (dr t p).2 t n a s).2,p,n,a,s) (.inl ⟨by rw[e];exact c3,by rw[e]⟩)
 rw[cz (by simpa using c3),ao];rw[show((t,(sX t,((wb p.1 (dr t p).2 t n a s).1,(lq t,())))):tj)=JI p t (dr t p).2 n a s from rfl,alP (d:=((dr t p).2.length,(wb p.1 (dr t p).2 t n a s).1,lq t,p,n,a,s,JI p t (dr t p).2 n a s,(dr t p).1,(dr t p).2,(dr t p).1)) ⟨q1,aWZ.1,by show lq t+Cg (dr t p).1<=_;have:=aWZ.2;omega⟩];simp only[ah,BX,uY];by_cases c4:UX (wb p.1 (dr t p).2 t n a s).1 (lq t) (dr t p).1=aL
 ·have e:nI t p n a s=13:=by unfold nI;rw[if_pos gb];unfold Ps;rw[if_neg c1,if_neg c2,if_neg c3,if_pos c4]
  rw[show(JI p t (dr t p).2 n a s).2.2.2.1=lq t from rfl,if_pos c4];simp only[ng,ak,ko,ah];exact hk (13,p,n,a,s) (.inl ⟨by rw[e];decide,by rw[e]⟩)
 rw[show(JI p t (dr t p).2 n a s).2.2.2.1=lq t from rfl,if_neg c4];simp only[dN,ao,cV,ah];by_cases c5:(wb p.1 (dr t p).2 t n a s).1 < lq t+Cg (dr t p).1
 ·have e:nI t p n a s=13:=by unfold nI;rw[if_pos gb];unfold Ps;rw[if_neg c1,if_neg c2,if_neg c3,if_neg c4,if_pos c5]
  rw[aT c5,ak];exact hk (13,p,n,a,s) (.inl ⟨by rw[e];decide,by rw[e]⟩)
 have e:nI t p n a s=0:=by unfold nI;rw[if_pos gb];unfold Ps;rw[if_neg c1,if_neg c2,if_neg c3,if_neg c4,if_neg c5]
 rw[aP c5,ao];obtain⟨b,hb⟩:=Vk ((dr t p).2.flatMap (fy cd));refine akm ⟨b,λhm=>absurd (hb b hm) (gQ b)⟩ λy hy=> ?_
 have e1:((dr t p).2++ [(aj (y,JI p t (dr t p).2 n a s):bN)]).length=(dr t p).2.length+1:=by rw[ai];rfl
 rw[aI (aB _),ak,aI trivial,ak,dk au au,ak,bK];rw[eF e1,e1,aI (aB _),ak];exact hk _ (.inr ⟨e,y,hy,rfl⟩)
def ayB:=Entry.acj [aF,aj dz] adt VY VZ mA pE
def jE:Tk->aai->Prop:=aQ9 ayB adt
theorem aBS:aEw jE VY VZ mA:=aPd (abI [.d dz,.d (.pair ti (.pair (.slice cd) .unit)),.n,.d (.slice (.pair bX fh)),.d (.slice cv)] λ_=>cf)
def aqA:SG Tryz.prog:=⟨8,qb,ayB,.aW7 (.fn 3 cf aIt (And.intro (.eW aqv cf) (And.intro (.eW aqw cf) (And.intro (.eW aqy cf) trivial)))) (by rfl)⟩
abbrev asN:=bN×((List bN)×(Int×(Int×Unit)))
def asE(x:bN):Bs:=match x with | none=> [] | some w=>w.2.2.1
def Xd(b o:asN):Bool:=if atc b.2.2.1 o.2.2.2.1 o.2.2.1 b.2.2.2.1 > 0 then aL else if atc b.2.2.1 o.2.2.2.1 o.2.2.1 b.2.2.2.1=0 then decide (atb (asE b.1) (asE o.1) < 0) else aS
abbrev ayr:=(bN×((List bN)×(Int×(Int×Unit))))×(bN×((List bN)×(Int×(Int×Unit))))
def aBy:ayr->Prop:=λ(b,o)=>(∃w,b.1=aj w/\w.2.2.1.length=32)/\(∃w,o.1=aj w/\w.2.2.1.length=32)
def alF:ayr->Bool:=λ(b,o)=>Xd b o
def S7:Fs Tryz.prog aBy bz alF:=fu 39 Tryz.f39 (λ(b,o)=>([.d (.pair cd (.pair (.slice cd) (.pair ti (.pair ti .unit)))) b,.d (.pair cd (.pair (.slice cd) (.pair ti (.pair ti .unit)))) o],[])) (λx=>⟨.d .bool x,[],[]⟩) [aj (.pair cd (.pair (.slice cd) (.pair ti (.pair ti .unit)))),aj (.pair cd (.pair (.slice cd) (.pair ti (.pair ti .unit))))] [ayq,aLm]
theorem aH5(b o)(k:K1 R):S7.A (b,o) k=al (aqi.call (b.2.2.1,o.2.2.2.1,o.2.2.1,b.2.2.2.1)) λx1=>aG (Af x1 0) (k (S7.out aL)) (aG (AP x1 0) (al (b.1) λx2=>al (o.1) λx3=>al (asV.call ((cut x2.2.2.1 0 32),(cut x3.2.2.1 0 32))) λx4=>k (S7.out (fL x4 0))) (k (S7.out aS))):=cf
theorem aH6:S7.Ok:=by
 rintro⟨⟨b0,b⟩,⟨o0,o⟩⟩ ⟨⟨w,hw,lw⟩,⟨v,hv,lv⟩⟩;have hw:b0=aj w:=hw;have hv:o0=aj v:=hv;subst hw;subst hv;rw[aH5,aqj (d:=(b.2.1,o.2.2.1,o.2.1,b.2.2.1)) trivial];simp only[ah,bz,auU,bz,alF,Xd,asE];generalize atc b.2.1 o.2.2.1 o.2.1 b.2.2.1=n;by_cases h1:n > 0
 ·rw[dj h1,ak,if_pos h1]
 ·rw[cw h1,ao,if_neg h1];by_cases h2:n=0
  ·rw[eU h2,ak,if_pos h2,eF lw,eF lv,aEH (d:=(w.2.2.1,v.2.2.1)) trivial];simp only[ah,bz,aEF,fL];rfl
  ·rw[fU h2,ao,if_neg h2]
theorem aBz:S7.RS:=rE [.d (.pair cd (.pair (.slice cd) (.pair ti (.pair ti .unit)))),.d (.pair cd (.pair (.slice cd) (.pair ti (.pair ti .unit))))] S7
def aH7:=S7.fI aH6
theorem aJA{row:List bN}(h:s5 row){w:Nat×tj}(hm:aj w∈row):w.2.1.1.length<=64:=by obtain⟨v,hv,h2⟩:=h.w.2 _ hm;obtain rfl:=bh hv;exact h2
abbrev adA:=Int×(List cr)×Nat×(Int×((List bN)×Unit))×Nat×(List (cr×fj))×(List cI)×(List (bN×Bool))×(List cR)
abbrev adB:=Int×(List cr)×Nat×(List bN)×Int×Int×(Int×((List bN)×Unit))×Nat×(List (cr×fj))×(List cI)×(bN×((List bN)×(Int×(Int×Unit))))×(List (bN×Bool))×(List cR)
abbrev QM:=Int×(List cr)×Nat×bN×Bool×(List bN)×Int×Int×(List bN)×Int×Int×(Int×((List bN)×Unit))×Nat×(List (cr×fj))×(List cI)×(bN×((List bN)×(Int×(Int×Unit))))×bN×Nat×(Int×(Int×Unit))×(List (bN×Bool))×(List (bN×Bool))×(List bN)×(List cR)
abbrev adC:=Bool×Nat×(Int×(Int×Unit))×(List bN)
def sA:QM->adC->((Int×(List cr)×Nat×(List bN)×Int×Int×(Int×((List bN)×Unit))×Nat×(List (cr×fj))×(List cI)×(bN×((List bN)×(Int×(Int×Unit))))×bN×(List (bN×Bool))×(List cR))×(Bool×Nat×(Int×(Int×Unit))×(List bN))):=λ(AA,D8,Al,x,fits,Jv,Jw,Jx,t46,t47,t48,BG,qf,tz,BH,xY,alf,pv,nV,GH,aHw,aA8,Ak) y=>((AA,D8,Al,Jv,Jw,Jx,BG,qf,tz,BH,xY,alf,GH,Ak),y)
abbrev QN:=Int×(List cr)×Nat×(List bN)×Int×Int×(Int×((List bN)×Unit))×Nat×(List (cr×fj))×(List cI)×(bN×((List bN)×(Int×(Int×Unit))))×(List (bN×Bool))×(List cR)
abbrev adD:=Nat×(List (bN×Bool))×(List cR)
def B3:QN->adD->((Int×(List cr)×(Int×((List bN)×Unit))×Nat×(List (cr×fj))×(List cI)×(bN×((List bN)×(Int×(Int×Unit)))))×(Nat×(List (bN×Bool))×(List cR))):=λ(Q2,aaC,H4,t123,t124,t125,auB,acQ,auD,auE,Qo,aiG,Qh) y=>((Q2,aaC,auB,acQ,auD,auE,Qo),y)
abbrev ayM:=Int×(List cr)×(Int×((List bN)×Unit))×Nat×(List (cr×fj))×(List cI)
abbrev Bt:=Bool×Nat×(Int×(Int×Unit))×(List bN)
def asO(l:List bN):Prop:=∀y∈l,∃w,y=aj w/\aEt w
def A4(bar:List cr)(pk mk:Mk)(x:bN)(S:Bt)(y:bN):Bt:=
 if cX pk y=aL then S else if Ty.beq cd y x=aS/\cX mk y=aS then S else match y with
 |none=>S
 |some w=>(S.1 && !iv w.2.1 bar,S.2.1+1,(bA .i64 S.2.2.1.1 w.2.2.2.1,(bA .i64 S.2.2.1.2.1 w.2.2.2.2.1,S.2.2.1.2.2)),S.2.2.2++ [y])
def qv(bar:List cr)(row:List bN)(pk:Mk)(w:Nat×tj):Bt:=row.foldl (A4 bar pk (dF row w.2.1) (aj w)) (aL,0,(0,(0,())),[])
def tm(room:Int)(bar:List cr)(row:List bN)(pk:Mk)(B:asN)(x:bN):asN:=
 if cX pk x=aL then B else match x with
 |none=>B
 |some w=>if(qv bar row pk w).1=aL then(if(qv bar row pk w).2.2.1.2.1<=room then(if B.1.isNone=aL then(aj w,((qv bar row pk w).2.2.2,(qv bar row pk w).2.2.1)) else
   if Xd (aj w,((qv bar row pk w).2.2.2,(qv bar row pk w).2.2.1)) B=aL then(aj w,((qv bar row pk w).2.2.2,(qv bar row pk w).2.2.1)) else B) else B) else B
def fY(room:Int)(bar:List cr)(row:List bN)(pk:Mk):asN:=row.foldl (tm room bar row pk) (aF,([],(0,(0,()))))
def xJ(S:Nat×Mk×List cR)(x:bN):Nat×Mk×List cR:=match x with | none=>S | some w=>(S.1+1,cY cd (aj w) aL S.2.1,S.2.2++ [w.2.1])
def xK(l:List bN)(pk:Mk)(out:List cR):Nat×Mk×List cR:=l.foldl xJ (out.length,pk,out)
def iR(bar:List cr)(row:List bN):Nat->Int->Mk->List cR->Option (List cR)
 | 0,_,_,_=>aF
 |f+1,room,pk,out=>match(fY room bar row pk).1 with
  |none=>aj out
  |some _=>iR bar row f (dG .i64 room (fY room bar row pk).2.2.2.1) (xK (fY room bar row pk).2.1 pk out).2.1 (xK (fY room bar row pk).2.1 pk out).2.2
def KJ(bar:List cr)(row:List bN):Nat->Int->Mk->List cR->Nat
 | 0,_,_,_=>0
 |f+1,room,pk,out=>match(fY room bar row pk).1 with
  |none=>0
  |some _=>KJ bar row f (dG .i64 room (fY room bar row pk).2.2.2.1) (xK (fY room bar row pk).2.1 pk out).2.1 (xK (fY room bar row pk).2.1 pk out).2.2+1
theorem Th{bar:List cr}{row:List bN}:∀ {f:Nat} {room:Int} {pk:Mk} {out r:List cR},iR bar row f room pk out=aj r->iR bar row (f+1) room pk out=aj r/\KJ bar row (f+1) room pk out=KJ bar row f room pk out
 | 0,_,_,_,_,h=>by cases h
 |f+1,room,pk,out,r,h=>by
  rw[iR]at h;rw[iR,KJ]
  conv=>rhs;rhs;rw[KJ]
  cases hb:(fY room bar row pk).1 with
  |none=>rw[hb]at h;exact⟨h,rfl⟩
  |some w=>
   rw[hb]at h;have:=Th h;exact⟨this.1,by simp only[this.2]⟩
theorem aqr{bar:List cr}{row:List bN}{f g:Nat}{room:Int}{pk:Mk}{out r:List cR}(hk:f<=g)(h:iR bar row f room pk out=aj r):iR bar row g room pk out=aj r/\KJ bar row g room pk out=KJ bar row f room pk out:=by
 induction hk with
 |refl=>exact⟨h,rfl⟩
 |step _ ih=>exact⟨(Th ih.1).1,(Th ih.1).2.trans ih.2⟩
theorem aOq{bar:List cr}{pk mk:Mk}{x:bN}:∀(l:List bN) (S:Bt),asO S.2.2.2->asO l->S.2.1=S.2.2.2.length->
  (l.foldl (A4 bar pk mk x) S).2.1=(l.foldl (A4 bar pk mk x) S).2.2.2.length/\(l.foldl (A4 bar pk mk x) S).2.2.2.length<=S.2.2.2.length+l.length/\asO (l.foldl (A4 bar pk mk x) S).2.2.2
 |[],S,h1,_,h3=>⟨h3,aB _,h1⟩
 |y::l,S,h1,h2,h3=>by
  have hl:asO l:=λz hz=>h2 z (az _ hz)
  obtain⟨w,rfl,hw⟩:=h2 y aC;have key:(A4 bar pk mk x S (aj w)).2.1=(A4 bar pk mk x S (aj w)).2.2.2.length/\(A4 bar pk mk x S (aj w)).2.2.2.length<=S.2.2.2.length+1/\asO (A4 bar pk mk x S (aj w)).2.2.2:=by
   unfold A4;split
   ·exact⟨h3,au,h1⟩
   split
   ·exact⟨h3,au,h1⟩
   refine⟨by show S.2.1+1=_;rw[ai,h3];rfl,by show(S.2.2.2++ [aj w]).length<=_;rw[ai];exact aB _,λz hz=> ?_⟩;rcases bg.1 hz with hz | hz
   ·exact h1 z hz
   ·rw[aY.1 hz];exact⟨w,rfl,hw⟩
  have:=aOq (bar:=bar) (pk:=pk) (mk:=mk) (x:=x) l _ key.2.2 hl key.1;rw[aX,aE];exact⟨this.1,au,this.2.2⟩
theorem aE2{bar:List cr}{row:List bN}{pk:Mk}{w:Nat×tj}(h:s5 row):(qv bar row pk w).2.1=(qv bar row pk w).2.2.2.length/\s5 (qv bar row pk w).2.2.2:=by have:=aOq (bar:=bar) (pk:=pk) (mk:=dF row w.2.1) (x:=aj w) row (aL,0,(0,(0,())),[]) (λy hy=>by cases hy) h.2 rfl;have h0:=h.1;exact⟨this.1,by have:=this.2.1;show(qv bar row pk w).2.2.2.length<=90;unfold qv;simp only[bq]at this;omega,this.2.2⟩
def asI(B:asN):Prop:=(B.1=aF\/∃w,B.1=aj w/\w.2.2.1.length=32)/\s5 B.2.1
theorem axl{room:Int}{bar:List cr}{row:List bN}{pk:Mk}{B:asN}{x:bN}(h:s5 row)(hx:x∈row)(hB:asI B):asI (tm room bar row pk B x):=by
 obtain⟨w,rfl,hw⟩:=h.2 x hx;have hn:asI (aj w,((qv bar row pk w).2.2.2,(qv bar row pk w).2.2.1)):=⟨.inr ⟨w,rfl,hw.2.2⟩,(aE2 h).2⟩;unfold tm;split
 ·exact hB
 ·simp only;split
  ·split
   ·split
    ·exact hn
    ·split
     ·exact hn
     ·exact hB
   ·exact hB
  ·exact hB
theorem aEO{room:Int}{bar:List cr}{row:List bN}{pk:Mk}(h:s5 row):∀(l:List bN) (B:asN),(∀x∈l,x∈row)->asI B->asI (l.foldl (tm room bar row pk) B)
 |[],B,_,hB=>hB
 |x::l,B,hl,hB=>aEO h l _ (λy hy=>hl y (az _ hy)) (axl h (hl x aC) hB)
theorem axm{room:Int}{bar:List cr}{row:List bN}{pk:Mk}(h:s5 row):asI (fY room bar row pk):=aEO h row _ (λx hx=>hx) ⟨.inl rfl,aK _,λx hx=>by cases hx⟩
theorem aKd:∀(l:List bN) (S:Nat×Mk×List cR),asO l->S.1=S.2.2.length->(l.foldl xJ S).1=(l.foldl xJ S).2.2.length/\(l.foldl xJ S).2.2.length=S.2.2.length+l.length
 |[],S,_,h=>⟨h,rfl⟩
 |y::l,S,h2,h=>by obtain⟨w,rfl,hw⟩:=h2 y aC;have:=aKd l (xJ S (aj w)) (λz hz=>h2 z (az _ hz)) (by show S.1+1=(S.2.2++ [w.2.1]).length;rw[ai,h];rfl);rw[aX,aE];refine⟨this.1,?_⟩;rw[this.2];show(S.2.2++ [w.2.1]).length+l.length=_;rw[ai];show S.2.2.length+1+l.length=_;omega
def aw9(bar:List cr)(row:List bN):Prop:=s5 row/\bar.length<=1000/\True
def al2:QM->Prop:=λ(_,bar,_,_,_,_,_,_,l,n,i,_,_,_,_,_,_,bL,_,_,_,all,_)=>(s5 l/\bar.length<=1000)/\n=(l.length:Int)/\∃k:Nat,k<=l.length/\i=k/\bL=all.length/\all.length<=k
def yi:QM->adC:=λ(_,bar,_,x,fits,_,_,_,l,_,i,_,_,_,_,_,_,bL,fw,pk,mk,all,_)=>(l.drop i.toNat).foldl (A4 bar pk mk x) (fits,bL,fw,all)
def al4:QN->Prop:=λ(_,_,oL,l,n,i,_,_,_,_,_,_,out)=>s5 l/\n=(l.length:Int)/\∃k:Nat,k<=l.length/\i=k/\oL=out.length/\out.length<=100000+k
def Ii:QN->adD:=λ(_,_,oL,l,_,i,_,_,_,_,_,pk,out)=>(l.drop i.toNat).foldl xJ (oL,pk,out)
def al0:adB->Prop:=λ(_,bar,_,l,n,i,p,_,_,_,B,_,_)=>aw9 bar p.2.1/\l=p.2.1/\n=(l.length:Int)/\(∃k:Nat,k<=l.length/\i=k)/\asI B
def Ih:adB->(Int×(List cr)×Nat×(Int×((List bN)×Unit))×Nat×(List (cr×fj))×(List cI)×(bN×((List bN)×(Int×(Int×Unit))))×(List (bN×Bool))×(List cR)):=λ(room,bar,oL,l,_,i,p,c,a,s,B,pk,out)=>(room,bar,oL,p,c,a,s,(l.drop i.toNat).foldl (tm room bar p.2.1 pk) B,pk,out)
def alY:adA->Prop:=λ(room,bar,oL,p,_,_,_,pk,out)=>aw9 bar p.2.1/\oL=out.length/\∃f:Nat,f<=100/\(iR bar p.2.1 f room pk out).isSome=aL/\out.length+90*f<=100000
def QL:adA->(Nat×(Int×((List bN)×Unit))×Nat×(List (cr×fj))×(List cI)×(List cR)):=λ(room,bar,_,p,c,a,s,pk,out)=>(((iR bar p.2.1 100 room pk out).getD []).length,p,c,a,s,(iR bar p.2.1 100 room pk out).getD [])
def aB1:ayM->Prop:=λ(room,bar,p,_)=>aw9 bar p.2.1/\(iR bar p.2.1 100 room [] []).isSome=aL
def alX:ayM->(Nat×(Int×((List bN)×Unit))×Nat×(List (cr×fj))×(List cI)×(List cR)):=λ(room,bar,p,n,a,s)=>(((iR bar p.2.1 100 room [] []).getD []).length,p,n,a,s,(iR bar p.2.1 100 room [] []).getD [])
def wG:Ls alY bz QL:=te (λ(amD,axg,outL,o0,o1L,eZ,gJ,VN,aMH)=>⟨([.ptr (.bW 0) 0 [] 0,.d ti amD,.d (.slice bX) axg]++aQ 4 ([.cK (.new 19 0) 0,je 138 outL]++aQ 135 [])),[cO (.pr (.ptr (.bW 1) 0 [] 0) (.d (.pair ti (.pair (.slice cd) .unit)) o0)),cO (.pr (.cK (.bW 2) 0) (.pr (.cg (.bW 3) 0 [] 0 0 o1L) jL)),cO (.mp bX fh eZ),cO (.vec 95 cv gJ)],(bk 19 ([cJ (.mp cd .bool VN)]++bk 118 ([cJ (.vec 26 dz aMH)]++bk 5 [])))⟩) (λx=>(.ret,⟨(aQ 6 ([je 138 x.1]++aQ 137 [])),[cO (.pr (.ptr (.bW 1) 0 [] 0) (.d (.pair ti (.pair (.slice cd) .unit)) x.2.1)),cO (.pr (.cK (.bW 2) 0) (.pr (.cg (.bW 3) 0 [] 0 0 x.2.2.1) jL)),cO (.mp bX fh x.2.2.2.1),cO (.vec 95 cv x.2.2.2.2.1)],(bk 138 ([cJ (.vec 26 dz x.2.2.2.2.2)]++bk 5 []))⟩))
def l9:Ls al0 bz Ih:=te (λ(Wk,ahL,uW,t23,t24,t25,tc,AT,pX,NC,n9,qS,VM)=>⟨([.ptr (.bW 0) 0 [] 0,.d ti Wk,.d (.slice bX) ahL]++aQ 4 ([.cK (.new 19 0) 0,je 138 uW,dP 9]++aQ 13 ([.d (.slice cd) t23,.d ti t24,.d ti t25]++aQ 118 []))),[cO (.pr (.ptr (.bW 1) 0 [] 0) (.d (.pair ti (.pair (.slice cd) .unit)) tc)),cO (.pr (.cK (.bW 2) 0) (.pr (.cg (.bW 3) 0 [] 0 0 AT) jL)),cO (.mp bX fh pX),cO (.vec 95 cv NC)],(bk 9 ([cJ (.d (.pair cd (.pair (.slice cd) (.pair ti (.pair ti .unit)))) n9)]++bk 9 ([cJ (.mp cd .bool qS)]++bk 118 ([cJ (.vec 26 dz VM)]++bk 5 []))))⟩) (λx=>(.exit 2,⟨([.ptr (.bW 0) 0 [] 0,.d ti x.1,.d (.slice bX) x.2.1]++aQ 4 ([.cK (.new 19 0) 0,je 138 x.2.2.1,dP 9]++aQ 134 [])),[cO (.pr (.ptr (.bW 1) 0 [] 0) (.d (.pair ti (.pair (.slice cd) .unit)) x.2.2.2.1)),cO (.pr (.cK (.bW 2) 0) (.pr (.cg (.bW 3) 0 [] 0 0 x.2.2.2.2.1) jL)),cO (.mp bX fh x.2.2.2.2.2.1),cO (.vec 95 cv x.2.2.2.2.2.2.1)],(bk 9 ([cJ (.d (.pair cd (.pair (.slice cd) (.pair ti (.pair ti .unit)))) x.2.2.2.2.2.2.2.1)]++bk 9 ([cJ (.mp cd .bool x.2.2.2.2.2.2.2.2.1)]++bk 118 ([cJ (.vec 26 dz x.2.2.2.2.2.2.2.2.2)]++bk 5 []))))⟩))
def ma:Ls al2 sA yi:=te (λ(AA,D8,Al,x,fits,Jv,Jw,Jx,t46,t47,t48,BG,qf,tz,BH,xY,alf,pv,nV,GH,aHw,aA8,Ak)=>⟨([.ptr (.bW 0) 0 [] 0,.d ti AA,.d (.slice bX) D8]++aQ 4 ([.cK (.new 19 0) 0,je 138 Al,dP 9,bC,.d cd x,.cK (.new 40 0) 0,dP 13,.d .bool fits]++aQ 8 ([.d (.slice cd) Jv,.d ti Jw,.d ti Jx]++aQ 20 ([.d (.slice cd) t46,.d ti t47,.d ti t48]++aQ 95 [])))),[cO (.pr (.ptr (.bW 1) 0 [] 0) (.d (.pair ti (.pair (.slice cd) .unit)) BG)),cO (.pr (.cK (.bW 2) 0) (.pr (.cg (.bW 3) 0 [] 0 0 qf) jL)),cO (.mp bX fh tz),cO (.vec 95 cv BH)],(bk 9 ([cJ (.d (.pair cd (.pair (.slice cd) (.pair ti (.pair ti .unit)))) xY),[],[],[],cJ (.pr (.d cd alf) (.pr (je 70 pv) (.d (.pair ti (.pair ti .unit)) nV)))]++bk 5 ([cJ (.mp cd .bool GH)]++bk 20 ([cJ (.mp cd .bool aHw)]++bk 29 ([cJ (.vec 80 cd aA8)]++bk 67 ([cJ (.vec 26 dz Ak)]++bk 5 []))))))⟩) (λx=>(.exit 4,⟨([.ptr (.bW 0) 0 [] 0,.d ti x.1.1,.d (.slice bX) x.1.2.1]++aQ 4 ([.cK (.new 19 0) 0,je 138 x.1.2.2.1,dP 9,bC,bC,bC,dP 13,.d .bool x.2.1]++aQ 8 ([.d (.slice cd) x.1.2.2.2.1,.d ti x.1.2.2.2.2.1,.d ti x.1.2.2.2.2.2.1]++aQ 118 []))),[cO (.pr (.ptr (.bW 1) 0 [] 0) (.d (.pair ti (.pair (.slice cd) .unit)) x.1.2.2.2.2.2.2.1)),cO (.pr (.cK (.bW 2) 0) (.pr (.cg (.bW 3) 0 [] 0 0 x.1.2.2.2.2.2.2.2.1) jL)),cO (.mp bX fh x.1.2.2.2.2.2.2.2.2.1),cO (.vec 95 cv x.1.2.2.2.2.2.2.2.2.2.1)],(bk 9 ([cJ (.d (.pair cd (.pair (.slice cd) (.pair ti (.pair ti .unit)))) x.1.2.2.2.2.2.2.2.2.2.2.1),[],[],[],cJ (.pr (.d cd x.1.2.2.2.2.2.2.2.2.2.2.2.1) (.pr (je 70 x.2.2.1) (.d (.pair ti (.pair ti .unit)) x.2.2.2.1)))]++bk 5 ([cJ (.mp cd .bool x.1.2.2.2.2.2.2.2.2.2.2.2.2.1)]++bk 50 ([cJ (.vec 80 cd x.2.2.2.2)]++bk 67 ([cJ (.vec 26 dz x.1.2.2.2.2.2.2.2.2.2.2.2.2.2)]++bk 5 [])))))⟩))
def wH:Ls al4 B3 Ii:=te (λ(Q2,aaC,H4,t123,t124,t125,auB,acQ,auD,auE,Qo,aiG,Qh)=>⟨([.ptr (.bW 0) 0 [] 0,.d ti Q2,.d (.slice bX) aaC]++aQ 4 ([.cK (.new 19 0) 0,je 138 H4,dP 9]++aQ 113 ([.d (.slice cd) t123,.d ti t124,.d ti t125]++aQ 18 []))),[cO (.pr (.ptr (.bW 1) 0 [] 0) (.d (.pair ti (.pair (.slice cd) .unit)) auB)),cO (.pr (.cK (.bW 2) 0) (.pr (.cg (.bW 3) 0 [] 0 0 acQ) jL)),cO (.mp bX fh auD),cO (.vec 95 cv auE)],(bk 9 ([cJ (.d (.pair cd (.pair (.slice cd) (.pair ti (.pair ti .unit)))) Qo)]++bk 9 ([cJ (.mp cd .bool aiG)]++bk 118 ([cJ (.vec 26 dz Qh)]++bk 5 []))))⟩) (λx=>(.exit 6,⟨([.ptr (.bW 0) 0 [] 0,.d ti x.1.1,.d (.slice bX) x.1.2.1]++aQ 4 ([.cK (.new 19 0) 0,je 138 x.2.1,dP 9]++aQ 134 [])),[cO (.pr (.ptr (.bW 1) 0 [] 0) (.d (.pair ti (.pair (.slice cd) .unit)) x.1.2.2.1)),cO (.pr (.cK (.bW 2) 0) (.pr (.cg (.bW 3) 0 [] 0 0 x.1.2.2.2.1) jL)),cO (.mp bX fh x.1.2.2.2.2.1),cO (.vec 95 cv x.1.2.2.2.2.2.1)],(bk 9 ([cJ (.d (.pair cd (.pair (.slice cd) (.pair ti (.pair ti .unit)))) x.1.2.2.2.2.2.2)]++bk 9 ([cJ (.mp cd .bool x.2.2.1)]++bk 118 ([cJ (.vec 26 dz x.2.2.2)]++bk 5 []))))⟩))
def px:Fs Tryz.prog aB1 bz alX:=fu 12 Tryz.f12 (λ(room,bar,o0b,o1baL,o2,o3)=>([.ptr (.bW 0) 0 [] 0,.d ti room,.d (.slice bX) bar],[.obj 0 aS (.pr (.ptr (.bW 1) 0 [] 0) (.d (.pair ti (.pair (.slice cd) .unit)) o0b)),.obj 0 aS (.pr (.cK (.bW 2) 0) (.pr (.cg (.bW 3) 0 [] 0 0 o1baL) (.d .unit ()))),.obj 0 aS (.mp bX fh o2),.obj 0 aS (.vec 95 cv o3)])) (λx=>⟨.cg (.new 0 0) 0 [] 0 0 x.1,[.obj 0 aS (.pr (.ptr (.bW 1) 0 [] 0) (.d (.pair ti (.pair (.slice cd) .unit)) x.2.1)),.obj 0 aS (.pr (.cK (.bW 2) 0) (.pr (.cg (.bW 3) 0 [] 0 0 x.2.2.1) (.d .unit ()))),.obj 0 aS (.mp bX fh x.2.2.2.1),.obj 0 aS (.vec 95 cv x.2.2.2.2.1)],[.obj 0 aS (.vec 26 dz x.2.2.2.2.2)]⟩) [aF,aj ti,aj (.slice bX)] [Cy,adF,aH7,aqu] {loops:=oI [(3,{aV:=[0,1,2,7,8],sites:=[19,138],owns:=[⟨8,[],138,39⟩]}),(5,{aV:=[0,1,2,7,8,9,23,24,25],sites:=[9,19,138],PJ:=[⟨9,[.arr],(.pair cd (.pair (.slice cd) (.pair ti (.pair ti .unit))))⟩]}),(11,{aV:=[0,1,2,7,8,9,11,12,13,14,23,24,25,46,47,48],sites:=[9,13,19,40,70,138],owns:=[⟨13,[.snd,.fst],70,77⟩]}),(25,{aV:=[0,1,2,7,8,9,123,124,125],sites:=[9,19,138],owns:=[⟨8,[],138,39⟩]})],outs:=oH [(3,{aV:=[6]},{aV:=[6],sites:=[138]}),(5,{aV:=[0,1,2,6,7,8,9],sites:=[9,19,138]},{aV:=[6]}),(11,{aV:=[0,1,2,6,7,8,9,13,14,23,24,25],sites:=[9,13,19,70,138]},{aV:=[6]}),(25,{aV:=[0,1,2,6,7,8,9],sites:=[9,19,138]},{aV:=[6]})],fE:=pW [(3,wG.E),(5,l9.E),(11,ma.E),(25,wH.E)]}
theorem alZ:wG.RS:=rL [.d ti,.d (.slice bX),.n,.d (.pair ti (.pair (.slice cd) .unit)),.n,.d (.slice (.pair bX fh)),.d (.slice cv),.d (.slice (.pair cd .bool)),.d (.slice dz)] wG
theorem OE(amD axg outL o0 o1L eZ gJ VN aMH)(kn:K2 R)(kx:K3 R):px.R 0 wG (amD,axg,outL,o0,o1L,eZ,gJ,VN,aMH) kn kx=al (l9.call (amD,axg,outL,o0.2.1,(o0.2.1.length:Int),0,o0,o1L,eZ,gJ,(aF,(([]:List bN),(0,(0,())))),VN,aMH)) λx1=>aG (Option.isNone x1.2.2.2.2.2.2.2.1.1) (wG.go kx (x1.2.2.1,x1.2.2.2.1,x1.2.2.2.2.1,x1.2.2.2.2.2.1,x1.2.2.2.2.2.2.1,x1.2.2.2.2.2.2.2.2.2)) (al (wH.call (x1.1,x1.2.1,x1.2.2.1,x1.2.2.2.2.2.2.2.1.2.1,(x1.2.2.2.2.2.2.2.1.2.1.length:Int),0,x1.2.2.2.1,x1.2.2.2.2.1,x1.2.2.2.2.2.1,x1.2.2.2.2.2.2.1,x1.2.2.2.2.2.2.2.1,x1.2.2.2.2.2.2.2.2.1,x1.2.2.2.2.2.2.2.2.2)) λx2=>kn (wG.st ((dG .i64 x2.1.1 x2.1.2.2.2.2.2.2.2.2.2.1),x2.1.2.1,x2.2.1,x2.1.2.2.1,x2.1.2.2.2.1,x2.1.2.2.2.2.1,x2.1.2.2.2.2.2.1,x2.2.2.1,x2.2.2.2))):=cf
theorem al1:l9.RS:=rL [.d ti,.d (.slice bX),.n,.d (.slice cd),.d ti,.d ti,.d (.pair ti (.pair (.slice cd) .unit)),.n,.d (.slice (.pair bX fh)),.d (.slice cv),.d (.pair cd (.pair (.slice cd) (.pair ti (.pair ti .unit)))),.d (.slice (.pair cd .bool)),.d (.slice dz)] l9
theorem OF(Wk ahL uW t23 t24 t25 tc AT pX NC n9 qS VM)(kn:K2 R)(kx:K3 R):px.R 1 l9 (Wk,ahL,uW,t23,t24,t25,tc,AT,pX,NC,n9,qS,VM) kn kx=aG (fL t25 t24) (aG (eE t25 (t23.length:Int)) (aG ((bV cd (nth cd t23 (ab t25)) qS).getD aS) (kn (l9.st (Wk,ahL,uW,t23,t24,(bA .i64 t25 1),tc,AT,pX,NC,n9,qS,VM))) (al ((nth cd t23 (ab t25))) λx1=>al (td.call (tc.2.1,x1.2.1)) λx2=>al (ma.call (Wk,ahL,uW,(nth cd t23 (ab t25)),aL,t23,t24,t25,tc.2.1,(tc.2.1.length:Int),0,tc,AT,pX,NC,n9,(nth cd t23 (ab t25)),0,(0,(0,())),qS,x2,([]:List bN),VM)) λx3=>aG (x3.2.1) (aG (akP x3.2.2.2.1.2.1 x3.1.1) (aG (Option.isNone x3.1.2.2.2.2.2.2.2.2.2.2.1.1) (aG (decide (0=0/\(0+x3.2.2.1)<=(List.length x3.2.2.2.2))) (kn (l9.st (x3.1.1,x3.1.2.1,x3.1.2.2.1,x3.1.2.2.2.1,x3.1.2.2.2.2.1,(bA .i64 x3.1.2.2.2.2.2.1 1),x3.1.2.2.2.2.2.2.1,x3.1.2.2.2.2.2.2.2.1,x3.1.2.2.2.2.2.2.2.2.1,x3.1.2.2.2.2.2.2.2.2.2.1,(x3.1.2.2.2.2.2.2.2.2.2.2.2.1,((cut x3.2.2.2.2 0 x3.2.2.1),x3.2.2.2.1)),x3.1.2.2.2.2.2.2.2.2.2.2.2.2.1,x3.1.2.2.2.2.2.2.2.2.2.2.2.2.2))) aF) (aG (decide (0=0/\(0+x3.2.2.1)<=(List.length x3.2.2.2.2))) (al (S7.call ((x3.1.2.2.2.2.2.2.2.2.2.2.2.1,((cut x3.2.2.2.2 0 x3.2.2.1),x3.2.2.2.1)),x3.1.2.2.2.2.2.2.2.2.2.2.1)) λx4=>aG (x4) (aG (decide (0=0/\(0+x3.2.2.1)<=(List.length x3.2.2.2.2))) (kn (l9.st (x3.1.1,x3.1.2.1,x3.1.2.2.1,x3.1.2.2.2.1,x3.1.2.2.2.2.1,(bA .i64 x3.1.2.2.2.2.2.1 1),x3.1.2.2.2.2.2.2.1,x3.1.2.2.2.2.2.2.2.1,x3.1.2.2.2.2.2.2.2.2.1,x3.1.2.2.2.2.2.2.2.2.2.1,(x3.1.2.2.2.2.2.2.2.2.2.2.2.1,((cut x3.2.2.2.2 0 x3.2.2.1),x3.2.2.2.1)),x3.1.2.2.2.2.2.2.2.2.2.2.2.2.1,x3.1.2.2.2.2.2.2.2.2.2.2.2.2.2))) aF) (kn (l9.st (x3.1.1,x3.1.2.1,x3.1.2.2.1,x3.1.2.2.2.1,x3.1.2.2.2.2.1,(bA .i64 x3.1.2.2.2.2.2.1 1),x3.1.2.2.2.2.2.2.1,x3.1.2.2.2.2.2.2.2.1,x3.1.2.2.2.2.2.2.2.2.1,x3.1.2.2.2.2.2.2.2.2.2.1,x3.1.2.2.2.2.2.2.2.2.2.2.1,x3.1.2.2.2.2.2.2.2.2.2.2.2.2.1,x3.1.2.2.2.2.2.2.2.2.2.2.2.2.2)))) aF)) (kn (l9.st (x3.1.1,x3.1.2.1,x3.1.2.2.1,x3.1.2.2.2.1,x3.1.2.2.2.2.1,(bA .i64 x3.1.2.2.2.2.2.1 1),x3.1.2.2.2.2.2.2.1,x3.1.2.2.2.2.2.2.2.1,x3.1.2.2.2.2.2.2.2.2.1,x3.1.2.2.2.2.2.2.2.2.2.1,x3.1.2.2.2.2.2.2.2.2.2.2.1,x3.1.2.2.2.2.2.2.2.2.2.2.2.2.1,x3.1.2.2.2.2.2.2.2.2.2.2.2.2.2)))) (kn (l9.st (x3.1.1,x3.1.2.1,x3.1.2.2.1,x3.1.2.2.2.1,x3.1.2.2.2.2.1,(bA .i64 x3.1.2.2.2.2.2.1 1),x3.1.2.2.2.2.2.2.1,x3.1.2.2.2.2.2.2.2.1,x3.1.2.2.2.2.2.2.2.2.1,x3.1.2.2.2.2.2.2.2.2.2.1,x3.1.2.2.2.2.2.2.2.2.2.2.1,x3.1.2.2.2.2.2.2.2.2.2.2.2.2.1,x3.1.2.2.2.2.2.2.2.2.2.2.2.2.2))))) aF) (l9.go kx (Wk,ahL,uW,tc,AT,pX,NC,n9,qS,VM)):=cf
theorem al3:ma.RS:=rL [.d ti,.d (.slice bX),.n,.d cd,.d .bool,.d (.slice cd),.d ti,.d ti,.d (.slice cd),.d ti,.d ti,.d (.pair ti (.pair (.slice cd) .unit)),.n,.d (.slice (.pair bX fh)),.d (.slice cv),.d (.pair cd (.pair (.slice cd) (.pair ti (.pair ti .unit)))),.d cd,.n,.d (.pair ti (.pair ti .unit)),.d (.slice (.pair cd .bool)),.d (.slice (.pair cd .bool)),.d (.slice cd),.d (.slice dz)] ma
theorem yU(AA D8 Al x fits Jv Jw Jx t46 t47 t48 BG qf tz BH xY alf pv nV GH aHw aA8 Ak)(kn:K2 R)(kx:K3 R):px.R 2 ma (AA,D8,Al,x,fits,Jv,Jw,Jx,t46,t47,t48,BG,qf,tz,BH,xY,alf,pv,nV,GH,aHw,aA8,Ak) kn kx=aG (fL t48 t47) (aG (eE t48 (t46.length:Int)) (aG ((bV cd (nth cd t46 (ab t48)) GH).getD aS) (kn (ma.st (AA,D8,Al,x,fits,Jv,Jw,Jx,t46,t47,(bA .i64 t48 1),BG,qf,tz,BH,xY,alf,pv,nV,GH,aHw,aA8,Ak))) (aG (!(Ty.beq cd (nth cd t46 (ab t48)) x)) (aG (!((bV cd (nth cd t46 (ab t48)) aHw).getD aS)) (kn (ma.st (AA,D8,Al,x,fits,Jv,Jw,Jx,t46,t47,(bA .i64 t48 1),BG,qf,tz,BH,xY,alf,pv,nV,GH,aHw,aA8,Ak))) (aG (decide (pv<=(List.length aA8))) (aG (dd (pv+1) 8) (al ((nth cd t46 (ab t48))) λx1=>al ((nth cd t46 (ab t48))) λx2=>aG (fits) (al ((nth cd t46 (ab t48))) λx3=>al (yW.call (x3.2.1,D8)) λx4=>kn (ma.st (AA,D8,Al,x,(!x4),Jv,Jw,Jx,t46,t47,(bA .i64 t48 1),BG,qf,tz,BH,xY,alf,(pv+1),((bA .i64 nV.1 x1.2.2.2.1),((bA .i64 nV.2.1 x2.2.2.2.2.1),nV.2.2)),GH,aHw,((aJ pv aA8)++ [(nth cd t46 (ab t48))]),Ak))) (kn (ma.st (AA,D8,Al,x,aS,Jv,Jw,Jx,t46,t47,(bA .i64 t48 1),BG,qf,tz,BH,xY,alf,(pv+1),((bA .i64 nV.1 x1.2.2.2.1),((bA .i64 nV.2.1 x2.2.2.2.2.1),nV.2.2)),GH,aHw,((aJ pv aA8)++ [(nth cd t46 (ab t48))]),Ak)))) aF) aF)) (aG (decide (pv<=(List.length aA8))) (aG (dd (pv+1) 8) (al ((nth cd t46 (ab t48))) λx5=>al ((nth cd t46 (ab t48))) λx6=>aG (fits) (al ((nth cd t46 (ab t48))) λx7=>al (yW.call (x7.2.1,D8)) λx8=>kn (ma.st (AA,D8,Al,x,(!x8),Jv,Jw,Jx,t46,t47,(bA .i64 t48 1),BG,qf,tz,BH,xY,alf,(pv+1),((bA .i64 nV.1 x5.2.2.2.1),((bA .i64 nV.2.1 x6.2.2.2.2.1),nV.2.2)),GH,aHw,((aJ pv aA8)++ [(nth cd t46 (ab t48))]),Ak))) (kn (ma.st (AA,D8,Al,x,aS,Jv,Jw,Jx,t46,t47,(bA .i64 t48 1),BG,qf,tz,BH,xY,alf,(pv+1),((bA .i64 nV.1 x5.2.2.2.1),((bA .i64 nV.2.1 x6.2.2.2.2.1),nV.2.2)),GH,aHw,((aJ pv aA8)++ [(nth cd t46 (ab t48))]),Ak)))) aF) aF))) aF) (ma.go kx ((AA,D8,Al,Jv,Jw,Jx,BG,qf,tz,BH,xY,alf,GH,Ak),(fits,pv,nV,aA8))):=cf
theorem al5:wH.RS:=rL [.d ti,.d (.slice bX),.n,.d (.slice cd),.d ti,.d ti,.d (.pair ti (.pair (.slice cd) .unit)),.n,.d (.slice (.pair bX fh)),.d (.slice cv),.d (.pair cd (.pair (.slice cd) (.pair ti (.pair ti .unit)))),.d (.slice (.pair cd .bool)),.d (.slice dz)] wH
theorem OG(Q2 aaC H4 t123 t124 t125 auB acQ auD auE Qo aiG Qh)(kn:K2 R)(kx:K3 R):px.R 3 wH (Q2,aaC,H4,t123,t124,t125,auB,acQ,auD,auE,Qo,aiG,Qh) kn kx=aG (fL t125 t124) (aG (eE t125 (t123.length:Int)) (al ((nth cd t123 (ab t125))) λx1=>al (Yc.call x1.2.1) λx2=>aG (decide (H4<=(List.length Qh))) (aG (dd (H4+1) 56) (kn (wH.st (Q2,aaC,(H4+1),t123,t124,(bA .i64 t125 1),auB,acQ,auD,auE,Qo,(cY cd (nth cd t123 (ab t125)) aL aiG),((aJ H4 Qh)++ [x2])))) aF) aF) aF) (wH.go kx ((Q2,aaC,auB,acQ,auD,auE,Qo),(H4,aiG,Qh))):=cf
theorem aIP(room bar o0b o1baL o2 o3)(k:K1 R):px.A (room,bar,o0b,o1baL,o2,o3) k=al (wG.call (room,bar,0,o0b,o1baL,o2,o3,([]:List (bN×Bool)),([]:List cR))) λaPl=>k (px.out (aPl.1,aPl.2.1,aPl.2.2.1,aPl.2.2.2.1,aPl.2.2.2.2.1,aPl.2.2.2.2.2)):=cf
theorem aqG:(px.kA 2 ma):=by
 refine(px.nN 2 ma) (λ(_,_,_,_,_,_,_,_,l,_,i,_)=>l.length - i.toNat) ?_
 rintro⟨room,bar,oL,x,fits,t23,t24,t25,l,n,i,p,c,a,s,B,x0,bL,fw,pk,mk,all,out⟩ ⟨⟨hr,aoS⟩,rfl,k,hk,rfl,rfl,rV⟩;have hl:l.length<=90:=hr.1;have hk:k<=l.length:=hk;have rV:all.length<=k:=rV;have aoS:bar.length<=1000:=aoS;by_cases h:k < l.length
 ·left;have n1:nth cd l k=l[k]:=cj (t:=cd) h;have hd:l.drop k=l[k]::l.drop (k+1):=aq h;obtain⟨w,hw,hv,gb,hlen⟩:=hr.2 _ (aR h);rw[hw]at n1 hd;have hf:=(iZ gb).1;cases hm:cX pk (aj w) with
  |true=>
   refine⟨(room,bar,oL,x,fits,t23,t24,t25,l,(l.length:Int),((k+1:Nat):Int),p,c,a,s,B,x0,all.length,fw,pk,mk,all,out),⟨⟨hr,aoS⟩,rfl,k+1,h,rfl,rfl,by show all.length<=k+1;omega⟩,by simp only[aa];omega,?_,λkn kx=> ?_⟩
   ·simp only[sA,yi,aa,hd,aX];rw[show A4 bar pk mk x (fits,all.length,fw,all) (aj w)=(fits,all.length,fw,all) from if_pos hm]
   ·rw[yU,aT au,ak,aZ au au,ak,aa,n1,show(bV cd (aj w) pk).getD aS=aL from hm,ak,N.lh au]
  |false=>
   have hm':¬cX pk (aj w)=aL:=by rw[hm];decide
   by_cases hb:Ty.beq cd (aj w) x=aS/\cX mk (aj w)=aS
   ·refine⟨(room,bar,oL,x,fits,t23,t24,t25,l,(l.length:Int),((k+1:Nat):Int),p,c,a,s,B,x0,all.length,fw,pk,mk,all,out),⟨⟨hr,aoS⟩,rfl,k+1,h,rfl,rfl,by show all.length<=k+1;omega⟩,by simp only[aa];omega,?_,λkn kx=> ?_⟩
    ·simp only[sA,yi,aa,hd,aX];rw[show A4 bar pk mk x (fits,all.length,fw,all) (aj w)=(fits,all.length,fw,all) from(if_neg hm').trans (if_pos hb)]
    ·rw[yU,aT au,ak,aZ au au,ak,aa,n1,show(bV cd (aj w) pk).getD aS=aS from hm,ao,hb.1,dK,ak,show(bV cd (aj w) mk).getD aS=aS from hb.2,dK,ak,N.lh au]
   ·refine⟨(room,bar,oL,x,fits && !iv w.2.1 bar,t23,t24,t25,l,(l.length:Int),((k+1:Nat):Int),p,c,a,s,B,x0,all.length+1,(bA .i64 fw.1 w.2.2.2.1,(bA .i64 fw.2.1 w.2.2.2.2.1,fw.2.2)),pk,mk,all++ [aj w],out),⟨⟨hr,aoS⟩,rfl,k+1,h,rfl,by rw[ai];rfl,by rw[ai];show all.length+1<=k+1;omega⟩,by simp only[aa];omega,?_,λkn kx=> ?_⟩
    ·simp only[sA,yi,aa,hd,aX];rw[show A4 bar pk mk x (fits,all.length,fw,all) (aj w)=(fits && !iv w.2.1 bar,all.length+1,(bA .i64 fw.1 w.2.2.2.1,(bA .i64 fw.2.1 w.2.2.2.2.1,fw.2.2)),all++ [aj w]) from(if_neg hm').trans (if_neg hb)]
    ·have aAy:yW.call (w.2.1,bar)=aj (iv w.2.1 bar):=Yl (d:=(w.2.1,bar)) ⟨by show w.2.1.1.length<=_;omega,by show bar.length<=_;omega⟩;rw[yU,aT au,ak,aZ au au,ak,aa,n1,show(bV cd (aj w) pk).getD aS=aS from hm,ao,aI (aB _),dk au au];simp only[ah,ak,aAy,bK];cases hq:Ty.beq cd (aj w) x with
     |true=>
      rw[bY,ao];cases fits with
      |true=>rw[ak,bF,N.lh au]
      |false=>rw[ao,dm,N.lh au]
     |false=>
      have aKZ:cX mk (aj w)=aL:=by
       cases hx:cX mk (aj w) with
       |true=>rfl
       |false=>exact absurd ⟨hq,hx⟩ hb
      rw[dK,ak,show(bV cd (aj w) mk).getD aS=aL from aKZ,bY,ao];cases fits with
      |true=>rw[ak,bF,N.lh au]
      |false=>rw[ao,dm,N.lh au]
 ·right;obtain rfl:k=l.length:=au;intro T kn kx;rw[yU,aP au,ao];simp only[sA,yi,aa,aH,eO]
theorem aqH:(px.kA 3 wH):=by
 refine(px.nN 3 wH) (λ(_,_,_,l,_,i,_)=>l.length - i.toNat) ?_
 rintro⟨room,bar,oL,l,n,i,p,c,a,s,B,pk,out⟩ ⟨hr,rfl,k,hk,rfl,rfl,aoU⟩;have hl:l.length<=90:=hr.1;have hk:k<=l.length:=hk;have aoU:out.length<=100000+k:=aoU;by_cases h:k < l.length
 ·left;have n1:nth cd l k=l[k]:=cj (t:=cd) h;have hd:l.drop k=l[k]::l.drop (k+1):=aq h;obtain⟨w,hw,hv,gb,hlen⟩:=hr.2 _ (aR h);rw[hw]at n1 hd;refine⟨(room,bar,out.length+1,l,(l.length:Int),((k+1:Nat):Int),p,c,a,s,B,cY cd (aj w) aL pk,out++ [w.2.1]),⟨hr,rfl,k+1,h,rfl,by rw[ai];rfl,by rw[ai];show out.length+1<=_;omega⟩,by simp only[aa];omega,?_,λkn kx=> ?_⟩
  ·simp only[B3,Ii,aa,hd,aX,xJ]
  ·rw[OG,aT au,ak,aZ au au,ak,aa,n1,ah,aiT (d:=w.2.1) ⟨hv,gb⟩];simp only[ah,bz,aah];rw[aI (aB _),ak,dk au au,ak,N.lh au,bK]
 ·right;obtain rfl:k=l.length:=au;intro T kn kx;rw[OG,aP au,ao];simp only[B3,Ii,aa,aH,eO]
theorem aqF:(px.kA 1 l9):=by
 refine(px.nN 1 l9) (λ(_,_,_,l,_,i,_)=>l.length - i.toNat) ?_
 rintro⟨room,bar,oL,l,n,i,p,c,a,s,B,pk,out⟩ ⟨⟨hr,aoS,aXA⟩,rfl,rfl,⟨k,hk,rfl⟩,hB⟩;have hl:p.2.1.length<=90:=hr.1;have hk:k<=p.2.1.length:=hk;by_cases h:k < p.2.1.length
 ·left;have n1:nth cd p.2.1 k=p.2.1[k]:=cj (t:=cd) h;have hd:p.2.1.drop k=p.2.1[k]::p.2.1.drop (k+1):=aq h;have xU:=aR h;obtain⟨w,hw,hv,gb,hlen⟩:=hr.2 _ xU;rw[hw]at n1 hd xU;refine⟨(room,bar,oL,p.2.1,(p.2.1.length:Int),((k+1:Nat):Int),p,c,a,s,tm room bar p.2.1 pk B (aj w),pk,out),⟨⟨hr,aoS,aXA⟩,rfl,rfl,⟨k+1,h,rfl⟩,axl hr xU hB⟩,by simp only[aa];omega,?_,λkn kx=> ?_⟩
  ·simp only[bz,Ih,aa,hd,aX]
  ·rw[OF,aT au,ak,aZ au au,ak,aa,n1];cases hm:cX pk (aj w) with
   |true=>rw[show(bV cd (aj w) pk).getD aS=aL from hm,ak,show tm room bar p.2.1 pk B (aj w)=B from if_pos hm,N.lh au]
   |false=>
    have hm':¬cX pk (aj w)=aL:=by rw[hm];decide
    rw[show(bV cd (aj w) pk).getD aS=aS from hm,ao,ah,Dp (d:=(p.2.1,w.2.1)) ⟨hr.w,aJA hr xU⟩];simp only[ah,bz,KA];rw[al3 (d:=(room,bar,oL,aj w,aL,p.2.1,(p.2.1.length:Int),(k:Int),p.2.1,(p.2.1.length:Int),0,p,c,a,s,B,aj w,0,(0,(0,())),pk,dF p.2.1 w.2.1,[],out)) ⟨⟨hr,aoS⟩,rfl,0,aK _,rfl,rfl,aB _⟩];simp only[ah,sA,yi,aW,aO];rw[show List.foldl (A4 bar pk (dF p.2.1 w.2.1) (aj w)) (aL,0,(0,(0,())),[]) p.2.1=qv bar p.2.1 pk w from rfl];have hg:=aE2 (bar:=bar) (pk:=pk) (w:=w) hr
    have aSz:tm room bar p.2.1 pk B (aj w)=if(qv bar p.2.1 pk w).1=aL then(if(qv bar p.2.1 pk w).2.2.1.2.1<=room then(if B.1.isNone=aL then(aj w,((qv bar p.2.1 pk w).2.2.2,(qv bar p.2.1 pk w).2.2.1)) else
      if Xd (aj w,((qv bar p.2.1 pk w).2.2.2,(qv bar p.2.1 pk w).2.2.1)) B=aL then(aj w,((qv bar p.2.1 pk w).2.2.2,(qv bar p.2.1 pk w).2.2.1)) else B) else B) else B:=if_neg hm'
    rw[aSz];generalize qv bar p.2.1 pk w=S at hg;obtain⟨f,bL,fw,all⟩:=S;have e1:bL=all.length:=hg.1;subst e1;simp only[aU,aB,ji,cG,ak,eF];rw[N.lh au];cases f with
    |false=>rw[ao,if_neg eG]
    |true=>
     rw[ak,if_pos rfl];by_cases aRP:fw.2.1<=room
     ·rw[pt aRP,ak,if_pos aRP];rcases hB.1 with hn | ⟨v,aWW,aim⟩
      ·rw[hn,uH,ak,if_pos rfl]
      ·rw[aWW,Option.isNone_some,ao,if_neg eG,aBz (d:=((aj w,(all,fw)),B)) ⟨⟨w,rfl,hlen⟩,v,aWW,aim⟩];simp only[ah,bz,alF];cases aYS:Xd (aj w,(all,fw)) B with
       |true=>rw[ak,if_pos rfl]
       |false=>rw[ao,if_neg eG]
     ·rw[kr aRP,ao,if_neg aRP]
 ·right;obtain rfl:k=p.2.1.length:=au;intro T kn kx;rw[OF,aP au,ao];simp only[bz,Ih,aa,aH,eO]
theorem aqE:(px.kA 0 wG):=by
 refine(px.nN 0 wG) (λ(room,bar,_,p,_,_,_,pk,out)=>KJ bar p.2.1 100 room pk out) ?_
 rintro⟨room,bar,oL,p,c,a,s,pk,out⟩ ⟨hp,rfl,f,hf,hs,hlen⟩;have hf:f<=100:=hf;have hlen:out.length+90*f<=100000:=hlen;obtain⟨r,hr⟩:=Option.isSome_iff_exists.1 hs;have hF:=aqr hf hr;have hB:=axm (room:=room) (bar:=bar) (pk:=pk) hp.1;have h1:=al1 (d:=(room,bar,out.length,p.2.1,(p.2.1.length:Int),0,p,c,a,s,(aF,([],(0,(0,())))),pk,out)) ⟨hp,rfl,rfl,⟨0,aK _,rfl⟩,.inl rfl,aK _,λx hx=>by cases hx⟩;simp only[bz,Ih,aW,aO]at h1;rw[show List.foldl (tm room bar p.2.1 pk) (aF,([],(0,(0,())))) p.2.1=fY room bar p.2.1 pk from rfl]at h1
 match f,hr,hlen with
 |f+1,hr,hlen=>
  rw[iR]at hr;cases hb:(fY room bar p.2.1 pk).1 with
  |none=>
   right;rw[hb]at hr;obtain rfl:=bh hr;intro T kn kx;rw[OE,h1];simp only[ah,hb,uH,ak,bz,QL,hF.1,eB]
  |some w=>
   left;rw[hb]at hr;have hr:iR bar p.2.1 f (dG .i64 room (fY room bar p.2.1 pk).2.2.2.1) (xK (fY room bar p.2.1 pk).2.1 pk out).2.1 (xK (fY room bar p.2.1 pk).2.1 pk out).2.2=aj r:=hr;have ht:=aKd (fY room bar p.2.1 pk).2.1 (out.length,pk,out) hB.2.2 rfl;have aQa:(fY room bar p.2.1 pk).2.1.length<=90:=hB.2.1;have aYa:(xK (fY room bar p.2.1 pk).2.1 pk out).2.2.length=out.length+(fY room bar p.2.1 pk).2.1.length:=ht.2;have hF2:=aqr (show f<=99 by omega) hr;have hF3:=Th hF2.1;refine⟨(dG .i64 room (fY room bar p.2.1 pk).2.2.2.1,bar,(xK (fY room bar p.2.1 pk).2.1 pk out).1,p,c,a,s,(xK (fY room bar p.2.1 pk).2.1 pk out).2.1,(xK (fY room bar p.2.1 pk).2.1 pk out).2.2),⟨hp,ht.1,f,au,by rw[hr];rfl,by rw[aYa];omega⟩,?_,?_,λkn kx=> ?_⟩
   ·show KJ bar p.2.1 (99+1) _ _ _ < KJ bar p.2.1 (99+1) room pk out
    conv=>rhs;rw[KJ,hb]
    rw[hF3.2];exact Nat.lt_succ_self _
   ·simp only[bz,QL,hF.1,hF3.1,show iR bar p.2.1 100 (dG .i64 room (fY room bar p.2.1 pk).2.2.2.1) (xK (fY room bar p.2.1 pk).2.1 pk out).2.1 (xK (fY room bar p.2.1 pk).2.1 pk out).2.2=aj r from hF3.1]
   ·rw[OE,h1];simp only[ah,hb,Option.isNone_some,ao];rw[al5 (d:=(room,bar,out.length,(fY room bar p.2.1 pk).2.1,((fY room bar p.2.1 pk).2.1.length:Int),0,p,c,a,s,fY room bar p.2.1 pk,pk,out)) ⟨hB.2,rfl,0,aK _,rfl,rfl,by show out.length<=_;omega⟩];simp only[ah,B3,Ii,aW,aO];rfl
theorem aIQ:px.Ok:=by rintro⟨room,bar,p,n,a,s⟩ ⟨hp,hs⟩;rw[aIP,alZ (d:=(room,bar,0,p,n,a,s,[],[])) ⟨hp,rfl,100,aB _,hs,eG⟩];rfl
theorem aiW:px.RS:=rE [.d ti,.d (.slice bX),.d (.pair ti (.pair (.slice cd) .unit)),.n,.d (.slice (.pair bX fh)),.d (.slice cv)] px
def aqI:=px.fI aIQ 4 ⟨.eW aqE,⟨.eW aqF,⟨.eW aqG,⟨.eW aqH,trivial⟩⟩⟩⟩
def aPj(row:List bN)(pk:Mk):Nat:=(row.filter λx=> !cX pk x).length
theorem WG:∀(l:List bN) (S:Nat×Mk×List cR) (y:bN),cX S.2.1 y=aL->cX (l.foldl xJ S).2.1 y=aL
 |[],_,_,h=>h
 |x::l,S,y,h=>by
  refine WG l _ y ?_
  cases x with
  |none=>exact h
  |some w=>
   show cX (cY cd (aj w) aL S.2.1) y=aL;rw[sh,h,Bool.or_true]
theorem asb:∀(l:List bN) (S:Nat×Mk×List cR) (w:Nat×tj),aj w∈l->cX (l.foldl xJ S).2.1 (aj w)=aL
 |x::l,S,w,h=>by
  rcases bI.1 h with rfl | h
  ·refine WG l _ _ ?_
   show cX (cY cd (aj w) aL S.2.1) (aj w)=aL;rw[sh,(I3 _ _).2 rfl,ot]
  ·exact asb l _ w h
theorem aRs{pk pk':Mk}(hm:∀y,cX pk y=aL->cX pk' y=aL){x:bN}(h0:cX pk x=aS)(h1:cX pk' x=aL):∀ {row:List bN},x∈row->aPj row pk' < aPj row pk:=by
 have hle:∀l:List bN,aPj l pk'<=aPj l pk:=λl=>by
  unfold aPj
  induction l with
  |nil=>exact aB _
  |cons a l ih=>
   rw[iV,iV];cases ha:cX pk a
   ·cases cX pk' a <;> simp only[dK,bY,bE,bw,bp,aE] <;> omega
   ·rw[hm a ha];simp only[bY,bw,bp];exact ih
 intro row hx;unfold aPj
 induction row with
 |nil=>cases hx
 |cons a l ih=>
  rw[iV,iV];rcases bI.1 hx with rfl | hx
  ·have:=hle l;unfold aPj at this;rw[h0,h1];simp only[dK,bY,bE,bw,bp,aE];omega
  ·have:=ih hx;cases ha:cX pk a
   ·cases cX pk' a <;> simp only[dK,bY,bE,bw,bp,aE] <;> omega
   ·rw[hm a ha];simp only[bY,bw,bp];exact this
theorem an3{bar:List cr}{pk mk:Mk}{x:bN}:∀(l:List bN) (S:Bt) (y:bN),y∈S.2.2.2->y∈(l.foldl (A4 bar pk mk x) S).2.2.2
 |[],_,_,h=>h
 |z::l,S,y,h=>by
  refine an3 l _ y ?_
  unfold A4;split
  ·exact h
  split
  ·exact h
  split
  ·exact h
  ·exact ez _ h
theorem axt{bar:List cr}{pk mk:Mk}{w:Nat×tj}(h0:cX pk (aj w)=aS):∀(l:List bN) (S:Bt),aj w∈l->aj w∈(l.foldl (A4 bar pk mk (aj w)) S).2.2.2
 |z::l,S,h=>by
  rcases bI.1 h with rfl | h
  ·refine an3 l _ _ ?_
   unfold A4;rw[if_neg (by rw[h0];decide),if_neg (by rintro⟨e,_⟩;rw[(I3 _ _).2 rfl]at e;cases e)];exact ld _ (aY.2 rfl)
  ·exact axt h0 l _ h
def ahz(row:List bN)(pk:Mk)(B:asN):Prop:=B.1=aF\/∃w,B.1=aj w/\aj w∈row/\cX pk (aj w)=aS/\aj w∈B.2.1
theorem aLr{room:Int}{bar:List cr}{row:List bN}{pk:Mk}{B:asN}{x:bN}(hx:x∈row)(hB:ahz row pk B):ahz row pk (tm room bar row pk B x):=by
 unfold tm;split
 ·exact hB
 ·rename_i h0;cases x with
  |none=>exact hB
  |some w=>
   have hn:ahz row pk (aj w,((qv bar row pk w).2.2.2,(qv bar row pk w).2.2.1)):= .inr ⟨w,rfl,hx,fi.2 h0,axt (fi.2 h0) row _ hx⟩;simp only;split
   ·split
    ·split
     ·exact hn
     ·split
      ·exact hn
      ·exact hB
    ·exact hB
   ·exact hB
theorem axn{room:Int}{bar:List cr}{row:List bN}{pk:Mk}:ahz row pk (fY room bar row pk):=by
 have:∀(l:List bN) (B:asN),(∀x∈l,x∈row)->ahz row pk B->ahz row pk (l.foldl (tm room bar row pk) B):=by
  intro l
  induction l with
  |nil=>exact λB _ h=>h
  |cons x l ih=>exact λB hl h=>ih _ (λy hy=>hl y (az _ hy)) (aLr (hl x aC) h)
 exact this row _ (λx hx=>hx) (.inl rfl)
theorem adi{bar:List cr}{row:List bN}:∀(f:Nat) (room:Int) (pk:Mk) (out:List cR),aPj row pk < f->(iR bar row f room pk out).isSome=aL
 | 0,_,_,_,h=>absurd h (jG _)
 |f+1,room,pk,out,h=>by
  rw[iR];rcases axn (room:=room) (bar:=bar) (row:=row) (pk:=pk) with h1 | ⟨w,h1,h2,h3,h4⟩
  ·rw[h1];rfl
  ·rw[h1];refine adi f _ _ _ ?_
   have:=aRs (pk:=pk) (pk':=(xK (fY room bar row pk).2.1 pk out).2.1) (λy hy=>WG _ _ y hy) h3 (asb _ _ w h4) h2;omega
def aOl(x y:bN):Prop:=∀i∈(Gd x).1,¬i.1.1=asE y
def afL(row:List bN):Prop:=row.Pairwise (λx y=>aOl x y/\¬asE x=asE y)/\∀x∈row,aOl x x
theorem C9{kt:Ty}{β:Type}(hc:kt.comp=aL){o:kt.den}{v:β}:∀ {l:List (kt.den×β)},bV kt o l=aj v->(o,v)∈l
 |[],h=>by rw[nr]at h;cases h
 |p::l,h=>by
  rw[dQ]at h;split at h
  ·rename_i hb;have e:=beq_eq kt _ _ hc hb;rw[e,<-bh h];exact aC
  ·exact az _ (C9 hc h)
theorem aeq:∀(l:List bN) (m:NN),(∀r∈m,∃w,r.2=aj w/\r.1=w.2.2.1)->∀r∈l.foldl Ro m,∃w,r.2=aj w/\r.1=w.2.2.1
 |[],_,hm,r,hr=>hm r hr
 |x::l,m,hm,r,hr=>by
  refine aeq l _ ?_ r hr
  cases x with
  |none=>exact hm
  |some w=>
   intro r hr;have hx:∀(m:NN),(∀r∈m,∃w,r.2=aj w/\r.1=w.2.2.1)->∀r∈cY tH w.2.2.1 (aj w:bN) m,∃w,r.2=aj w/\r.1=w.2.2.1:=by
    intro m
    induction m with
    |nil=>intro _ r hr;rw[si]at hr;obtain rfl:=aY.1 hr;exact⟨w,rfl,rfl⟩
    |cons a m ih=>
     intro hm r hr;rw[gG]at hr;split at hr
     ·rcases bI.1 hr with rfl | hr
      ·exact⟨w,rfl,rfl⟩
      ·exact hm r (az _ hr)
     ·rcases bI.1 hr with rfl | hr
      ·exact hm _ aC
      ·exact ih (λr hr=>hm r (az _ hr)) r hr
   exact hx m hm r hr
theorem afz{row:List bN}{i:gK}{w:Nat×tj}(h:xv (tK row) i=aj w):aj w∈row/\i.1.1=asE (aj w):=by
 unfold xv at h;cases hg:bV tH i.1.1 (tK row) with
 |none=>rw[hg]at h;cases h
 |some v=>
  rw[hg]at h;obtain rfl:v=aj w:=h;have hm:=C9 (kt:=tH) rfl hg;obtain⟨u,h1,h2⟩:=aeq row [] (λr hr=>by cases hr) _ hm;refine⟨?_,?_⟩
  ·rcases aer row [] _ hm with h | h
   ·exact h
   ·cases h
  ·have h1:aj w=aj u:=h1;rw[<-bh h1]at h2;exact h2
theorem Q1{row a c:List bN}{x:bN}(ho:afL row)(e:row=a++x::c){i:gK}(hi:i∈(Gd x).1){w:Nat×tj}(h:xv (tK row) i=aj w):aj w∈a:=by
 obtain⟨h1,h2⟩:=afz h;rw[e]at h1;rcases bg.1 h1 with h1 | h1
 ·exact h1
 exfalso;rcases bI.1 h1 with h1 | h1
 ·exact ho.2 x (by rw[e];exact ld _ aC) i hi (h1▸h2)
 ·have hp:=ho.1;rw[e,jg]at hp;exact((ov.1 hp.2.1).1 _ h1).1 i hi h2
theorem apz{q:NN}{rec:cR->Mk->Mk}{S:bN->Prop}(hr:∀w m,S (aj w)->(∀p∈m,S p.1)->∀p∈rec w.2.1 m,S p.1):∀(l:List gK) (m:Mk),(∀i∈l,∀w,xv q i=aj w->S (aj w))->(∀p∈m,S p.1)->∀p∈mL q rec l m,S p.1
 |[],m,_,hm,p,hp=>hm p hp
 |i::l,m,hl,hm,p,hp=>by
  rw[mL]at hp;refine apz hr l _ (λj hj=>hl j (az _ hj)) ?_ p hp
  cases hu:xv q i with
  |none=>exact hm
  |some w=>
   have hw:=hl i aC w hu;simp only;split
   ·exact hm
   ·split
    ·exact hm
    ·split
     ·exact hm
     ·refine hr w _ hw λp hp=> ?_
      rcases xX hp with h | h
      ·rw[h];exact hw
      ·exact hm p h
theorem apx{q:NN}{S:bN->Prop}(hS:∀w,S (aj w)->∀i∈w.2.1.1,∀v,xv q i=aj v->S (aj v)):∀(d:Nat) (t:cR) (m:Mk),(∀i∈t.1,∀w,xv q i=aj w->S (aj w))->(∀p∈m,S p.1)->∀p∈tr q d t m,S p.1
 | 0,_,m,_,hm,p,hp=>hm p hp
 |d+1,t,m,ht,hm,p,hp=>apz (λw m hw hm=>apx hS d w.2.1 m (hS w hw) hm) t.1 m ht hm p hp
theorem ahF{row pre post:List bN}(ho:afL row)(e:row=pre++post){t:cR}(ht:∀i∈t.1,∀w,xv (tK row) i=aj w->aj w∈pre):∀p∈dF row t,p.1∈pre:=by refine apx (S:=λx=>x∈pre) (λw hw i hi v hv=> ?_) 1001 t [] ht (λp hp=>by cases hp);obtain⟨a,b,rfl⟩:=uG hw;exact ez _ (Q1 (x:=aj w) ho (by rw[e,aM];rfl) hi hv)
theorem aw7{row:List bN}(ho:afL row):∀(n:Nat) (pre post:List bN),row=pre++post->pre.length<=n->∀t:cR,(∀i∈t.1,∀w,xv (tK row) i=aj w->aj w∈pre)->asK row n t
 | 0,pre,post,e,hn,t,ht=>by
  have h:=ahF ho e ht;obtain rfl:pre=[]:=bD au;show dF row t=[];cases ha:dF row t with
  |nil=>rfl
  |cons p m=>rw[ha]at h;cases h p aC
 |n+1,pre,post,e,hn,t,ht=>by
  intro p hp;have hm:=ahF ho e ht p hp;obtain⟨a,b,rfl⟩:=uG hm;have e2:row=a++p.1::(b++post):=by rw[e,aM];rfl
  refine aw7 ho n a (p.1::(b++post)) e2 (by rw[ai,aE]at hn;omega) _ λi hi w hw=>Q1 ho e2 hi hw
theorem aEn{row:List bN}{t:cR}{d:Nat}(h:asK row d t):∀k,asK row (d+k) t
 | 0=>h
 |k+1=>asL _ _ _ (aEn h k)
theorem aLb{row:List bN}(ho:afL row)(hl:row.length<=90)(t:cR):asK row 100 t:=by
 have h:=aw7 ho row.length row [] (bJ _).symm (aB _) t λi _ w hw=>(afz hw).1
 have:=aEn h (100 - row.length);rwa[show row.length+(100 - row.length)=100 by omega]at this
theorem afL.sub{row row':List bN}(h:afL row)(hs:row'.Sublist row):afL row':=⟨h.1.sublist hs,λx hx=>h.2 x (hs.subset hx)⟩
def ayj(i:gK)(x:Nat×tj):Prop:=¬i.1.2.1 < 0/\¬i.1.2.1>=(x.2.1.2.1.length:Int)
theorem Qd{q:NN}{rec:cR->Mk->Mk}(hr:∀t m y,cX m y=aL->cX (rec t m) y=aL):∀(l:List gK) (m:Mk) (y:bN),cX m y=aL->cX (mL q rec l m) y=aL
 |[],m,y,h=>h
 |i::l,m,y,h=>by
  rw[mL];refine Qd hr l _ y ?_
  cases xv q i with
  |none=>exact h
  |some x=>
   simp only;split
   ·exact h
   ·split
    ·exact h
    ·split
     ·exact h
     ·exact hr _ _ _ (by rw[sh,h,Bool.or_true])
theorem ab9(q:NN):∀(d:Nat) (t:cR) (m:Mk) (y:bN),cX m y=aL->cX (tr q d t m) y=aL
 | 0,_,_,_,h=>h
 |d+1,t,m,y,h=>Qd (λt m y=>ab9 q d t m y) t.1 m y h
theorem aiy{q:NN}{rec:cR->Mk->Mk}(hr:∀t m y,cX m y=aL->cX (rec t m) y=aL):∀(l:List gK) (m:Mk) (i:gK) (x:Nat×tj),i∈l->xv q i=aj x->ayj i x->cX (mL q rec l m) (aj x)=aL
 |j::l,m,i,x,hi,hu,ho=>by
  rw[mL];rcases bI.1 hi with rfl | hi
  ·refine Qd hr l _ _ ?_
   rw[hu];simp only;split
   ·assumption
   ·rw[if_neg ho.1,if_neg ho.2];exact hr _ _ _ (by rw[sh,(I3 _ _).2 rfl,ot])
  ·exact aiy hr l _ i x hi hu ho
theorem azi{row:List bN}{t:cR}{i:gK}{x:Nat×tj}(hi:i∈t.1)(hu:xv (tK row) i=aj x)(ho:ayj i x):∃p∈dF row t,p.1=aj x:=by
 have h:cX (dF row t) (aj x)=aL:=aiy (λt m y=>ab9 (tK row) 1000 t m y) t.1 [] i x hi hu ho;unfold cX at h;cases hg:bV cd (aj x) (dF row t) with
 |none=>rw[hg]at h;cases h
 |some v=>exact⟨_,C9 ar9 hg,rfl⟩
theorem ary:∀(l:List bN) (m:NN) (b:Bs),(∀x∈l,¬asE x=b)->bV tH b (l.foldl Ro m)=bV tH b m
 |[],_,_,_=>rfl
 |x::l,m,b,h=>by
  rw[aX,ary l _ b λy hy=>h y (az _ hy)];cases x with
  |none=>rfl
  |some w=>
   have hb:¬asE (aj w)=b:=h _ aC;show bV tH b (cY tH w.2.2.1 (aj w) m)=_;have hn:¬Ty.beq tH b w.2.2.1=aL:=λe=>hb (beq_eq tH b w.2.2.1 rfl e).symm
   rw[Eg (kt:=tH) rfl,if_neg hn]
theorem aOb{row:List bN}(ho:afL row){i:gK}{w:Nat×tj}(hw:aj w∈row)(e:i.1.1=asE (aj w)):xv (tK row) i=aj w:=by obtain⟨a,b,rfl⟩:=uG hw;have hp:=(jg.1 ho.1).2.1;unfold xv tK;rw[List.foldl_append,aX,ary b _ _ λy hy he=>((ov.1 hp).1 y hy).2 (by rw[he,e])];show(bV tH i.1.1 (cY tH w.2.2.1 (aj w) (a.foldl Ro []))).getD aF=aj w;rw[Eg (kt:=tH) rfl,if_pos (by rw[e];exact beq_refl tH _ rfl)];rfl
theorem aHU{y:bN}{r g:Mk}(h:cX (jX y r g) y=aS):anyM g r=aS/\jX y r g=g:=by
 unfold jX at h ⊢;by_cases ha:anyM g r=aL
 ·rw[if_pos ha,sh,(I3 y y).2 rfl]at h;cases h
 ·rw[if_neg ha];exact⟨fi.2 ha,rfl⟩
theorem ap8{y z:bN}{r g:Mk}(h:¬z=y):cX (jX y r g) z=cX g z:=by
 unfold jX;split
 ·rw[sh];have:Ty.beq cd z y=aS:=fi.2 λe=>h ((I3 _ _).1 e)
  rw[this,pA]
 ·rfl
def aEr(pre:List bN)(S:Mk×List bN):Prop:=∀y∈pre,y.isSome=aL->(y∈S.2↔cX S.1 y=aS)
theorem aeP{row:List bN}{t:cR}:∀(l pre:List bN) (S:Mk×List bN),row=pre++l->afL row->(∀y∈S.2,y∈pre)->aEr pre S->
  (∀y∈S.2,y∈(l.foldl (u9 row t) S).2)/\∀(w:Nat×tj),aj w∈l->aj w∈(l.foldl (u9 row t) S).2->∀i∈w.2.1.1,∀v,xv (tK row) i=aj v->ayj i v->aj v∈(l.foldl (u9 row t) S).2
 |[],pre,S,_,_,_,_=>⟨λ_ h=>h,λ_ h=>by cases h⟩
 |x::l,pre,S,e,ho,hs,hl=>by
  have e2:row=(pre++ [x])++l:=by rw[e,aM];rfl
  cases hx:x with
  |none=>
   subst hx;have hs':∀y∈(u9 row t S aF).2,y∈pre++ [aF]:=λy hy=>ez _ (hs y hy)
   have hl':aEr (pre++ [aF]) (u9 row t S aF):=λy hy hn=>by
    rcases bg.1 hy with hy | hy
    ·exact hl y hy hn
    ·rw[aY.1 hy]at hn;cases hn
   obtain⟨h1,h2⟩:=aeP l (pre++ [aF]) (u9 row t S aF) e2 ho hs' hl';rw[aX];refine⟨h1,λw hw=> ?_⟩;rcases bI.1 hw with hw | hw
   ·cases hw
   ·exact h2 w hw
  |some w=>
   subst hx;have aT6:aj w ∉ pre:=λhm=>by have hp:=ho.1;rw[e,jg]at hp;exact(hp.2.2 _ hm _ aC).2 rfl
   obtain⟨g1,aAv⟩:∃g,(if iv w.2.1 (da t)=aL then cY cd (aj w) aL S.1 else S.1)=g:=⟨_,rfl⟩;obtain⟨g,hg⟩:∃g,jX (aj w) (dF row w.2.1) g1=g:=⟨_,rfl⟩;have eS:u9 row t S (aj w)=(g,if cX g (aj w)=aL then S.2 else S.2++ [aj w]):=by show(jX (aj w) (dF row w.2.1) (if iv w.2.1 (da t)=aL then cY cd (aj w) aL S.1 else S.1),_)=_;rw[aAv,hg]
   have P1:∀y,¬y=aj w->cX g y=cX S.1 y:=λy hy=>by
    rw[<-hg,ap8 hy,<-aAv];split
    ·rw[sh];have:Ty.beq cd y (aj w)=aS:=fi.2 λe=>hy ((I3 _ _).1 e)
     rw[this,pA]
    ·rfl
   have hs':∀y∈(u9 row t S (aj w)).2,y∈pre++ [aj w]:=λy hy=>by
    rw[eS]at hy;simp only at hy;split at hy
    ·exact ez _ (hs y hy)
    ·rcases bg.1 hy with hy | hy
     ·exact ez _ (hs y hy)
     ·exact ld _ hy
   have hl':aEr (pre++ [aj w]) (u9 row t S (aj w)):=λy hy hn=>by
    rw[eS];simp only;rcases bg.1 hy with hy | hy
    ·have kJ:¬y=aj w:=λh=>aT6 (h▸hy)
     rw[P1 y kJ,<-hl y hy hn];split
     ·exact Iff.rfl
     ·exact⟨λh=>(bg.1 h).elim id λh=>absurd (aY.1 h) kJ,λh=>ez _ h⟩
    ·obtain rfl:=aY.1 hy;cases hm:cX g (aj w) with
     |true=>simp only[bE];exact⟨λh=>absurd (hs _ h) aT6,λh=>by cases h⟩
     |false=>simp only[bw,bp];exact⟨λ_=>trivial,λ_=>ld _ (aY.2 rfl)⟩
   obtain⟨h1,h2⟩:=aeP l (pre++ [aj w]) (u9 row t S (aj w)) e2 ho hs' hl';rw[aX];refine⟨λy hy=>h1 y ?_,λu hu=> ?_⟩
   ·rw[eS];simp only;split
    ·exact hy
    ·exact ez _ hy
   rcases bI.1 hu with hu | hu
   ·obtain rfl:=bh hu;intro abB i hi v hv gb;have hm:cX g (aj u)=aS:=by
     cases hm:cX g (aj u) with
     |false=>rfl
     |true=>
      exfalso;have aS1:∀(l:List bN) (S:Mk×List bN),aj u ∉ l->aj u ∉ S.2->aj u ∉ (l.foldl (u9 row t) S).2:=by
       intro l
       induction l with
       |nil=>exact λS _ h=>h
       |cons z l ih=>
        intro S hl hS;refine ih _ (λh=>hl (az _ h)) ?_
        cases z with
        |none=>exact hS
        |some z=>
         show aj u ∉ (if cX (jX (aj z) (dF row z.2.1) (if iv z.2.1 (da t)=aL then cY cd (aj z) aL S.1 else S.1)) (aj z)=aL then S.2 else S.2++ [aj z]);generalize jX (aj z) (dF row z.2.1) (if iv z.2.1 (da t)=aL then cY cd (aj z) aL S.1 else S.1)=gz;split
         ·exact hS
         ·intro h;rcases bg.1 h with h | h
          ·exact hS h
          ·exact hl (by rw[aY.1 h];exact aC)
      refine aS1 l (u9 row t S (aj u)) (λh=> ?_) ?_ abB
      ·have hp:=ho.1;rw[e,jg]at hp;exact((ov.1 hp.2.1).1 _ h).2 rfl
      ·rw[eS,hm];simp only[bE];exact λh=>aT6 (hs _ h)
    have aGC:=Q1 (x:=aj u) ho e hi hv;have kJ:¬aj v=aj u:=λh=>aT6 (h▸aGC)
    obtain⟨p,hp,aRN⟩:=azi (row:=row) hi hv gb;have aRL:=aHU (y:=aj u) (r:=dF row u.2.1) (g:=g1) (by rw[hg];exact hm);have aT4:cX g1 (aj v)=aS:=by
     cases aT4:cX g1 (aj v) with
     |false=>rfl
     |true=>
      have:anyM g1 (dF row u.2.1)=aL:=rH.2 ⟨p,hp,by rw[aRN];exact aT4⟩;rw[this]at aRL;cases aRL.1
    rw[<-aRL.2,hg,P1 _ kJ]at aT4;refine h1 _ ?_
    rw[eS,hm];simp only[bw,bp];exact ez _ ((hl _ aGC rfl).2 aT4)
   ·exact h2 u hu
def AK:Bs:=ae 32 (0:Int)
def ahC(row:List bN)(i:gK):Prop:=i.1.1=AK\/∃w,aj w∈row/\i.1.1=asE (aj w)/\ayj i w
def aR7(row:List bN):Prop:=∀x∈row,∀i∈(Gd x).1,ahC row i
def aLg(row:List bN):Prop:=∀w,aj w∈row->w.2.2.1=sX w.2.1/\¬w.2.2.1=AK
def aLe(row:List bN)(a:At):Prop:=∀o:cr,(bV bX o a).isSome=aL->o.1=AK\/∃w,aj w∈row/\o.1=asE (aj w)/\¬o.2.1 < 0/\¬o.2.1>=(w.2.1.2.1.length:Int)
theorem ahC.mono{row row':List bN}{i:gK}(h:ahC row i)(hs:∀x∈row,x∈row'):ahC row' i:=h.imp id λ⟨w,h1,h2⟩=>⟨w,hs _ h1,h2⟩
theorem aME{t:cR}{o:cr}(h:o∈gl t):o.1=sX t/\¬o.2.1 < 0/\¬o.2.1>=(t.2.1.length:Int):=by
 unfold gl at h;split at h
 ·unfold GD at h;obtain⟨k,hk,rfl⟩:=eu.1 h;rw[List.mem_range'_1]at hk;refine⟨rfl,?_,?_⟩
  ·show ¬((k:Nat):Int) < 0;omega
  ·show ¬((k:Nat):Int)>=(t.2.1.length:Int);omega
 ·cases h
theorem anQ{t:cR}{h:Int}{a:At}(ha:(qd a).Nodup){o:cr}(hs:(bV bX o (jI t h a)).isSome=aL):o∈gl t\/(bV bX o a).isSome=aL:=by
 by_cases hm:o∈gl t
 ·exact .inl hm
 ·right;unfold jI at hs;rw[aoM h o _ _ _ hm,aoO o _ ha]at hs;split at hs
  ·cases hs
  ·exact hs
theorem ape{row:List bN}{h:Int}{mk:Mk}(hn:aLg row):∀(l:List bN) {m:Nat} {S:aKQ},(∀x∈l,x∈row)->(∀x∈l,∃w,x=aj w/\aEt w)->m+l.length<=1000->Cs m S.1 S.2.1 S.2.2->aLe row S.2.1->aLe row (l.foldl (xt h mk) S).2.1
 |[],_,_,_,_,_,_,hk=>hk
 |x::l,m,S,hl,hr,hm,hg,hk=>by
  have hm:m+(l.length+1)<=1000:=hm;obtain⟨w,rfl,hw⟩:=hr x aC;have key:Cs (m+1) (xt h mk S (aj w)).1 (xt h mk S (aj w)).2.1 (xt h mk S (aj w)).2.2/\aLe row (xt h mk S (aj w)).2.1:=by
   simp only[xt];split
   ·rcases hg.apply (t:=w.2.1) (h:=h) au hw.1 with⟨hc,_⟩ | ⟨_,hc,_,aKY⟩
    ·rw[show aay h S w.2.1=S from if_pos hc];exact⟨hg.mono au,hk⟩
    ·rw[show aay h S w.2.1=(S.1+1,jI w.2.1 h S.2.1,S.2.2.take S.1++ [stepOf w.2.1 S.2.1]) from if_neg (λx=>x hc)];refine⟨aKY,λo ho=> ?_⟩;rcases anQ hg.J7.1 ho with h1 | h1
     ·obtain⟨e1,e2,e3⟩:=aME h1;have abB:=hl _ aC;exact .inr ⟨w,abB,by rw[e1];exact(hn w abB).1.symm,e2,e3⟩
     ·exact hk o h1
   ·exact⟨hg.mono au,hk⟩
  rw[aX];exact ape hn l (λy hy=>hl y (az _ hy)) (λy hy=>hr y (az _ hy)) au key.1 key.2
def afK(a:At):Prop:=∀o:cr,(bV bX o a).isSome=aL->o.1=AK
theorem afK.canon{m n:Nat}{a:At}{s:List cI}(h:afK a)(hg:Cs m n a s):afK (dq a):=λo ho=>by obtain⟨v,hv⟩:=Option.isSome_iff_exists.1 ho;have h1:=(lA gV hg.canon.1.J7.1 (x:=o) (v:=v)).1 hv;have h2:=(nQ a).mem_iff.1 h1;exact h o (by rw[(lA gV hg.J7.1 (x:=o) (v:=v)).2 h2];rfl)
theorem aE9{row:List bN}{t:cR}{h:Int}{n:Nat}{a:At}{s:List cI}(hv:xx t)(hr:s5 row)(hn:aLg row)(hg:Cs 300 n a s)(hz:afK a)(hc:(wb h row t n a s).2=0):(∀i∈t.1,ahC row i)/\0<=(wb h row t n a s).1/\(wb h row t n a s).1<=1125899906842624:=by
 have aWu:=hg.canon;have hl:row.length<=90:=hr.1;have hL:=aGV (h:=h) (mk:=dF row t) row (m:=300) (S:=(n,dq a,s.take n)) hr.2 au aWu.1;have hk:aLe row (af2 h row t (n,dq a,s.take n)).2.1:=ape hn row (λx hx=>hx) hr.2 au aWu.1 λo ho=> .inl (hz.canon hg o ho)
 have hf:=ZU hc;refine⟨λi hi=> ?_,?_⟩
 ·have hs:i.1∈da t:=by unfold da;rw[if_pos hf.ok];exact List.mem_map_of_mem hi
  rcases hk i.1 (hf.there _ hs) with h1 | ⟨w,h1,h2,h3,h4⟩
  ·exact .inl h1
  ·exact .inr ⟨w,h1,h2,h3,h4⟩
 ·have aOE:anE (af2 h row t (n,dq a,s.take n)).2.1:=hL.J7;have Gw:AW (af2 h row t (n,dq a,s.take n)).2.1<=1125899906842624:=hL.sum;constructor
  ·show 0<=(eM t h (af2 h row t (n,dq a,s.take n)).2.1).1;unfold eM;split
   ·split
    ·exact eV _
    ·split
     ·exact eV _
     ·split
      ·exact eV _
      ·show 0<=_ - _;omega
   ·exact eV _
  ·have h1:=(hf.sum aOE.1).1;have h2:=(hf.J7 aOE hv).pos;show(eM t h (af2 h row t (n,dq a,s.take n)).2.1).1<=_;omega
structure Nz(m:Nat)(p:ZQ)(n:Nat)(a:At)(s:List cI):Prop where
 row:s5 p.2.1
 len:p.2.1.length<=m
 akv:∀x∈p.2.1,Nx x
 aVr:aLg p.2.1
 ord:afL p.2.1
 aUu:aR7 p.2.1
 st:Cs 300 n a s
 key:afK a
theorem Nz.Pt{m:Nat}{p:ZQ}{n:Nat}{a:At}{s:List cI}(h:Nz m p n a s){t:cR}(hv:xx t):aEl t p n a s:=by obtain⟨_,_,q3,q4⟩:=T3 (t:=t) h.row h.akv;exact⟨hv,h.row,h.akv,λ_=>aLb (h.ord.sub q3) q4.1 t,h.st⟩
theorem Nz.pick{m:Nat}{p:ZQ}{n:Nat}{a:At}{s:List cI}(h:Nz m p n a s){bar:List cr}(hb:bar.length<=1000)(room:Int):aw9 bar p.2.1/\(iR bar p.2.1 100 room [] []).isSome=aL:=by refine⟨⟨h.row,hb,trivial⟩,adi 100 room [] [] ?_⟩;have:=h.row.1;exact Nat.lt_of_le_of_lt (List.length_filter_le _ _) au
theorem Nz.add{m:Nat}{p:ZQ}{n:Nat}{a:At}{s:List cI}(h:Nz m p n a s)(hm:m < 90){t:cR}(hv:xx t)(gb:gv t=aL)(hz:¬sX t=AK)(he:Ps t p n a s=0)(k:Nat):
  Nz (m+1) (p.1,((dr t p).2++ [aj (k,JI p t (dr t p).2 n a s)],())) n a s:=by
 obtain⟨_,_,q3,q4⟩:=T3 (t:=t) h.row h.akv;have af1:∀x∈(dr t p).2,x∈p.2.1:=λx hx=>q3.subset hx
 have aS0:aLg (dr t p).2:=λw hw=>h.aVr w (af1 _ hw)
 have aOG:(dr t p).2.length<=m:=Nat.le_trans q3.length_le h.len;unfold Ps at he;split at he
 ·cases he
 rename_i c1;split at he
 ·cases he
 split at he
 ·rename_i c3;exact absurd he c3
 rename_i c3;have c3:(wb p.1 (dr t p).2 t n a s).2=0:=Decidable.not_not.1 c3;obtain⟨hrefs,aXJ,aKX⟩:=aE9 hv q4 aS0 h.st h.key c3;have J9:∀w,aj w∈p.2.1->¬asE (aj w)=sX t:=λw hw e=>by apply c1;unfold lU;rw[List.find?_isSome];exact⟨aj w,hw,qD e⟩
 have aSH:aR7 (dr t p).2:=λx hx i hi=>by
  rcases h.aUu x (af1 x hx) i hi with h1 | ⟨w,h1,h2,h3⟩
  ·exact .inl h1
  ·obtain⟨v,rfl,_⟩:=q4.2 x hx;have hl:=(aeP (t:=t) p.2.1 [] ([],[]) rfl h.ord (λy hy=>by cases hy) (λy hy=>by cases hy)).2 v (af1 _ hx) hx i hi w (aOb h.ord h1 h2) h3;exact .inr ⟨w,hl,h2,h3⟩
 have aRL:∀i,ahC (dr t p).2 i->¬i.1.1=sX t:=λi hi e=>by
  rcases hi with h1 | ⟨w,h1,h2,_⟩
  ·exact hz (e.symm.trans h1)
  ·exact J9 w (af1 _ h1) (h2.symm.trans e)
 have abC:aEt (k,JI p t (dr t p).2 n a s):=⟨hv,gb,(afu (t:=t)).1⟩;have aS4:=h.ord.sub q3;refine⟨⟨by show((dr t p).2++ [_]).length<=90;rw[ai];show(dr t p).2.length+1<=90;omega,λx hx=> ?_⟩,by show((dr t p).2++ [_]).length<=m+1;rw[ai];show(dr t p).2.length+1<=m+1;omega,λx hx=> ?_,λw hw=> ?_,⟨?_,λx hx=> ?_⟩,λx hx i hi=> ?_,h.st,h.key⟩
 ·rcases bg.1 hx with hx | hx
  ·exact q4.2 x hx
  ·rw[aY.1 hx];exact⟨_,rfl,abC⟩
 ·rcases bg.1 hx with hx | hx
  ·exact h.akv x (af1 x hx)
  ·rw[aY.1 hx];exact⟨_,rfl,aXJ,aKX⟩
 ·rcases bg.1 hw with hw | hw
  ·exact aS0 w hw
  ·rw[bh (aY.1 hw)];exact⟨rfl,hz⟩
 ·refine jg.2 ⟨aS4.1,List.pairwise_singleton _ _,λx hx y hy=> ?_⟩;rw[aY.1 hy];refine⟨λi hi=>aRL i (aSH x hx i hi),?_⟩;obtain⟨v,rfl,_⟩:=q4.2 x hx;exact J9 v (af1 _ hx)
 ·rcases bg.1 hx with hx | hx
  ·exact aS4.2 x hx
  ·rw[aY.1 hx];exact λi hi=>aRL i (hrefs i hi)
 ·rcases bg.1 hx with hx | hx
  ·exact(aSH x hx i hi).mono λy hy=>ez _ hy
  ·rw[aY.1 hx]at hi;exact(hrefs i hi).mono λy hy=>ez _ hy
structure nf(row:List bN)(φ:bN->bN):Prop where
 inj:∀x∈row,∀y∈row,φ x=φ y->x=y
 aPL:∀w,aj w∈row->∃k,φ (aj w)=aj (k,w.2)
 all:asP row
def mR(φ:bN->bN)(m:Mk):Mk:=m.map λp=>(φ p.1,p.2)
def hR(φ:bN->bN)(m:NN):NN:=m.map λp=>(p.1,φ p.2)
def Ny(row:List bN)(m:Mk):Prop:=∀p∈m,p.1∈row
theorem nf.sub{row row':List bN}{φ:bN->bN}(h:nf row φ)(hs:∀x∈row',x∈row):nf row' φ:=⟨λx hx y hy e=>h.inj x (hs x hx) y (hs y hy) e,λw hw=>h.aPL w (hs _ hw),λx hx=>h.all x (hs x hx)⟩
theorem nf.is{row:List bN}{φ:bN->bN}(h:nf row φ){x:bN}(hx:x∈row):∃w k,x=aj w/\φ x=aj (k,w.2):=by obtain⟨w,rfl⟩:=Option.isSome_iff_exists.1 (h.all x hx);obtain⟨k,hk⟩:=h.aPL w hx;exact⟨w,k,rfl,hk⟩
theorem nf.beq{row:List bN}{φ:bN->bN}(h:nf row φ){x y:bN}(hx:x∈row)(hy:y∈row):Ty.beq cd (φ x) (φ y)=Ty.beq cd x y:=by rw[tM,I3,I3];exact⟨h.inj x hx y hy,λe=>by rw[e]⟩
theorem apC{row:List bN}{φ:bN->bN}(h:nf row φ){x:bN}(hx:x∈row):∀ {m:Mk},Ny row m->bV cd (φ x) (mR φ m)=bV cd x m
 |[],_=>rfl
 |p::m,hm=>by have hp:=hm p aC;have e:mR φ (p::m)=(φ p.1,p.2)::mR φ m:=rfl;rw[e,dQ,dQ,apC h hx λq hq=>hm q (az _ hq)];simp only[h.beq hx hp]
theorem C8{row:List bN}{φ:bN->bN}(h:nf row φ){x:bN}(hx:x∈row){m:Mk}(hm:Ny row m):cX (mR φ m) (φ x)=cX m x:=by unfold cX;rw[apC h hx hm]
theorem Ku{row:List bN}{φ:bN->bN}(h:nf row φ){x:bN}(hx:x∈row):∀ {m:Mk},Ny row m->cY cd (φ x) aL (mR φ m)=mR φ (cY cd x aL m)
 |[],_=>by rw[si];rfl
 |p::m,hm=>by
  have hp:=hm p aC;have e:mR φ (p::m)=(φ p.1,p.2)::mR φ m:=rfl;rw[e,gG,gG];simp only[h.beq hx hp];split
  ·rfl
  ·rw[Ku h hx λq hq=>hm q (az _ hq)];rfl
theorem Ny.set{row:List bN}{m:Mk}(hm:Ny row m){x:bN}(hx:x∈row):Ny row (cY cd x aL m):=λp hp=>by
 rcases xX hp with h | h
 ·rw[h];exact hx
 ·exact hm p h
theorem aiE{kt:Ty}{α β:Type}(f:α->β)(o:kt.den)(v:α):∀m:List (kt.den×α),cY kt o (f v) (m.map λp=>(p.1,f p.2))=(cY kt o v m).map λp=>(p.1,f p.2)
 |[]=>by rw[si];rfl
 |p::m=>by
  rw[bM,gG,gG];simp only;split
  ·rfl
  ·rw[aiE f o v m];rfl
theorem aiC{kt:Ty}{α β:Type}(f:α->β)(o:kt.den):∀m:List (kt.den×α),bV kt o (m.map λp=>(p.1,f p.2))=(bV kt o m).map f
 |[]=>rfl
 |p::m=>by
  rw[bM,dQ,dQ];simp only;split
  ·rfl
  ·exact aiC f o m
theorem aEA{row:List bN}{φ:bN->bN}(h:nf row φ):∀(l:List bN) (m:NN),(∀x∈l,x∈row)->(l.map φ).foldl Ro (hR φ m)=hR φ (l.foldl Ro m)
 |[],_,_=>rfl
 |x::l,m,hl=>by obtain⟨w,k,rfl,hk⟩:=h.is (hl x aC);rw[bM,aX,aX,<-aEA h l _ λy hy=>hl y (az _ hy)];congr 1;rw[hk];show cY tH w.2.2.1 (aj (k,w.2)) (hR φ m)=hR φ (cY tH w.2.2.1 (aj w) m);rw[<-hk];exact aiE (kt:=tH) φ w.2.2.1 (aj w) m
theorem aQ3{row:List bN}{φ:bN->bN}(h:nf row φ):tK (row.map φ)=hR φ (tK row):=aEA h row [] λ_ hx=>hx
theorem aRt{row:List bN}{φ:bN->bN}(h:nf row φ)(i:gK):xv (tK (row.map φ)) i=match xv (tK row) i with | none=>aF | some w=>φ (aj w):=by
 have e:bV tH i.1.1 (tK (row.map φ))=(bV tH i.1.1 (tK row)).map φ:=by rw[aQ3 h];exact aiC (kt:=tH) φ i.1.1 (tK row)
 unfold xv;rw[e];cases hg:bV tH i.1.1 (tK row) with
 |none=>rfl
 |some v=>
  obtain⟨u,h1,_⟩:=aeq row [] (λr hr=>by cases hr) _ (C9 (kt:=tH) rfl hg);have h1:v=aj u:=h1;rw[h1];rfl
theorem M6{row:List bN}{φ:bN->bN}(h:nf row φ){r1 r2:cR->Mk->Mk}(hr:∀w m,aj w∈row->Ny row m->r1 w.2.1 (mR φ m)=mR φ (r2 w.2.1 m)/\Ny row (r2 w.2.1 m)):∀(l:List gK) (m:Mk),Ny row m->mL (tK (row.map φ)) r1 l (mR φ m)=mR φ (mL (tK row) r2 l m)/\Ny row (mL (tK row) r2 l m)
 |[],_,hm=>⟨rfl,hm⟩
 |i::l,m,hm=>by
  rw[mL,mL,aRt h];cases hu:xv (tK row) i with
  |none=>exact M6 h hr l m hm
  |some w=>
   have hw:=(afz hu).1;obtain⟨k,hk⟩:=h.aPL w hw;simp only[hk];rw[<-hk,C8 h hw hm];by_cases h1:cX m (aj w)=aL
   ·rw[if_pos h1,if_pos h1];exact M6 h hr l m hm
   rw[if_neg h1,if_neg h1];by_cases h2:i.1.2.1 < 0
   ·rw[if_pos h2,if_pos h2];exact M6 h hr l m hm
   rw[if_neg h2,if_neg h2];by_cases h3:i.1.2.1>=(w.2.1.2.1.length:Int)
   ·rw[if_pos h3,if_pos h3];exact M6 h hr l m hm
   obtain⟨e1,e2⟩:=hr w (cY cd (aj w) aL m) hw (hm.set hw);rw[if_neg h3,if_neg h3,Ku h hw hm,e1];exact M6 h hr l _ e2
theorem ax9{row:List bN}{φ:bN->bN}(h:nf row φ):∀(d:Nat) (t:cR) (m:Mk),Ny row m->tr (tK (row.map φ)) d t (mR φ m)=mR φ (tr (tK row) d t m)/\Ny row (tr (tK row) d t m)
 | 0,_,_,hm=>⟨rfl,hm⟩
 |d+1,t,m,hm=>M6 h (λw m _ hm=>ax9 h d w.2.1 m hm) t.1 m hm
theorem ZR{row:List bN}{φ:bN->bN}(h:nf row φ)(t:cR):dF (row.map φ) t=mR φ (dF row t):=(ax9 h 1001 t [] λp hp=>by cases hp).1
theorem Rp{row:List bN}(t:cR):Ny row (dF row t):=λ_ hp=>ahE hp
theorem aPi{row:List bN}{φ:bN->bN}(h:nf row φ){x:bN}(hx:x∈row):Gd (φ x)=Gd x:=by obtain⟨w,k,rfl,hk⟩:=h.is hx;rw[hk];rfl
theorem aHq{row:List bN}{φ:bN->bN}{f g:bN->Int}(hf:∀x∈row,f (φ x)=g x):∀(m:Mk) (n:Int),Ny row m->GF f n (mR φ m)=GF g n m
 |[],_,_=>rfl
 |p::m,n,hm=>by show GF f (imax n (f (φ p.1))) (mR φ m)=GF g (imax n (g p.1)) m;rw[hf p.1 (hm p aC)];exact aHq hf m _ λq hq=>hm q (az _ hq)
theorem aFK{row:List bN}{φ:bN->bN}(h:nf row φ):∀(d:Nat) (t:cR),jV (row.map φ) d t=jV row d t
 | 0,_=>rfl
 |d+1,t=>by rw[jV,jV,ZR h];congr 1;exact aHq (λx hx=>by rw[aPi h hx];exact aFK h d _) _ _ (Rp t)
theorem aOZ{row:List bN}{φ:bN->bN}(h:nf row φ){hh:Int}{m:Mk}(hm:Ny row m):∀(l:List bN) (S:aKQ),(∀x∈l,x∈row)->(l.map φ).foldl (xt hh (mR φ m)) S=l.foldl (xt hh m) S
 |[],_,_=>rfl
 |x::l,S,hl=>by
  have hx:=hl x aC;rw[bM,aX,aX];have e:xt hh (mR φ m) S (φ x)=xt hh m S x:=by have e1:=C8 h hx hm;obtain⟨w,k,rfl,hk⟩:=h.is hx;rw[hk]at e1 ⊢;show(if cX (mR φ m) (aj (k,w.2))=aL then aay hh S w.2.1 else S)=(if cX m (aj w)=aL then aay hh S w.2.1 else S);rw[e1]
  rw[e];exact aOZ h hm l _ λy hy=>hl y (az _ hy)
theorem aOs{row:List bN}{φ:bN->bN}(h:nf row φ)(hh:Int)(t:cR)(n:Nat)(a:At)(s:List cI):wb hh (row.map φ) t n a s=wb hh row t n a s:=by unfold wb af2;rw[ZR h,aOZ h (Rp t) row _ λ_ hx=>hx]
theorem aOn{row:List bN}{φ:bN->bN}(h:nf row φ){g:Mk}(hg:Ny row g):∀ {r:Mk},Ny row r->anyM (mR φ g) (mR φ r)=anyM g r
 |[],_=>rfl
 |p::r,hr=>by show(cX (mR φ g) (φ p.1) || anyM (mR φ g) (mR φ r))=(cX g p.1 || anyM g r);rw[C8 h (hr p aC) hg,aOn h hg λq hq=>hr q (az _ hq)]
theorem aMX{row:List bN}{φ:bN->bN}(h:nf row φ){y:bN}(hy:y∈row){g r:Mk}(hg:Ny row g)(hr:Ny row r):jX (φ y) (mR φ r) (mR φ g)=mR φ (jX y r g)/\Ny row (jX y r g):=by
 unfold jX;rw[aOn h hg hr];split
 ·exact⟨Ku h hy hg,hg.set hy⟩
 ·exact⟨rfl,hg⟩
theorem aPf{row:List bN}{φ:bN->bN}(h:nf row φ)(t:cR):∀(l:List bN) (S:Mk×List bN),(∀x∈l,x∈row)->Ny row S.1->(l.map φ).foldl (u9 (row.map φ) t) (mR φ S.1,S.2.map φ)=(mR φ (l.foldl (u9 row t) S).1,(l.foldl (u9 row t) S).2.map φ)/\Ny row (l.foldl (u9 row t) S).1
 |[],_,_,hS=>⟨rfl,hS⟩
 |x::l,S,hl,hS=>by
  have hx:=hl x aC;rw[bM,aX,aX];have key:u9 (row.map φ) t (mR φ S.1,S.2.map φ) (φ x)=(mR φ (u9 row t S x).1,(u9 row t S x).2.map φ)/\Ny row (u9 row t S x).1:=by
   obtain⟨w,k,rfl,hk⟩:=h.is hx;have aAv:(if iv w.2.1 (da t)=aL then cY cd (φ (aj w)) aL (mR φ S.1) else mR φ S.1)=mR φ (if iv w.2.1 (da t)=aL then cY cd (aj w) aL S.1 else S.1)/\Ny row (if iv w.2.1 (da t)=aL then cY cd (aj w) aL S.1 else S.1):=by
    split
    ·exact⟨Ku h hx hS,hS.set hx⟩
    ·exact⟨rfl,hS⟩
   obtain⟨e1,e2⟩:=aAv;obtain⟨o1,o2⟩:=aMX h hx (r:=dF row w.2.1) e2 (Rp _);have e3:u9 (row.map φ) t (mR φ S.1,S.2.map φ) (aj (k,w.2))=(jX (φ (aj w)) (dF (row.map φ) w.2.1) (if iv w.2.1 (da t)=aL then cY cd (φ (aj w)) aL (mR φ S.1) else mR φ S.1),if cX (jX (φ (aj w)) (dF (row.map φ) w.2.1) (if iv w.2.1 (da t)=aL then cY cd (φ (aj w)) aL (mR φ S.1) else mR φ S.1)) (φ (aj w))=aL then S.2.map φ else S.2.map φ++ [φ (aj w)]):=by rw[hk];rfl
   rw[hk,e3,e1,ZR h,o1,C8 h hx o2];refine⟨?_,o2⟩;show(_,_)=(mR φ (jX (aj w) (dF row w.2.1) (if iv w.2.1 (da t)=aL then cY cd (aj w) aL S.1 else S.1)),(if cX (jX (aj w) (dF row w.2.1) (if iv w.2.1 (da t)=aL then cY cd (aj w) aL S.1 else S.1)) (aj w)=aL then S.2 else S.2++ [aj w]).map φ);generalize jX (aj w) (dF row w.2.1) (if iv w.2.1 (da t)=aL then cY cd (aj w) aL S.1 else S.1)=gz;congr 1;split
   ·rfl
   ·rw[lz];rfl
  rw[key.1];exact aPf h t l _ (λy hy=>hl y (az _ hy)) key.2
theorem aED{row:List bN}{φ:bN->bN}(h:nf row φ){f wt:Int}:∀ {g:Mk},Ny row g->UX f wt (mR φ g)=UX f wt g/\Cg (mR φ g)=Cg g
 |[],_=>⟨rfl,rfl⟩
 |p::g,hg=>by
  obtain⟨i1,i2⟩:=aED h (f:=f) (wt:=wt) λq hq=>hg q (az _ hq)
  obtain⟨w,k,hp,hk⟩:=h.is (hg p aC);constructor
  ·show(aEE f wt (φ p.1) || UX f wt (mR φ g))=(aEE f wt p.1 || UX f wt g);rw[i1,hk,hp];rfl
  ·show((Zl (φ p.1):Int)::(mR φ g).map λp=>Zl p.1).sum=((Zl p.1:Int)::g.map λp=>Zl p.1).sum;rw[jb,jb,show((mR φ g).map λp=>Zl p.1).sum=Cg (mR φ g) from rfl,i2,hk,hp];rfl
theorem aF3{row:List bN}{φ:bN->bN}(h:nf row φ)(id:Bs):(lU id (row.map φ)).isSome=(lU id row).isSome:=by
 unfold lU;rw[tM,List.find?_isSome,List.find?_isSome];constructor
 ·rintro⟨y,hy,hi⟩;obtain⟨x,hx,rfl⟩:=eu.1 hy;refine⟨x,hx,?_⟩;obtain⟨w,k,rfl,hk⟩:=h.is hx;rw[hk]at hi;exact hi
 ·rintro⟨x,hx,hi⟩;refine⟨φ x,List.mem_map_of_mem hx,?_⟩;obtain⟨w,k,rfl,hk⟩:=h.is hx;rw[hk];exact hi
theorem aJl{p:ZQ}{φ:bN->bN}(h:nf p.2.1 φ)(t:cR):dr t (p.1,(p.2.1.map φ,p.2.2))=(mR φ (dr t p).1,(dr t p).2.map φ)/\Ny p.2.1 (dr t p).1:=
 aPf h t p.2.1 ([],[]) (λ_ hx=>hx) (λp hp=>by cases hp)
theorem aPw{p:ZQ}{φ:bN->bN}(h:nf p.2.1 φ)(hr:s5 p.2.1)(hf:∀x∈p.2.1,Nx x)(t:cR)(n:Nat)(a:At)(s:List cI):Ps t (p.1,(p.2.1.map φ,p.2.2)) n a s=Ps t p n a s:=by
 obtain⟨e1,e2⟩:=aJl h t;obtain⟨_,_,q3,_⟩:=T3 (t:=t) hr hf;have h2:=h.sub (row':=(dr t p).2) λx hx=>q3.subset hx
 obtain⟨b1,b2⟩:=aED h (f:=(wb p.1 (dr t p).2 t n a s).1) (wt:=lq t) e2;unfold Ps;rw[e1];simp only[aF3 h,aFK h2,aOs h2,b1,b2]
def bR(φ:bN->bN)(S:Bt):Bt:=(S.1,(S.2.1,(S.2.2.1,S.2.2.2.map φ)))
theorem aOp{row:List bN}{φ:bN->bN}(h:nf row φ){bar:List cr}{pk mk:Mk}(hp:Ny row pk)(hm:Ny row mk){x:bN}(hx:x∈row):∀(l:List bN) (S:Bt),(∀y∈l,y∈row)->(l.map φ).foldl (A4 bar (mR φ pk) (mR φ mk) (φ x)) (bR φ S)=bR φ (l.foldl (A4 bar pk mk x) S)
 |[],_,_=>rfl
 |y::l,S,hl=>by
  have hy:=hl y aC;rw[bM,aX,aX,<-aOp h hp hm hx l _ λz hz=>hl z (az _ hz)];congr 1;have e1:=C8 h hy hp;have e2:=C8 h hy hm;have e3:=h.beq hy hx;unfold A4;rw[e1,e2,e3];split
  ·rfl
  split
  ·rfl
  obtain⟨w,k,rfl,hk⟩:=h.is hy;rw[hk];simp only[bR,lz,bM,gW,hk]
def oR(φ:bN->bN)(x:bN):bN:=match x with | none=>aF | some w=>φ (aj w)
def aGW(φ:bN->bN)(B:asN):asN:=(oR φ B.1,(B.2.1.map φ,B.2.2))
theorem aLq{row:List bN}{φ:bN->bN}(h:nf row φ){room:Int}{bar:List cr}{pk:Mk}(hp:Ny row pk){B:asN}(hB:B.1=aF\/B.1∈row){x:bN}(hx:x∈row):
  tm room bar (row.map φ) (mR φ pk) (aGW φ B) (φ x)=aGW φ (tm room bar row pk B x)/\((tm room bar row pk B x).1=aF\/(tm room bar row pk B x).1∈row):=by
 have e1:=C8 h hx hp;obtain⟨w,k,rfl,hk⟩:=h.is hx;have eb:qv bar (row.map φ) (mR φ pk) (k,w.2)=bR φ (qv bar row pk w):=by unfold qv;rw[show((k,w.2):Nat×tj).2.1=w.2.1 from rfl,ZR h,<-hk];exact aOp h hp (Rp _) hx row (aL,0,(0,(0,())),[]) λ_ hy=>hy
 have dy:asE (oR φ B.1)=asE B.1/\(oR φ B.1).isNone=B.1.isNone:=by
  rcases hB with hB | hB
  ·rw[hB];exact⟨rfl,rfl⟩
  ·obtain⟨v,j,hv,hj⟩:=h.is hB;rw[hv]at hj ⊢;show asE (φ (aj v))=_/\(φ (aj v)).isNone=_;rw[hj];exact⟨rfl,rfl⟩
 have ed:Xd (aj (k,w.2),((qv bar row pk w).2.2.2.map φ,(qv bar row pk w).2.2.1)) (aGW φ B)=Xd (aj w,((qv bar row pk w).2.2.2,(qv bar row pk w).2.2.1)) B:=by unfold Xd;simp only[aGW,dy.1];rfl
 unfold tm;rw[hk]at e1 ⊢;rw[e1];split
 ·exact⟨rfl,hB⟩
 simp only[eb,bR,ed,show(aGW φ B).1=oR φ B.1 from rfl,dy.2];split
 ·split
  ·split
   ·exact⟨by rw[<-hk];rfl,.inr hx⟩
   ·split
    ·exact⟨by rw[<-hk];rfl,.inr hx⟩
    ·exact⟨rfl,hB⟩
  ·exact⟨rfl,hB⟩
 ·exact⟨rfl,hB⟩
theorem aLs{row:List bN}{φ:bN->bN}(h:nf row φ){room:Int}{bar:List cr}{pk:Mk}(hp:Ny row pk):fY room bar (row.map φ) (mR φ pk)=aGW φ (fY room bar row pk):=by
 have:∀(l:List bN) (B:asN),(∀x∈l,x∈row)->(B.1=aF\/B.1∈row)->(l.map φ).foldl (tm room bar (row.map φ) (mR φ pk)) (aGW φ B)=aGW φ (l.foldl (tm room bar row pk) B):=by
  intro l
  induction l with
  |nil=>exact λ_ _ _=>rfl
  |cons x l ih=>
   intro B hl hB;obtain⟨b1,b2⟩:=aLq h (room:=room) (bar:=bar) hp hB (hl x aC);rw[bM,aX,aX,b1];exact ih _ (λy hy=>hl y (az _ hy)) b2
 exact this row (aF,([],(0,(0,())))) (λ_ hx=>hx) (.inl rfl)
theorem aKc{row:List bN}{φ:bN->bN}(h:nf row φ):∀(l:List bN) (n:Nat) (pk:Mk) (out:List cR),(∀x∈l,x∈row)->Ny row pk->(l.map φ).foldl xJ (n,mR φ pk,out)=((l.foldl xJ (n,pk,out)).1,mR φ (l.foldl xJ (n,pk,out)).2.1,(l.foldl xJ (n,pk,out)).2.2)/\Ny row (l.foldl xJ (n,pk,out)).2.1
 |[],_,_,_,_,hp=>⟨rfl,hp⟩
 |x::l,n,pk,out,hl,hp=>by
  have hx:=hl x aC;have e:=Ku h hx hp;obtain⟨w,k,rfl,hk⟩:=h.is hx;rw[bM,aX,aX];have e1:xJ (n,mR φ pk,out) (φ (aj w))=(n+1,mR φ (cY cd (aj w) aL pk),out++ [w.2.1]):=by rw[<-e,hk];rfl
  rw[e1];exact aKc h l _ _ _ (λy hy=>hl y (az _ hy)) (hp.set hx)
theorem axu{row:List bN}{bar:List cr}{pk mk:Mk}{x:bN}:∀(l:List bN) (S:Bt),(∀y∈l,y∈row)->(∀y∈S.2.2.2,y∈row)->∀y∈(l.foldl (A4 bar pk mk x) S).2.2.2,y∈row
 |[],_,_,h=>h
 |z::l,S,hl,h=>by
  refine axu l _ (λy hy=>hl y (az _ hy)) ?_
  unfold A4;split
  ·exact h
  split
  ·exact h
  cases z with
  |none=>exact h
  |some w=>
   intro y hy;rcases bg.1 hy with hy | hy
   ·exact h y hy
   ·rw[aY.1 hy];exact hl _ aC
theorem aEP{room:Int}{bar:List cr}{row:List bN}{pk:Mk}:∀y∈(fY room bar row pk).2.1,y∈row:=by
 have:∀(l:List bN) (B:asN),(∀y∈B.2.1,y∈row)->∀y∈(l.foldl (tm room bar row pk) B).2.1,y∈row:=by
  intro l
  induction l with
  |nil=>exact λ_ h=>h
  |cons x l ih=>
   intro B h;refine ih _ ?_
   unfold tm;split
   ·exact h
   cases x with
   |none=>exact h
   |some w=>
    have hn:∀y∈(qv bar row pk w).2.2.2,y∈row:=axu row _ (λ_ hy=>hy) λ_ hy=>by cases hy
    simp only;split
    ·split
     ·split
      ·exact hn
      ·split
       ·exact hn
       ·exact h
     ·exact h
    ·exact h
 exact this row _ λ_ hy=>by cases hy
theorem aIm{row:List bN}{φ:bN->bN}(h:nf row φ){bar:List cr}:∀(f:Nat) (room:Int) (pk:Mk) (out:List cR),Ny row pk->iR bar (row.map φ) f room (mR φ pk) out=iR bar row f room pk out
 | 0,_,_,_,_=>rfl
 |f+1,room,pk,out,hp=>by
  rw[iR,iR,aLs h hp];obtain⟨t1,t2⟩:=aKc h (fY room bar row pk).2.1 out.length pk out aEP hp;rcases axn (room:=room) (bar:=bar) (row:=row) (pk:=pk) with hb | ⟨w,hb,hw,_⟩
  ·rw[show(aGW φ (fY room bar row pk)).1=oR φ (fY room bar row pk).1 from rfl,hb];rfl
  ·obtain⟨k,hk⟩:=h.aPL w hw;rw[show(aGW φ (fY room bar row pk)).1=oR φ (fY room bar row pk).1 from rfl,hb,show oR φ (aj w)=φ (aj w) from rfl,hk];simp only;have e:xK (aGW φ (fY room bar row pk)).2.1 (mR φ pk) out=((xK (fY room bar row pk).2.1 pk out).1,mR φ (xK (fY room bar row pk).2.1 pk out).2.1,(xK (fY room bar row pk).2.1 pk out).2.2):=t1;rw[e];exact aIm h f _ _ _ t2
theorem aHH{l:List bN}{k:Nat}{w:tj}(h:aj (k,w)∈l):k∈l.flatMap (fy cd):=by rw[hJ];exact⟨aj (k,w),h,aC⟩
theorem nf.snoc{row:List bN}{φ:bN->bN}(h:nf row φ){k k':Nat}{w:tj}(h1:k ∉ row.flatMap (fy cd))(h2:k' ∉ (row.map φ).flatMap (fy cd)):∃ψ,nf (row++ [aj (k,w)]) ψ/\(row++ [aj (k,w)]).map ψ=row.map φ++ [aj (k',w)]:=by
 have hn:∀x∈row,Ty.beq cd x (aj (k,w))=aS:=λx hx=>fi.2 λe=>h1 (aHH (by rw[<-(I3 _ _).1 e];exact hx))
 have hs:Ty.beq cd (aj (k,w)) (aj (k,w))=aL:=(I3 _ _).2 rfl;have hφ:∀x∈row,¬φ x=aj (k',w):=λx hx e=>h2 (aHH (by rw[<-e];exact List.mem_map_of_mem hx))
 refine⟨λx=>if Ty.beq cd x (aj (k,w))=aL then aj (k',w) else φ x,⟨λx hx y hy e=> ?_,λv hv=> ?_,λx hx=> ?_⟩,?_⟩
 ·replace e:(if Ty.beq cd x (aj (k,w))=aL then aj (k',w) else φ x)=(if Ty.beq cd y (aj (k,w))=aL then aj (k',w) else φ y):=e
  rcases bg.1 hx with hx | hx <;> rcases bg.1 hy with hy | hy
  ·rw[hn x hx,hn y hy]at e;exact h.inj x hx y hy e
  ·rw[aY.1 hy,hs,hn x hx]at e;exact absurd e (hφ x hx)
  ·rw[aY.1 hx,hs,hn y hy]at e;exact absurd e.symm (hφ y hy)
  ·rw[aY.1 hx,aY.1 hy]
 ·show ∃j,(if Ty.beq cd (aj v) (aj (k,w))=aL then aj (k',w) else φ (aj v))=aj (j,v.2);rcases bg.1 hv with hv | hv
  ·rw[hn _ hv];exact h.aPL v hv
  ·rw[aY.1 hv,hs];rw[bh (aY.1 hv)];exact⟨k',rfl⟩
 ·rcases bg.1 hx with hx | hx
  ·exact h.all x hx
  ·rw[aY.1 hx];rfl
 ·rw[lz];congr 1
  ·refine eY λx hx=> ?_
   rw[hn x hx];rfl
  ·rw[bM,gW,hs];rfl
theorem nf.id{row:List bN}(h:asP row):nf row λx=>x:=⟨λ_ _ _ _ e=>e,λw _=>⟨w.1,rfl⟩,h⟩
theorem aTH{row:List bN}{φ:bN->bN}(h:nf row φ):(row.map φ).map Gd=row.map Gd:=by rw[List.map_map];exact eY λx hx=>aPi h hx
end Go.Ab
end
