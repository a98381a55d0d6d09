/-
  Made short by a program of mine (wip/tools/mini.py).
-/
import Derived.Test.YtijaodmgbbcbmaaGreatS33x4
import Derived.Shelf.SlSortCmp.NoneTotal
import Derived.Test.YtijaodmgbbcbmaaGreatProg
set_option linter.unusedVariables false
set_option linter.unusedSimpArgs false
set_option maxRecDepth 100000
set_option synthInstance.maxSize 5000
open List renaming replicate->ai,set->gF,length->ae,take->aM,drop->bD
open Go renaming FuncId->gC,Program->bj,World->cO
open Int renaming toNat_natCast->aa,toNat->ab,toNat_zero->aT
open Or renaming inr->eI,inl->jg
open Option renaming some->av,none->aH
open Bool renaming true->bm,false->aZ
noncomputable section
variable {R:Type}
namespace Go.Ab
open Go.Proofs
def vF(n:Int)(x:ji):Int:=n+(10+8*x.2.1.2.1.length)+(if x.2.1.2.2.1=0 then 0 else 4)
def kD(t:dM):Int:=if hP t then t.1.foldl vF (10+8*t.2.1.length) else 0
def dP(t:dM):List cz:=if hP t then t.1.map (·.1) else []
def xc(id:List Int)(k n:Nat):List cz:=(List.range' k n).map λi:Nat=>(id,((i:Int),()))
def fY(t:dM):List cz:=if hP t then xc (wz t) 0 t.2.1.length else []
def aSA:dM->Prop:=λt=>th t
def ahc:dM->Bs:=λt=>wz t
def tid:Fs Tryz.prog aSA bq ahc:=eV 52 Tryz.f52 (λt=>([.d dU t],[])) (λx=>⟨.d tH x,[],[]⟩) [av dU] [te,alY,abG]
theorem aVT(t)(k:K1 R):tid.A t k=ao (iQ.call t) λx1=>aJ (!x1) (k (tid.out (ai 32 0))) (ao (xP.call t) λx2=>ao (WQ.call ((⟨#[116,120]⟩:ByteArray),[x2])) λx3=>k (tid.out x3)):=cd
theorem aVU:tid.Ok:=by
 intro t hv;have hv:th t:=hv;rw[aVT,pV (d:=t) hv.1];simp only[ag,bq,rS,bq,ahc,wz];cases gX:hP t
 ·rfl
 ·have hl:=RA gX hv;rw[ahg (d:=t) ⟨gX,hv⟩];simp only[bT,al,bO,ag,bq,ahf];rw[TJ (d:=((⟨#[116,120]⟩:ByteArray),[xl t])) (VQ eX aq)];rfl
theorem OG:tid.RS:=rE [.d dU] tid
def X9:=tid.eY aVU
abbrev V4:=Int×(List ji)×Int×Int
def ahq:V4->Prop:=λ(n,l,m,i)=>(l).length<=1000000000/\∃k:Nat,k<=(l).length/\i=k/\m=(l).length/\(l.length<=64)/\(∀x∈l,x.2.1.2.1.length<=12)/\(0<=n)/\(n<=1000+200*(k:Int))
def C0:V4->Int:=λ(n,l,m,i)=>(bD (ab i) l).foldl vF n
def avq:dM->Prop:=λt=>th t
def OJ:dM->Int:=λt=>kD t
def nO:Ls ahq bq C0:=pD (λ(n,t15,t16,t17)=>⟨([bE,bE,bE,.d ti n]++aW 11 ([.d (.slice fo) t15,.d ti t16,.d ti t17]++aW 19 [])),[],(ai 37 [])⟩) (λx=>(.exit 0,⟨([bE,bE,bE,.d ti x]++aW 33 []),[],(ai 37 [])⟩))
def uW:Fs Tryz.prog avq bq OJ:=eV 64 Tryz.f64 (λt=>([.d dU t],[])) (λx=>⟨.d ti x,[],[]⟩) [av dU] [te] {loops:=lz [(5,{bg:=[3,15,16,17]})],outs:=lu [(5,{bg:=[3]},{bg:=[2]})],fa:=mc [(5,nO.E)]}
theorem ahr:nO.RS:=rL [.d ti,.d (.slice fo),.d ti,.d ti] nO
theorem Ks(n t15 t16 t17)(kn:K2 R)(kx:K3 R):uW.R 0 nO (n,t15,t16,t17) kn kx=aJ (fv t17 t16) (aJ (eA t17 (t15.length:Int)) (aJ (C3 (nth fo t15 (ab t17)).2.1.2.2.1 0) (kn (nO.st ((bz .i64 (bz .i64 n (bz .i64 10 (fO .i64 8 (((ae (nth fo t15 (ab t17)).2.1.2.1):Nat):Int)))) 4),t15,t16,(bz .i64 t17 1)))) (kn (nO.st ((bz .i64 n (bz .i64 10 (fO .i64 8 (((ae (nth fo t15 (ab t17)).2.1.2.1):Nat):Int)))),t15,t16,(bz .i64 t17 1))))) aH) (nO.go kx n):=cd
theorem aAe(t)(k:K1 R):uW.A t k=ao (iQ.call t) λx1=>aJ (!x1) (k (uW.out 0)) (ao (nO.call ((bz .i64 10 (fO .i64 8 (t.2.1.length:Int))),t.1,(t.1.length:Int),0)) λx2=>k (uW.out x2)):=cd
theorem ajm:(uW.jx 0 nO):=by
 refine(uW.mf 0 nO) (λ(n,l,m,i)=>(l).length - ab i) ?_
 rintro⟨n,l,m,i⟩ ⟨hlen,k,hk,rfl,rfl,wZ,hx,h0,h1⟩;have hlen:(l).length<=1000000000:=hlen;have hk:k<=(l).length:=hk;have wZ:l.length<=64:=wZ;have hx:∀x∈l,x.2.1.2.1.length<=12:=hx;have h0:0<=n:=h0;have h1:n<=1000+200*(k:Int):=h1;by_cases h:k < (l).length
 ·left;have n1:nth fo l k=l[k]:=bY (t:=fo) h;have hd:bD k l=l[k]::bD (k+1) l:=au h;refine⟨((vF n l[k]),l,((l).length:Int),((k+1:Nat):Int)),⟨hlen,k+1,aq,rfl,rfl,wZ,hx,by unfold vF;split <;> omega,by have:=hx _ (aK h);unfold vF;split <;> omega⟩,by simp only[aa];omega,?_,λkn kx=> ?_⟩
  ·simp only[bq,C0,aa,hd,bn]
  ·rw[Ks,aS aq,ba aq aq,aa,n1];simp only[aj];have e:=hx _ (aK h);rw[N.aXR aq];have e2:bz .i64 10 ((8*l[k].2.1.2.1.length:Nat):Int)=10+8*(l[k].2.1.2.1.length:Int):=by rw[fA aq aq];omega
   rw[e2,fA (x:=n) aq aq,N.jL aq];unfold vF;by_cases hs:l[k].2.1.2.2.1=0
   ·rw[dN hs,al,if_pos hs,Int.add_zero]
   ·rw[fH hs,aj,if_neg hs,fA aq aq]
 ·right;obtain rfl:k=(l).length:=aq;intro R kn kx;rw[Ks,aQ aq,al];simp only[bq,C0,aa,aI,ct]
theorem aAf:uW.Ok:=by
 intro t hv;have hv:th t:=hv;rw[aAe,pV (d:=t) hv.1];simp only[ag,bq,rS,bq,OJ,kD];cases gX:hP t
 ·rfl
 ·obtain⟨⟨_,a2,a3,_⟩,b1,b2⟩:=iq gX;rw[N.aXR aq,fA aq aq,ahr (d:=(10+((8*t.2.1.length:Nat):Int),t.1,t.1.length,0)) ⟨by show t.1.length<=_;omega,0,aL _,rfl,rfl,a2,λx hx=>(DH (mS _ _ b1 x hx)).2.2.2.2,by show(0:Int)<=10+((8*t.2.1.length:Nat):Int);omega,by show 10+((8*t.2.1.length:Nat):Int)<=_;omega⟩];simp only[ag,bq,C0,aT,ay,bT,al,bO,mh];rfl
theorem aaH:uW.RS:=rE [.d dU] uW
def ahs:=uW.eY aAf 1 ⟨.e7 ajm,trivial⟩
abbrev aav:=Bs×(List ji)×Int×Int
abbrev Nx:=Bs×(List ji)×Int×Int×(List Sg)×Int×Int×ji
def zR:Nx->Bs->(((List ji)×Int×Int×ji)×(Bs)):=λ(eU,agV,agW,Es,t32,t33,t34,n5) y=>((agV,agW,Es,n5),y)
def aja:Nx->Prop:=λ(b,l1,aYP,i1,l,n,i,x)=>(l).length<=1000000000/\∃k:Nat,k<=(l).length/\i=k/\n=(l).length/\(l.length<=12)/\(b.length<=80000000+16*k)
def FX:Nx->Bs:=λ(b,l1,aYP,i1,l,n,i,x)=>(bD (ab i) l).foldl agL b
def ai8:aav->Prop:=λ(b,l,n,i)=>(l).length<=1000000000/\∃k:Nat,k<=(l).length/\i=k/\n=(l).length/\(l.length<=64)/\(∀x∈l,x.2.1.2.1.length<=12/\x.2.1.1<=9223372036854775807)/\(b.length<=100000+1000*k)
def Nv:aav->Bs:=λ(b,l,n,i)=>(bD (ab i) l).foldl aAh b
theorem agM:∀(l:List Sg) (b:List Int),(l.foldl agL b).length=b.length+16*l.length
 |[],b=>rfl
 |x::l,b=>by have h1:=auZ b x;have h3:=agM l (agL b x);rw[bn,aF];omega
theorem aOO(b:List Int)(x:ji)(h:x.2.1.2.1.length<=12):(aAh b x).length<=b.length+300:=by have e1:=dT b x.2.1.1;have e2:=dT (cQ b x.2.1.1) x.2.1.2.1.length;have e3:=agM x.2.1.2.1 (cQ (cQ b x.2.1.1) x.2.1.2.1.length);unfold aAh;rw[ak,cv];omega
def az4:dM->Prop:=λt=>th t
def ag5:dM->Bs:=λt=>aSD t
def s6:Ls ai8 bq Nv:=pD (λ(b,t14,t15,t16)=>⟨([bE,bE,bE,.d tB b]++aW 10 ([.d (.slice fo) t14,.d ti t15,.d ti t16]++aW 36 [])),[],(ai 53 [])⟩) (λx=>(.exit 0,⟨([bE,bE,bE,.d tB x]++aW 49 []),[],(ai 53 [])⟩))
def s7:Ls aja zR FX:=pD (λ(eU,agV,agW,Es,t32,t33,t34,n5)=>⟨([bE,bE,bE,.d tB eU,bE,eP 5]++aW 8 ([.d (.slice fo) agV,.d ti agW,.d ti Es]++aW 15 ([.d (.slice KF) t32,.d ti t33,.d ti t34]++aW 18 []))),[],(bw 5 ([dm (.d fo n5)]++bw 47 []))⟩) (λx=>(.exit 2,⟨([bE,bE,bE,.d tB x.2,bE,eP 5]++aW 8 ([.d (.slice fo) x.1.1,.d ti x.1.2.1,.d ti x.1.2.2.1]++aW 36 [])),[],(bw 5 ([dm (.d fo x.1.2.2.2)]++bw 47 []))⟩))
def xN:Fs Tryz.prog az4 bq ag5:=eV 174 Tryz.f174 (λt=>([.d dU t],[])) (λx=>⟨.d tB x,[],[]⟩) [av dU] [te,alY,abA,are] {loops:=lz [(5,{bg:=[3,14,15,16]}),(9,{bg:=[3,5,14,15,16,32,33,34],sites:=[5]})],outs:=lu [(5,{bg:=[3]},{bg:=[2]}),(9,{bg:=[3,5,14,15,16],sites:=[5]},{bg:=[2]})],fa:=mc [(5,s6.E),(9,s7.E)],res:=[av tB]}
theorem ai9:s6.RS:=rL [.d tB,.d (.slice fo),.d ti,.d ti] s6
theorem Nw(b t14 t15 t16)(kn:K2 R)(kx:K3 R):xN.R 0 s6 (b,t14,t15,t16) kn kx=aJ (fv t16 t15) (aJ (eA t16 (t14.length:Int)) (ao (Dr.call (b,(nth fo t14 (ab t16)).2.1.1)) λx1=>ao (Dr.call (x1,(((ae (nth fo t14 (ab t16)).2.1.2.1):Nat):Int))) λx2=>ao (s7.call (x2,t14,t15,t16,(nth fo t14 (ab t16)).2.1.2.1,(((ae (nth fo t14 (ab t16)).2.1.2.1):Nat):Int),0,(nth fo t14 (ab t16)))) λx3=>ao (Lc.call (x3.2,x3.1.2.2.2.2.1.2.2.1)) λx4=>kn (s6.st (x4,x3.1.1,x3.1.2.1,(bz .i64 x3.1.2.2.1 1)))) aH) (s6.go kx b):=cd
theorem ajb:s7.RS:=rL [.d tB,.d (.slice fo),.d ti,.d ti,.d (.slice KF),.d ti,.d ti,.d fo] s7
theorem Ny(eU agV agW Es t32 t33 t34 n5)(kn:K2 R)(kx:K3 R):xN.R 1 s7 (eU,agV,agW,Es,t32,t33,t34,n5) kn kx=aJ (fv t34 t33) (aJ (eA t34 (t32.length:Int)) (ao (Lc.call (eU,(nth KF t32 (ab t34)).1)) λx1=>ao (Lc.call (x1,(nth KF t32 (ab t34)).2.1)) λx2=>kn (s7.st (x2,agV,agW,Es,t32,t33,(bz .i64 t34 1),n5))) aH) (s7.go kx ((agV,agW,Es,n5),eU)):=cd
theorem aHl(t)(k:K1 R):xN.A t k=ao (iQ.call t) λx1=>aJ (!x1) (k (xN.out ([]:List Int))) (ao (xP.call t) λx2=>ao (s6.call (x2,t.1,(t.1.length:Int),0)) λx9=>k (xN.out x9)):=cd
theorem apA:(xN.jx 1 s7):=by
 refine(xN.mf 1 s7) (λ(b,l1,aYP,i1,l,n,i,x)=>(l).length - ab i) ?_
 rintro⟨b,l1,aYP,i1,l,n,i,x⟩ ⟨hlen,k,hk,rfl,rfl,wD,hb⟩;have hlen:(l).length<=1000000000:=hlen;have hk:k<=(l).length:=hk;have wD:l.length<=12:=wD;have hb:b.length<=80000000+16*k:=hb;by_cases h:k < (l).length
 ·left;have n1:nth KF l k=l[k]:=bY (t:=KF) h;have hd:bD k l=l[k]::bD (k+1) l:=au h;refine⟨((agL b l[k]),l1,aYP,i1,l,((l).length:Int),((k+1:Nat):Int),x),⟨hlen,k+1,aq,rfl,rfl,wD,by have:=auZ b l[k];omega⟩,by simp only[aa];omega,?_,λkn kx=> ?_⟩
  ·simp only[zR,FX,aa,hd,bn]
  ·rw[Ny,aS aq,ba aq aq,aa,n1];simp only[aj];rw[Hp (d:=(b,l[k].1)) (by show b.length<=_;omega)];simp only[ag,bq,S3];rw[Hp (d:=(b++jo l[k].1,l[k].2.1)) (by show(b++jo l[k].1).length<=_;rw[ak,cv];omega)];simp only[ag,bq,S3];rw[N.jL aq];rfl
 ·right;obtain rfl:k=(l).length:=aq;intro R kn kx;rw[Ny,aQ aq,al];simp only[zR,FX,aa,aI,ct]
theorem apz:(xN.jx 0 s6):=by
 refine(xN.mf 0 s6) (λ(b,l,n,i)=>(l).length - ab i) ?_
 rintro⟨b,l,n,i⟩ ⟨hlen,k,hk,rfl,rfl,wZ,hx,hb⟩;have hlen:(l).length<=1000000000:=hlen;have hk:k<=(l).length:=hk;have wZ:l.length<=64:=wZ;have hx:∀x∈l,x.2.1.2.1.length<=12/\x.2.1.1<=9223372036854775807:=hx;have hb:b.length<=100000+1000*k:=hb;by_cases h:k < (l).length
 ·left;have n1:nth fo l k=l[k]:=bY (t:=fo) h;have hd:bD k l=l[k]::bD (k+1) l:=au h;refine⟨((aAh b l[k]),l,((l).length:Int),((k+1:Nat):Int)),⟨hlen,k+1,aq,rfl,rfl,wZ,hx,by have:=aOO b l[k] (hx _ (aK h)).1;omega⟩,by simp only[aa];omega,?_,λkn kx=> ?_⟩
  ·simp only[bq,Nv,aa,hd,bn]
  ·rw[Nw,aS aq,ba aq aq,aa,n1];simp only[aj];have e:=hx _ (aK h);have e1:=dT b l[k].2.1.1;have e2:=dT (cQ b l[k].2.1.1) l[k].2.1.2.1.length;have e3:=agM l[k].2.1.2.1 (cQ (cQ b l[k].2.1.1) l[k].2.1.2.1.length);rw[ki (d:=(b,l[k].2.1.1)) ⟨by show b.length<=_;omega,e.2⟩];simp only[ag,bq,qT];rw[ki (d:=(cQ b l[k].2.1.1,(l[k].2.1.2.1.length:Int))) ⟨by show(cQ b l[k].2.1.1).length<=_;omega,by show(l[k].2.1.2.1.length:Int)<=_;omega⟩];simp only[ag,bq,qT];rw[ajb (d:=(cQ (cQ b l[k].2.1.1) l[k].2.1.2.1.length,l,l.length,k,l[k].2.1.2.1,l[k].2.1.2.1.length,0,l[k])) ⟨by show l[k].2.1.2.1.length<=_;omega,0,aL _,rfl,rfl,e.1,by show(cQ (cQ b l[k].2.1.1) l[k].2.1.2.1.length).length<=_;omega⟩];simp only[ag,zR,FX,aT,ay];rw[Hp (d:=(l[k].2.1.2.1.foldl agL (cQ (cQ b l[k].2.1.1) l[k].2.1.2.1.length),l[k].2.1.2.2.1)) (by show(l[k].2.1.2.1.foldl agL (cQ (cQ b l[k].2.1.1) l[k].2.1.2.1.length)).length<=_;omega)];simp only[ag,bq,S3];rw[N.jL aq];rfl
 ·right;obtain rfl:k=(l).length:=aq;intro R kn kx;rw[Nw,aQ aq,al];simp only[bq,Nv,aa,aI,ct]
theorem aHm:xN.Ok:=by
 intro t hv;have hv:th t:=hv;rw[aHl,pV (d:=t) hv.1];simp only[ag,bq,rS,bq,ag5,aSD];cases gX:hP t
 ·rfl
 ·obtain⟨⟨_,a2,a3,_⟩,b1,b2⟩:=iq gX;have hl:=RA gX hv;rw[ahg (d:=t) ⟨gX,hv⟩];simp only[bT,al,bO,ag,bq,ahf];rw[ai9 (d:=(xl t,t.1,t.1.length,0)) ⟨by show t.1.length<=_;omega,0,aL _,rfl,rfl,a2,λx hx=>by have:=DH (mS _ _ b1 x hx);exact⟨this.2.2.2.2,aq⟩,by show(xl t).length<=_;omega⟩];rfl
theorem az5:xN.RS:=rE [.d dU] xN
def aHn:=xN.eY aHm 2 ⟨.e7 apz,⟨.e7 apA,trivial⟩⟩
abbrev V2:=Nat×(List ji)×Int×Int×(List cz)
def ahn:V2->Prop:=λ(L,l,n,i,r)=>(l).length<=1000000/\∃k:Nat,k<=(l).length/\i=k/\n=(l).length/\L=(r).length/\(r).length<=1000000+k
def CZ:V2->(Nat×(List cz)):=λ(L,l,n,i,r)=>(L+(bD (ab i) l).length,r++(bD (ab i) l).map (λx:ji=>x.1))
def avp:dM->Prop:=λt=>aTX t
def OI:dM->(List cz):=λt=>dP t
def pW:Ls ahn bq CZ:=pD (λ(lL,t9,t10,t11,n19)=>⟨([bE,bE,jl 19 lL]++aW 6 ([.d (.slice fo) t9,.d ti t10,.d ti t11]++aW 10 [])),[],(bw 19 [dm (.vec 62 bQ n19),[],[]])⟩) (λx=>(.exit 0,⟨([bE,bE,jl 19 x.1]++aW 19 []),[],(bw 19 [dm (.vec 62 bQ x.2),[],[]])⟩))
def uV:Fs Tryz.prog avp bq OI:=eV 113 Tryz.f113 (λt=>([.d dU t],[])) (λx=>⟨.d (.slice bQ) x,[],[]⟩) [av dU] [te] {loops:=lz [(4,{bg:=[2,9,10,11],sites:=[19],owns:=[⟨2,[],19,26⟩]})],outs:=lu [(4,{bg:=[2],sites:=[19]},{bg:=[2]})],fa:=mc [(4,pW.E)],res:=[av (.slice bQ)]}
theorem aho:pW.RS:=rL [.n,.d (.slice fo),.d ti,.d ti,.d (.slice bQ)] pW
theorem Kr(lL t9 t10 t11 n19)(kn:K2 R)(kx:K3 R):uV.R 0 pW (lL,t9,t10,t11,n19) kn kx=aJ (fv t11 t10) (aJ (eA t11 (t9.length:Int)) (aJ (decide (lL<=(ae n19))) (aJ (cZ (lL+1) 40) (kn (pW.st ((lL+1),t9,t10,(bz .i64 t11 1),((aM lL n19)++ [(nth fo t9 (ab t11)).1])))) aH) aH) aH) (pW.go kx (lL,n19)):=cd
theorem aAc(t)(k:K1 R):uV.A t k=ao (iQ.call t) λx1=>aJ (!x1) (k (uV.out ([]:List cz))) (ao (pW.call (0,t.1,(t.1.length:Int),0,([]:List cz))) λx2=>aJ (decide (0=0/\(0+x2.1)<=(ae x2.2))) (k (uV.out (cut x2.2 0 x2.1))) aH):=cd
theorem ajl:(uV.jx 0 pW):=by
 refine(uV.mf 0 pW) (λ(L,l,n,i,r)=>(l).length - ab i) ?_
 rintro⟨L,l,n,i,r⟩ ⟨hlen,k,hk,rfl,rfl,rfl,vj⟩;have hlen:(l).length<=1000000:=hlen;have hk:k<=(l).length:=hk;have vj:(r).length<=1000000+k:=vj;by_cases h:k < (l).length
 ·left;have n1:nth fo l k=l[k]:=bY (t:=fo) h;have hd:bD k l=l[k]::bD (k+1) l:=au h;refine⟨((r).length+1,l,((l).length:Int),((k+1:Nat):Int),r++ [(λx:ji=>x.1) l[k]]),⟨hlen,k+1,aq,rfl,rfl,by rw[ak];rfl,by rw[ak];show(r).length+1<=_;omega⟩,by simp only[aa];omega,?_,λkn kx=> ?_⟩
  ·simp only[bq,CZ,aa,hd,cj,aF,aO,cE];rw[show ∀a c:Nat,a+1+c=a+(c+1) from λa c=>aq]
  ·rw[Kr,aS aq,ba (show(0:Int)<=(k:Int) by omega) aq,aa,n1];simp only[aj];rw[aX (az _),cM aq aq,N.jL aq,bN];rfl
 ·right;obtain rfl:k=(l).length:=aq;intro R kn kx;rw[Kr,aQ aq,al];simp only[bq,CZ,aa,aI,fK,bK,bp,cD]
theorem aAd:uV.Ok:=by
 intro t hv;have hv:aTX t:=hv;rw[aAc,pV (d:=t) hv];simp only[ag,bq,rS,bq,OI,dP];cases gX:hP t
 ·rfl
 ·obtain⟨⟨_,a2,a3,_⟩,b1,b2⟩:=iq gX;rw[aho (d:=(0,t.1,t.1.length,0,[])) ⟨by show t.1.length<=_;omega,0,aL _,rfl,rfl,rfl,aL _⟩];simp only[bT,al,bO,ag,bq,CZ,aT,ay,aY,aV];rw[aX ⟨by trivial,by rw[da];exact az _⟩,aj,ea (by rw[da])]
theorem aaG:uV.RS:=rE [.d dU] uV
def ahp:=uV.eY aAd 1 ⟨.e7 ajl,trivial⟩
abbrev ahe:=Nat×Int×Int×Bs×(List cz)
def apB:ahe->Prop:=λ(L,n,i,id,r)=>∃k m:Nat,k<=m/\i=k/\n=m/\m<=1000/\L=r.length/\L=k
def JL:ahe->(Nat×(List cz)):=λ(L,n,i,id,r)=>(L+(n - i).toNat,r++xc id i.toNat (n - i).toNat)
def aHo:dM->Prop:=λt=>th t
def abY:dM->(List cz):=λt=>fY t
def xO:Ls apB bq JL:=pD (λ(lL,t12,t13,n3,n21)=>⟨([bE,bE,jl 21 lL,eP 3]++aW 8 ([.d ti t12,.d ti t13]++aW 10 [])),[],([[],[],[],dm (.d tH n3)]++bw 17 [dm (.vec 62 bQ n21),[],[]])⟩) (λx=>(.exit 0,⟨([bE,bE,jl 21 x.1]++aW 21 []),[],(bw 21 [dm (.vec 62 bQ x.2),[],[]])⟩))
def Kq:Fs Tryz.prog aHo bq abY:=eV 147 Tryz.f147 (λt=>([.d dU t],[])) (λx=>⟨.d (.slice bQ) x,[],[]⟩) [av dU] [X9,te] {loops:=lz [(5,{bg:=[2,3,12,13],sites:=[3,21],owns:=[⟨2,[],21,26⟩]})],outs:=lu [(5,{bg:=[2],sites:=[21]},{bg:=[2]})],fa:=mc [(5,xO.E)],res:=[av (.slice bQ)]}
theorem apC:xO.RS:=rL [.n,.d ti,.d ti,.d tB,.d (.slice bQ)] xO
theorem Qb(lL t12 t13 n3 n21)(kn:K2 R)(kx:K3 R):Kq.R 0 xO (lL,t12,t13,n3,n21) kn kx=aJ (fv t13 t12) (aJ (decide (lL<=(ae n21))) (aJ (cZ (lL+1) 40) (kn (xO.st ((lL+1),t12,(bz .i64 t13 1),n3,((aM lL n21)++ [(n3,(t13,()))])))) aH) aH) (xO.go kx (lL,n21)):=cd
theorem aOo(t)(k:K1 R):Kq.A t k=ao (tid.call t) λx1=>ao (iQ.call t) λx2=>aJ (!x2) (k (Kq.out ([]:List cz))) (ao (xO.call (0,(t.2.1.length:Int),0,x1,([]:List cz))) λx3=>aJ (decide (0=0/\(0+x3.1)<=(ae x3.2))) (k (Kq.out (cut x3.2 0 x3.1))) aH):=cd
theorem aEM(id:List Int)(k n:Nat):(xc id k n).length=n:=by simp[xc]
theorem Ri(id:List Int)(k n:Nat):xc id k (n+1)=(id,((k:Int),()))::xc id (k+1) n:=by unfold xc;rw[List.range'_succ,cj]
theorem avg:(Kq.jx 0 xO):=by
 refine(Kq.mf 0 xO) (λ(L,n,i,id,r)=>(n - i).toNat) ?_
 rintro⟨L,n,i,id,r⟩ ⟨k,m,hk,rfl,rfl,hm,rfl,aXC⟩;have aXC:r.length=k:=aXC;by_cases h:k < m
 ·left;have e1:((m:Int) - (k:Int)).toNat=(m - (k+1))+1:=aq;have e2:((m:Int) - ((k+1:Nat):Int)).toNat=m - (k+1):=aq;refine⟨(r.length+1,(m:Int),((k+1:Nat):Int),id,r++ [(id,((k:Int),()))]),⟨k+1,m,aq,rfl,rfl,hm,by rw[ak];rfl,by show r.length+1=_;omega⟩,by show((m:Int) - ((k+1:Nat):Int)).toNat < ((m:Int) - (k:Int)).toNat;omega,?_,λkn kx=> ?_⟩
  ·simp only[bq,JL,e1,e2,aa,Ri,aO,cE];rw[show r.length+1+(m - (k+1))=r.length+(m - (k+1)+1) by omega]
  ·rw[Qb,aS aq,aX (az _),cM aq aq,N.jL aq,bN];rfl
 ·right;obtain rfl:k=m:=aq;intro R kn kx;rw[Qb,aQ aq,al];simp only[bq,JL,Int.sub_self,aT,cD];rw[show xc id (k:Int).toNat 0=[] from rfl,bK]
theorem aOp:Kq.Ok:=by
 intro t hv;have hv:th t:=hv;rw[aOo,OG (d:=t) hv,pV (d:=t) hv.1];simp only[ag,bq,ahc,bq,rS,bq,abY,fY];cases gX:hP t
 ·rfl
 ·obtain⟨⟨_,a2,a3,_⟩,b1,b2⟩:=iq gX;have hl:=aEM (wz t) 0 t.2.1.length;rw[apC (d:=(0,t.2.1.length,0,wz t,[])) ⟨0,t.2.1.length,aL _,rfl,rfl,aq,rfl,rfl⟩];simp only[bT,al,bO,ag,bq,JL,rV,aa,aT,aY,aV];rw[aX ⟨by trivial,by rw[hl];exact az _⟩,aj,ea hl]
theorem alX:Kq.RS:=rE [.d dU] Kq
def avh:=Kq.eY aOp 1 ⟨.e7 avg,trivial⟩
def aIU:(List ji)->Prop:=λl=>l.length<=1000000
def awr:(List ji)->(Nat×(List ji)):=λl=>(l.length,l)
def amw:Fs Tryz.prog aIU bq awr:=eV 220 Tryz.f220 (λsv=>([.d (.slice fo) sv],[])) (λx=>⟨.bU (.new 0 0) 0 [] 0 0 x.1,[],[.obj 0 aZ (.vec 140 fo x.2)]⟩) [av (.slice fo)] [] {cg:=[5],owns:=[⟨2,[],5,72⟩]}
theorem aPI(sv)(k:K1 R):amw.A sv k=aJ (decide (0 < (ae sv))) (aJ (cZ (0+(ae sv)) 80) (k (amw.out ((0+(ae sv)),((aM 0 (ai 0 (((ai 32 0),(0,())),((0,(([]:List Sg),(0,()))),()))))++sv)))) aH) (nd (k (amw.out (0,([]:List ji)))) (aJ (cZ (0+(ae sv)) 80) (k (amw.out ((0+(ae sv)),((aM 0 (ai 0 (((ai 32 0),(0,())),((0,(([]:List Sg),(0,()))),()))))++sv)))) aH)):=cd
theorem aPJ:amw.Ok:=by
 intro l hl;have hl:l.length<=1000000:=hl;have hr:cZ l.length 80=bm:=cM aq aq;rw[aPI];simp only[aV,hr,aj,dD,aY,bq,awr];by_cases h:0 < l.length
 ·simp only[aX h,aj]
 ·have:l=[]:=bJ aq;subst this;simp only[bp,E3,bo (iI 0),al]
theorem aIV:amw.RS:=rE [.d (.slice fo)] amw
def aPK:=amw.eY aPJ
def aDr:(List jV)->Prop:=λl=>l.length<=1000000
def amy:(List jV)->(Nat×(List jV)):=λl=>(l.length,l)
def SU:Fs Tryz.prog aDr bq amy:=eV 221 Tryz.f221 (λsv=>([.d (.slice fi) sv],[])) (λx=>⟨.bU (.new 0 0) 0 [] 0 0 x.1,[],[.obj 0 aZ (.vec 87 fi x.2)]⟩) [av (.slice fi)] [] {cg:=[5],owns:=[⟨2,[],5,22⟩]}
theorem aIY(sv)(k:K1 R):SU.A sv k=aJ (decide (0 < (ae sv))) (aJ (cZ (0+(ae sv)) 32) (k (SU.out ((0+(ae sv)),((aM 0 (ai 0 (0,((([]:List nR),()),()))))++sv)))) aH) (nd (k (SU.out (0,([]:List jV)))) (aJ (cZ (0+(ae sv)) 32) (k (SU.out ((0+(ae sv)),((aM 0 (ai 0 (0,((([]:List nR),()),()))))++sv)))) aH)):=cd
theorem aIZ:SU.Ok:=by
 intro l hl;have hl:l.length<=1000000:=hl;have hr:cZ l.length 32=bm:=cM aq aq;rw[aIY];simp only[aV,hr,aj,dD,aY,bq,amy];by_cases h:0 < l.length
 ·simp only[aX h,aj]
 ·have:l=[]:=bJ aq;subst this;simp only[bp,E3,bo (iI 0),al]
theorem aDs:SU.RS:=rE [.d (.slice fi)] SU
def aI0:=SU.eY aIZ
def aIT:(List nR)->Prop:=λl=>l.length<=1000000
def amv:(List nR)->(Nat×(List nR)):=λl=>(l.length,l)
def ahN:Fs Tryz.prog aIT bq amv:=eV 127 Tryz.f127 (λsv=>([.d (.slice jE) sv],[])) (λx=>⟨.bU (.new 0 0) 0 [] 0 0 x.1,[],[.obj 0 aZ (.vec 111 jE x.2)]⟩) [av (.slice jE)] [] {cg:=[5],owns:=[⟨2,[],5,80⟩]}
theorem aPG(sv)(k:K1 R):ahN.A sv k=aJ (decide (0 < (ae sv))) (aJ (cZ (0+(ae sv)) 48) (k (ahN.out ((0+(ae sv)),((aM 0 (ai 0 (([]:List Int),(0,(0,(0,()))))))++sv)))) aH) (nd (k (ahN.out (0,([]:List nR)))) (aJ (cZ (0+(ae sv)) 48) (k (ahN.out ((0+(ae sv)),((aM 0 (ai 0 (([]:List Int),(0,(0,(0,()))))))++sv)))) aH)):=cd
theorem aPH:ahN.Ok:=by
 intro l hl;have hl:l.length<=1000000:=hl;have hr:cZ l.length 48=bm:=cM aq aq;rw[aPG];simp only[aV,hr,aj,dD,aY,bq,amv];by_cases h:0 < l.length
 ·simp only[aX h,aj]
 ·have:l=[]:=bJ aq;subst this;simp only[bp,E3,bo (iI 0),al]
theorem aq0:ahN.RS:=rE [.d (.slice jE)] ahN
def aAI:=ahN.eY aPH
def aDt:(List Sg)->Prop:=λl=>l.length<=1000000
def amz:(List Sg)->(List Sg):=λl=>l
def SV:Fs Tryz.prog aDt bq amz:=eV 222 Tryz.f222 (λsv=>([.d (.slice KF) sv],[])) (λx=>⟨.d (.slice KF) x,[],[]⟩) [av (.slice KF)] [] {cg:=[5],res:=[av (.slice KF)]}
theorem aI1(sv)(k:K1 R):SV.A sv k=aJ (decide (0 < (ae sv))) (aJ (cZ (0+(ae sv)) 16) (aJ (decide (0=0/\(0+(0+(ae sv)))<=(ae ((aM 0 (ai 0 (0,(0,()))))++sv)))) (k (SV.out (cut ((aM 0 (ai 0 (0,(0,()))))++sv) 0 (0+(ae sv))))) aH) aH) (nd (k (SV.out ([]:List Sg))) (aJ (cZ (0+(ae sv)) 16) (aJ (decide (0=0/\(0+(0+(ae sv)))<=(ae ((aM 0 (ai 0 (0,(0,()))))++sv)))) (k (SV.out (cut ((aM 0 (ai 0 (0,(0,()))))++sv) 0 (0+(ae sv))))) aH) aH)):=cd
theorem aI2:SV.Ok:=by
 intro l hl;have hl:l.length<=1000000:=hl;have hr:cZ l.length 16=bm:=cM aq aq;rw[aI1];simp only[aV,hr,aj,dD,aY,az,gm,b8,ea,bq,amz];by_cases h:0 < l.length
 ·simp only[aX h,aj]
 ·have:l=[]:=bJ aq;subst this;simp only[bp,E3,bo (iI 0),al]
theorem aDu:SV.RS:=rE [.d (.slice KF)] SV
def aI3:=SV.eY aI2
abbrev JJ:=Int×Int×Nat×Nat×(Int×Unit)×(Int×Unit)×(List ji)×(List jV)
def Nz:JJ->(List ji)->((Nat×Nat×(Int×Unit)×(Int×Unit)×(List jV))×((List ji))):=λ(t17,t18,aQ0,ad5,n1,n2,n9,n12) y=>((aQ0,ad5,n1,n2,n12),y)
abbrev VT:=Int×Int×Nat×Nat×(Int×Unit)×(Int×Unit)×(List ji)×(List jV)
abbrev JK:=Int×Nat×Int×Int×Int×Int×Nat×Nat×(Int×Unit)×(Int×Unit)×(List ji)×(List jV)×(List nR)
abbrev VW:=(List nR)×(List nR)
def NA:JK->VW->((Int×Int×Int×Nat×Nat×(Int×Unit)×(Int×Unit)×(List ji)×(List jV))×((List nR)×(List nR))):=λ(kv,lL,AF,agZ,t51,t52,ad6,ad7,axv,vp,Ro,ad1,n49) y=>((kv,AF,agZ,ad6,ad7,axv,vp,Ro,ad1),y)
def ag6:JJ->Prop:=λ(m,i,L,L2,u,v,l,os)=>(l.length<=1000/\∀x∈l,x.2.1.2.1.length<=1000000)/\∃k:Nat,k<=l.length/\i=k/\m=l.length/\L=l.length
def VR:JJ->(List ji):=λ(m,i,L,L2,u,v,l,os)=>l
def aha:JK->Prop:=λ(kv,L,m1,i1,m,i,L5,L6,u,v,ls,os,bs)=>(bs.length<=1000/\∀x∈bs,x.1.length<=1000000)/\∃k:Nat,k<=bs.length/\i=k/\m=bs.length/\L=bs.length
def VV:JK->VW:=λ(kv,L,m1,i1,m,i,L5,L6,u,v,ls,os,bs)=>(bs,bs)
def ag8:VT->Prop:=λ(m,i,L3,L,u,v,ls,os)=>(os.length<=1000/\∀x∈os,x.2.1.1.length<=1000/\∀b∈x.2.1.1,b.1.length<=1000000)/\∃k:Nat,k<=os.length/\i=k/\m=os.length/\L=os.length
def VU:VT->(Nat×Nat×(Int×Unit)×(Int×Unit)×(List ji)×(List jV)):=λ(m,i,L3,L,u,v,ls,os)=>(L3,L,u,v,ls,os)
def ave:dM->Prop:=λt=>hP t=bm
def alW:dM->(Nat×((List jV)×(Int×Unit))×(List ji)):=λt=>(t.1.length,(t.2.1,t.2.2),t.1)
def nL:Ls ag6 Nz VR:=pD (λ(t17,t18,aQ0,ad5,n1,n2,n9,n12)=>⟨([bE,eP 1,eP 2]++aW 14 ([.d ti t17,.d ti t18]++aW 56 [])),[],([[],dm (.pr (jl 9 aQ0) (.pr (jl 12 ad5) (.d (.pair ti .unit) n1))),dm (.pr (.dJ) (.pr (.dJ) (.d (.pair ti .unit) n2)))]++bw 6 ([dm (.vec 140 fo n9),[],[],dm (.vec 87 fi n12)]++bw 62 []))⟩) (λx=>(.exit 0,⟨([bE,eP 1,eP 2]++aW 72 []),[],([[],dm (.pr (jl 9 x.1.1) (.pr (jl 12 x.1.2.1) (.d (.pair ti .unit) x.1.2.2.1))),dm (.pr (.dJ) (.pr (.dJ) (.d (.pair ti .unit) x.1.2.2.2.1)))]++bw 6 ([dm (.vec 140 fo x.2),[],[],dm (.vec 87 fi x.1.2.2.2.2)]++bw 62 []))⟩))
def nM:Ls ag8 bq VU:=pD (λ(t38,t39,asG,akx,aLi,mW,sD,adZ)=>⟨([bE,eP 1,eP 2]++aW 35 ([.d ti t38,.d ti t39]++aW 35 [])),[],([[],dm (.pr (jl 9 asG) (.pr (jl 12 akx) (.d (.pair ti .unit) aLi))),dm (.pr (.dJ) (.pr (.dJ) (.d (.pair ti .unit) mW)))]++bw 6 ([dm (.vec 140 fo sD),[],[],dm (.vec 87 fi adZ)]++bw 62 []))⟩) (λx=>(.exit 2,⟨([bE,eP 1,eP 2]++aW 72 []),[],([[],dm (.pr (jl 9 x.1) (.pr (jl 12 x.2.1) (.d (.pair ti .unit) x.2.2.1))),dm (.pr (.dJ) (.pr (.dJ) (.d (.pair ti .unit) x.2.2.2.1)))]++bw 6 ([dm (.vec 140 fo x.2.2.2.2.1),[],[],dm (.vec 87 fi x.2.2.2.2.2)]++bw 62 []))⟩))
def nN:Ls aha NA VV:=pD (λ(kv,lL,AF,agZ,t51,t52,ad6,ad7,axv,vp,Ro,ad1,n49)=>⟨([bE,eP 1,eP 2,bE,.d ti kv,jl 49 lL]++aW 32 ([.d ti AF,.d ti agZ]++aW 11 ([.d ti t51,.d ti t52]++aW 22 []))),[],([[],dm (.pr (jl 9 ad6) (.pr (jl 12 ad7) (.d (.pair ti .unit) axv))),dm (.pr (.dJ) (.pr (.dJ) (.d (.pair ti .unit) vp)))]++bw 6 ([dm (.vec 140 fo Ro),[],[],dm (.vec 87 fi ad1)]++bw 36 ([dm (.vec 111 jE n49)]++bw 25 [])))⟩) (λx=>(.exit 4,⟨([bE,eP 1,eP 2,bE,.d ti x.1.1,.d (.slice jE) x.2.1]++aW 32 ([.d ti x.1.2.1,.d ti x.1.2.2.1]++aW 35 [])),[],([[],dm (.pr (jl 9 x.1.2.2.2.1) (.pr (jl 12 x.1.2.2.2.2.1) (.d (.pair ti .unit) x.1.2.2.2.2.2.1))),dm (.pr (.dJ) (.pr (.dJ) (.d (.pair ti .unit) x.1.2.2.2.2.2.2.1)))]++bw 6 ([dm (.vec 140 fo x.1.2.2.2.2.2.2.2.1),[],[],dm (.vec 87 fi x.1.2.2.2.2.2.2.2.2)]++bw 36 ([[.obj 0 bm (.vec 111 jE x.2.2)]]++bw 25 [])))⟩))
def nX:Fs Tryz.prog ave bq alW:=eV 159 Tryz.f159 (λt=>([.d dU t],[])) (λx=>⟨.pr (.bU (.new 0 0) 0 [] 0 0 x.1) (.d (.pair (.slice fi) (.pair ti .unit)) x.2.1),[],[.obj 0 aZ (.vec 140 fo x.2.2)]⟩) [av dU] [aPK,aI0,aI3,aAI,akJ] {cg:=[1],loops:=lz [(3,{bg:=[1,2,17,18],sites:=[1,2,9,12]}),(8,{bg:=[1,2,38,39],sites:=[1,2,9,12]}),(12,{bg:=[1,2,4,5,38,39,51,52],sites:=[1,2,9,12,49]})],outs:=lu [(3,{bg:=[1,2],sites:=[1,2,9,12]},{bg:=[2]}),(8,{bg:=[1,2],sites:=[1,2,9,12]},{bg:=[2]}),(12,{bg:=[1,2,4,5,38,39],sites:=[1,2,9,12,49],data:=[(5,(.slice jE))]},{bg:=[2]})],fa:=mc [(3,nL.E),(8,nM.E),(12,nN.E)],QN:=[⟨2,[.snd,.fst],(.slice fi)⟩]}
theorem ag7:nL.RS:=rL [.d ti,.d ti,.n,.n,.d (.pair ti .unit),.d (.pair ti .unit),.d (.slice fo),.d (.slice fi)] nL
theorem Kn(t17 t18 aQ0 ad5 n1 n2 n9 n12)(kn:K2 R)(kx:K3 R):nX.R 0 nL (t17,t18,aQ0,ad5,n1,n2,n9,n12) kn kx=aJ (fv t18 t17) (aJ (eA t18 ((aQ0:Nat):Int)) (aJ (decide ((0+(ab t18)) < (ae n9))) (aJ (decide ((((0+(ab t18))*36)+34)=(((0+((ab t18)*36))+33)+1))) (ao (SV.call (nth fo n9 (0+(ab t18))).2.1.2.1) λx1=>aJ (eA t18 ((aQ0:Nat):Int)) (aJ (decide ((0+(ab t18)) < (ae n9))) (aJ (decide ((((0+(ab t18))*36)+34)=(((0+((ab t18)*36))+33)+1))) (aJ (decide ((0+(ab t18)) < (ae n9))) (kn (nL.st (t17,(bz .i64 t18 1),aQ0,ad5,n1,n2,(gF n9 (0+(ab t18)) ((nth fo n9 (0+(ab t18))).1,(((nth fo n9 (0+(ab t18))).2.1.1,(x1,(nth fo n9 (0+(ab t18))).2.1.2.2)),(nth fo n9 (0+(ab t18))).2.2))),n12))) aH) aH) aH) aH) aH) aH) aH) (nL.go kx ((aQ0,ad5,n1,n2,n12),n9)):=cd
theorem ag9:nM.RS:=rL [.d ti,.d ti,.n,.n,.d (.pair ti .unit),.d (.pair ti .unit),.d (.slice fo),.d (.slice fi)] nM
theorem Ko(t38 t39 asG akx aLi mW sD adZ)(kn:K2 R)(kx:K3 R):nX.R 1 nM (t38,t39,asG,akx,aLi,mW,sD,adZ) kn kx=aJ (fv t39 t38) (aJ (eA t39 ((akx:Nat):Int)) (aJ (decide ((0+(ab t39)) < (ae adZ))) (aJ (decide ((((0+(ab t39))*2)+1)=(((0+((ab t39)*2))+1)+0))) (ao (ahN.call (nth fi adZ (0+(ab t39))).2.1.1) λx1=>ao (nN.call (t39,x1.1,t38,t39,((x1.1:Nat):Int),0,asG,akx,aLi,mW,sD,adZ,x1.2)) λx2=>aJ (eA x2.1.1 ((x2.1.2.2.2.2.1:Nat):Int)) (aJ (decide ((0+(ab x2.1.1)) < (ae x2.1.2.2.2.2.2.2.2.2))) (aJ (decide ((((0+(ab x2.1.1))*2)+1)=(((0+((ab x2.1.1)*2))+1)+0))) (aJ (decide ((0+(ab x2.1.1)) < (ae x2.1.2.2.2.2.2.2.2.2))) (kn (nM.st (x2.1.2.1,(bz .i64 x2.1.2.2.1 1),x2.1.2.2.2.1,x2.1.2.2.2.2.1,x2.1.2.2.2.2.2.1,x2.1.2.2.2.2.2.2.1,x2.1.2.2.2.2.2.2.2.1,(gF x2.1.2.2.2.2.2.2.2.2 (0+(ab x2.1.1)) ((nth fi x2.1.2.2.2.2.2.2.2.2 (0+(ab x2.1.1))).1,((x2.2.1,(nth fi x2.1.2.2.2.2.2.2.2.2 (0+(ab x2.1.1))).2.1.2),(nth fi x2.1.2.2.2.2.2.2.2.2 (0+(ab x2.1.1))).2.2)))))) aH) aH) aH) aH) aH) aH) aH) (nM.go kx (asG,akx,aLi,mW,sD,adZ)):=cd
theorem ahb:nN.RS:=rL [.d ti,.n,.d ti,.d ti,.d ti,.d ti,.n,.n,.d (.pair ti .unit),.d (.pair ti .unit),.d (.slice fo),.d (.slice fi),.d (.slice jE)] nN
theorem Kp(kv lL AF agZ t51 t52 ad6 ad7 axv vp Ro ad1 n49)(kn:K2 R)(kx:K3 R):nX.R 2 nN (kv,lL,AF,agZ,t51,t52,ad6,ad7,axv,vp,Ro,ad1,n49) kn kx=aJ (fv t52 t51) (aJ (eA t52 ((lL:Nat):Int)) (aJ (decide ((0+(ab t52)) < (ae n49))) (aJ (decide ((((0+(ab t52))*4)+0)=((0+((ab t52)*4))+0))) (ao (Gp.call (nth jE n49 (0+(ab t52))).1) λx1=>aJ (eA t52 ((lL:Nat):Int)) (aJ (decide ((0+(ab t52)) < (ae n49))) (aJ (decide ((((0+(ab t52))*4)+0)=((0+((ab t52)*4))+0))) (aJ (decide ((0+(ab t52)) < (ae n49))) (kn (nN.st (kv,lL,AF,agZ,t51,(bz .i64 t52 1),ad6,ad7,axv,vp,Ro,ad1,(gF n49 (0+(ab t52)) (x1,(nth jE n49 (0+(ab t52))).2))))) aH) aH) aH) aH) aH) aH) aH) (aJ (decide (0=0/\(0+lL)<=(ae n49))) (nN.go kx ((kv,AF,agZ,ad6,ad7,axv,vp,Ro,ad1),((cut n49 0 lL),n49))) aH):=cd
theorem az6(t)(k:K1 R):nX.A t k=ao (amw.call t.1) λx1=>ao (SU.call t.2.1) λx2=>ao (nL.call (((x1.1:Nat):Int),0,x1.1,x2.1,t.2.2,(0,()),x1.2,x2.2)) λx4=>ao (nM.call (((x4.1.2.1:Nat):Int),0,x4.1.1,x4.1.2.1,x4.1.2.2.1,x4.1.2.2.2.1,x4.2,x4.1.2.2.2.2)) λx8=>aJ (decide (0=0/\(0+x8.2.1)<=(ae x8.2.2.2.2.2))) (k (nX.out (x8.1,((cut x8.2.2.2.2.2 0 x8.2.1),x8.2.2.1),x8.2.2.2.2.1))) aH:=cd
theorem ajc:(nX.jx 0 nL):=by
 refine(nX.mf 0 nL) (λ(m,i,L,L2,u,v,l,os)=>l.length - ab i) ?_
 rintro⟨m,i,L,L2,u,v,l,os⟩ ⟨⟨hlen,hx⟩,k,hk,rfl,rfl,rfl⟩;have hlen:l.length<=1000:=hlen;have hk:k<=l.length:=hk;by_cases h:k < l.length
 ·left;have n1:nth fo l k=l[k]:=bY (t:=fo) h;have hs:l.set k l[k]=l:=gU h;have e:=hx _ (aK h);refine⟨((l.length:Int),((k+1:Nat):Int),l.length,L2,u,v,l,os),⟨⟨hlen,hx⟩,k+1,aq,rfl,rfl,rfl⟩,by simp only[aa];omega,rfl,λkn kx=> ?_⟩;rw[Kn,aS aq,ba aq aq];simp only[aa,aV,cD,fB,Nat.reduceAdd,aj,aX h,b8,n1];rw[aDu (d:=l[k].2.1.2.1) e];simp only[ag,bq,amz];rw[N.jL aq];exact bW (λz=>kn (nL.st (_,_,_,_,_,_,z,_))) hs
 ·right;obtain rfl:k=l.length:=aq;intro R kn kx;rw[Kn,aQ aq,al];rfl
theorem aje:(nX.jx 2 nN):=by
 refine(nX.mf 2 nN) (λ(kv,L,m1,i1,m,i,L5,L6,u,v,ls,os,bs)=>bs.length - ab i) ?_
 rintro⟨kv,L,m1,i1,m,i,L5,L6,u,v,ls,os,bs⟩ ⟨⟨hlen,hx⟩,k,hk,rfl,rfl,rfl⟩;have hlen:bs.length<=1000:=hlen;have hk:k<=bs.length:=hk;by_cases h:k < bs.length
 ·left;have n1:nth jE bs k=bs[k]:=bY (t:=jE) h;have hs:bs.set k bs[k]=bs:=gU h;have e:=hx _ (aK h);refine⟨(kv,bs.length,m1,i1,(bs.length:Int),((k+1:Nat):Int),L5,L6,u,v,ls,os,bs),⟨⟨hlen,hx⟩,k+1,aq,rfl,rfl,rfl⟩,by simp only[aa];omega,rfl,λkn kx=> ?_⟩;rw[Kp,aS aq,ba aq aq];simp only[aa,aV,cD,fB,Nat.reduceAdd,aj,aX h,b8,n1];rw[aeD (d:=bs[k].1) e];simp only[ag,bq,Uh];rw[N.jL aq];exact bW (λz=>kn (nN.st (_,_,_,_,_,_,_,_,_,_,_,_,z))) hs
 ·right;obtain rfl:k=bs.length:=aq;intro R kn kx;rw[Kp,aQ aq,al];simp only[aV,az,gm,b8,aj,ea];rfl
theorem ajd:(nX.jx 1 nM):=by
 refine(nX.mf 1 nM) (λ(m,i,L3,L,u,v,ls,os)=>os.length - ab i) ?_
 rintro⟨m,i,L3,L,u,v,ls,os⟩ ⟨⟨hlen,hx⟩,k,hk,rfl,rfl,rfl⟩;have hlen:os.length<=1000:=hlen;have hk:k<=os.length:=hk;by_cases h:k < os.length
 ·left;have n1:nth fi os k=os[k]:=bY (t:=fi) h;have hs:os.set k os[k]=os:=gU h;have e:=hx _ (aK h);refine⟨((os.length:Int),((k+1:Nat):Int),L3,os.length,u,v,ls,os),⟨⟨hlen,hx⟩,k+1,aq,rfl,rfl,rfl⟩,by simp only[aa];omega,rfl,λkn kx=> ?_⟩;rw[Ko,aS aq,ba aq aq];simp only[aa,aV,cD,fB,Nat.reduceAdd,aj,aX h,b8,n1];rw[aq0 (d:=os[k].2.1.1) (by show os[k].2.1.1.length<=_;have:=e.1;omega)];simp only[ag,bq,amv];rw[ahb (d:=((k:Int),os[k].2.1.1.length,(os.length:Int),(k:Int),(os[k].2.1.1.length:Int),0,L3,os.length,u,v,ls,os,os[k].2.1.1)) ⟨e,0,aL _,rfl,rfl,rfl⟩];simp only[ag,NA,VV,aa,n1,aj,aX h,ba (show(0:Int)<=(k:Int) by omega) (show(k:Int) < (os.length:Int) by omega)];rw[N.jL aq];exact bW (λz=>kn (nM.st (_,_,_,_,_,_,_,z))) hs
 ·right;obtain rfl:k=os.length:=aq;intro R kn kx;rw[Ko,aQ aq,al];rfl
theorem W0{l:Lk}(h:lI l=bm):l.1.length<=4/\∀b∈l.1,b.1.length<=12:=by unfold lI at h;simp only[aw,dr,bt]at h;refine⟨h.2.2,λb hb=> ?_⟩;have:=h.1 b hb;unfold xX at this;simp only[aw,bt]at this;exact this.1
theorem az7:nX.Ok:=by
 rintro⟨is,os,nt,u⟩ gX;obtain⟨⟨_,a2,a3,_⟩,b1,b2⟩:=iq gX;have a2:is.length<=64:=a2;have a3:os.length<=64:=a3;rw[az6,aIV (d:=is) (by show is.length<=_;omega),aDs (d:=os) (by show os.length<=_;omega)];simp only[ag,bq,awr,bq,amy];rw[ag7 (d:=(is.length,0,is.length,os.length,(nt,u),(0,()),is,os)) ⟨⟨by show is.length<=_;omega,λx hx=>by have:=(DH (mS _ _ b1 x hx)).2.2.2.2;omega⟩,0,aL _,rfl,rfl,rfl⟩];simp only[ag,Nz,VR];rw[ag9 (d:=(os.length,0,is.length,os.length,(nt,u),(0,()),is,os)) ⟨⟨by show os.length<=_;omega,λx hx=>by
  have:=W0 (kc _ _ b2 x hx).2;exact⟨aq,λb hb=>by have:=this.2 b hb;omega⟩⟩,0,aL _,rfl,rfl,rfl⟩]
 simp only[ag,bq,VU,aV,az,gm,b8,aj,ea];rfl
theorem avf:nX.RS:=rE [.d dU] nX
def az8:=nX.eY az7 3 ⟨.e7 ajc,⟨.e7 ajd,⟨.e7 aje,trivial⟩⟩⟩
def pm(m:Nat):Nat->Nat->Nat->Nat->Nat
 | 0,_,_,out=>out%m
 |f+1,a,n,out=>if n=0 then out%m else pm m f (a*a%m) (n / 2) (if n%2=1 then out*a%m else out)
theorem aTJ(m:Nat):∀(f a n out:Nat),n < 2^f->pm m f a n out=out*a^n%m
 | 0,a,n,out,h=>by obtain rfl:n=0:=aq;rw[pm,Nat.pow_zero,jJ]
 |f+1,a,n,out,h=>by
  have e:(2:Nat)^(f+1)=2^f*2:=Nat.pow_succ (n:=2) (m:=f);rw[pm];split
  ·rename_i h0;subst h0;rw[Nat.pow_zero,jJ]
  ·rw[aTJ m f _ _ _ aq,mH];have e1:(a*a%m)^(n / 2)%m=a^(2*(n / 2))%m:=by rw[<-Nat.pow_mod,Nat.pow_mul,Nat.pow_two]
   have e2:(if n%2=1 then out*a%m else out)%m=(out*a^(n%2))%m:=by
    split
    ·rename_i h1;rw[h1,Nat.pow_one,Nat.mod_mod]
    ·have h1:n%2=0:=aq;rw[h1,Nat.pow_zero,jJ]
   rw[e1,e2,<-mH,Nat.mul_assoc,<-qM];have e3:n%2+2*(n / 2)=n:=aq;rw[e3]
theorem aKo:∀(r q:Nat) (f:Nat->Nat),(∀i,i < q->f i < r)->(∀i j,i < j->j < q->f i≠f j)->q<=r
 | 0,q,f,h,_=>by
  rcases jn q with h0 | h0
  ·omega
  ·exact absurd (h 0 h0) (Nat.not_lt_zero _)
 |r+1,q,f,h,g=>by
  by_cases hx:∃i,i < q/\f i=r
  ·obtain⟨i,hi,hr⟩:=hx;have e:=aKo r (q - 1) (λj=>if j < i then f j else f (j+1)) (λj hj=>by
    by_cases h1:j < i
    ·have a:=h j aq;have b:=g j i h1 hi;simp only[h1,bO];omega
    ·have a:=h (j+1) aq;have b:=g i (j+1) aq aq;simp only[h1,bC];omega) (λj k bb1 hk=>by
    by_cases h1:j < i
    ·by_cases h2:k < i
     ·simp only[h1,h2,bO];exact g j k bb1 aq
     ·simp only[h1,h2,bO,bC];exact g j (k+1) aq aq
    ·have h2:¬k < i:=aq;simp only[h1,h2,bC];exact g (j+1) (k+1) aq aq)
   omega
  ·have e:=aKo r q f (λi hi=>by
    have a:=h i hi;have b:f i≠r:=λx=>hx ⟨i,hi,x⟩
    omega) g
   omega
theorem aBV(a m:Nat)(h1:1%m=1):∀i j:Nat,a^i%m=1->a^j%m=1->a^(Nat.gcd i j)%m=1:=by
 intro i
 induction i using Nat.strongRecOn with
 |ind i ih=>
  intro j hi hj;rcases jn i with h0 | h0
  ·subst h0;rw[Nat.gcd_zero_left];exact hj
  ·rw[Nat.gcd_rec];refine ih (j%i) (Nat.mod_lt _ h0) i ?_ hi
   have e:a^j=(a^i)^(j / i)*a^(j%i):=by rw[<-Nat.pow_mul,<-qM,Nat.div_add_mod]
   rw[e,mH,Nat.pow_mod,hi,Nat.one_pow,h1,iV,Nat.mod_mod]at hj;exact hj
def aHY(n:Nat):Prop:=∀d,d∣n->d=1\/d=n
theorem aBY{n k:Nat}(h:aHY n)(h0:0 < k)(hk:k < n):Nat.gcd k n=1:=by
 rcases h _ (Nat.gcd_dvd_right k n) with h1 | h1
 ·exact h1
 ·have:=Nat.le_of_dvd h0 (Nat.gcd_dvd_left k n);omega
theorem asP{n:Nat}(hn:1 < n)(h:∀r,1 < r->r*r<=n->¬r∣n):aHY n:=by
 intro d hd;obtain⟨e,he⟩:=hd;have aYx:0 < d:=Nat.pos_of_ne_zero (by intro x;rw[x,pf]at he;omega);have ank:0 < e:=Nat.pos_of_ne_zero (by intro x;rw[x,Nat.mul_zero]at he;omega);by_cases h1:d=1
 ·exact .inl h1
 by_cases h2:e=1
 ·right;rw[he,h2,jJ]
 exfalso;rcases Nat.le_total d e with hle | hle
 ·exact h d aq (by rw[he];exact Nat.mul_le_mul_left d hle) ⟨e,he⟩
 ·exact h e aq (by rw[he];exact dE e hle) ⟨d,by rw[he,sh]⟩
theorem aVx{n q b:Nat}(hn:1 < n)(hq:aHY q)(aWl:1 < q)(bbn:n < q*q)(hb:b^q%n=1)(hg:Nat.gcd (b - 1) n=1)(aYv:0 < b):aHY n:=by
 refine asP hn λr hr bck ap6=> ?_
 have ba3:1%r=1:=lj hr;have ba5:b^q%r=1:=by have:=Nat.mod_mod_of_dvd (b^q) ap6;rw[<-this,hb,ba3]
 have jk:b%r≠1:=by
  intro hx;have hd:r∣b - 1:=by have e:=Nat.dvd_sub_mod (n:=r) b;rw[hx]at e;exact e
  have:=Nat.dvd_gcd hd ap6;rw[hg]at this;have:=Nat.le_of_dvd aq this;omega
 have key:q<=r:=by
  refine aKo r q (λi=>b^i%r) (λi _=>Nat.mod_lt _ aq) λi j aYD hj he=> ?_
  have e1:b^(j - i)%r=1:=by
   have x1:b^(q - i)*b^i%r=b^(q - i)*b^j%r:=by rw[mH,he,<-mH]
   rw[<-qM,<-qM,show q - i+i=q by omega,show q - i+j=q+(j - i) by omega,qM,mH,ba5,iV,Nat.mod_mod]at x1;exact x1.symm
  have e2:=aBV b r ba3 (j - i) q e1 ba5;rw[aBY hq aq aq,Nat.pow_one]at e2;exact jk e2
 have:q*q<=r*r:=Nat.mul_le_mul key key;omega
def aLq(n:Nat):Nat->Bool
 | 0=>bm
 |k+1=>n%(k+2) !=0 && aLq n k
theorem asO(n:Nat):∀k,aLq n k=bm->∀d,1 < d->d<=k+1->¬d∣n
 | 0,_,d,h1,h2=>aq
 |k+1,h,d,h1,h2=>by
  rw[aLq,aw]at h;by_cases hd:d=k+2
  ·intro hx;have:=Nat.mod_eq_zero_of_dvd hx;rw[hd]at this;rw[this]at h;exact absurd h.1 eX
  ·exact asO n k h.2 d h1 aq
theorem bag:aHY 7930907:=by
 refine asP eX λr hr bck=>asO 7930907 2820 (by decide+kernel) r hr ?_
 apply Nat.le_of_not_lt;intro h;have:2822*2822<=r*r:=Nat.mul_le_mul aq aq;omega
theorem UB{n q:Nat}(a e:Nat)(hq:aHY q)(aWl:1 < q)(hn:1 < n)(bbn:n < q*q)(he:e < 2^64)(ake:q < 2^64)(h1:pm n 64 (pm n 64 a e 1) q 1=1)(h2:Nat.gcd (pm n 64 a e 1 - 1) n=1)(h3:0 < pm n 64 a e 1):aHY n:=by generalize pm n 64 a e 1=b at*;rw[aTJ _ _ _ _ _ ake,iV]at h1;exact aVx hn hq aWl bbn h1 h2 h3
theorem baf:aHY 11864636873:=UB (q:=7930907) 2 1496 bag eX eX eX eX eX (by decide+kernel) (by decide+kernel) (by decide+kernel)
theorem bae:aHY 1732236983459:=UB (q:=11864636873) 2 146 baf eX eX eX eX eX (by decide+kernel) (by decide+kernel) (by decide+kernel)
theorem bac:aHY 249442125618097:=UB (q:=1732236983459) 2 144 bae eX eX eX eX eX (by decide+kernel) (by decide+kernel) (by decide+kernel)
theorem bah:aHY 2305843009213688669:=UB (q:=249442125618097) 2 9244 bac eX eX eX eX eX (by decide+kernel) (by decide+kernel) (by decide+kernel)
def gP(n:Nat):Int:=((4^n%4611686018427377339:Nat):Int)
theorem aio(a m q:Nat)(h1:1%m=1)(h:a^q%m=1)(n:Nat):a^(n%q)%m=a^n%m:=by
 have e:a^n=(a^q)^(n / q)*a^(n%q):=by rw[<-Nat.pow_mul,<-qM,Nat.div_add_mod]
 rw[e,mH,Nat.pow_mod (a^q),h,Nat.one_pow,h1,iV,Nat.mod_mod]
theorem aTc:∀q:Nat,q=2305843009213688669->4^q%4611686018427377339=1:=by
 intro q hq;have h:=aj8;rw[afb _ _ eX]at h;rw[<-hq]at h;have e:(((4^q%4611686018427377339:Nat)):Int)=1:=by rw[rU,mi];exact h
 omega
theorem anh(n:Nat):gP (n%2305843009213688669)=gP n:=by unfold gP;obtain⟨q,hq⟩:∃q:Nat,q=2305843009213688669:=⟨_,rfl⟩;rw[<-hq,aio 4 4611686018427377339 q eX (aTc q hq)]
theorem aWX(n:Nat)(h:n < 18446744073709551616):pw 4 n=gP n:=by rw[afb _ _ h];unfold gP;rw[rU,mi];rfl
theorem aKb(k:Int)(h:0<=k):(k%2305843009213688669).toNat=k.toNat%2305843009213688669:=aq
theorem abv(k:Int)(h:0<=k):gb k=gP k.toNat:=by show pw (tk 4) _=_;rw[Qa aQP,aWX _ aq,aKb k h,anh]
theorem aQf(n:Nat):gP n=gb n:=by rw[abv _ aq,aa]
theorem adf(n:Nat):tA (gP n)=bm:=by rw[aQf];exact Lu _
theorem awS(a b:Nat):ln (gP a) (gP b)=gP (a+b):=by unfold ln gP;rw[<-mh,qM];have e:(4611686018427377339:Int)=((4611686018427377339:Nat):Int):=rfl;rw[e,<-rU,<-mH]
theorem aKc(a:Nat)(c:Int)(h:0<=c):xI (gP a) c=gP (a*c.toNat):=by
 show pw (tk (gP a)) _=_;rw[Qa (adf a),afb _ _ aq,aKb c h];obtain⟨b,hb⟩:∃b:Nat,b=c.toNat:=⟨_,rfl⟩;rw[<-hb];obtain⟨d,hd⟩:∃d:Nat,d=b%2305843009213688669:=⟨_,rfl⟩;have hx:gP (a*b)=gP (a*d):=by rw[<-anh (a*b),<-anh (a*d),mH a b,mH a d,hd,Nat.mod_mod]
 rw[hx,<-hd];unfold gP;have e:(4611686018427377339:Int)=((4611686018427377339:Nat):Int):=rfl;rw[e,<-mi,<-rU,<-Nat.pow_mod,<-Nat.pow_mul]
theorem aA4:gP 0=1:=eX
theorem aWW{n:Nat}(h:0 < n)(hn:n < 2305843009213688669):gP n≠1:=by intro he;unfold gP at he;have he:4^n%4611686018427377339=1:=aq;obtain⟨q,hq⟩:∃q:Nat,q=2305843009213688669:=⟨_,rfl⟩;have e:=aBV 4 4611686018427377339 eX n q he (aTc q hq);rw[aBY (by rw[hq];exact bah) h aq]at e;exact absurd e eX
theorem aSo(k:Int)(m:List Int)(h0:0 < k)(hq:k < 2305843009213688669):qR (gb k) m 1 (qC k m)=bm:=by
 obtain⟨kn,hk⟩:∃kn:Nat,kn=k.toNat:=⟨_,rfl⟩;have hb:gb k=gP kn:=by rw[hk];exact abv k aq
 have hn:=adb (aOl axA [jo k,m]);unfold qC aLs;rw[if_pos ⟨hq,aq⟩];obtain⟨n,jk⟩:∃n,Lp (aOl axA [jo k,m])=n:=⟨_,rfl⟩;rw[jk]at hn ⊢;unfold amc;have hr:Er [gb n,1]=gP n.toNat:=by show ln (ln 1 (tk (gb n))) (tk 1)=_;rw[Qa (Lu n),Qa IV,T5 (uq _ _),abv n aq,<-aA4,awS,aV]
 rw[hr,hb];have hc:=SR (gP n.toNat) (gP kn) m;obtain⟨c,aYw⟩:∃c,yf (gP n.toNat) (gP kn) m=c:=⟨_,rfl⟩;rw[aYw]at hc ⊢;have ha:=aAr n (anU c k);have h1:=hc.1;have h2:=ha.1;have h3:=ha.2;unfold qR;rw[if_neg (by
  intro h;rcases h with h | h | h | h | h
  ·exact aWW aq aq h
  ·rw[adf]at h;cases h
  ·rw[IV]at h;cases h
  ·have h:tA (gP n.toNat)=aZ:=h;rw[adf]at h;cases h
  ·exact h h3)]
 have e:gb (avT n (anU c k))=Er [gP n.toNat,xI (gP kn) c,aep 1]:=by
  show _=ln (ln (ln 1 (tk (gP n.toNat))) (tk (xI (gP kn) c))) (tk (aep 1));rw[aBt,Qa IV,T5 (uq _ _),Qa (adf _),aKc _ _ h1,Qa (adf _)];rw[show(ln 1 (gP n.toNat))=gP n.toNat by rw[<-aA4,awS,aV]];rw[awS,abv _ h2];have hx:(avT n (anU c k)).toNat=(n.toNat+kn*c.toNat)%2305843009213688669:=by
   unfold avT anU aLy;have g1:c%2305843009213688669=c:=eW h1 hc.2;have g2:k%2305843009213688669=k:=eW aq hq;have g3:n%2305843009213688669=n:=eW aq hn.2;rw[g1,g2,g3,gD _ (pb _)];have g4:((kn*c.toNat:Nat):Int)=c*k:=by rw[mh,hk,Int.toNat_of_nonneg aq,Int.toNat_of_nonneg h1,rT]
   have g5:0<=c*k:=by rw[<-g4];exact ig _
   obtain⟨z,hz⟩:∃z,c*k=z:=⟨_,rfl⟩;rw[hz]at g4 g5 ⊢;obtain⟨zn,bcv⟩:∃zn,kn*c.toNat=zn:=⟨_,rfl⟩;rw[bcv]at g4 ⊢;omega
  rw[hx,anh]
 show decide (gb (avT n (anU c k))=Er [gP n.toNat,xI (gP kn) (yf (gP n.toNat) (gP kn) m),aep 1])=bm;rw[aYw];exact lH e
def Gh{α:Type}(p:α->Bool):List α->Int->Int⊕Unit
 |[],_=> .inr ()
 |x::xs,i=>if p x then .inl i else Gh p xs (i+1)
def ahX{α:Type}(p:α->Bool)(l:List α):Int:=match Gh p l 0 with | .inl i=>i | .inr _=> -1
theorem asa{α:Type}(p:α->Bool):∀(l:List α) (i:Int),0<=i->(match Gh p l i with | .inl i=>decide (i>=0) | .inr _=>aZ)=l.any p
 |[],_,_=>rfl
 |x::l,i,h=>by
  rw[Gh,eM];cases hp:p x
  ·simp only[bG,bC,tC];exact asa p l (i+1) aq
  ·simp[h]
theorem TM{α:Type}(p:α->Bool)(l:List α):AM (ahX p l) 0=l.any p:=by
 have:=asa p l 0 aq;unfold ahX AM;cases h:Gh p l 0
 ·rw[h]at this;exact this
 ·rw[h]at this;rw[<-this];rfl
def Qo(k:Int):Bool:=decide (¬(k < 2305843009213688669/\k≠0))
def JF(t:dM)(i br:Int)(ks:List Int):Bool:=hP t && (decide (0<=i/\i < t.1.length/\0<=br/\br < 4/\ks.length<=12) && !(ks.any Qo))
def aN4(t:dM)(i br:Int)(ks:List Int)(sc:Int):dM×Int:=if JF t i br ks then((t.1.set i.toNat ((nth fo t.1 i.toNat).1,(br,ks.map (λk=>qC k (wz t)),sc,()),()),t.2),0) else(([],[],0,()),1)
theorem xT{t:dM}:Sm (wz t):=by
 unfold wz;split
 ·exact apu _ _
 ·exact⟨by rw[dd],λx hx=>by obtain rfl:=(pc.1 hx).2;exact⟨eX,eX⟩⟩
def aHw:Int->Prop:=λ_=>True
def aCl:Int->Bool:=λk=>Qo k
def aaF:Fs Tryz.prog aHw bq aCl:=eV 154 Tryz.f154 (λkv=>([.d tu kv],[])) (λx=>⟨.d .bool x,[],[]⟩) [av tu] [WJ]
theorem aOv(kv)(k:K1 R):aaF.A kv k=aJ (Il kv 0) (k (aaF.out bm)) (ao (IT.call kv) λx1=>k (aaF.out (!x1))):=cd
theorem aOw:aaF.Ok:=by
 intro(k:Int) _;rw[aOv,Q1 (d:=k) trivial];simp only[bq,aCl,Qo,ag,bq,Tw];by_cases h:k=0
 ·rw[mQ h,aj,aX aq]
 ·rw[j3 h,al];by_cases h2:k < 2305843009213688669
  ·rw[aS h2,bo aq];rfl
  ·rw[aQ h2,aX aq];rfl
theorem aHx:aaF.RS:=rE [.d tu] aaF
def aOx:=aaF.eY aOw
abbrev AD:=Bs×Int×Int
def pS:AD->AS:=λ(ko,t7,t8)=>⟨([.d tU ko,.fn 154 (.nil)]++aW 5 ([.d ti t7,.d ti t8]++aW 10 [])),[],(ai 19 [])⟩
def qm:Int->Exit×AS:=λx=>(.ret,⟨(aW 4 ([.d ti x]++aW 14 [])),[],(ai 19 [])⟩)
def zN:Unit->Exit×AS:=λx=>(.exit 0,⟨(aW 19 []),[],(ai 19 [])⟩)
abbrev No:=(Int)⊕(Unit)
abbrev aar:=(Int)⊕(Unit)
def G5:No->Out (Exit×AS):=λx=> .br x.isLeft (.get x.getLeft? λa=> .ok (qm a)) (.get x.getRight? λb=> .ok (zN b))
def kX:AD->aar->No:=λ(ko,t7,t8) y=>match y with | .inl y=> .inl y | .inr z=> .inr (z)
def zM:AD->Prop:=λ(l,n,i)=>(∀x∈l,True)/\l.length<=1000000000/\n=l.length/\∃k:Nat,k<=l.length/\i=k
def o7:AD->aar:=λ(l,n,i)=>Gh Qo (l.drop i.toNat) i
def azQ:Bs->Prop:=λl=>(∀x∈l,True)/\l.length<=1000000000
def agN:Bs->Int:=λl=>ahX Qo l
def aaq:=dB.e7 pS zM kX o7 G5
def Np:AD->Option No:=fS aaq pS
def Bf:Fs Tryz.prog azQ bq agN:=eV 215 Tryz.f215 (λsv=>([.d tU sv,.fn 154 (.nil)],[])) (λx=>⟨.d ti x,[],[]⟩) [av tU,aH] [aOx] {loops:=lz [(2,{bg:=[0,1,7,8]})],outs:=lu [(2,{},{bg:=[4]})],fa:=mc [(2,aaq)]}
def Nn:= @ej Tryz.prog (jr Bf.G) Bf.an 0 Tryz.f215 0 _ pS
abbrev VH:=jj Tryz.prog (jr Bf.G) Bf.an 0 Tryz.f215 0 pS zM kX o7 G5
theorem ai5:ik Np zM kX o7:=jX (jA [.d tU,.d ti,.d ti] λ_=>cd)
theorem RY:ma @Nn pS zM kX o7 G5 VH:=mJ
theorem Nq(ko t7 t8)(kn:K2 R)(kx:K3 R):Nn (ko,t7,t8) kn kx=aJ (fv t8 t7) (aJ (eA t8 (((ae ko):Nat):Int)) (ao (aaF.call (nth tu ko (ab t8))) λx1=>aJ (x1) (kx (qm t8).1 (qm t8).2) (kn (pS (ko,t7,(bz .i64 t8 (1:Int)))))) aH) (kx (zN ()).1 (zN ()).2):=cd
theorem aG7(sv)(k:K1 R):Bf.A sv k=ao (Np (sv,(sv.length:Int),0)) λx2=>aJ x2.isLeft (ao x2.getLeft? λa3=>k (Bf.out a3)) (ao x2.getRight? λb4=>k (Bf.out (-1))):=cd
theorem apr:VH:=by
 refine RY (λ(l,n,i)=>l.length - i.toNat) ?_
 rintro⟨l,n,i⟩ ⟨hl,hb,rfl,k,hk,rfl⟩;have hb:l.length<=1000000000:=hb;have hk:k<=l.length:=hk;by_cases h:k < l.length
 ·have hx:=hl _ (aK h);have n1:nth tu l k=l[k]:=bY (t:=tu) h;have hd:Gh Qo (l.drop k) k=if Qo l[k] then .inl (k:Int) else Gh Qo (l.drop (k+1)) ((k+1:Nat):Int):=by rw[au h];rfl
  have step:∀ {R:Type} (kn:AS->Option R) (kx:Exit->AS->Option R),Nn (l,(l.length:Int),(k:Int)) kn kx=aJ (Qo l[k]) (kx (qm (k:Int)).1 (qm (k:Int)).2) (kn (pS (l,(l.length:Int),((k+1:Nat):Int)))):=by intro R kn kx;rw[Nq,aS aq,ba aq aq,aa,n1,aHx (d:=l[k]) hx,N.jL aq];rfl
  cases hp:Qo l[k]
  ·left;refine⟨(l,l.length,((k+1:Nat):Int)),⟨hl,hb,rfl,k+1,aq,rfl⟩,by simp only[aa];omega,?_,λkn kx=> ?_⟩
   ·simp only[kX,o7,aa,hd,hp,bG,bC]
   ·rw[step,hp,al]
  ·right;refine⟨qm (k:Int),?_,λkn kx=> ?_⟩
   ·simp only[kX,o7,aa,hd,hp,bO];rfl
   ·rw[step,hp,aj]
 ·right;obtain rfl:k=l.length:=aq;refine⟨zN (),?_,λkn kx=> ?_⟩
  ·simp only[kX,o7,aa,aI];rfl
  ·rw[Nq,aQ aq,al]
theorem aG8:Bf.Ok:=by rintro l ⟨hl,hb⟩;rw[aG7,ai5 (d:=(l,l.length,0)) ⟨hl,hb,rfl,0,aq,rfl⟩];simp only[ag,kX,o7,aT,ay,bq,agN,ahX];cases Gh Qo l 0 <;> rfl
theorem azR:Bf.RS:=rE [.d tU] Bf
def aG9:=Bf.eY aG8 1 ⟨.e7 apr,trivial⟩
def ai2:Bs->Prop:=λl=>(∀x∈l,True)/\l.length<=1000000000
def aap:Bs->Bool:=λl=>l.any Qo
def yP:Fs Tryz.prog ai2 bq aap:=eV 157 Tryz.f157 (λsv=>([.d tU sv,.fn 154 (.nil)],[])) (λx=>⟨.d .bool x,[],[]⟩) [av tU,aH] [aG9]
theorem apl(sv)(k:K1 R):yP.A sv k=ao (Bf.call sv) λx1=>k (yP.out (AM x1 0)):=cd
theorem apm:yP.Ok:=by rintro l ⟨hl,hb⟩;rw[apl,azR (d:=l) ⟨hl,hb⟩];simp only[ag,bq,agN,TM];rfl
theorem ai3:yP.RS:=rE [.d tU] yP
def apn:=yP.eY apm
abbrev Sa:=Int×Bs×Int×Int×dM×(Int×Unit)×Int×Nat×(Int×Unit)×Bs×(List Sg)
def CY:Sa->(V9×(List Sg))->((Int×dM×(Int×Unit))×(V9×(List Sg))):=λ(adz,t52,t53,t54,n5,n10,n13,p9,oO,n14,aQ3) y=>((adz,n5,n10),y)
abbrev aCm:=dM×Int×Int×Bs×Int
def apQ:Sa->Prop:=λ(i0,l,n,i,t,e,br,L,sc,id,r)=>l.length<=1000/\(∀x∈l,lG x)/\Sm id/\∃k:Nat,k<=l.length/\i=k/\n=l.length/\L=r.length/\r.length<=1000+k
def JS:Sa->(V9×(List Sg)):=λ(i0,l,n,i,t,e,br,L,sc,id,r)=>((br,r++(l.drop i.toNat).map (λk=>qC k id),sc),r++(l.drop i.toNat).map (λk=>qC k id))
def aHy:aCm->Prop:=λ(t,i,br,ks,sc)=>th t/\(∀x∈ks,lG x)/\ks.length<=1000000000
def apP:aCm->(dM×Int):=λ(t,i,br,ks,sc)=>aN4 t i br ks sc
def xS:Ls apQ CY JS:=pD (λ(adz,t52,t53,t54,n5,n10,n13,p9,oO,n14,aQ3)=>⟨([bE,.d ti adz,bE,bE,bE,eP 5]++aW 4 ([eP 10,bE,bE,eP 13,eP 14]++aW 37 ([.d tU t52,.d ti t53,.d ti t54]++aW 21 []))),[],(bw 5 ([dm (.d dU n5)]++bw 4 ([dm (.pr (.dJ) (.pr (.dJ) (.d (.pair ti .unit) n10))),[],[],dm (.pr (.d ti n13) (.pr (jl 64 p9) (.d (.pair tu .unit) oO))),dm (.d tH n14)]++bw 49 ([dm (.vec 225 KF aQ3)]++bw 11 []))))⟩) (λx=>(.exit 0,⟨([bE,.d ti x.1.1,bE,bE,bE,eP 5]++aW 4 ([eP 10,bE,bE,eP 13]++aW 62 [])),[],(bw 5 ([dm (.d dU x.1.2.1)]++bw 4 ([dm (.pr (.dJ) (.pr (.dJ) (.d (.pair ti .unit) x.1.2.2))),[],[],dm (.d ap9 x.2.1)]++bw 50 ([[.obj 0 bm (.vec 225 KF x.2.2)]]++bw 11 []))))⟩))
def AJ:Fs Tryz.prog aHy bq apP:=eV 82 Tryz.f82 (λ(t,inv,branch,keys,secret)=>([.d dU t,.d ti inv,.d ti branch,.d tU keys,.d tu secret],[])) (λx=>⟨.cons (.d dU x.1) (.cons (.d ti x.2) (.nil)),[],[]⟩) [av dU,av ti,av ti,av tU,av tu] [te,aCn,apn,X9,aOf,az8] {cg:=[5],loops:=lz [(7,{bg:=[1,5,10,13,14,52,53,54],sites:=[5,10,13,14,64],owns:=[⟨13,[.snd,.fst],64,136⟩]})],outs:=lu [(7,{bg:=[1,5,10,13],sites:=[5,10,13,64],QN:=[⟨13,[.snd,.fst],(.slice KF)⟩]},{bg:=[10,11]})],fa:=mc [(7,xS.E)],res:=[av dU,aH]}
theorem apR:xS.RS:=rL [.d ti,.d tU,.d ti,.d ti,.d dU,.d (.pair ti .unit),.d ti,.n,.d (.pair tu .unit),.d tB,.d (.slice KF)] xS
theorem Qj(adz t52 t53 t54 n5 n10 n13 p9 oO n14 aQ3)(kn:K2 R)(kx:K3 R):AJ.R 0 xS (adz,t52,t53,t54,n5,n10,n13,p9,oO,n14,aQ3) kn kx=aJ (fv t54 t53) (aJ (eA t54 (t52.length:Int)) (ao (aat.call ((nth tu t52 (ab t54)),n14)) λx4=>aJ (decide (p9<=(ae aQ3))) (aJ (cZ (p9+1) 16) (kn (xS.st (adz,t52,t53,(bz .i64 t54 1),n5,n10,n13,(p9+1),oO,n14,((aM p9 aQ3)++ [x4])))) aH) aH) aH) (aJ (decide (0=0/\(0+p9)<=(ae aQ3))) (xS.go kx ((adz,n5,n10),((n13,((cut aQ3 0 p9),oO)),aQ3))) aH):=cd
theorem aOy(t inv branch keys secret)(k:K1 R):AJ.A (t,inv,branch,keys,secret) k=ao (iQ.call t) λal6=>aJ (!al6) (k (AJ.out ((([]:List ji),(([]:List jV),(0,()))),1))) (aJ (fv inv 0) (k (AJ.out ((([]:List ji),(([]:List jV),(0,()))),1))) (aJ (AM inv (t.1.length:Int)) (k (AJ.out ((([]:List ji),(([]:List jV),(0,()))),1))) (ao (ajn.call (branch,(([]:List Sg),(secret,())))) λavK=>aJ (!avK) (k (AJ.out ((([]:List ji),(([]:List jV),(0,()))),1))) (aJ (xW (keys.length:Int) 12) (k (AJ.out ((([]:List ji),(([]:List jV),(0,()))),1))) (ao (yP.call keys) λaAj=>aJ (aAj) (k (AJ.out ((([]:List ji),(([]:List jV),(0,()))),1))) (ao (tid.call t) λvG=>ao (xS.call (inv,keys,(keys.length:Int),0,t,(0,()),branch,0,(secret,()),vG,([]:List Sg))) λajq=>ao (nX.call ajq.1.2.1) λaaJ=>aJ (eA ajq.1.1 ((aaJ.1:Nat):Int)) (aJ (decide ((0+(ab ajq.1.1)) < (ae aaJ.2.2))) (aJ (decide ((((0+(ab ajq.1.1))*36)+33)=((0+((ab ajq.1.1)*36))+33))) (aJ (decide ((0+(ab ajq.1.1)) < (ae aaJ.2.2))) (aJ (decide (0=0/\(0+aaJ.1)<=(ae (gF aaJ.2.2 (0+(ab ajq.1.1)) ((nth fo aaJ.2.2 (0+(ab ajq.1.1))).1,(ajq.2.1,(nth fo aaJ.2.2 (0+(ab ajq.1.1))).2.2)))))) (k (AJ.out (((cut (gF aaJ.2.2 (0+(ab ajq.1.1)) ((nth fo aaJ.2.2 (0+(ab ajq.1.1))).1,(ajq.2.1,(nth fo aaJ.2.2 (0+(ab ajq.1.1))).2.2))) 0 aaJ.1),aaJ.2.1),0))) aH) aH) aH) aH) aH)))))):=cd
theorem avo:(AJ.jx 0 xS):=by
 refine(AJ.mf 0 xS) (λ(i0,l,n,i,t,e,br,L,sc,id,r)=>l.length - i.toNat) ?_
 rintro⟨i0,l,n,i,t,e,br,L,sc,id,r⟩ ⟨hlen,hu,hm,k,hk,rfl,rfl,rfl,hr⟩;have hlen:l.length<=1000:=hlen;have hk:k<=l.length:=hk;have hr:r.length<=1000+k:=hr;by_cases h:k < l.length
 ·left;have n1:nth tu l k=l[k]:=bY (t:=tu) h;have hd:bD k l=l[k]::bD (k+1) l:=au h;refine⟨(i0,l,l.length,((k+1:Nat):Int),t,e,br,r.length+1,sc,id,r++ [qC l[k] id]),⟨hlen,hu,hm,k+1,aq,rfl,rfl,by rw[ak];rfl,by rw[ak];show r.length+1<=_;omega⟩,by simp only[aa];omega,?_,λkn kx=> ?_⟩
  ·simp only[CY,JS,aa,hd,cj,aO,cE]
  ·rw[Qj,aS aq,ba aq aq,aa,n1,aHe (d:=(l[k],id)) ⟨hu _ (aK h),hm⟩];simp only[aj,ag,bq,apx];rw[aX (az _),cM aq aq,N.jL aq,bN];rfl
 ·right;obtain rfl:k=l.length:=aq;intro R kn kx;rw[Qj,aQ aq,al];simp only[CY,JS,aa,aI,fK,bK,aV,az,gm,b8,aj,ea]
theorem aOz:AJ.Ok:=by
 rintro⟨⟨is,os,nt,u⟩,i,br,ks,sc⟩ ⟨hv,hu,hl⟩;have hv:th (is,os,nt,u):=hv;have hl:ks.length<=1000000000:=hl;rw[aOy,pV (d:=(is,os,nt,u)) hv.1];simp only[ag,bq,rS,bq,apP,aN4,JF];rcases jw (hP (is,os,nt,u)) with gX | gX;rotate_left
 ·simp only[gX];rfl
 obtain⟨⟨_,a2,a3,_⟩,b1,b2⟩:=iq gX;have a2:is.length<=64:=a2;simp only[gX,bT,al,bM];by_cases h1:i < 0
 ·rw[aS h1,aj,bo aq];rfl
 rw[aQ h1,al];by_cases h2:i>=(is.length:Int)
 ·rw[fG h2,aj,bo aq];rfl
 rw[eg h2,al,avr (d:=(br,([],(sc,())))) trivial];simp only[ag,bq,apS,Bn];by_cases h3:0<=br/\br < 4
 ·rw[aX h3];by_cases h4:ks.length > 12
  ·rw[dw aq,bo (p:=0<=i/\i < (is.length:Int)/\0<=br/\br < 4/\ks.length<=12) aq];rfl
  ·rw[cI aq,aX (p:=0<=i/\i < (is.length:Int)/\0<=br/\br < 4/\ks.length<=12) aq,ai3 (d:=ks) ⟨λ_ _=>trivial,hl⟩];simp only[ag,bq,aap];rcases jw (ks.any Qo) with hb | hb;rotate_left
   ·simp only[hb];obtain⟨k,rfl⟩:∃k:Nat,i=k:=⟨i.toNat,aq⟩;have hk:k < is.length:=aq;simp only[show(([]:List Sg).length<=12)=True from eq_true (aL _),b8,Bool.and_self,bT,dX,al,bM,bO];rw[OG (d:=(is,os,nt,u)) hv];simp only[ag,bq,ahc];rw[apR (d:=((k:Int),ks,ks.length,0,(is,os,nt,u),(0,()),br,0,(sc,()),wz (is,os,nt,u),[])) ⟨by show ks.length<=_;omega,hu,xT,0,aL _,rfl,rfl,rfl,aL _⟩];simp only[ag,CY,JS,aT,ay,aY];rw[avf (d:=(is,os,nt,u)) gX];simp only[ag,bq,alW,aa,aV,cD,ba (show(0:Int)<=(k:Int) by omega) (show(k:Int) < (is.length:Int) by omega),aj,aX hk,b8,List.length_set,az,gm];rw[ea (by rw[List.length_set])]
   ·simp only[hb];rfl
 ·rw[bo h3,bo (p:=0<=i/\i < (is.length:Int)/\0<=br/\br < 4/\ks.length<=12) aq];rfl
theorem aHz:AJ.RS:=rE [.d dU,.d ti,.d ti,.d tU,.d tu] AJ
def aOA:=AJ.eY aOz 1 ⟨.e7 avo,trivial⟩
abbrev ff:Ty:=(.pair fi (.pair ti .unit))
abbrev fj:=(jV×(Int×Unit))
abbrev ez:Ty:=(.pair bQ (.pair ff .unit))
abbrev ei:=(cz×(fj×Unit))
abbrev cH:Ty:=(.pair (.slice ez) (.pair (.slice bQ) .unit))
abbrev cV:=((List ei)×((List cz)×Unit))
def aIb:(Bs×Bs)->Prop:=λ_=>True
def avY:(Bs×Bs)->Int:=λ(a,b)=>acB a b
def aqq:Fs Tryz.prog aIb bq avY:=eV 76 Tryz.f76 (λ(a,b)=>([.d tB a,.d tB b],[])) (λx=>⟨.d ti x,[],[]⟩) [av tB,av tB] [⟨150,nV,aAt,.of (aT2 (fn:=Tryz.f150) cd cd cd cd cd) (by rfl)⟩]
theorem aPk(a b)(k:K1 R):aqq.A (a,b) k=ao (aqp (a,b)) λx1=>k (aqq.out x1):=cd
theorem aPl:aqq.Ok:=by rintro⟨a,b⟩ _;rw[aPk,aAu];rfl
theorem aqr:aqq.RS:=rE [.d tB,.d tB] aqq
def aAv:=aqq.eY aPl
def aKz:Int->Prop:=λ_=>True
def ant:Int->Bool:=λ_=>aZ
def asb:Fs Tryz.prog aKz bq ant:=eV 151 Tryz.f151 (λx=>([.d ti x],[])) (λx=>⟨.d .bool x,[],[]⟩) [av ti]
theorem aQJ(x)(k:K1 R):asb.A x k=k (asb.out (C3 x x)):=cd
theorem aQK:asb.Ok:=by intro x _;rw[aQJ];simp only[bq,ant,dN rfl]
theorem asc:asb.RS:=rE [.d ti] asb
def aQL:=asb.eY aQK
def Qy(x y:Int):Int:=if x < y then -1 else if x > y then 1 else 0
def aKw:(Int×Int)->Prop:=λ_=>True
def aw7:(Int×Int)->Int:=λ(x,y)=>Qy x y
def aaU:Fs Tryz.prog aKw bq aw7:=eV 77 Tryz.f77 (λ(x,yv)=>([.d ti x,.d ti yv],[])) (λx=>⟨.d ti x,[],[]⟩) [av ti,av ti] [aQL]
theorem aQD(x yv)(k:K1 R):aaU.A (x,yv) k=ao (asb.call x) λx1=>ao (asb.call yv) λx2=>aJ (x1) (aJ (x2) (k (aaU.out 0)) (k (aaU.out (-1)))) (aJ (x2) (k (aaU.out 1)) (aJ (fv x yv) (k (aaU.out (-1))) (aJ (xW x yv) (k (aaU.out 1)) (k (aaU.out 0))))):=cd
theorem aQE:aaU.Ok:=by
 rintro⟨x,y⟩ _;rw[aQD,asc (d:=x) trivial];simp only[ag,bq,ant];rw[asc (d:=y) trivial];simp only[ag,bq,ant,al,bq,aw7,Qy];by_cases h:x < y
 ·rw[aS h,aj,if_pos h]
 ·rw[aQ h,al,if_neg h];by_cases h2:x > y
  ·rw[dw h2,aj,if_pos h2]
  ·rw[cI h2,al,if_neg h2]
theorem aKx:aaU.RS:=rE [.d ti,.d ti] aaU
def aQF:=aaU.eY aQE
abbrev La:=Int×(List Int)×Int×Int
def C1:La->AS:=λ(zero,t6,t7,t8)=>⟨([bE,bE,bE,.d ti zero,bE,bE,.d (.slice ti) t6,.d ti t7,.d ti t8]++aW 9 []),[],(ai 18 [])⟩
def Ix:Int->Exit×AS:=λx=>(.ret,⟨([bE,bE,.d ti x]++aW 15 []),[],(ai 18 [])⟩)
def Iy:Int->Exit×AS:=λx=>(.exit 0,⟨([bE,bE,bE,.d ti x]++aW 14 []),[],(ai 18 [])⟩)
abbrev acF:=(Int)⊕(Int)
abbrev aq8:=(Int)⊕(Unit)
def QC:acF->Out (Exit×AS):=λx=> .br x.isLeft (.get x.getLeft? λa=> .ok (Ix a)) (.get x.getRight? λb=> .ok (Iy b))
def qS:La->aq8->acF:=λ(zero,t6,t7,t8) y=>match y with | .inl y=> .inl y | .inr z=> .inr (zero)
def aVq:List Int->Int
 |[]=>0
 |x::l=>if x≠0 then x else aVq l
def aTG:List Int->Int⊕Unit
 |[]=> .inr ()
 |x::l=>if x≠0 then .inl x else aTG l
theorem aTH:∀l:List Int,aVq l=match aTG l with | .inl x=>x | .inr _=>0
 |[]=>rfl
 |x::l=>by
  simp only[aVq,aTG];split
  ·rfl
  ·exact aTH l
def Iw:La->Prop:=λ(z,l,n,i)=>z=0/\l.length<=1000000000/\n=l.length/\∃k:Nat,k<=l.length/\i=k
def Af:La->aq8:=λ(z,l,n,i)=>aTG (l.drop i.toNat)
def aPR:(List Int)->Prop:=λl=>l.length<=1000000000
def aJa:(List Int)->Int:=λl=>aVq l
def aq6:=dB.e7 C1 Iw qS Af QC
def YB:La->Option acF:=fS aq6 C1
def aDz:Fs Tryz.prog aPR bq aJa:=eV 75 Tryz.f75 (λl9=>([.d (.slice ti) l9],[])) (λx=>⟨.d ti x,[],[]⟩) [av (.slice ti)] [] {loops:=lz [(3,{bg:=[3,6,7,8]})],outs:=lu [(3,{bg:=[3]},{bg:=[2]})],fa:=mc [(3,aq6)]}
def aq7:= @ej Tryz.prog (jr aDz.G) aDz.an 0 Tryz.f75 0 _ C1
abbrev ajQ:=jj Tryz.prog (jr aDz.G) aDz.an 0 Tryz.f75 0 C1 Iw qS Af QC
theorem awv:ik YB Iw qS Af:=jX (jA [.d ti,.d (.slice ti),.d ti,.d ti] λ_=>cd)
theorem aaP:ma @aq7 C1 Iw qS Af QC ajQ:=mJ
theorem Lb(zero t6 t7 t8)(kn:K2 R)(kx:K3 R):aq7 (zero,t6,t7,t8) kn kx=aJ (fv t8 t7) (aJ (eA t8 (((ae t6):Nat):Int)) (aJ (C3 (nth ti t6 (ab t8)) zero) (kx (Ix (nth ti t6 (ab t8))).1 (Ix (nth ti t6 (ab t8))).2) (kn (C1 (zero,t6,t7,(bz .i64 t8 (1:Int)))))) aH) (kx (Iy zero).1 (Iy zero).2):=cd
theorem aUk(l9)(k:K1 R):aDz.A l9 k=ao (YB (0,l9,(l9.length:Int),0)) λx1=>aJ x1.isLeft (ao x1.getLeft? λa2=>k (aDz.out a2)) (ao x1.getRight? λb3=>k (aDz.out b3)):=cd
theorem aDA:ajQ:=by
 refine aaP (λ(z,l,n,i)=>l.length - i.toNat) ?_
 rintro⟨z,l,n,i⟩ ⟨rfl,hl,rfl,k,hk,rfl⟩;by_cases h:k < l.length
 ·have hd:l.drop k=l[k]::l.drop (k+1):=au h;have n1:nth ti l k=l[k]:=bY (t:=ti) h;by_cases h2:l[k]≠0
  ·right;refine⟨Ix l[k],?_,λkn kx=> ?_⟩;rotate_left
   ·rw[Lb,aS aq,aj,ba aq aq,aj,aa,n1,fH h2,aj]
   ·simp only[qS,Af,aa,hd,aTG,if_pos h2];rfl
  ·left;refine⟨(0,l,(l.length:Int),((k+1:Nat):Int)),⟨rfl,hl,rfl,k+1,aq,rfl⟩,by simp only[aa];omega,?_,λkn kx=> ?_⟩
   ·simp only[qS,Af,aa,hd,aTG,if_neg h2]
   ·rw[Lb,aS aq,aj,ba aq aq,aj,aa,n1,dN aq,al,N.jL aq]
 ·right;obtain rfl:k=l.length:=aq;refine⟨Iy 0,?_,λkn kx=> ?_⟩;rotate_left
  ·rw[Lb,aQ aq,al]
  ·simp only[qS,Af,aa,aI,aTG];rfl
theorem aUl:aDz.Ok:=by intro l hl;rw[aUk,awv (d:=(0,l,(l.length:Int),0)) ⟨rfl,hl,rfl,0,aL _,rfl⟩];simp only[ag,qS,Af,aT,ay,bq,aJa];rw[aTH];cases aTG l <;> rfl
theorem aAL:aDz.RS:=rE [.d (.slice ti)] aDz
def aJb:=aDz.eY aUl 1 ⟨.e7 aDA,trivial⟩
end Go.Ab
namespace Go.Ab
open Go.Sort (grow)
structure aV7(P:bj)(t:Ty)(g:gC)(Q:t.den->Prop)(cf:t.den->t.den->Int):Prop where
 cJ:∃en,tD P g en/\∀x y,Q x->Q y->∃X,en.run [.d t x,.d t y] []=av X/\en.out [.d t x,.d t y] [] X=⟨.d (.int .i64) (cf x y),[],[]⟩
 enters:∀args w,(callFunc g args).run P w= .ok (.enter g args) w
 irrefl:∀x,Q x->¬cf x x < 0
 trans:∀x y z,Q x->Q y->Q z->cf x y < 0->cf y z < 0->cf x z < 0
 ntrans:∀x y z,Q x->Q y->Q z->¬cf x y < 0->¬cf y z < 0->¬cf x z < 0
theorem aQi{w w':cO}(aQu:w'.os=w.os)(bcn:w'.tape=w.tape)(ahV:w'.output=w.output/\w.drawn<=w'.drawn)(AL:w.heap.size<=w'.heap.size)(hb:∀b:Nat,b < w.heap.size->w'.heap[b]? =w.heap[b]?):
  ∃q os,w'=grow (w.drewN q) os:=by
 obtain⟨h1,t1,d1,o1,p1⟩:=w;obtain⟨h2,t2,d2,o2,p2⟩:=w';simp only at*;obtain⟨ahV,hd⟩:=ahV;subst aQu bcn ahV;obtain⟨q,rfl⟩:∃q,d2=d1+q:=⟨d2 - d1,aq⟩;refine⟨q,h2.extract h1.size h2.size,?_⟩;have hh:h2=h1++h2.extract h1.size h2.size:=by
  apply Array.ext_getElem?;intro i;rw[lV];by_cases hi:i < h1.size
  ·rw[if_pos hi,hb i hi]
  ·rw[if_neg hi,Array.getElem?_extract];by_cases h3:i < h2.size
   ·rw[if_pos aq];congr 1;omega
   ·rw[if_neg aq,Array.getElem?_eq_none aq]
 show({heap:=h2,tape:=_,drawn:=_,os:=_,output:=_}:cO)= {heap:=h1++h2.extract h1.size h2.size,tape:=_,drawn:=_,os:=_,output:=_};rw[<-hh];rfl
section
variable {P:bj} {t:Ty} {g:gC} {Q:t.den->Prop} {cf:t.den->t.den->Int}
theorem aV7.aWY(h:aV7 P t g Q cf)(ha:t.agg=bm){W:cO}{cx cy:List Value}{x y:t.den}(hx:c9 ((iw []).env W (λ_=> .free) (λ_=>aH)) t cx x)
  (hy:c9 ((iw []).env W (λ_=> .free) (λ_=>aH)) t cy y) (qx:Q x) (qy:Q y):
  Calls P g #[.agg cx.toArray,.agg cy.toArray] W λe w'=>e= .returned (.int .i64 (cf x y))/\∃q os,w'=grow (W.drewN q) os:=by
 obtain⟨en,hd,sr⟩:=h.cJ;obtain⟨X,hX1,hX2⟩:=sr x y qx qy;have one:∀ {c:List Value} {z:t.den},c9 ((iw []).env W (λ_=> .free) (λ_=>aH)) t c z->VS ((iw []).env W (λ_=> .free) (λ_=>aH)) (.d t z) (.agg c.toArray):=λhz=>
  ⟨_,by simpa only[V]using hz,by show gY t.agg _ _;rw[ha];rfl⟩
 have ho:ku ((iw []).env W (λ_=> .free) (λ_=>aH)):=λid ver fr c h=>by
  exfalso;cases id with
  |bP k=>simp[AS.env,AS.cJ,iw]at h
  |new i j=>simp[AS.env,AS.cJ,iw]at h
 rcases hd W (λ_=> .free) (λ_=>aH) [.d t x,.d t y] [] [.agg cx.toArray,.agg cy.toArray] X ⟨one hx,one hy,trivial⟩ ho hX1 with⟨_,hc⟩ | ⟨v,w',hc,_⟩
 ·refine hc.mono λe w' he=> ?_
  obtain⟨v,rfl,g',β',hv,_,ht,_⟩:=he;rw[hX2]at hv;obtain⟨cs,k1,k2⟩:=hv;have k1:cs=[.int .i64 (cf x y)]:=k1;subst k1;have k2: [Value.int .i64 (cf x y)]=[v]:=k2;have hv:v= .int .i64 (cf x y):=by simpa using k2.symm
  exact⟨by rw[hv],aQi ht.os ht.tape ht.output ht.size λb hb=>(ht.BE b hb).2⟩
 ·rw[h.enters]at hc;cases hc
def aHZ(cf:t.den->t.den->Int)(l l':List t.den):Prop:=l'.Perm l/\l'.Pairwise λx y=>¬cf y x < 0
open Classical in
def RZ(cf:t.den->t.den->Int)(l:List t.den):List t.den:=if h:∃l',aHZ cf l l' then h.choose else l
theorem apw(h:aV7 P t g Q cf){l:List t.den}(hQ:∀x∈l,Q x):aHZ cf l (RZ cf l):=by
 have hx:∃l',aHZ cf l l':=by
  let le: {x // Q x}-> {x // Q x}->Bool:=λx y=> !decide (cf y.1 x.1 < 0)
  refine⟨((l.attachWith Q hQ).mergeSort le).map (·.1),?_,?_⟩
  ·have h1:=(List.mergeSort_perm (l.attachWith Q hQ) le).map (·.1);rwa[List.attachWith_map_subtype_val]at h1
  ·have h2:=List.pairwise_mergeSort (le:=le) (λa b c h1 h2=>by
    simp only[le,di,gA]at*;exact h.ntrans _ _ _ c.2 b.2 a.2 h2 h1) (λa b=>by
    simp only[le,iT,di,gA];by_cases h1:cf b.1 a.1 < 0
    ·exact .inr λh2=>h.irrefl _ a.2 (h.trans _ _ _ a.2 b.2 a.2 h2 h1)
    ·exact .inl h1) (l.attachWith Q hQ)
   rw[List.pairwise_map];exact h2.imp λ {a b} h3=>by simpa[le]using h3
 unfold RZ;rw[BX hx];exact hx.choose_spec
theorem R0(h:aV7 P t g Q cf){l l':List t.den}(hQ:∀x∈l,Q x)(hT:∀x∈l,∀y∈l,¬cf x y < 0->¬cf y x < 0->x=y)(hs:aHZ cf l l'):l'=RZ cf l:=by have h2:=apw h hQ;exact List.Perm.eq_of_pairwise (λa b ha hb h3 h4=>hT a (hs.1.mem_iff.1 ha) b (h2.1.mem_iff.1 hb) h4 h3) hs.2 h2.2 (hs.1.trans h2.1.symm)
def VM(g:gC)(e:TypeId)(t:Ty):Nat×List t.den->List aN×List eJ:=λd=>([.bU (.bP 0) 0 [] 0 0 d.1,.fn g .nil],[.obj 0 aZ (.vec e t d.2)])
def agS(Q:t.den->Prop)(cf:t.den->t.den->Int):Nat×List t.den->Prop:=λd=>d.1=d.2.length/\d.2.length < 4611686018427387904/\(∀x∈d.2,Q x)/\∀x∈d.2,∀y∈d.2,¬cf x y < 0->¬cf y x < 0->x=y
def aVR(e:TypeId)(t:Ty):Nat×List t.den->jf:=λx=>⟨.nil,[.obj 0 aZ (.vec e t x.2)],[]⟩
def aSt(g:gC)(e:TypeId)(t:Ty)(Q:t.den->Prop)(cf:t.den->t.den->Int):Entry:=Entry.of [aH,aH] (VM g e t) (agS Q cf) (λd=>(d.1,RZ cf d.2)) (aVR e t)
theorem aSv{g:gC}{e:TypeId}{t:Ty}(d d':Nat×List t.den)(h:VM g e t d=VM g e t d'):d=d':=by obtain⟨n,l⟩:=d;obtain⟨n',l'⟩:=d';simp only[VM,de,cR,aN.bU.injEq,eJ.obj.injEq,lT,eS]at h;obtain⟨rfl,h2⟩:=h;rw[aSM h2]
def apv(g:gC)(e:TypeId)(t:Ty)(Q:t.den->Prop)(cf:t.den->t.den->Int):Nat×List t.den->Option (Nat×List t.den):=λd=>(aSt g e t Q cf).run (VM g e t d).1 (VM g e t d).2
theorem aCj{g:gC}{e:TypeId}{t:Ty}{Q:t.den->Prop}{cf:t.den->t.den->Int}{d:Nat×List t.den}(h:agS Q cf d):apv g e t Q cf d=av (d.1,RZ cf d.2):=Entry.vu aSv h
theorem SS{R:List Value->t.den->Prop}:∀ {cs:List Value} {l:List t.den},bH R cs l->(∀x∈l,Q x)->∃ps:List {p:List Value×t.den // R p.1 p.2/\Q p.2},ps.map (·.1.2)=l/\(ps.map (·.1.1)).flatten=cs
 |cs,[],h,_=>⟨[],rfl,by have h:cs=[]:=h;rw[h];rfl⟩
 |cs,x::l,⟨c,cs',h1,h2,h3⟩,hq=>by
  obtain⟨ps,h4,h5⟩:=SS h3 λy hy=>hq y (aP _ hy)
  exact⟨⟨(c,x),h2,hq x (aU ..)⟩::ps,by simp[h4],by simp[h5,h1]⟩
theorem Ue{R R':List Value->t.den->Prop}(hR:∀c x,R c x->R' c x):∀ps:List {p:List Value×t.den // R p.1 p.2/\Q p.2},bH R' (ps.map (·.1.1)).flatten (ps.map (·.1.2))
 |[]=>rfl
 |p::ps=>⟨p.1.1,(ps.map (·.1.1)).flatten,by simp,hR _ _ p.2.1,Ue hR ps⟩
theorem arO{α:Type} [Inhabited α] (enc:α->List Value) {k:Nat} (hk:∀x,(enc x).length=k):∀(ps:List α) (j:Nat),j < ps.length*k->((ps.map enc).flatten)[j]? =(enc (ps.toArray[j / k]!))[j%k]?
 |[],j,h=>by simp at h
 |p::ps,j,h=>by
  have k0:0 < k:=by
   rcases jn k with h0 | h0
   ·subst h0;simp at h
   ·exact h0
  simp only[cj,jZ];by_cases hj:j < k
  ·rw[fV (by rw[hk];exact hj),Nat.div_eq_of_lt hj,lj hj];rfl
  ·have e1:j / k=(j - k) / k+1:=by rw[Nat.div_eq_sub_div k0 aq]
   have e2:j%k=(j - k)%k:=by rw[Nat.mod_eq_sub_mod aq]
   rw[List.getElem?_append_right (by rw[hk];omega),hk,arO enc hk ps (j - k) (by simp only[aF,fg,iV]at h;omega),e1,e2];congr 2;simp
theorem Q0{α:Type} [Inhabited α] (enc:α->List Value) {k:Nat} (hk:∀x,(enc x).length=k) (d:Array α):(Go.Sort.flatK enc k d).toList=(d.toList.map enc).flatten:=by
 have hl:((d.toList.map enc).flatten).length=d.size*k:=by
  rw[List.length_flatten,wG];have:(d.toList.map (ae∘enc))=ai d.size k:=by rw[List.eq_replicate_iff];exact⟨by simp,λx hx=>by obtain⟨y,_,rfl⟩:=dy.1 hx;exact hk y⟩
  rw[this,List.sum_replicate_nat]
 apply mE;intro j;by_cases hj:j < d.size*k
 ·rw[arO enc hk d.toList j (by simpa using hj)];have h2:(Go.Sort.flatK enc k d).toList[j]? =av ((Go.Sort.flatK enc k d)[j]!):=by rw[jh,mP _ j (by rw[Go.Sort.size_flatK];exact hj)];simp[hj]
  rw[h2,Go.Sort.get_flatK _ _ _ _ hj];have aXm:0 < k:=by
   rcases jn k with h0 | h0
   ·subst h0;simp at hj
   ·exact h0
  have hm:j%k < k:=Nat.mod_lt _ aXm;simp only[Array.toArray_toList];rw[cn (by rw[hk];exact hm),mP _ _ (by rw[hk];exact hm)]
 ·rw[eB (by simpa using hj),eB (by rw[hl];omega)]
theorem aMF{F cur:Array Value}(h:F.size<=cur.size):(Go.Sort.putCells id 0 F cur).toList=F.toList++cur.toList.drop F.size:=by
 apply mE;intro j;simp only[Go.Sort.putCells,jh,Array.getElem?_mapIdx,aL,lT,aV,kr,id];by_cases hj:j < F.size
 ·rw[fV (by simpa using hj),jh,fU hj,fU aq,eN,if_pos hj,mP F j hj]
 ·rw[List.getElem?_append_right (by simpa using hj),fW,jh,dv,show F.size+(j - F.size)=j by omega];cases cur[j]? with
  |none=>rfl
  |some y=>rw[eN,if_neg hj]
end
section
open Go.Proofs Go.Shelf Go.Lib Go.Sort
variable {P:bj} {ρ:Go.Shelf.Ren} {t:Ty} {g:gC} {Q:t.den->Prop} {cf:t.den->t.den->Int}
theorem agU{α:Type} [Inhabited α] (enc:α->List Value) (k:Nat) (w:cO) (BE m:Nat) (dk:Array α) (os:Array Obj) {b:Nat} (hb:b < w.heap.size) (jk:b≠BE):(sortWorldK enc k w BE 0 m dk os).heap[b]? =w.heap[b]? :=by
 show((w.heap.modify BE _)++os)[b]? =_
 rw[lV,if_pos (by simpa using hb),Array.getElem?_modify,if_neg (λe=>jk e.symm)]
theorem aSz{α:Type} [Inhabited α] (enc:α->List Value) (k:Nat) (w:cO) (BE m:Nat) (dk:Array α) (os:Array Obj) {cur:Array Value} {e:TypeId} {fr:Nat×Nat} (hb:w.heap[BE]? =av (.cells cur e fr)):
  (sortWorldK enc k w BE 0 m dk os).heap[BE]? =av (.cells (putCells id 0 (flatK enc k dk) cur) e fr):=by
 have fF:BE < w.heap.size:=(cS.1 hb).1;show((w.heap.modify BE _)++os)[BE]? =_
 rw[lV,if_pos (by simpa using fF),Array.getElem?_modify,if_pos rfl,hb];rfl
set_option maxHeartbeats 1000000 in
theorem aOc(L:SlLaysF0.n6 P ρ){e:TypeId}(ha:t.agg=bm)(aE:∀w,(isAgg (ρ.t 24)).run P w= .ok bm w)(zE:∀w,(Go.sizeOf (ρ.t 24)).run P w= .ok t.size w)(hc:aV7 P t g Q cf):
  tD P (ρ.f 6) (aSt g e t Q cf):=by
 intro w γ β args dh l9 x hv ho hx;obtain⟨d0,aYx,aXz⟩:∃d,VM g e t d=(args,dh)/\agS Q cf d:=by
  by_cases hh:∃d,VM g e t d=(args,dh)/\agS Q cf d
  ·exact hh
  ·exfalso;have hn:(aSt g e t Q cf).run args dh=aH:=ET hh;rw[hn]at hx;cases hx
 have hr:=aCj (g:=g) (e:=e) aXz;unfold apv at hr;rw[aYx]at hr;obtain rfl:x=(d0.1,RZ cf d0.2):=bf (hx.symm.trans hr);obtain⟨n,l⟩:=d0;simp only[VM,de]at aYx;obtain⟨rfl,rfl⟩:=aYx;obtain⟨hn,AL,hQ,hT⟩:=aXz;have hn:n=l.length:=hn;subst hn
 match l9,hv with
 |[y1,y2],⟨aTq,YZ,_⟩=>
 obtain⟨vs,rfl,ar8⟩:=arP YZ;have ar8:vs=[]:=by simpa only[VC]using ar8
 subst ar8;have h1:=aTq.single rfl rfl;simp only[V]at h1;obtain⟨a,cap,h1,anj,w6,_,im⟩:=h1;have h1:y1= .slice a l.length cap:=by simpa using h1
 subst h1;have dQ:(iw [eJ.obj 0 aZ (.vec e t l)]).cJ (.bP 0)=av (.obj 0 aZ (.vec e t l)):=rfl;obtain⟨hz,hO⟩:aT0 ((iw [eJ.obj 0 aZ (.vec e t l)]).env w γ β) (.bP 0) aZ e t l:=ho (.bP 0) 0 aZ _ dQ;have im:=im ⟨aZ,_,dQ⟩;refine .inl ⟨L.f6.enters rfl _ _,?_⟩;have bca:∀v:Value,v= .tuple #[]->VS ((jf.st ⟨.nil,[.obj 0 aZ (.vec e t (RZ cf l))],[]⟩).env w γ β) .nil v:=λv hv=>by rw[hv];exact rfl
 have hS:=apw hc hQ;by_cases hl:l=[]
 ·subst hl;have hs:RZ cf ([]:List t.den)=[]:=bJ hS.1.length_eq;refine(AnyF.slices_SortFunc_none L a cap _ w).mono λe' w' he=> ?_
  obtain⟨rfl,rfl⟩:=he;refine⟨_,rfl,?_⟩;show Bh _ (⟨.nil,[.obj 0 aZ (.vec e t (RZ cf []))],[]⟩:jf) _ _;rw[hs];exact Bh.same rfl ho
 ·have vi:0 < l.length:=List.length_pos_iff.2 hl
  change (match β (.bP 0) with | none=>l=[] | some pl=>∃cur k,w.heap[pl.b]? =av (.cells cur e (0,0))/\cur.size=pl.cap*t.size/\l.length<=pl.cap/\pl.cap<=maxLen/\γ pl.b= .own (.id (.bP 0)) k/\
   k<=l.length*t.size/\(aZ=aZ->k=0)/\bH (c9 ((iw [eJ.obj 0 aZ (.vec e t l)]).env w γ β) t) (cur.toList.take (l.length*t.size)) l) at hO
  change (match β (.bP 0) with | some pl=>(0 < l.length\/True->a=av ⟨pl.b,0,aH⟩)/\(True->True->cap=pl.cap) | none=>a=aH/\l.length=0/\cap=0) at im;cases hβ:β (.bP 0) with
  |none=>rw[hβ]at hO;exact absurd hO hl
  |some pl=>
  rw[hβ]at hO im;obtain⟨cur,k0,q1,q2,q3,q4,q5,_,q7,q8⟩:=hO;obtain rfl:=q7 rfl;obtain rfl:=im.1 (.inl vi);have hblk:pl.b < w.heap.size:=(cS.1 q1).1;obtain⟨R,hR⟩:∃R:List Value->t.den->Prop,R=c9 ((iw [eJ.obj 0 aZ (.vec e t l)]).env w γ β) t:=⟨_,rfl⟩;have hRm:∀c x,R c x->c9 ((iw [eJ.obj 0 aZ (.vec e t l)]).env w γ β) t c x:=by rw[hR];exact λ_ _ h=>h
  rw[<-hR]at q8;obtain⟨ps,p1,p2⟩:=SS (Q:=Q) q8 hQ;have aXA:ps.length=l.length:=by rw[<-p1,da]
  let α:= {p:List Value×t.den // R p.1 p.2/\Q p.2}
  have:0 < ps.length:=aq
  letI:Inhabited α:=⟨ps[0]⟩
  let enc:α->List Value:=λp=>p.1.1
  let cf':α->α->Int:=λp q=>cf p.1.2 q.1.2
  have hk:∀x,(enc x).length=t.size:=λx=>(hRm _ _ x.2.1).size
  have hO:SWO (ltOf cf'):=⟨λx=>by simpa[ltOf,cf']using hc.irrefl _ x.2.2,λx y z h1 h2=>by
   simp only[ltOf,bt,cf']at*;exact hc.trans _ _ _ x.2.2 y.2.2 z.2.2 h1 h2,λx y z h1 h2=>by
   simp only[ltOf,gA,cf']at*;exact hc.ntrans _ _ _ x.2.2 y.2.2 z.2.2 h1 h2⟩
  have Lr:∀j,j < l.length*t.size->cur[j]? =((ps.map enc).flatten)[j]? :=λj hj=>by have:(ps.map enc).flatten=cur.toList.take (l.length*t.size):=p2;rw[this,dY,if_pos hj,jh]
  have hH:HoldsK enc t.size w pl.b 0 ps.toArray:=λj hj=>by
   rw[size_flatK]at hj;have hj:j < ps.length*t.size:=by simpa using hj
   have h2:=Lr j (by rw[<-aXA];exact hj);have h3:((flatK enc t.size ps.toArray).toList)[j]? =((ps.map enc).flatten)[j]? :=by rw[Q0 enc hk]
   rw[jh,fU (by rw[size_flatK];simpa using hj)]at h3;refine⟨?_,?_⟩
   ·show(match w.heap[pl.b]? with | some (.cells c _ _)=>if(aH:Option _).isSome then aH else c[0+j]? | _=>aH)=_;rw[q1];simp only[ph,bG,bC,aV];rw[h2,<-h3,mP _ j (by rw[size_flatK];simpa using hj)];rfl
   ·show(match w.heap[pl.b]? with | some (.cells _ _ (lo,hi))=>decide (lo<=0+j) && decide (0+j < hi) | _=>aZ)=aZ;rw[q1];simp
  have w5:∀(m:Nat) (dk:Array α) (os:Array Obj),wH ((iw [eJ.obj 0 aZ (.vec e t l)]).env w γ β) ((iw []).env (sortWorldK enc t.size w pl.b 0 m dk os) (λ_=> .free) (λ_=>aH)):=λm dk os=>by
   refine⟨λb off v hh=>⟨?_,trivial⟩,λb ob hf qF=>⟨rfl,?_⟩⟩
   ·obtain⟨h1,h2⟩:=hh;have hb:b < w.heap.size:=World.block_lt_of_cell? _ _ h1;have jk:b≠pl.b:=λe=>by have h2:Am γ b off:=h2;unfold Am at h2;rw[e,q5]at h2;exact Nat.not_lt_zero _ h2
    have h1:w.cell? ⟨b,off,aH⟩=av v:=h1;show(sortWorldK enc t.size w pl.b 0 m dk os).cell? ⟨b,off,aH⟩=av v;simpa only[World.cell?,agU enc t.size w pl.b m dk os hb jk]using h1
   ·have qF:w.heap[b]? =av ob:=qF
    have hb:b < w.heap.size:=(cS.1 qF).1;have jk:b≠pl.b:=λe=>by have hf:γ b= .free:=hf;rw[e,q5]at hf;cases hf
    exact(agU enc t.size w pl.b m dk os hb jk).trans qF
  have aZs:CmpLays P g #[] enc t.size cf' pl.b 0 ps.toArray.size w:=λm os dk _ p q=>
   hc.aWY ha ((hRm _ _ p.2.1).mono (w5 m dk os)) ((hRm _ _ q.2.1).mono (w5 m dk os)) p.2.2 q.2.2
  have aW8:=AnyQ.slices_SortFunc L t.size aE zE enc hk (λp=>(hRm _ _ p.2.1).one) cf' hO g #[] pl.b 0 cap ps.toArray w hc.enters aZs hH hblk (by simpa[aXA]using AL);rw[show ps.toArray.size=l.length by simpa using aXA]at aW8;refine aW8.mono λe' w' he=> ?_
  obtain⟨rfl,d',m,os,hp,hs,rfl⟩:=he;refine⟨_,rfl,?_⟩;obtain⟨s1,_,s2⟩:=hp;have hd:d'.size=l.length:=by rw[s1];simpa using aXA
  have ar0:d'.toList.Perm ps:=by
   have e1:(d'.extract 0 l.length)=d':=by rw[<-hd];simp
   have e2:(ps.toArray.extract 0 l.length)=ps.toArray:=by rw[<-aXA];simp
   rw[e1,e2]at s2;exact s2
  have hl':aHZ cf l (d'.toList.map (·.1.2)):=by refine⟨by rw[<-p1];exact ar0.map _,?_⟩;rw[List.pairwise_map,List.pairwise_iff_getElem];intro i j hi hj aYD;have:=hs i j (aL _) aYD (by rw[<-hd];simpa using hj);rw[mP d' i (by simpa using hi),mP d' j (by simpa using hj)]at this;simpa[ltOf,cf']using this
  have heq:=R0 hc hQ hT hl';show Bh _ (⟨.nil,[.obj 0 aZ (.vec e t (RZ cf l))],[]⟩:jf) _ _;rw[<-heq];have vU:=aSz enc t.size w pl.b m d' os q1;have hFs:(flatK enc t.size d').size<=cur.size:=by rw[size_flatK,hd,q2];exact dE _ q3
  have anp:∀b,b < w.heap.size->b≠pl.b->(sortWorldK enc t.size w pl.b 0 m d' os).heap[b]? =w.heap[b]? :=λb hb jk=>agU enc t.size w pl.b m d' os hb jk
  have aKq:w.heap.size<=(sortWorldK enc t.size w pl.b 0 m d' os).heap.size:=size_sortWorldK_c enc t.size w pl.b 0 m d' os;have hw:(sortWorldK enc t.size w pl.b 0 m d' os).os=w.os/\(sortWorldK enc t.size w pl.b 0 m d' os).tape=w.tape/\((sortWorldK enc t.size w pl.b 0 m d' os).output=w.output/\w.drawn<=(sortWorldK enc t.size w pl.b 0 m d' os).drawn):=⟨rfl,rfl,rfl,Nat.le_add_right _ _⟩;generalize sortWorldK enc t.size w pl.b 0 m d' os=w' at vU anp aKq hw;have ht:Trans w w' γ γ:=by
   refine⟨hw.1,hw.2.1,hw.2.2,aKq,λb hb=> ?_⟩;by_cases aZo:b=pl.b
   ·subst aZo;rw[q5];exact⟨.inr ⟨_,0,rfl,az _⟩,λ_ _ hh=>aq⟩
   ·rw[anp b hb aZo];cases adm:γ b with
    |free=>exact⟨rfl,rfl⟩
    |own o' k=>cases o' with
     |gf=>exact⟨rfl,rfl⟩
     |id i'=>exact⟨.inr ⟨i',k,rfl,az _⟩,λoff v _ hv=>by simpa only[World.cell?,anp b hb aZo]using hv⟩
  have hle:dI ((iw [eJ.obj 0 aZ (.vec e t l)]).env w γ β) ((jf.st ⟨.nil,[.obj 0 aZ (.vec e t (d'.toList.map (·.1.2)))],[]⟩).env w' γ β):=by
   have e0:∀id,(∃c,(iw [eJ.obj 0 aZ (.vec e t l)]).cJ id=av (.obj 0 aZ c)/\id= .bP 0)\/((iw [eJ.obj 0 aZ (.vec e t l)]).cJ id=aH/\(jf.st ⟨.nil,[.obj 0 aZ (.vec e t (d'.toList.map (·.1.2)))],[]⟩).cJ id=aH):=λid=>by
    cases id with
    |bP k=>cases k with
     |zero=>exact .inl ⟨_,rfl,rfl⟩
     |succ k=>exact .inr ⟨rfl,rfl⟩
    |new i j=>refine .inr ⟨?_,?_⟩ <;> cases i <;> rfl
   refine⟨Trans.mem (E:=(iw [eJ.obj 0 aZ (.vec e t l)]).env w γ β) (E':=(jf.st ⟨.nil,[.obj 0 aZ (.vec e t (d'.toList.map (·.1.2)))],[]⟩).env w' γ β) ht,λid ver hb=> ?_,λid ver hb bbQ=> ?_⟩
   ·rcases e0 id with⟨c,_,rfl⟩ | ⟨h1,_⟩
    ·refine⟨by show(av _:Option eJ)≠aH;simp,λv fr c h=> ?_⟩;have h:av (eJ.obj 0 aZ (.vec e t (d'.toList.map (·.1.2))))=av (.obj v fr c):=h;simp only[ax,eJ.obj.injEq]at h;have:=hb.2 0 aZ _ rfl;omega
    ·exact absurd h1 hb.1
   ·rcases e0 id with⟨c,_,rfl⟩ | ⟨h1,_⟩
    ·obtain⟨fr,c,h⟩:=bbQ;have h:av (eJ.obj 0 aZ (.vec e t (d'.toList.map (·.1.2))))=av (.obj ver fr c):=h;simp only[ax,eJ.obj.injEq]at h;obtain⟨rfl,rfl,_⟩:=h;exact⟨⟨aZ,_,rfl⟩,rfl⟩
    ·exact absurd h1 hb.1
  refine⟨γ,β,rfl,λid ver fr c h=> ?_,ht,hle⟩;have dL:id= .bP 0/\ver=0/\fr=aZ/\c= .vec e t (d'.toList.map (·.1.2)):=by
   cases id with
   |bP k=>cases k with
    |zero=>
     have h:av (eJ.obj 0 aZ (.vec e t (d'.toList.map (·.1.2))))=av (.obj ver fr c):=h;simp only[ax,eJ.obj.injEq]at h;obtain⟨rfl,rfl,rfl⟩:=h;exact⟨rfl,rfl,rfl,rfl⟩
    |succ k=>cases h
   |new i j=>cases i <;> cases h
  obtain⟨rfl,rfl,rfl,rfl⟩:=dL;refine⟨hz,?_⟩;show(match β (.bP 0) with | none=>(d'.toList.map (·.1.2))=[] | some pl=>_);rw[hβ];have hlen:(d'.toList.map (λp:α=>p.1.2)).length=l.length:=by simpa using hd
  refine⟨_,0,vU,?_,by rw[hlen];exact q3,q4,q5,aL _,λ_=>rfl,?_⟩
  ·rw[<-q2];simp[putCells]
  ·have e3:(putCells id 0 (flatK enc t.size d') cur).toList.take ((d'.toList.map (λp:α=>p.1.2)).length*t.size)=(d'.toList.map enc).flatten:=by
    rw[aMF hFs,Q0 enc hk,hlen];have e4:((d'.toList.map enc).flatten).length=l.length*t.size:=by rw[<-Q0 enc hk,dv,size_flatK,hd]
    rw[<-e4,List.take_left]
   rw[e3];exact Ue (Q:=Q) (λc x h=>(hRm c x h).mono hle.mem) d'.toList
end
end Go.Ab
namespace Go.Ab
open Go.Proofs
theorem aIf(t:Ty)(x:t.den)(h:t.comp=bm):t.beq x x=bm:=beq_refl t x h
theorem aPq(t:Ty)(hc:t.comp=bm)(x y:t.den) [Decidable (x=y)]:t.beq x y=decide (x=y):=by
 by_cases h:x=y
 ·subst h;rw[aX rfl,aIf t x hc]
 ·rw[bo h];cases hb:t.beq x y
  ·rfl
  ·exact absurd (beq_eq t x y hc hb) h
theorem aT5(x y:cz):Ty.beq bQ x y=decide (x=y):= @aPq bQ rfl x y (inferInstanceAs (Decidable (x=y)))
def zP(x:ji):Bool:=decide (x.2.1.2.1.length<=14)
def zO(b:nR):Bool:=decide (b.1.length<=14)
def uf(o:jV):Bool:=decide (o.2.1.1.length<=6) && o.2.1.1.all zO
def qp(t:dM):Bool:=decide (t.1.length<=66/\t.2.1.length<=66) && (t.1.all zP && t.2.1.all uf)
abbrev tZ:=dM×Int
def lO:tZ->AS:=λ(fP,i)=>⟨([bE,.dz dU fP,bE,.d ti i]++aW 69 []),[],(ai 73 [])⟩
def mw:Unit->Exit×AS:=λx=>(.ret,⟨([bE,bE,.d .bool aZ]++aW 70 []),[],(ai 73 [])⟩)
def uM:dM->Exit×AS:=λx=>(.exit 0,⟨([bE,.dz dU x]++aW 71 []),[],(ai 73 [])⟩)
abbrev GL:=(Unit)⊕(dM)
abbrev PW:=(Unit)⊕(Unit)
def A8:GL->Out (Exit×AS):=λx=> .br x.isLeft (.get x.getLeft? λa=> .ok (mw a)) (.get x.getRight? λb=> .ok (uM b))
def jb:tZ->PW->GL:=λ(fP,i) y=>match y with | .inl y=> .inl y | .inr z=> .inr (fP)
abbrev ua:=dM×Int
def lP:ua->AS:=λ(lS,fk)=>⟨([bE,.dz dU lS,bE,bE,.d ti fk]++aW 68 []),[],(ai 73 [])⟩
def jd:Unit->Exit×AS:=λx=>(.ret,⟨([bE,bE,.d .bool aZ]++aW 70 []),[],(ai 73 [])⟩)
def uO:Unit->Exit×AS:=λx=>(.exit 2,⟨(aW 73 []),[],(ai 73 [])⟩)
abbrev GN:=(Unit)⊕(Unit)
abbrev PY:=(Unit)⊕(Unit)
def A9:GN->Out (Exit×AS):=λx=> .br x.isLeft (.get x.getLeft? λa=> .ok (jd a)) (.get x.getRight? λb=> .ok (uO b))
def jc:ua->PY->GN:=λ(lS,fk) y=>match y with | .inl y=> .inl y | .inr z=> .inr (z)
abbrev uc:=dM×Int×Int
def lQ:uc->AS:=λ(G7,Gg,kv)=>⟨([bE,.dz dU G7,bE,bE,.d ti Gg,.d ti kv]++aW 67 []),[],(ai 73 [])⟩
def my:Unit->Exit×AS:=λx=>(.ret,⟨([bE,bE,.d .bool aZ]++aW 70 []),[],(ai 73 [])⟩)
def uQ:(dM×Int)->Exit×AS:=λx=>(.exit 4,⟨([bE,.dz dU x.1,bE,bE,.d ti x.2]++aW 68 []),[],(ai 73 [])⟩)
abbrev GP:=(Unit)⊕((dM×Int))
abbrev P0:=(Unit)⊕(Unit)
def Ba:GP->Out (Exit×AS):=λx=> .br x.isLeft (.get x.getLeft? λa=> .ok (my a)) (.get x.getRight? λb=> .ok (uQ b))
def je:uc->P0->GP:=λ(G7,Gg,kv) y=>match y with | .inl y=> .inl y | .inr z=> .inr ((G7,Gg))
def uL:tZ->Prop:=λ(t,i)=>t.1.length<=1000000000/\∃k:Nat,k<=t.1.length/\i=k
def kP:tZ->PW:=λ(t,i)=>if(bD (ab i) t.1).all zP then .inr () else .inl ()
def uP:uc->Prop:=λ(t,j,i)=>(nth fi t.2.1 (ab j)).2.1.1.length<=1000000000/\∃k:Nat,k<=(nth fi t.2.1 (ab j)).2.1.1.length/\i=k/\(0<=j/\j < (t.2.1.length:Int))
def kR:uc->P0:=λ(t,j,i)=>if(bD (ab i) (nth fi t.2.1 (ab j)).2.1.1).all zO then .inr () else .inl ()
def uN:ua->Prop:=λ(t,i)=>t.2.1.length<=1000000000/\∃k:Nat,k<=t.2.1.length/\i=k
def kQ:ua->PY:=λ(t,i)=>if(bD (ab i) t.2.1).all uf then .inr () else .inl ()
def aoJ:dM->Prop:=λ_=>True
def RJ:dM->Bool:=λt=>qp t
def PV:=dB.e7 lO uL jb kP A8
def HW:tZ->Option GL:=fS PV lO
def PX:=dB.e7 lP uN jc kQ A9
def HY:ua->Option GN:=fS PX lP
def PZ:=dB.e7 lQ uP je kR Ba
def H0:uc->Option GP:=fS PZ lQ
def gv:Fs Tryz.prog aoJ bq RJ:=eV 55 Tryz.f55 (λt=>([.d dU t],[])) (λx=>⟨.d .bool x,[],[]⟩) [av dU] [] {loops:=lz [(4,{bg:=[1,3]}),(9,{bg:=[1,4]}),(14,{bg:=[1,4,5]})],outs:=lu [(4,{bg:=[1]},{bg:=[2]}),(9,{},{bg:=[2]}),(14,{bg:=[1,4]},{bg:=[2]})],fa:=mc [(4,PV),(9,PX),(14,PZ)]}
def GK:= @ej Tryz.prog (jr gv.G) gv.an 0 Tryz.f55 0 _ lO
abbrev Mu:=jj Tryz.prog (jr gv.G) gv.an 0 Tryz.f55 0 lO uL jb kP A8
def GM:= @ej Tryz.prog (jr gv.G) gv.an 0 Tryz.f55 1 _ lP
abbrev Mw:=jj Tryz.prog (jr gv.G) gv.an 0 Tryz.f55 1 lP uN jc kQ A9
def GO:= @ej Tryz.prog (jr gv.G) gv.an 0 Tryz.f55 2 _ lQ
abbrev My:=jj Tryz.prog (jr gv.G) gv.an 0 Tryz.f55 2 lQ uP je kR Ba
theorem abc:ik HW uL jb kP:=jX (jA [.d dU,.d ti] λ_=>cd)
theorem Mv:ma @GK lO uL jb kP A8 Mu:=mJ
theorem HX(fP i)(kn:K2 R)(kx:K3 R):GK (fP,i) kn kx=aJ (fv i (((ae fP.1):Nat):Int)) (aJ (eA i (((ae fP.1):Nat):Int)) (aJ (xW (((ae (nth fo fP.1 (ab i)).2.1.2.1):Nat):Int) (14:Int)) (kx (mw ()).1 (mw ()).2) (kn (lO (fP,(bz .i64 i (1:Int)))))) aH) (kx (uM fP).1 (uM fP).2):=cd
theorem abd:ik HY uN jc kQ:=jX (jA [.d dU,.d ti] λ_=>cd)
theorem Mx:ma @GM lP uN jc kQ A9 Mw:=mJ
theorem HZ(lS fk)(kn:K2 R)(kx:K3 R):GM (lS,fk) kn kx=aJ (fv fk (((ae lS.2.1):Nat):Int)) (aJ (eA fk (((ae lS.2.1):Nat):Int)) (aJ (xW (((ae (nth fi lS.2.1 (ab fk)).2.1.1):Nat):Int) (6:Int)) (kx (jd ()).1 (jd ()).2) (ao (H0 (lS,fk,(0:Int))) λx1=>aJ x1.isLeft (ao x1.getLeft? λa2=>kx (jd ()).1 (jd ()).2) (ao x1.getRight? λb3=>kn (lP (b3.1,(bz .i64 b3.2 (1:Int))))))) aH) (kx (uO ()).1 (uO ()).2):=cd
theorem abe:ik H0 uP je kR:=jX (jA [.d dU,.d ti,.d ti] λ_=>cd)
theorem Mz:ma @GO lQ uP je kR Ba My:=mJ
theorem H2(G7 Gg kv)(kn:K2 R)(kx:K3 R):GO (G7,Gg,kv) kn kx=aJ (eA Gg (((ae G7.2.1):Nat):Int)) (aJ (fv kv (((ae (nth fi G7.2.1 (ab Gg)).2.1.1):Nat):Int)) (aJ (eA Gg (((ae G7.2.1):Nat):Int)) (aJ (eA kv (((ae (nth fi G7.2.1 (ab Gg)).2.1.1):Nat):Int)) (aJ (xW (((ae (nth jE (nth fi G7.2.1 (ab Gg)).2.1.1 (ab kv)).1):Nat):Int) (14:Int)) (kx (my ()).1 (my ()).2) (kn (lQ (G7,Gg,(bz .i64 kv (1:Int)))))) aH) aH) (kx (uQ (G7,Gg)).1 (uQ (G7,Gg)).2)) aH:=cd
theorem atK(t)(k:K1 R):gv.A t k=aJ (xW (t.1.length:Int) 66) (k (gv.out aZ)) (aJ (xW (t.2.1.length:Int) 66) (k (gv.out aZ)) (ao (HW (t,0)) λx1=>aJ x1.isLeft (ao x1.getLeft? λa2=>k (gv.out aZ)) (ao x1.getRight? λb3=>ao (HY (b3,0)) λx7=>aJ x7.isLeft (ao x7.getLeft? λa8=>k (gv.out aZ)) (ao x7.getRight? λb9=>k (gv.out bm))))):=cd
theorem afu:Mu:=by
 refine Mv (λ(t,i)=>t.1.length - ab i) ?_
 rintro⟨t,i⟩ ⟨hlen,k,hk,rfl⟩;have hlen:t.1.length<=1000000000:=hlen;have hk:k<=t.1.length:=hk;by_cases h:k < t.1.length
 ·have n1:nth fo t.1 k=t.1[k]:=bY (t:=fo) h;have hd:(bD k t.1).all zP=(zP t.1[k] && (bD (k+1) t.1).all zP):=by rw[au h,gg]
  have step:∀ {R:Type} (kn:AS->Option R) (kx:Exit->AS->Option R),GK (t,(k:Int)) kn kx=aJ (zP t.1[k]) (kn (lO (t,((k+1:Nat):Int)))) (kx (mw ()).1 (mw ()).2):=by
   intro R kn kx;rw[HX,aS aq,ba (show(0:Int)<=(k:Int) by omega) aq,aa,n1];simp only[aj];rw[N.jL aq];unfold zP;by_cases hs:t.1[k].2.1.2.1.length<=14
   ·rw[cI aq,aX hs];rfl
   ·rw[dw aq,bo hs];rfl
  cases hp:zP t.1[k]
  ·right;refine⟨mw (),?_,λkn kx=> ?_⟩
   ·simp only[jb,kP,aa,hd,hp,dA,bG,bC];rfl
   ·rw[step,hp,al]
  ·left;refine⟨(t,((k+1:Nat):Int)),⟨hlen,k+1,aq,rfl⟩,by simp only[aa];omega,?_,λkn kx=> ?_⟩
   ·simp only[jb,kP,aa,hd,hp,bM]
   ·rw[step,hp,aj]
 ·right;obtain rfl:k=t.1.length:=aq;refine⟨uM t,?_,λkn kx=> ?_⟩
  ·simp only[jb,kP,aa,aI];rfl
  ·rw[HX,aQ aq,al]
theorem afw:My:=by
 refine Mz (λ(t,j,i)=>(nth fi t.2.1 (ab j)).2.1.1.length - ab i) ?_
 rintro⟨t,j,i⟩ ⟨hlen,k,hk,rfl,hj⟩;have hlen:(nth fi t.2.1 (ab j)).2.1.1.length<=1000000000:=hlen;have hk:k<=(nth fi t.2.1 (ab j)).2.1.1.length:=hk;have hj:0<=j/\j < (t.2.1.length:Int):=hj;by_cases h:k < (nth fi t.2.1 (ab j)).2.1.1.length
 ·have n1:nth jE (nth fi t.2.1 (ab j)).2.1.1 k=(nth fi t.2.1 (ab j)).2.1.1[k]:=bY (t:=jE) h;have hd:(bD k (nth fi t.2.1 (ab j)).2.1.1).all zO=(zO (nth fi t.2.1 (ab j)).2.1.1[k] && (bD (k+1) (nth fi t.2.1 (ab j)).2.1.1).all zO):=by rw[au h,gg]
  have step:∀ {R:Type} (kn:AS->Option R) (kx:Exit->AS->Option R),GO (t,j,(k:Int)) kn kx=aJ (zO (nth fi t.2.1 (ab j)).2.1.1[k]) (kn (lQ (t,j,((k+1:Nat):Int)))) (kx (my ()).1 (my ()).2):=by
   intro R kn kx;rw[H2,ba hj.1 hj.2,aj,aS aq,ba (show(0:Int)<=(k:Int) by omega) aq,aa,n1];simp only[aj];rw[N.jL aq];unfold zO;by_cases hs:(nth fi t.2.1 (ab j)).2.1.1[k].1.length<=14
   ·rw[cI aq,aX hs];rfl
   ·rw[dw aq,bo hs];rfl
  cases hp:zO (nth fi t.2.1 (ab j)).2.1.1[k]
  ·right;refine⟨my (),?_,λkn kx=> ?_⟩
   ·simp only[je,kR,aa,hd,hp,dA,bG,bC];rfl
   ·rw[step,hp,al]
  ·left;refine⟨(t,j,((k+1:Nat):Int)),⟨hlen,k+1,aq,rfl,hj⟩,by simp only[aa];omega,?_,λkn kx=> ?_⟩
   ·simp only[je,kR,aa,hd,hp,bM]
   ·rw[step,hp,aj]
 ·right;obtain rfl:k=(nth fi t.2.1 (ab j)).2.1.1.length:=aq;refine⟨uQ (t,j),?_,λkn kx=> ?_⟩
  ·simp only[je,kR,aa,aI];rfl
  ·rw[H2,ba hj.1 hj.2,aj,aQ aq,al]
theorem afv:Mw:=by
 refine Mx (λ(t,i)=>t.2.1.length - ab i) ?_
 rintro⟨t,i⟩ ⟨hlen,k,hk,rfl⟩;have hlen:t.2.1.length<=1000000000:=hlen;have hk:k<=t.2.1.length:=hk;by_cases h:k < t.2.1.length
 ·have n1:nth fi t.2.1 k=t.2.1[k]:=bY (t:=fi) h;have hd:(bD k t.2.1).all uf=(uf t.2.1[k] && (bD (k+1) t.2.1).all uf):=by rw[au h,gg]
  have step:∀ {R:Type} (kn:AS->Option R) (kx:Exit->AS->Option R),GM (t,(k:Int)) kn kx=aJ (uf t.2.1[k]) (kn (lP (t,((k+1:Nat):Int)))) (kx (jd ()).1 (jd ()).2):=by
   intro R kn kx;rw[HZ,aS aq,ba (show(0:Int)<=(k:Int) by omega) aq,aa,n1];simp only[aj];unfold uf;by_cases hs:t.2.1[k].2.1.1.length<=6
   ·rw[cI aq,aX hs,al,abe (d:=(t,(k:Int),0)) ⟨by rw[aa,n1];show t.2.1[k].2.1.1.length<=_;omega,0,aL _,rfl,by show(0:Int)<=(k:Int);omega,by show(k:Int) < (t.2.1.length:Int);omega⟩];simp only[ag,je,kR,aa,n1,aT,ay,bM];cases t.2.1[k].2.1.1.all zO
    ·rfl
    ·simp only[bO,db,cC,al,ag,aj];rw[N.jL aq]
   ·rw[dw aq,bo hs];rfl
  cases hp:uf t.2.1[k]
  ·right;refine⟨jd (),?_,λkn kx=> ?_⟩
   ·simp only[jc,kQ,aa,hd,hp,dA,bG,bC];rfl
   ·rw[step,hp,al]
  ·left;refine⟨(t,((k+1:Nat):Int)),⟨hlen,k+1,aq,rfl⟩,by simp only[aa];omega,?_,λkn kx=> ?_⟩
   ·simp only[jc,kQ,aa,hd,hp,bM]
   ·rw[step,hp,aj]
 ·right;obtain rfl:k=t.2.1.length:=aq;refine⟨uO (),?_,λkn kx=> ?_⟩
  ·simp only[jc,kQ,aa,aI];rfl
  ·rw[HZ,aQ aq,al]
theorem atL:gv.Ok:=by
 intro t _;rw[atK];simp only[bq,RJ,qp];by_cases h1:t.1.length<=66
 ·by_cases h2:t.2.1.length<=66
  ·rw[cI aq,cI aq,al,al,aX ⟨h1,h2⟩,abc (d:=(t,0)) ⟨by show t.1.length<=_;omega,0,aL _,rfl⟩];simp only[ag,jb,kP,aT,ay,bM];cases t.1.all zP
   ·rfl
   ·simp only[bO,db,cC,al,ag,bM];rw[abd (d:=(t,0)) ⟨by show t.2.1.length<=_;omega,0,aL _,rfl⟩];simp only[ag,jc,kQ,aT,ay];cases t.2.1.all uf <;> rfl
  ·rw[cI aq,dw aq,bo (λx=>h2 x.2)];rfl
 ·rw[dw aq,bo (λx=>h1 x.1)];rfl
theorem UK:gv.RS:=rE [.d dU] gv
def ZO:=gv.eY atL 3 ⟨.e7 afu,⟨.e7 afv,⟨.e7 afw,trivial⟩⟩⟩
abbrev rD:=(List cz)×(List cz)×Int
def kf:rD->AS:=λ(Dd,eU,i)=>⟨([.d (.slice bQ) Dd,.d (.slice bQ) eU,bE,bE,bE,.d ti i]++aW 20 []),[],(ai 26 [])⟩
def lr:Unit->Exit×AS:=λx=>(.ret,⟨(aW 4 ([.d .bool aZ]++aW 21 [])),[],(ai 26 [])⟩)
def sN:Unit->Exit×AS:=λx=>(.exit 0,⟨(aW 26 []),[],(ai 26 [])⟩)
abbrev Ec:=(Unit)⊕(Unit)
abbrev Mm:=(Unit)⊕(Unit)
def yy:Ec->Out (Exit×AS):=λx=> .br x.isLeft (.get x.getLeft? λa=> .ok (lr a)) (.get x.getRight? λb=> .ok (sN b))
def iE:rD->Mm->Ec:=λ(Dd,eU,i) y=>match y with | .inl y=> .inl y | .inr z=> .inr (z)
abbrev ZN:=(List cz)×(List cz)
def sM:rD->Prop:=λ(a,b,i)=>a.length<=1000000000/\a.length=b.length/\∃k:Nat,k<=a.length/\i=k
def jT:rD->Mm:=λ(a,b,i)=>if bD (ab i) a=bD (ab i) b then .inr () else .inl ()
def aiz:ZN->Prop:=λ(a,b)=>a.length<=1000000000
def Mj:ZN->Bool:=λ(a,b)=>decide (a=b)
def Ml:=dB.e7 kf sM iE jT yy
def Fh:rD->Option Ec:=fS Ml kf
def iD:Fs Tryz.prog aiz bq Mj:=eV 20 Tryz.f20 (λ(a,b)=>([.d (.slice bQ) a,.d (.slice bQ) b],[])) (λx=>⟨.d .bool x,[],[]⟩) [av (.slice bQ),av (.slice bQ)] [] {loops:=lz [(4,{bg:=[0,1,5]})],outs:=lu [(4,{},{bg:=[4]})],fa:=mc [(4,Ml)]}
def Eb:= @ej Tryz.prog (jr iD.G) iD.an 0 Tryz.f20 0 _ kf
abbrev J8:=jj Tryz.prog (jr iD.G) iD.an 0 Tryz.f20 0 kf sM iE jT yy
theorem Xo:ik Fh sM iE jT:=jX (jA [.d (.slice bQ),.d (.slice bQ),.d ti] λ_=>cd)
theorem KB:ma @Eb kf sM iE jT yy J8:=mJ
theorem Fi(Dd eU i)(kn:K2 R)(kx:K3 R):Eb (Dd,eU,i) kn kx=aJ (fv i (((ae Dd):Nat):Int)) (aJ (eA i (((ae Dd):Nat):Int)) (aJ (eA i (((ae eU):Nat):Int)) (aJ (!(Ty.beq bQ (nth bQ Dd (ab i)) (nth bQ eU (ab i)))) (kx (lr ()).1 (lr ()).2) (kn (kf (Dd,eU,(bz .i64 i (1:Int)))))) aH) aH) (kx (sN ()).1 (sN ()).2):=cd
theorem aoF(a b)(k:K1 R):iD.A (a,b) k=aJ (C3 (a.length:Int) (b.length:Int)) (k (iD.out aZ)) (ao (Fh (a,b,0)) λx1=>aJ x1.isLeft (ao x1.getLeft? λa2=>k (iD.out aZ)) (ao x1.getRight? λb3=>k (iD.out bm))):=cd
theorem aa8:J8:=by
 refine KB (λ(a,b,i)=>a.length - ab i) ?_
 rintro⟨a,b,i⟩ ⟨hlen,ap4,k,hk,rfl⟩;have hlen:a.length<=1000000000:=hlen;have ap4:a.length=b.length:=ap4;have hk:k<=a.length:=hk;by_cases h:k < a.length
 ·have h2:k < b.length:=aq;have n1:nth bQ a k=a[k]:=bY (t:=bQ) h;have n2:nth bQ b k=b[k]:=bY (t:=bQ) h2;have hd:(bD k a=bD k b)=(a[k]=b[k]/\bD (k+1) a=bD (k+1) b):=by rw[au h,au h2,cR]
  have step:∀ {R:Type} (kn:AS->Option R) (kx:Exit->AS->Option R),Eb (a,b,(k:Int)) kn kx=if a[k]=b[k] then kn (kf (a,b,((k+1:Nat):Int))) else kx (lr ()).1 (lr ()).2:=by
   intro R kn kx;rw[Fi,aS aq,ba aq aq,ba aq aq,aa,n1,n2];simp only[aj];rw[aT5,N.jL aq];by_cases hx:a[k]=b[k]
   ·rw[aX hx,if_pos hx];rfl
   ·rw[bo hx,if_neg hx];rfl
  by_cases hx:a[k]=b[k]
  ·left;refine⟨(a,b,((k+1:Nat):Int)),⟨hlen,ap4,k+1,aq,rfl⟩,by simp only[aa];omega,?_,λkn kx=> ?_⟩
   ·simp only[iE,jT,aa,hd,hx,lT]
   ·rw[step,if_pos hx]
  ·right;refine⟨lr (),?_,λkn kx=> ?_⟩
   ·simp only[iE,jT,aa,hd,hx,false_and,bC];rfl
   ·rw[step,if_neg hx]
 ·right;obtain rfl:k=a.length:=aq;refine⟨sN (),?_,λkn kx=> ?_⟩
  ·simp only[iE,jT,aa,aI];rw[ap4,aI,if_pos rfl];rfl
  ·rw[Fi,aQ aq,al]
theorem aoG:iD.Ok:=by
 rintro⟨a,b⟩ h;have h:a.length<=1000000000:=h;rw[aoF];simp only[bq,Mj];by_cases e3:a.length=b.length
 ·rw[dN aq,Xo (d:=(a,b,0)) ⟨h,e3,0,aL _,rfl⟩];simp only[ag,iE,jT,aT,ay,al];by_cases e4:a=b
  ·rw[if_pos e4,aX e4];rfl
  ·rw[if_neg e4,bo e4];rfl
 ·rw[fH aq,bo (λx=>e3 (by rw[x]))];rfl
theorem aiA:iD.RS:=rE [.d (.slice bQ),.d (.slice bQ)] iD
def aoH:=iD.eY aoG 1 ⟨.e7 aa8,trivial⟩
def aS2(t:dM):Prop:=(t.1.length<=1000/\∀x∈t.1,x.2.1.2.1.length<=1000000)/\t.2.1.length<=1000/\∀x∈t.2.1,x.2.1.1.length<=1000/\∀b∈x.2.1.1,b.1.length<=1000000
abbrev Jj:=dM×Int×(Int×Unit)×Nat×(Int×Unit)×(List ji)
abbrev UG:=Nat×(List ji)
def xv:Jj->UG->((dM×(Int×Unit)×(Int×Unit))×(Nat×(List ji))):=λ(fP,i,n2,aQ1,n3,n36) y=>((fP,n2,n3),y)
abbrev UH:=dM×Int×(Int×Unit)×Nat×Nat×(Int×Unit)×(List ji)×(List jV)
abbrev Jk:=dM×Int×Int×(Int×Unit)×Nat×Nat×(Int×Unit)×Int×Nat×(List ji)×(List nR)×(List jV)
abbrev UI:=Nat×(List nR)
def xw:Jk->UI->((dM×Int×(Int×Unit)×Nat×Nat×(Int×Unit)×Int×(List ji)×(List jV))×(Nat×(List nR))):=λ(G7,Gg,kv,vp,aeb,aec,axx,n7,akC,ad9,aVg,aem) y=>((G7,Gg,vp,aeb,aec,axx,n7,ad9,aem),y)
def afh:Jj->Prop:=λ(t,i,u,L,v,r)=>(t.1).length<=1000000/\∃k:Nat,k<=(t.1).length/\i=k/\L=(r).length/\(r).length<=1000000+k/\(∀x∈t.1,x.2.1.2.1.length<=1000000)
def CB:Jj->UG:=λ(t,i,u,L,v,r)=>(L+(bD (ab i) t.1).length,r++(bD (ab i) t.1).map (λx:ji=>x))
def afl:Jk->Prop:=λ(t,j,i,u,L4,L5,v,am,L,is,r,os)=>((nth fi t.2.1 (ab j)).2.1.1).length<=1000000/\∃k:Nat,k<=((nth fi t.2.1 (ab j)).2.1.1).length/\i=k/\L=(r).length/\(r).length<=1000000+k/\(0<=j/\j < (t.2.1.length:Int))/\(∀x∈(nth fi t.2.1 (ab j)).2.1.1,x.1.length<=1000000)
def CD:Jk->UI:=λ(t,j,i,u,L4,L5,v,am,L,is,r,os)=>(L+(bD (ab i) (nth fi t.2.1 (ab j)).2.1.1).length,r++(bD (ab i) (nth fi t.2.1 (ab j)).2.1.1).map (λx:nR=>x))
def afj:UH->Prop:=λ(t,i,u,L3,L,v,is,r)=>(t.2.1.length<=1000/\∀x∈t.2.1,x.2.1.1.length<=1000/\∀b∈x.2.1.1,b.1.length<=1000000)/\∃k:Nat,k<=t.2.1.length/\i=k/\L=r.length/\r.length=k
def CC:UH->((Int×Unit)×Nat×Nat×(Int×Unit)×(List ji)×(List jV)):=λ(t,i,u,L3,L,v,is,r)=>(u,L3,L+(t.2.1.drop i.toNat).length,v,is,r++t.2.1.drop i.toNat)
def atD:dM->Prop:=λt=>aS2 t
def akV:dM->(Nat×Nat×(Int×Unit)×(List ji)×(List jV)):=λt=>(t.1.length,t.2.1.length,(t.2.2.1,()),t.1,t.2.1)
def pH:Ls afh xv CB:=pD (λ(fP,i,n2,aQ1,n3,n36)=>⟨([bE,.dz dU fP,eP 2,eP 3,.d ti i]++aW 89 []),[],([[],[],dm (.pr (.dJ) (.pr (.dJ) (.d (.pair ti .unit) n2))),dm (.pr (jl 36 aQ1) (.pr (.dJ) (.d (.pair ti .unit) n3)))]++bw 32 ([dm (.vec 140 fo n36)]++bw 57 []))⟩) (λx=>(.exit 0,⟨([bE,.dz dU x.1.1,eP 2,eP 3]++aW 90 []),[],([[],[],dm (.pr (.dJ) (.pr (.dJ) (.d (.pair ti .unit) x.1.2.1))),dm (.pr (jl 36 x.2.1) (.pr (.dJ) (.d (.pair ti .unit) x.1.2.2)))]++bw 32 ([dm (.vec 140 fo x.2.2)]++bw 57 []))⟩))
def pI:Ls afj bq CC:=pD (λ(lS,fk,mW,asJ,asK,aLk,asI,aXT)=>⟨([bE,.dz dU lS,eP 2,eP 3,bE,bE,.d ti fk]++aW 87 []),[],([[],[],dm (.pr (.dJ) (.pr (.dJ) (.d (.pair ti .unit) mW))),dm (.pr (jl 36 asJ) (.pr (jl 91 asK) (.d (.pair ti .unit) aLk)))]++bw 32 ([dm (.vec 140 fo asI)]++bw 54 [dm (.vec 87 fi aXT),[],[]]))⟩) (λx=>(.exit 2,⟨([bE,bE,eP 2,eP 3]++aW 90 []),[],([[],[],dm (.pr (.dJ) (.pr (.dJ) (.d (.pair ti .unit) x.1))),dm (.pr (jl 36 x.2.1) (.pr (jl 91 x.2.2.1) (.d (.pair ti .unit) x.2.2.2.1)))]++bw 32 ([dm (.vec 140 fo x.2.2.2.2.1)]++bw 54 [dm (.vec 87 fi x.2.2.2.2.2),[],[]]))⟩))
def pJ:Ls afl xw CD:=pD (λ(G7,Gg,kv,vp,aeb,aec,axx,n7,akC,ad9,aVg,aem)=>⟨([bE,.dz dU G7,eP 2,eP 3,bE,bE,.d ti Gg,eP 7,.d ti kv]++aW 85 []),[],([[],[],dm (.pr (.dJ) (.pr (.dJ) (.d (.pair ti .unit) vp))),dm (.pr (jl 36 aeb) (.pr (jl 91 aec) (.d (.pair ti .unit) axx))),[],[],[],dm (.pr (.d ti n7) (.pr (.pr (jl 84 akC) gR) gR))]++bw 28 ([dm (.vec 140 fo ad9)]++bw 47 ([dm (.vec 111 jE aVg)]++bw 6 [dm (.vec 87 fi aem),[],[]])))⟩) (λx=>(.exit 4,⟨([bE,.dz dU x.1.1,eP 2,eP 3,bE,bE,.d ti x.1.2.1,eP 7]++aW 86 []),[],([[],[],dm (.pr (.dJ) (.pr (.dJ) (.d (.pair ti .unit) x.1.2.2.1))),dm (.pr (jl 36 x.1.2.2.2.1) (.pr (jl 91 x.1.2.2.2.2.1) (.d (.pair ti .unit) x.1.2.2.2.2.2.1))),[],[],[],dm (.pr (.d ti x.1.2.2.2.2.2.2.1) (.pr (.pr (jl 84 x.2.1) gR) gR))]++bw 28 ([dm (.vec 140 fo x.1.2.2.2.2.2.2.2.1)]++bw 47 ([dm (.vec 111 jE x.2.2)]++bw 6 [dm (.vec 87 fi x.1.2.2.2.2.2.2.2.2),[],[]])))⟩))
def nW:Fs Tryz.prog atD bq akV:=eV 91 Tryz.f91 (λt=>([.d dU t],[])) (λx=>⟨.pr (.bU (.new 0 0) 0 [] 0 0 x.1) (.pr (.bU (.new 0 1) 0 [] 0 0 x.2.1) (.d (.pair ti .unit) x.2.2.1)),[],[.obj 0 aZ (.vec 140 fo x.2.2.2.1),.obj 0 aZ (.vec 87 fi x.2.2.2.2)]⟩) [av dU] [] {cg:=[25,74],loops:=lz [(3,{bg:=[1,2,3,4],sites:=[2,3,36],owns:=[⟨3,[.fst],36,72⟩]}),(9,{bg:=[1,2,3,6],sites:=[2,3,36,91],owns:=[⟨3,[.snd,.fst],91,22⟩]}),(13,{bg:=[1,2,3,6,7,8],sites:=[2,3,7,36,84,91],owns:=[⟨7,[.snd,.fst,.fst],84,80⟩]})],outs:=lu [(3,{bg:=[1,2,3],sites:=[2,3,36]},{bg:=[2]}),(9,{bg:=[2,3],sites:=[2,3,36,91]},{bg:=[2]}),(13,{bg:=[1,2,3,6,7],sites:=[2,3,7,36,84,91]},{bg:=[2]})],fa:=mc [(3,pH.E),(9,pI.E),(13,pJ.E)]}
theorem afi:pH.RS:=rL [.d dU,.d ti,.d (.pair ti .unit),.n,.d (.pair ti .unit),.d (.slice fo)] pH
theorem J5(fP i n2 aQ1 n3 n36)(kn:K2 R)(kx:K3 R):nW.R 0 pH (fP,i,n2,aQ1,n3,n36) kn kx=aJ (fv i (fP.1.length:Int)) (aJ (eA i (fP.1.length:Int)) (aJ (cZ (0+(ae (nth fo fP.1 (ab i)).2.1.2.1)) 16) (aJ (decide (0=0/\(0+(0+(ae (nth fo fP.1 (ab i)).2.1.2.1)))<=(ae ((aM 0 (ai 0 (0,(0,()))))++(nth fo fP.1 (ab i)).2.1.2.1)))) (aJ (decide (aQ1<=(ae n36))) (aJ (cZ (aQ1+1) 80) (kn (pH.st (fP,(bz .i64 i 1),n2,(aQ1+1),n3,((aM aQ1 n36)++ [((nth fo fP.1 (ab i)).1,(((nth fo fP.1 (ab i)).2.1.1,((cut ((aM 0 (ai 0 (0,(0,()))))++(nth fo fP.1 (ab i)).2.1.2.1) 0 (0+(ae (nth fo fP.1 (ab i)).2.1.2.1))),(nth fo fP.1 (ab i)).2.1.2.2)),(nth fo fP.1 (ab i)).2.2))])))) aH) aH) aH) aH) aH) (pH.go kx ((fP,n2,n3),(aQ1,n36))):=cd
theorem afk:pI.RS:=rL [.d dU,.d ti,.d (.pair ti .unit),.n,.n,.d (.pair ti .unit),.d (.slice fo),.d (.slice fi)] pI
theorem J6(lS fk mW asJ asK aLk asI aXT)(kn:K2 R)(kx:K3 R):nW.R 1 pI (lS,fk,mW,asJ,asK,aLk,asI,aXT) kn kx=aJ (fv fk (lS.2.1.length:Int)) (aJ (eA fk (lS.2.1.length:Int)) (ao (pJ.call (lS,fk,0,mW,asJ,asK,aLk,(nth fi lS.2.1 (ab fk)).1,0,asI,([]:List nR),aXT)) λx1=>aJ (decide (0=0/\(0+x1.2.1)<=(ae x1.2.2))) (aJ (decide (x1.1.2.2.2.2.1<=(ae x1.1.2.2.2.2.2.2.2.2))) (aJ (cZ (x1.1.2.2.2.2.1+1) 32) (kn (pI.st (x1.1.1,(bz .i64 x1.1.2.1 1),x1.1.2.2.1,x1.1.2.2.2.1,(x1.1.2.2.2.2.1+1),x1.1.2.2.2.2.2.1,x1.1.2.2.2.2.2.2.2.1,((aM x1.1.2.2.2.2.1 x1.1.2.2.2.2.2.2.2.2)++ [(x1.1.2.2.2.2.2.2.1,(((cut x1.2.2 0 x1.2.1),()),()))])))) aH) aH) aH) aH) (pI.go kx (mW,asJ,asK,aLk,asI,aXT)):=cd
theorem afm:pJ.RS:=rL [.d dU,.d ti,.d ti,.d (.pair ti .unit),.n,.n,.d (.pair ti .unit),.d ti,.n,.d (.slice fo),.d (.slice jE),.d (.slice fi)] pJ
theorem J7(G7 Gg kv vp aeb aec axx n7 akC ad9 aVg aem)(kn:K2 R)(kx:K3 R):nW.R 2 pJ (G7,Gg,kv,vp,aeb,aec,axx,n7,akC,ad9,aVg,aem) kn kx=aJ (eA Gg (G7.2.1.length:Int)) (aJ (fv kv (((ae (nth fi G7.2.1 (ab Gg)).2.1.1):Nat):Int)) (aJ (eA Gg (G7.2.1.length:Int)) (aJ (eA kv (((ae (nth fi G7.2.1 (ab Gg)).2.1.1):Nat):Int)) (aJ (cZ (0+(ae (nth jE (nth fi G7.2.1 (ab Gg)).2.1.1 (ab kv)).1)) 8) (aJ (decide (0=0/\(0+(0+(ae (nth jE (nth fi G7.2.1 (ab Gg)).2.1.1 (ab kv)).1)))<=(ae ((aM 0 (ai 0 0))++(nth jE (nth fi G7.2.1 (ab Gg)).2.1.1 (ab kv)).1)))) (aJ (decide (akC<=(ae aVg))) (aJ (cZ (akC+1) 48) (kn (pJ.st (G7,Gg,(bz .i64 kv 1),vp,aeb,aec,axx,n7,(akC+1),ad9,((aM akC aVg)++ [((cut ((aM 0 (ai 0 0))++(nth jE (nth fi G7.2.1 (ab Gg)).2.1.1 (ab kv)).1) 0 (0+(ae (nth jE (nth fi G7.2.1 (ab Gg)).2.1.1 (ab kv)).1))),(nth jE (nth fi G7.2.1 (ab Gg)).2.1.1 (ab kv)).2)]),aem))) aH) aH) aH) aH) aH) aH) (pJ.go kx ((G7,Gg,vp,aeb,aec,axx,n7,ad9,aem),(akC,aVg)))) aH:=cd
theorem ayk(t)(k:K1 R):nW.A t k=ao (pH.call (t,0,(0,()),0,(t.2.2.1,()),([]:List ji))) λx1=>ao (pI.call (x1.1.1,0,x1.1.2.1,x1.2.1,0,x1.1.2.2,x1.2.2,([]:List jV))) λx4=>k (nW.out (x4.2.1,x4.2.2.1,x4.2.2.2.1,x4.2.2.2.2.1,x4.2.2.2.2.2)):=cd
theorem aiw:(nW.jx 0 pH):=by
 refine(nW.mf 0 pH) (λ(t,i,u,L,v,r)=>(t.1).length - ab i) ?_
 rintro⟨t,i,u,L,v,r⟩ ⟨hlen,k,hk,rfl,rfl,vj,hx⟩;have hlen:(t.1).length<=1000000:=hlen;have hk:k<=(t.1).length:=hk;have vj:(r).length<=1000000+k:=vj;have hx:∀x∈t.1,x.2.1.2.1.length<=1000000:=hx;by_cases h:k < (t.1).length
 ·left;have n1:nth fo t.1 k=t.1[k]:=bY (t:=fo) h;have hd:bD k t.1=t.1[k]::bD (k+1) t.1:=au h;refine⟨(t,((k+1:Nat):Int),u,(r).length+1,v,r++ [(λx:ji=>x) t.1[k]]),⟨hlen,k+1,aq,rfl,by rw[ak];rfl,by rw[ak];show(r).length+1<=_;omega,hx⟩,by simp only[aa];omega,?_,λkn kx=> ?_⟩
  ·simp only[xv,CB,aa,hd,cj,aF,aO,cE];rw[show ∀a c:Nat,a+1+c=a+(c+1) from λa c=>aq]
  ·rw[J5,aS aq,ba (show(0:Int)<=(k:Int) by omega) aq,aa,n1];simp only[aj];have e:=hx _ (aK h);have hr:cZ t.1[k].2.1.2.1.length 16=bm:=cM aq aq;simp only[aV,dD,aY,hr,aj,az,gm,b8,ea];rw[cM aq aq,N.jL aq,bN];rfl
 ·right;obtain rfl:k=(t.1).length:=aq;intro R kn kx;rw[J5,aQ aq,al];simp only[xv,CB,aa,aI,fK,bK,bp,cD]
theorem aiy:(nW.jx 2 pJ):=by
 refine(nW.mf 2 pJ) (λ(t,j,i,u,L4,L5,v,am,L,is,r,os)=>((nth fi t.2.1 (ab j)).2.1.1).length - ab i) ?_
 rintro⟨t,j,i,u,L4,L5,v,am,L,is,r,os⟩ ⟨hlen,k,hk,rfl,rfl,vj,hj,hx⟩;have hlen:((nth fi t.2.1 (ab j)).2.1.1).length<=1000000:=hlen;have hk:k<=((nth fi t.2.1 (ab j)).2.1.1).length:=hk;have vj:(r).length<=1000000+k:=vj;have hj:0<=j/\j < (t.2.1.length:Int):=hj;have hx:∀x∈(nth fi t.2.1 (ab j)).2.1.1,x.1.length<=1000000:=hx;by_cases h:k < ((nth fi t.2.1 (ab j)).2.1.1).length
 ·left;have n1:nth jE (nth fi t.2.1 (ab j)).2.1.1 k=(nth fi t.2.1 (ab j)).2.1.1[k]:=bY (t:=jE) h;have hd:bD k (nth fi t.2.1 (ab j)).2.1.1=(nth fi t.2.1 (ab j)).2.1.1[k]::bD (k+1) (nth fi t.2.1 (ab j)).2.1.1:=au h;refine⟨(t,j,((k+1:Nat):Int),u,L4,L5,v,am,(r).length+1,is,r++ [(λx:nR=>x) (nth fi t.2.1 (ab j)).2.1.1[k]],os),⟨hlen,k+1,aq,rfl,by rw[ak];rfl,by rw[ak];show(r).length+1<=_;omega,hj,hx⟩,by simp only[aa];omega,?_,λkn kx=> ?_⟩
  ·simp only[xw,CD,aa,hd,cj,aF,aO,cE];rw[show ∀a c:Nat,a+1+c=a+(c+1) from λa c=>aq]
  ·rw[J7,ba hj.1 hj.2,aj,aS aq,ba (show(0:Int)<=(k:Int) by omega) aq,aa,n1];simp only[aj];have e:=hx _ (aK h);have hr:cZ (nth fi t.2.1 (ab j)).2.1.1[k].1.length 8=bm:=cM aq aq;simp only[aV,dD,aY,hr,aj,az,gm,b8,ea];rw[cM aq aq,N.jL aq,bN];rfl
 ·right;obtain rfl:k=((nth fi t.2.1 (ab j)).2.1.1).length:=aq;intro R kn kx;rw[J7,ba hj.1 hj.2,aj,aQ aq,al];simp only[xw,CD,aa,aI,fK,bK,bp,cD]
theorem aix:(nW.jx 1 pI):=by
 refine(nW.mf 1 pI) (λ(t,i,u,L3,L,v,is,r)=>t.2.1.length - i.toNat) ?_
 rintro⟨t,i,u,L3,L,v,is,r⟩ ⟨⟨hl,hx⟩,k,hk,rfl,rfl,aXC⟩;have hl:t.2.1.length<=1000:=hl;have hk:k<=t.2.1.length:=hk;have aXC:r.length=k:=aXC;by_cases h:k < t.2.1.length
 ·left;have e:=hx _ (aK h);have n1:nth fi t.2.1 k=t.2.1[k]:=bY (t:=fi) h;have hd:t.2.1.drop k=t.2.1[k]::t.2.1.drop (k+1):=au h;have e1:(nth fi t.2.1 (ab (k:Int))).2.1.1=t.2.1[k].2.1.1:=by rw[aa,n1]
  refine⟨(t,((k+1:Nat):Int),u,L3,r.length+1,v,is,r++ [t.2.1[k]]),⟨⟨hl,hx⟩,k+1,aq,rfl,by rw[ak];rfl,by rw[ak];show r.length+1=_;omega⟩,by simp only[aa];omega,?_,λkn kx=> ?_⟩
  ·simp only[bq,CC,aa,hd,aF,aO,cE];rw[show ∀a c:Nat,a+1+c=a+(c+1) from λa c=>aq]
  ·rw[J6,aS aq,ba aq aq,aa,n1];simp only[aj];rw[afm (d:=(t,(k:Int),0,u,L3,r.length,v,t.2.1[k].1,0,is,[],r)) ⟨by rw[e1];omega,0,aL _,rfl,rfl,aL _,⟨by show(0:Int)<=(k:Int);omega,by show(k:Int) < (t.2.1.length:Int);omega⟩,by rw[e1];exact e.2⟩];simp only[ag,xw,CD,e1,aT,ay,aY,aV,List.map_id',az,gm,b8,aj,ea];rw[cM aq aq,N.jL aq,bN];rfl
 ·right;obtain rfl:k=t.2.1.length:=aq;intro R kn kx;rw[J6,aQ aq,al];simp only[bq,CC,aa,aI,bK,bp,cD]
theorem ayl:nW.Ok:=by rintro⟨is,os,nt,u⟩ ⟨⟨h1,h2⟩,h3,h4⟩;have h1:is.length<=1000:=h1;have h3:os.length<=1000:=h3;rw[ayk,afi (d:=((is,os,nt,u),0,(0,()),0,(nt,()),[])) ⟨by show is.length<=_;omega,0,aL _,rfl,rfl,aL _,h2⟩];simp only[ag,xv,CB,aT,ay,aY,aV,List.map_id'];rw[afk (d:=((is,os,nt,u),0,(0,()),is.length,0,(nt,()),is,[])) ⟨⟨h3,h4⟩,0,aL _,rfl,rfl,rfl⟩];simp only[ag,bq,CC,aT,ay,aY,aV];rfl
theorem atE:nW.RS:=rE [.d dU] nW
def aym:=nW.eY ayl 3 ⟨.e7 aiw,⟨.e7 aix,⟨.e7 aiy,trivial⟩⟩⟩
def xY(a b:cz):Int:=aVq [acB a.1 b.1,Qy a.2.1 b.2.1]
def aIL:(cz×cz)->Prop:=λ(a,b)=>a.1.length=32/\b.1.length=32
def aIK:(cz×cz)->Int:=λ(a,b)=>xY a b
def awo:Fs Tryz.prog aIL bq aIK:=eV 74 Tryz.f74 (λ(a,b)=>([.d bQ a,.d bQ b],[])) (λx=>⟨.d ti x,[],[]⟩) [av bQ,av bQ] [aAv,aQF,aJb]
theorem aPD(a b)(k:K1 R):awo.A (a,b) k=ao (aqq.call ((cut a.1 0 32),(cut b.1 0 32))) λx1=>ao (aaU.call (a.2.1,b.2.1)) λx2=>ao (aDz.call [x1,x2]) λx3=>k (awo.out x3):=cd
theorem aPE:awo.Ok:=by rintro⟨a,b⟩ ⟨ha,hb⟩;have ha:a.1.length=32:=ha;have hb:b.1.length=32:=hb;have c1:cut a.1 0 32=a.1:=ea ha;have c2:cut b.1 0 32=b.1:=ea hb;rw[aPD,c1,c2,aqr (d:=(a.1,b.1)) trivial];simp only[ag,bq,avY];rw[aKx (d:=(a.2.1,b.2.1)) trivial];simp only[ag,bq,aw7];rw[aAL (d:=[acB a.1 b.1,Qy a.2.1 b.2.1]) (by show 2<=_;decide)];simp only[ag,bq,aJa,bq,aIK,xY]
theorem aIM:awo.RS:=rE [.d bQ,.d bQ] awo
def aPF:=awo.eY aPE
def lx:List Int->List Int->Int
 |x::xs,y::ys=>if x≠y then(if x < y then -1 else 1) else lx xs ys
 |_,_=>0
theorem aBp:∀a,lx a a=0
 |[]=>rfl
 |x::a=>by simp[lx,aBp a]
theorem aTy:∀ {a b:List Int},a.length=b.length->lx a b=0->a=b
 |[],[],_,_=>rfl
 |[],_::_,h,_=>by simp at h
 |_::_,[],h,_=>by simp at h
 |x::a,y::b,h,h2=>by
  simp only[lx]at h2;split at h2
  ·split at h2 <;> omega
  ·rename_i e;have e:x=y:=aq;rw[e,aTy (by simpa using h) h2]
theorem W2:∀a b:List Int,lx b a= - lx a b
 |[],[]=>rfl
 |[],_::_=>rfl
 |_::_,[]=>rfl
 |x::a,y::b=>by
  simp only[lx];by_cases h:x=y
  ·rw[if_neg aq,if_neg aq,W2 a b]
  ·rw[if_pos aq,if_pos h];by_cases h2:x < y
   ·rw[if_neg aq,if_pos h2];rfl
   ·rw[if_pos aq,if_neg h2]
theorem adO:∀ {a b c:List Int},a.length=b.length->b.length=c.length->lx a b<=0->lx b c<=0->lx a c<=0/\(lx a c=0->lx a b=0/\lx b c=0)
 |[],[],[],_,_,_,_=>by simp[lx]
 |x::a,y::b,z::c,h1,h2,h3,h4=>by
  have ih:=adO (a:=a) (b:=b) (c:=c) (by simpa using h1) (by simpa using h2);simp only[lx]at h3 h4 ⊢;by_cases e1:x=y
  ·by_cases e2:y=z
   ·rw[if_neg aq]at h3 h4;rw[if_neg aq,if_neg aq,if_neg aq];exact ih h3 h4
   ·rw[if_neg aq]at h3;rw[if_pos e2]at h4;rw[if_pos aq];by_cases e3:y < z
    ·rw[if_pos aq];exact⟨aq,λh=>aq⟩
    ·rw[if_neg e3]at h4;omega
  ·rw[if_pos e1]at h3;by_cases e3:x < y
   ·by_cases e2:y=z
    ·rw[if_pos aq,if_pos aq];exact⟨aq,λh=>aq⟩
    ·rw[if_pos e2]at h4;by_cases e4:y < z
     ·rw[if_pos aq,if_pos aq];exact⟨aq,λh=>aq⟩
     ·rw[if_neg e4]at h4;omega
   ·rw[if_neg e3]at h3;omega
 |[],_::_,_,h,_,_,_=>by simp at h
 |_::_,[],_,h,_,_,_=>by simp at h
 |_,[],_::_,_,h,_,_=>by simp at h
 |_,_::_,[],_,h,_,_=>by simp at h
def aWy(a b:Int):Int:=if a=0 then b else a
theorem anQ{p:Int}{a b:List Int}:lx (p::a) (p::b)=lx a b:=by simp[lx]
theorem W3{p q:Int}{a b:List Int}(h:¬p=q):lx (p::a) (q::b)=if p < q then -1 else 1:=by simp[lx,h]
theorem abM:∀ {a b:List Int} (x y:Int),a.length=b.length->lx (a++ [x]) (b++ [y])=aWy (lx a b) (Qy x y)
 |[],[],x,y,_=>by
  show lx [x] [y]=aWy 0 (Qy x y);simp only[aWy,bO];unfold Qy;by_cases h:x=y
  ·subst h;rw[anQ,if_neg aq,if_neg aq];rfl
  ·rw[W3 h];by_cases h2:x < y
   ·rw[if_pos h2,if_pos h2]
   ·rw[if_neg h2,if_neg h2,if_pos aq]
 |[],_::_,_,_,h=>by simp at h
 |_::_,[],_,_,h=>by simp at h
 |p::a,q::b,x,y,h=>by
  show lx (p::(a++ [x])) (q::(b++ [y]))=_;by_cases h2:p=q
  ·subst h2;rw[anQ,anQ];exact abM x y (by simpa using h)
  ·rw[W3 h2,W3 h2];by_cases h3:p < q
   ·rw[if_pos h3];rfl
   ·rw[if_neg h3];rfl
def aI7:List UInt8->List UInt8->Int
 |x::xs,y::ys=>if x !=y then(if x < y then -1 else 1) else aI7 xs ys
 |_,_=>0
theorem aq3:∀(xs ys:List UInt8),xs.length=ys.length->(match(List.range xs.length).find? λi=>xs[i]! !=ys[i]! with | some i=>if xs[i]! < ys[i]! then(-1:Int) else 1 | none=>0)=aI7 xs ys
 |[],[],_=>rfl
 |[],_::_,h=>by simp at h
 |_::_,[],h=>by simp at h
 |x::xs,y::ys,h=>by
  have ih:=aq3 xs ys (by simpa using h);rw[aF,List.range_succ_eq_map,List.find?_cons];simp only[List.getElem!_cons_zero,aI7];cases hb:(x !=y) with
  |true=>simp
  |false=>
   simp only[bG,bC];rw[List.find?_map,<-ih];have e:((λi=>(x::xs)[i]! !=(y::ys)[i]!)∘Nat.succ)=λi=>xs[i]! !=ys[i]! :=by funext i;simp
   rw[e];cases(List.range xs.length).find? λi=>xs[i]! !=ys[i]! <;> simp
theorem aAK:∀ {a b:List Int},(∀x∈a,0<=x/\x < 256)->(∀x∈b,0<=x/\x < 256)->aI7 (a.map λn=>UInt8.ofNat n.toNat) (b.map λn=>UInt8.ofNat n.toNat)=lx a b
 |[],_,_,_=>by cases ‹List Int› <;> rfl
 |_::_,[],_,_=>rfl
 |x::a,y::b,ha,hb=>by
  have hx:=ha x (aU ..);have hy:=hb y (aU ..);have ih:=aAK (a:=a) (b:=b) (λz hz=>ha z (aP _ hz)) (λz hz=>hb z (aP _ hz));simp only[cj,aI7,lx,ih];have e1:(UInt8.ofNat x.toNat).toNat=x.toNat:=by simp[UInt8.toNat_ofNat];omega
  have e2:(UInt8.ofNat y.toNat).toNat=y.toNat:=by simp[UInt8.toNat_ofNat];omega
  by_cases h:x=y
  ·subst h;simp
  ·have jk:(UInt8.ofNat x.toNat !=UInt8.ofNat y.toNat)=bm:=by rw[bne_iff_ne];intro e;have:=bW UInt8.toNat e;rw[e1,e2]at this;omega
   rw[jk,if_pos rfl,if_pos h];have fF:UInt8.ofNat x.toNat < UInt8.ofNat y.toNat↔x < y:=by rw[UInt8.lt_iff_toNat_lt,e1,e2];omega
   by_cases h2:x < y
   ·rw[if_pos (fF.2 h2),if_pos h2]
   ·rw[if_neg (λe=>h2 (fF.1 e)),if_neg h2]
theorem aPO{a b:List Int}(hl:a.length=b.length)(ha:∀x∈a,0<=x/\x < 256)(hb:∀x∈b,0<=x/\x < 256):acB a b=lx a b:=by
 rw[<-aAK ha hb,<-aq3 _ _ (by simpa using hl)];unfold acB Extern.BytealgCompare.cmp;have s1:∀l:List Int,(kg l).size=l.length:=λl=>by simp[kg,ByteArray.size]
 have g1:∀(l:List Int) (i:Nat),(kg l)[i]! =(l.map λn=>UInt8.ofNat n.toNat)[i]! :=λl i=>by
  by_cases h:i < (kg l).size
  ·rw[mP _ i h];have h2:i < (l.map λn=>UInt8.ofNat n.toNat).length:=by simpa[kg,ByteArray.size]using h
   rw[mP _ i h2];rfl
  ·rw[getElem!_neg _ i h];have h2:¬i < (l.map λn=>UInt8.ofNat n.toNat).length:=by simpa[kg,ByteArray.size]using h
   rw[getElem!_neg _ i h2]
 simp only[s1,g1,hl,Nat.min_self,da];cases(List.range b.length).find? λi=>(a.map λn=>UInt8.ofNat n.toNat)[i]! !=(b.map λn=>UInt8.ofNat n.toNat)[i]! <;> simp
def KD(o:cz):Prop:=o.1.length=32/\∀x∈o.1,0<=x/\x < 256
def AW(o:cz):List Int:=o.1++ [o.2.1]
theorem tS{o:cz}(h:KD o):(AW o).length=33:=by simp[AW,h.1]
theorem aLB{a b:cz}(ha:KD a)(hb:KD b)(h:AW a=AW b):a=b:=by obtain⟨a1,a2,_⟩:=a;obtain⟨b1,b2,_⟩:=b;have h:a1++ [a2]=b1++ [b2]:=h;have:=List.append_inj' h rfl;rw[this.1,show a2=b2 by simpa using this.2]
theorem sk{a b:cz}(ha:KD a)(hb:KD b):xY a b=lx (AW a) (AW b):=by
 unfold AW xY;rw[abM _ _ (ha.1.trans hb.1.symm),aPO (ha.1.trans hb.1.symm) ha.2 hb.2];simp only[aVq,aWy];by_cases h:lx a.1 b.1=0
 ·rw[if_pos h,if_neg (λe=>e h)];split
  ·rfl
  ·omega
 ·rw[if_neg h,if_pos h]
theorem aq1{x:cz}(hx:KD x):¬xY x x < 0:=by rw[sk hx hx,aBp];decide
theorem awt{x y z:cz}(hx:KD x)(hy:KD y)(hz:KD z)(h1:xY x y < 0)(h2:xY y z < 0):xY x z < 0:=by
 rw[sk hx hy]at h1;rw[sk hy hz]at h2;rw[sk hx hz];have:=adO (by rw[tS hx,tS hy]) (by rw[tS hy,tS hz]) (by omega:lx (AW x) (AW y)<=0) (by omega:lx (AW y) (AW z)<=0);have h3:=this.1;by_cases h4:lx (AW x) (AW z)=0
 ·have:=(this.2 h4).1;omega
 ·omega
theorem aq2{x y z:cz}(hx:KD x)(hy:KD y)(hz:KD z)(h1:¬xY x y < 0)(h2:¬xY y z < 0):¬xY x z < 0:=by rw[sk hx hy]at h1;rw[sk hy hz]at h2;rw[sk hx hz];have e1:=W2 (AW x) (AW y);have e2:=W2 (AW y) (AW z);have e3:=W2 (AW x) (AW z);have:=(adO (by rw[tS hz,tS hy]) (by rw[tS hy,tS hx]) (by omega:lx (AW z) (AW y)<=0) (by omega:lx (AW y) (AW x)<=0)).1;omega
theorem Ho:aV7 Tryz.prog bQ 74 KD xY:= {
 cJ:=⟨awo.E,aPF.h.1 (by rfl),λx y hx hy=>⟨_,aIM (d:=(x,y)) ⟨hx.1,hy.1⟩,rfl⟩⟩
 enters:=enters_of Tryz.func74 cd rfl
 irrefl:=λ_=>aq1
 trans:=λ_ _ _=>awt
 ntrans:=λ_ _ _=>aq2}
theorem Qz{x y:cz}(hx:KD x)(hy:KD y)(h1:¬xY x y < 0)(h2:¬xY y x < 0):x=y:=by rw[sk hx hy]at h1;rw[sk hy hx,W2]at h2;exact aLB hx hy (aTy (by rw[tS hx,tS hy]) aq)
end Go.Ab
namespace Go.Proofs
open Go.Shelf
def Tryz.azW:Go.Shelf.Ren:=⟨λ | 6=>73 | 15=>149 | 14=>148 | 28=>212 | 29=>213 | 20=>204 | 21=>205 | 22=>206 | 23=>207 | 24=>208 | 25=>209 | 26=>210 | 27=>211 | 46=>252 | 47=>253 | 48=>254 | 49=>255 | 50=>256 | 57=>275 | n=>n,λ | 22=>26 | 24=>62 | 25=>131 | 3=>3 | 39=>217 | 0=>0 | 53=>260 | 55=>84 | 4=>4 | 46=>274 | 45=>273 | 50=>39 | 5=>5 | 9=>9 | 66=>309 | 70=>312 | 76=>324 | 77=>325 | n=>n,λ | n=>n⟩
theorem Tryz.aVM:Go.Proofs.SlLaysF0.n6 Tryz.prog Tryz.azW:= {
 mixed:=by kernel_rfl
 f6:=⟨Tryz.f73.name,by decide,Tryz.func73.trans (congrArg av (by kernel_rfl))⟩
 f14:=⟨Tryz.f148.name,by decide,Tryz.func148.trans (congrArg av (by kernel_rfl))⟩
 f15:=Tryz.func149.trans (congrArg av (by kernel_rfl))
 f20:=⟨Tryz.f204.name,by decide,Tryz.func204.trans (congrArg av (by kernel_rfl))⟩
 f21:=⟨Tryz.f205.name,by decide,Tryz.func205.trans (congrArg av (by kernel_rfl))⟩
 f22:=⟨Tryz.f206.name,by decide,Tryz.func206.trans (congrArg av (by kernel_rfl))⟩
 f23:=⟨Tryz.f207.name,by decide,Tryz.func207.trans (congrArg av (by kernel_rfl))⟩
 f24:=⟨Tryz.f208.name,by decide,Tryz.func208.trans (congrArg av (by kernel_rfl))⟩
 f25:=⟨Tryz.f209.name,by decide,Tryz.func209.trans (congrArg av (by kernel_rfl))⟩
 f26:=⟨Tryz.f210.name,by decide,Tryz.func210.trans (congrArg av (by kernel_rfl))⟩
 f27:=⟨Tryz.f211.name,by decide,Tryz.func211.trans (congrArg av (by kernel_rfl))⟩
 f28:=Tryz.func212.trans (congrArg av (by kernel_rfl))
 f29:=Tryz.func213.trans (congrArg av (by kernel_rfl))
 f46:=⟨Tryz.f252.name,by decide,Tryz.func252.trans (congrArg av (by kernel_rfl))⟩
 f47:=Tryz.func253.trans (congrArg av (by kernel_rfl))
 f48:=Tryz.func254.trans (congrArg av (by kernel_rfl))
 f49:=⟨Tryz.f255.name,by decide,Tryz.func255.trans (congrArg av (by kernel_rfl))⟩
 f50:=⟨Tryz.f256.name,by decide,Tryz.func256.trans (congrArg av (by kernel_rfl))⟩
 f57:=⟨Tryz.f275.name,by decide,Tryz.func275.trans (congrArg av (by kernel_rfl))⟩
 t0:=Tryz.underlying0
 a0:=Tryz.isAgg0
 z0:=Tryz.sizeOf0
 v0:=Tryz.zeroValue0
 t3:=Tryz.underlying3
 a3:=Tryz.isAgg3
 z3:=Tryz.sizeOf3
 v3:=Tryz.zeroValue3
 t4:=Tryz.underlying4
 a4:=Tryz.isAgg4
 z4:=Tryz.sizeOf4
 v4:=Tryz.zeroValue4
 t5:=Tryz.underlying5
 a5:=Tryz.isAgg5
 z5:=Tryz.sizeOf5
 v5:=Tryz.zeroValue5
 t9:=Tryz.underlying9
 a9:=Tryz.isAgg9
 z9:=Tryz.sizeOf9
 v9:=Tryz.zeroValue9
 t22:=Tryz.underlying26
 a22:=Tryz.isAgg26
 z22:=Tryz.sizeOf26
 v22:=Tryz.zeroValue26
 t25:=Tryz.underlying131
 a25:=Tryz.isAgg131
 z25:=Tryz.sizeOf131
 v25:=Tryz.zeroValue131
 t39:=Tryz.underlying217
 a39:=Tryz.isAgg217
 z39:=Tryz.sizeOf217
 v39:=Tryz.zeroValue217
 t45:=Tryz.underlying273
 a45:=Tryz.isAgg273
 z45:=Tryz.sizeOf273
 v45:=Tryz.zeroValue273
 t46:=Tryz.underlying274
 a46:=Tryz.isAgg274
 z46:=Tryz.sizeOf274
 v46:=Tryz.zeroValue274
 t50:=Tryz.underlying39
 a50:=Tryz.isAgg39
 z50:=Tryz.sizeOf39
 v50:=Tryz.zeroValue39
 t53:=Tryz.underlying260
 a53:=Tryz.isAgg260
 z53:=Tryz.sizeOf260
 v53:=Tryz.zeroValue260
 t55:=Tryz.underlying84
 a55:=Tryz.isAgg84
 z55:=Tryz.sizeOf84
 v55:=Tryz.zeroValue84
 t66:=Tryz.underlying309
 a66:=Tryz.isAgg309
 z66:=Tryz.sizeOf309
 v66:=Tryz.zeroValue309
 t70:=Tryz.underlying312
 a70:=Tryz.isAgg312
 z70:=Tryz.sizeOf312
 v70:=Tryz.zeroValue312
 t76:=Tryz.underlying324
 a76:=Tryz.isAgg324
 z76:=Tryz.sizeOf324
 v76:=Tryz.zeroValue324
 t77:=Tryz.underlying325
 a77:=Tryz.isAgg325
 z77:=Tryz.sizeOf325
 v77:=Tryz.zeroValue325}
end Go.Proofs
namespace Go.Ab
open Go.Proofs
def aVQ:Entry:=aSt 74 62 bQ KD xY
def alR:Nat×List cz->Option (Nat×List cz):=apv 74 62 bQ KD xY
theorem aOb{d:Nat×List cz}(h:agS (t:=bQ) KD xY d):alR d=av (d.1,RZ (t:=bQ) xY d.2):=aCj h
def aSu:SG Tryz.prog:=⟨73,nV,aVQ,.of (aOc Tryz.aVM (by rfl) (λw=>Tryz.isAgg62 w) (λw=>Tryz.sizeOf62 w) Ho) (by rfl)⟩
theorem Al{β:Type}{kt:Ty}(hc:kt.comp=bm){x:kt.den}{v:β}:∀ {l:List (kt.den×β)},x ∉ l.map (·.1)->fp kt x v l=l++ [(x,v)]
 |[],_=>rfl
 |p::l,h=>by
  rw[DN];have h1:¬kt.beq x p.1=bm:=λe=>h (by rw[beq_eq kt _ _ hc e];simp)
  rw[if_neg h1,Al hc λe=>h (by simp[e])];rfl
theorem iF:bQ.comp=bm:=rfl
def gM(l:List (cz×fj)):Int:=(l.map λp=>p.2.1.1).sum
theorem mm(p:cz×fj)(l:List (cz×fj)):gM (p::l)=p.2.1.1+gM l:=by simp[gM]
theorem aqh(l l':List (cz×fj)):gM (l++l')=gM l+gM l':=by simp[gM]
theorem vI{l l':List (cz×fj)}(h:l.Perm l'):gM l=gM l':=by
 induction h with
 |nil=>rfl
 |cons x _ ih=>rw[mm,mm,ih]
 |swap x y l=>rw[mm,mm,mm,mm];omega
 |trans _ _ h1 h2=>rw[h1,h2]
theorem QT{α:Type}{l:List α}{j:Nat}(h:j < l.length):l.Perm (l[j]::l.eraseIdx j):=by
 induction l generalizing j with
 |nil=>simp at h
 |cons x l ih=>
  cases j with
  |zero=>exact lE _
  |succ j=>
   have h:j < l.length:=by simpa using h
   simp only[List.getElem_cons_succ,List.eraseIdx_cons_succ];exact((ih h).cons x).trans (List.Perm.swap _ _ _)
theorem abO{kt vt:Ty}{l:List (kt.den×vt.den)}{j:Nat}(h:j < l.length):sE kt vt l j=l[j]:=by simp[sE,bh,cn h]
theorem aqi{l:List (cz×fj)}(h:∀p∈l,0<=p.2.1.1):0<=gM l:=by
 induction l with
 |nil=>simp[gM]
 |cons p l ih=>
  rw[mm];have:=h p (aU ..);have:=ih λq hq=>h q (aP _ hq)
  omega
abbrev Dt:=Nat×Nat×(List (cz×fj))×(List cV)×(List (cz×fj))×(List cz)
def vP:Dt->AS:=λ(outL,o0L,cP,dH,n9,n17)=>⟨([bE,bE,bE,jl 17 outL]++aW 5 ([eP 9]++aW 11 [])),[dq (.pr (.c7 (.bP 1) 0) (.pr (.bU (.bP 2) 0 [] 0 0 o0L) gR)),.obj 0 bm (.mp bQ ff cP),dq (.vec 212 cH dH)],(bw 9 ([dm (.tP (.bP 1) 1 bQ ff n9 aH)]++bw 7 [dm (.vec 62 bQ n17),[],[],[]]))⟩
abbrev EM:=(Nat×(List (cz×fj))×(List cV))×(Nat×(List cz))
def BH:EM->Exit×AS:=λ((a,b,c),d,e)=>(.exit 0,⟨([bE,bE,bE,jl 17 d]++aW 17 []),[dq (.pr (.c7 (.bP 1) 0) (.pr (.bU (.bP 2) 0 [] 0 0 a) gR)),dq (.mp bQ ff b),dq (.vec 212 cH c)],(bw 17 [dm (.vec 62 bQ e),[],[],[]])⟩)
def S6:EM->Out (Exit×AS):=λx=> .ok (BH x)
def sm:Dt->(Nat×(List cz))->EM:=λ(outL,o0L,cP,dH,n9,n17) y=>((o0L,cP,dH),y)
abbrev aAO:=Nat×(List (cz×fj))×(List cV)
def wP:Dt->Prop:=λ(n,_,_,_,rest,out)=>n=out.length/\out.length+rest.length<=1000000
def tK:Dt->(Nat×(List cz))->Prop:=λ(_,_,_,_,rest,out) (m,out')=>m=out'.length/\out'.Perm (out++rest.map (·.1))
def aDG:aAO->Prop:=λ(_,a,_)=>a.length<=1000000/\∀p∈a,KD p.1
def aAP:aAO->(Nat×Nat×(List (cz×fj))×(List cV)×(List cz)):=λ(n,a,s)=>(a.length,n,a,s,RZ (t:=bQ) xY (a.map (·.1)))
def awA:=dB.aia vP wP sm tK S6
def S7:Dt->EM->Prop:=aYd vP wP sm tK
def Ds:Fs Tryz.prog aDG bq aAP:=eV 21 Tryz.f21 (λ(o0baL,o1,o2)=>([.ptr (.bP 0) 0 [] 0],[.obj 0 aZ (.pr (.c7 (.bP 1) 0) (.pr (.bU (.bP 2) 0 [] 0 0 o0baL) (.d .unit ()))),.obj 0 aZ (.mp bQ ff o1),.obj 0 aZ (.vec 212 cH o2)])) (λx=>⟨.bU (.new 0 0) 0 [] 0 0 x.1,[.obj 0 aZ (.pr (.c7 (.bP 1) 0) (.pr (.bU (.bP 2) 0 [] 0 0 x.2.1) (.d .unit ()))),.obj 0 aZ (.mp bQ ff x.2.2.1),.obj 0 aZ (.vec 212 cH x.2.2.2.1)],[.obj 0 aZ (.vec 62 bQ x.2.2.2.2)]⟩) [aH] [aSu] {loops:=lz [(3,{bg:=[3,9],sites:=[9,17],owns:=[⟨3,[],17,26⟩],aU5:=[9]})],outs:=lu [(3,{bg:=[3],sites:=[17]},{bg:=[2]})],fa:=mc [(3,awA)]}
def acI:= @ej Tryz.prog (jr Ds.G) Ds.an 0 Tryz.f21 0 _ vP
abbrev YD:=aAn Tryz.prog (jr Ds.G) Ds.an 0 Tryz.f21 0 vP wP sm tK S6
theorem amE:aPb S7 wP sm tK:=bav (jA [.n,.n,.d (.slice (.pair bQ ff)),.d (.slice cH),.d (.slice (.pair bQ ff)),.d (.slice bQ)] λ_=>cd)
theorem S5:aS1 @acI vP wP sm tK BH YD:=aWO
theorem O6(outL o0L cP dH n9 n17)(kn:K2 R)(kx:K3 R):acI (outL,o0L,cP,dH,n9,n17) kn kx=aJ (decide (0 < (ae n9))) (ap3 (ae n9) λj1=>aJ (decide (outL<=(ae n17))) (aJ (cZ (outL+1) 40) (kn (vP ((outL+1),o0L,cP,dH,(List.eraseIdx n9 j1),((aM outL n17)++ [(sE bQ ff n9 j1).1])))) aH) aH) (kx (BH ((o0L,cP,dH),(outL,n17))).1 (BH ((o0L,cP,dH),(outL,n17))).2):=cd
theorem aJm(o0baL o1 o2)(k:K1 R):Ds.A (o0baL,o1,o2) k=aaR (S7 (0,o0baL,o1,o2,o1,([]:List cz))) λx3=>ao (alR (x3.2.1,x3.2.2)) λx4=>k (Ds.out (x3.2.1,x3.1.1,x3.1.2.1,x3.1.2.2,x4.2)):=cd
theorem ari:YD:=by
 refine S5 (λ(n,_,_,_,rest,out)=>rest.length) ?_
 rintro⟨n,o,a,s,rest,out⟩ ⟨rfl,hl⟩;have hl:out.length+rest.length<=1000000:=hl;by_cases h:0 < rest.length
 ·left;refine⟨rest.length,λj=>(out.length+1,o,a,s,rest.eraseIdx j,out++ [(sE bQ ff rest j).1]),h,λj hj=>⟨⟨by simp,?_⟩,?_,λy hy=>⟨y,?_,rfl⟩⟩,λkn kx=> ?_⟩
  ·show(out++ [_]).length+(rest.eraseIdx j).length<=1000000;rw[ak,mF,if_pos hj];simp only[aF,bp];omega
  ·show(rest.eraseIdx j).length < rest.length;rw[mF,if_pos hj];omega
  ·obtain⟨m,out'⟩:=y;obtain⟨h1,h2⟩:=hy;refine⟨h1,h2.trans ?_⟩;rw[abO hj,aO];refine List.Perm.append_left _ ?_
   have:=((QT hj).map (·.1)).symm;exact this
  ·rw[O6,aX h,aj];congr 1;funext j;rw[aX (az _),aj,cM aq aq,aj,bN]
 ·right;obtain rfl:rest=[]:=bJ aq;refine⟨(out.length,out),⟨rfl,by simp⟩,λkn kx=> ?_⟩;rw[O6,bo h,al];rfl
theorem aHc{l l':List cz}(h:l.Perm l')(hq:∀x∈l',KD x):RZ (t:=bQ) xY l=RZ (t:=bQ) xY l':=by
 have hq':∀x∈l,KD x:=λx hx=>hq x (h.mem_iff.1 hx)
 have h1:=apw Ho hq';exact R0 Ho hq (λx hx y hy a b=>Qz (hq x hx) (hq y hy) a b) ⟨h1.1.trans h,h1.2⟩
theorem aJn:Ds.Ok:=by
 rintro⟨n,a,s⟩ ⟨hl,hq⟩;have hl:a.length<=1000000:=hl;rw[aJm];refine amE (d:=(0,n,a,s,a,[])) ⟨rfl,by show 0+a.length<=_;omega⟩ ⟨(a.length,a.map (·.1)),by show a.length=(a.map (·.1)).length;simp,by simp⟩ λy hy=> ?_
 obtain⟨m,out⟩:=y;obtain⟨h1,hp⟩:=hy;have h1:m=out.length:=h1;subst h1;have hp:out.Perm (a.map (·.1)):=by simpa using hp
 have hq':∀x∈a.map (·.1),KD x:=λx hx=>by obtain⟨p,hp,rfl⟩:=dy.1 hx;exact hq p hp
 have hlen:out.length=a.length:=by rw[hp.length_eq,da]
 simp only[sm];rw[aOb (d:=(out.length,out)) ⟨rfl,by show out.length < _;omega,λx hx=>hq' x (hp.mem_iff.1 hx),λx hx y hy h1 h2=>Qz (hq' x (hp.mem_iff.1 hx)) (hq' y (hp.mem_iff.1 hy)) h1 h2⟩];simp only[ag,bq,aAP];rw[aHc hp hq',hlen]
theorem aDH:Ds.RS:=rE [.n,.d (.slice (.pair bQ ff)),.d (.slice cH)] Ds
def aJo:=Ds.eY aJn 1 ⟨.aia ari cd,trivial⟩
abbrev QJ:=Int×Nat×(List (cz×fj))×(List cV)×(List (cz×fj))
def BU:QJ->Int->((Nat×(List (cz×fj))×(List cV))×(Int)):=λ(sum,o0L,cP,dH,n10) y=>((o0L,cP,dH),y)
abbrev aAX:=Nat×(List (cz×fj))×(List cV)
def amS:QJ->Prop:=λ(sum,_,_,_,rest)=>0<=sum/\(∀p∈rest,0<=p.2.1.1)/\sum+gM rest<=1000000000000000000
def ID:QJ->Int:=λ(sum,_,_,_,rest)=>sum+gM rest
def aDM:aAX->Prop:=λ(_,a,_)=>(∀p∈a,0<=p.2.1.1)/\gM a<=1000000000000000000
def amR:aAX->(Int×Nat×(List (cz×fj))×(List cV)):=λ(n,a,s)=>(gM a,n,a,s)
def wS:Ls amS BU ID:=pD (λ(sum,o0L,cP,dH,n10)=>⟨([bE,bE,bE,.d ti sum]++aW 6 ([eP 10]++aW 10 [])),[dq (.pr (.c7 (.bP 1) 0) (.pr (.bU (.bP 2) 0 [] 0 0 o0L) gR)),.obj 0 bm (.mp bQ ff cP),dq (.vec 212 cH dH)],(bw 10 ([dm (.tP (.bP 1) 1 bQ ff n10 aH)]++bw 10 []))⟩) (λx=>(.exit 0,⟨([bE,bE,bE,.d ti x.2]++aW 17 []),[dq (.pr (.c7 (.bP 1) 0) (.pr (.bU (.bP 2) 0 [] 0 0 x.1.1) gR)),dq (.mp bQ ff x.1.2.1),dq (.vec 212 cH x.1.2.2)],(ai 21 [])⟩))
def ER:Fs Tryz.prog aDM bq amR:=eV 23 Tryz.f23 (λ(o0baL,o1,o2)=>([.ptr (.bP 0) 0 [] 0],[.obj 0 aZ (.pr (.c7 (.bP 1) 0) (.pr (.bU (.bP 2) 0 [] 0 0 o0baL) (.d .unit ()))),.obj 0 aZ (.mp bQ ff o1),.obj 0 aZ (.vec 212 cH o2)])) (λx=>⟨.d ti x.1,[.obj 0 aZ (.pr (.c7 (.bP 1) 0) (.pr (.bU (.bP 2) 0 [] 0 0 x.2.1) (.d .unit ()))),.obj 0 aZ (.mp bQ ff x.2.2.1),.obj 0 aZ (.vec 212 cH x.2.2.2)],[]⟩) [aH] [] {loops:=lz [(3,{bg:=[3,10],sites:=[10],aU5:=[10]})],outs:=lu [(3,{bg:=[3]},{bg:=[2]})],fa:=mc [(3,wS.E)]}
theorem amT:wS.RS:=rL [.d ti,.n,.d (.slice (.pair bQ ff)),.d (.slice cH),.d (.slice (.pair bQ ff))] wS
theorem Pg(sum o0L cP dH n10)(kn:K2 R)(kx:K3 R):ER.R 0 wS (sum,o0L,cP,dH,n10) kn kx=aJ (decide (0 < (ae n10))) (ap3 (ae n10) λj1=>kn (wS.st ((bz .i64 sum (sE bQ ff n10 j1).2.1.1),o0L,cP,dH,(List.eraseIdx n10 j1)))) (wS.go kx ((o0L,cP,dH),sum)):=cd
theorem aJx(o0baL o1 o2)(k:K1 R):ER.A (o0baL,o1,o2) k=ao (wS.call (0,o0baL,o1,o2,o1)) λx2=>k (ER.out (x2.2,x2.1.1,x2.1.2.1,x2.1.2.2)):=cd
theorem aru:(ER.jx 0 wS):=by
 refine(ER.aX7 0 wS) (λ(_,_,_,_,rest)=>rest.length) ?_
 rintro⟨sum,o,a,s,rest⟩ ⟨h0,hn,hm⟩;have h0:0<=sum:=h0;have hm:sum+gM rest<=1000000000000000000:=hm;by_cases h:0 < rest.length
 ·left;have key:∀j,(hj:j < rest.length)->rest[j].2.1.1+gM (rest.eraseIdx j)=gM rest:=λj hj=>by rw[<-mm];exact vI (QT hj).symm
  refine⟨rest.length,λj=>(bz .i64 sum (sE bQ ff rest j).2.1.1,o,a,s,rest.eraseIdx j),h,λj hj=> ?_,λkn kx=> ?_⟩
  ·have hk:=key j hj;have hx:=hn _ (aK hj);have hr:∀p∈rest.eraseIdx j,0<=p.2.1.1:=λp hp=>hn p ((List.eraseIdx_sublist rest j).subset hp)
   have:=aqi hr;have e1:bz .i64 sum (sE bQ ff rest j).2.1.1=sum+rest[j].2.1.1:=by rw[abO hj];exact fA aq aq
   refine⟨⟨?_,hr,?_⟩,?_,?_⟩
   ·show 0<=bz .i64 sum _;rw[e1];omega
   ·show bz .i64 sum _+gM (rest.eraseIdx j)<=_;rw[e1];omega
   ·show(rest.eraseIdx j).length < rest.length;rw[mF,if_pos hj];omega
   ·simp only[BU,ID,e1];rw[<-hk,tF]
  ·rw[Pg,aX h,aj]
 ·right;obtain rfl:rest=[]:=bJ aq;intro T kn kx;rw[Pg,bo h,al];simp only[BU,ID,gM,fK,List.sum_nil,Int.add_zero]
theorem aJy:ER.Ok:=by rintro⟨n,a,s⟩ ⟨hn,hm⟩;have hm:gM a<=_:=hm;rw[aJx,amT (d:=(0,n,a,s,a)) ⟨eF _,hn,by show 0+gM a<=_;omega⟩];simp only[ag,BU,ID,bq,amR,mD]
theorem ajV:ER.RS:=rE [.n,.d (.slice (.pair bQ ff)),.d (.slice cH)] ER
def arv:=ER.eY aJy 1 ⟨.e7 aru,trivial⟩
abbrev amA:=Nat×(List cV)
abbrev aAJ:=Nat×(List cV)
def Wy:amA->aAJ->(((List cV))×(Nat×(List cV))):=λ(sL,o0) y=>(o0,y)
def aDv:amA->Prop:=λ(n,l)=>n<=l.length/\l.length<=1000000
def amB:amA->aAJ:=λ(n,l)=>((l.take n).length,l.take n)
def SX:Fs Tryz.prog aDv Wy amB:=eV 177 Tryz.f177 (λ(sL,o0)=>([.bU (.bP 0) 0 [] 0 0 sL],[.obj 0 aZ (.vec 212 cH o0)])) (λx=>⟨.bU (.new 0 0) 0 [] 0 0 x.2.1,[.obj 0 aZ (.vec 212 cH x.1)],[.obj 0 aZ (.vec 212 cH x.2.2)]⟩) [aH] [] {cg:=[5],owns:=[⟨2,[],5,97⟩]}
theorem aI4(sL o0)(k:K1 R):SX.A (sL,o0) k=aJ (decide (0 < sL)) (aJ (decide (0=0/\(0+sL)<=(ae o0))) (aJ (cZ (0+(ae (cut o0 0 sL))) 48) (k (SX.out (o0,((0+(ae (cut o0 0 sL))),((aM 0 (ai 0 (([]:List ei),(([]:List cz),()))))++(cut o0 0 sL)))))) aH) aH) (nd (k (SX.out (o0,(0,([]:List cV))))) (aJ (decide (0=0/\(0+sL)<=(ae o0))) (aJ (cZ (0+(ae (cut o0 0 sL))) 48) (k (SX.out (o0,((0+(ae (cut o0 0 sL))),((aM 0 (ai 0 (([]:List ei),(([]:List cz),()))))++(cut o0 0 sL)))))) aH) aH)):=cd
theorem aI5:SX.Ok:=by
 rintro⟨n,l⟩ ⟨h1,h2⟩;have h1:n<=l.length:=h1;have h2:l.length<=1000000:=h2;have ec:cut l 0 n=l.take n:=by simp[cut]
 have ht:(l.take n).length<=1000000:=by rw[bV];omega
 have hr:cZ (l.take n).length 48=bm:=cM aq aq;rw[aI4];simp only[aV,ec,hr,aj,dD,aY,lT,aX h1,Wy,amB];by_cases h:0 < n
 ·simp only[aX h,aj]
 ·have:n=0:=aq;subst this;simp only[dD,bp,aL,b8,aj,E3,bo (iI 0),al]
theorem aDw:SX.RS:=rE [.n,.d (.slice cH)] SX
def aI6:=SX.aYU alQ aI5
abbrev Le:=Nat×(List (cz×fj))×(List cV)×(List (cz×fj))×(List cV)×Nat×(List (cz×fj))
abbrev YM:=(List (cz×fj))
def y5:Le->YM->((Nat×(List (cz×fj))×(List cV)×(List cV)×Nat)×((List (cz×fj)))):=λ(o0L,cP,dH,n6,n11,p9,n18) y=>((o0L,cP,dH,n11,p9),y)
abbrev arp:=Nat×(List (cz×fj))×(List cV)
def ahO:Le->Prop:=λ(_,_,_,m,_,_,rest)=>((m++rest).map (·.1)).Nodup
def EP:Le->YM:=λ(_,_,_,m,_,_,rest)=>fC (m++rest)
def awB:arp->Prop:=λ(n,a,s)=>n<=s.length/\s.length<=1000000/\(a.map (·.1)).Nodup
def arq:arp->(Nat×(List (cz×fj))×(List cV)×Nat×(List (cz×fj))×(List cV)):=λ(n,a,s)=>(n,a,s,(s.take n).length,fC a,s.take n)
def so:Ls ahO y5 EP:=pD (λ(o0L,cP,dH,n6,n11,p9,n18)=>⟨([bE,bE,bE,eP 13]++aW 14 ([eP 18]++aW 12 [])),[dq (.pr (.c7 (.bP 1) 0) (.pr (.bU (.bP 2) 0 [] 0 0 o0L) gR)),.obj 0 bm (.mp bQ ff cP),dq (.vec 212 cH dH)],(bw 6 ([dm (.mp bQ ff n6)]++bw 4 ([dm (.vec 212 cH n11),[],dm (.pr (.c7 (.new 6 0) 0) (.pr (jl 11 p9) gR))]++bw 4 ([dm (.tP (.bP 1) 1 bQ ff n18 aH)]++bw 12 []))))⟩) (λx=>(.exit 0,⟨([bE,bE,bE,eP 13]++aW 27 []),[dq (.pr (.c7 (.bP 1) 0) (.pr (.bU (.bP 2) 0 [] 0 0 x.1.1) gR)),dq (.mp bQ ff x.1.2.1),dq (.vec 212 cH x.1.2.2.1)],(bw 6 ([dm (.mp bQ ff x.2)]++bw 4 ([dm (.vec 212 cH x.1.2.2.2.1),[],dm (.pr (.c7 (.new 6 0) 0) (.pr (jl 11 x.1.2.2.2.2) gR))]++bw 17 [])))⟩))
def wR:Fs Tryz.prog awB bq arq:=eV 107 Tryz.f107 (λ(o0baL,o1,o2)=>([.ptr (.bP 0) 0 [] 0],[.obj 0 aZ (.pr (.c7 (.bP 1) 0) (.pr (.bU (.bP 2) 0 [] 0 0 o0baL) (.d .unit ()))),.obj 0 aZ (.mp bQ ff o1),.obj 0 aZ (.vec 212 cH o2)])) (λx=>⟨.ptr (.new 0 0) 0 [] 0,[.obj 0 aZ (.pr (.c7 (.bP 1) 0) (.pr (.bU (.bP 2) 0 [] 0 0 x.1) (.d .unit ()))),.obj 0 aZ (.mp bQ ff x.2.1),.obj 0 aZ (.vec 212 cH x.2.2.1)],[.obj 0 aZ (.pr (.c7 (.new 0 1) 0) (.pr (.bU (.new 0 2) 0 [] 0 0 x.2.2.2.1) (.d .unit ()))),.obj 0 aZ (.mp bQ ff x.2.2.2.2.1),.obj 0 aZ (.vec 212 cH x.2.2.2.2.2)]⟩) [aH] [aI6] {cg:=[13],loops:=lz [(3,{bg:=[3,18],sites:=[6,11,13,18],aU5:=[18]})],outs:=lu [(3,{bg:=[3],sites:=[6,11,13],aUh:=[(.new 6 0)]},{bg:=[2]})],fa:=mc [(3,so.E)]}
theorem ahP:so.RS:=rL [.n,.d (.slice (.pair bQ ff)),.d (.slice cH),.d (.slice (.pair bQ ff)),.d (.slice cH),.n,.d (.slice (.pair bQ ff))] so
theorem Lg(o0L cP dH n6 n11 p9 n18)(kn:K2 R)(kx:K3 R):wR.R 0 so (o0L,cP,dH,n6,n11,p9,n18) kn kx=aJ (decide (0 < (ae n18))) (ap3 (ae n18) λj1=>kn (so.st (o0L,cP,dH,(fp bQ (sE bQ ff n18 j1).1 (sE bQ ff n18 j1).2 n6),n11,p9,(List.eraseIdx n18 j1)))) (so.go kx ((o0L,cP,dH,n11,p9),(fC n6))):=cd
theorem aDK(o0baL o1 o2)(k:K1 R):wR.A (o0baL,o1,o2) k=ao (SX.call (o0baL,o2)) λx1=>ao (so.call (o0baL,o1,x1.1,([]:List (cz×fj)),x1.2.2,x1.2.1,o1)) λx3=>k (wR.out (x3.1.1,x3.1.2.1,x3.1.2.2.1,x3.1.2.2.2.2,x3.2,x3.1.2.2.2.1)):=cd
theorem amN:(wR.jx 0 so):=by
 refine(wR.aX7 0 so) (λ(_,_,_,_,_,_,rest)=>rest.length) ?_
 rintro⟨n,a,s,m,u,k0,rest⟩ hn;have hn:((m++rest).map (·.1)).Nodup:=hn;by_cases h:0 < rest.length
 ·left;have e1:∀j,j < rest.length->fp bQ (sE bQ ff rest j).1 (sE bQ ff rest j).2 m=m++ [sE bQ ff rest j]:=λj hj=>by rw[Al iF];intro hm;rw[ui,List.nodup_append]at hn;exact hn.2.2 _ hm _ (dy.2 ⟨_,aK hj,by rw[abO hj]⟩) rfl
  have e2:∀j,j < rest.length->(m++ [sE bQ ff rest j]++rest.eraseIdx j).Perm (m++rest):=λj hj=>by rw[aO,abO hj];exact List.Perm.append_left _ (QT hj).symm
  refine⟨rest.length,λj=>(n,a,s,fp bQ (sE bQ ff rest j).1 (sE bQ ff rest j).2 m,u,k0,rest.eraseIdx j),h,λj hj=>⟨?_,?_,?_⟩,λkn kx=> ?_⟩
  ·show((fp bQ (sE bQ ff rest j).1 (sE bQ ff rest j).2 m++rest.eraseIdx j).map (·.1)).Nodup;rw[e1 j hj];exact(((e2 j hj).map _).nodup_iff).2 hn
  ·show(rest.eraseIdx j).length < rest.length;rw[mF,if_pos hj];omega
  ·simp only[y5,EP,e1 j hj];rw[aDk (e2 j hj)]
  ·rw[Lg,aX h,aj]
 ·right;obtain rfl:rest=[]:=bJ aq;intro T kn kx;rw[Lg,bo h,al];simp only[y5,EP,bK]
theorem aDL:wR.Ok:=by rintro⟨n,a,s⟩ ⟨h1,h2,h3⟩;have h1:n<=s.length:=h1;have h2:s.length<=1000000:=h2;rw[aDK,aDw (d:=(n,s)) ⟨h1,h2⟩];simp only[ag,Wy,amB];rw[ahP (d:=(n,a,s,[],s.take n,(s.take n).length,a)) h3];simp only[ag,y5,EP,bq,arq,aY]
theorem awC:wR.RS:=rE [.n,.d (.slice (.pair bQ ff)),.d (.slice cH)] wR
def N4:=wR.eY aDL 1 ⟨.e7 amN,trivial⟩
abbrev Wz:=jV×Nat×Nat×Int×Int×Int×(List nR)
abbrev ajR:=(List nR)×(List nR)
def ara:Wz->ajR->((jV×Int)×((List nR)×(List nR))):=λ(aBx,lL,aHg,t11,t12,n2,n9) y=>((aBx,n2),y)
def baV(l:Lk):Prop:=l.1.length<=1000/\∀b∈l.1,b.1.length<=1000000
def aq9:Wz->Prop:=λ(_,n,m,t,i,_,l)=>(l.length<=1000/\∀b∈l,b.1.length<=1000000)/\∃k:Nat,k<=l.length/\i=k/\n=l.length/\m=l.length/\t=l.length
def aDB:Wz->ajR:=λ(_,_,_,_,_,_,l)=>(l,l)
def aJc:jV->Prop:=λo=>baV o.2.1
def aww:jV->jV:=λo=>o
def y4:Ls aq9 ara aDB:=pD (λ(aBx,lL,aHg,t11,t12,n2,n9)=>⟨([bE,.dz fi aBx,eP 2,jl 9 lL]++aW 6 ([jl 9 aHg,.d ti t11,.d ti t12]++aW 17 [])),[],([[],[],dm (.pr (.d ti n2) (.pr (.pr (.dJ) gR) gR))]++bw 6 ([dm (.vec 111 jE n9)]++bw 20 []))⟩) (λx=>(.exit 0,⟨([bE,.dz fi x.1.1,eP 2,.d (.slice jE) x.2.1]++aW 26 []),[],([[],[],dm (.pr (.d ti x.1.2) (.pr (.pr (.dJ) gR) gR))]++bw 6 ([[.obj 0 bm (.vec 111 jE x.2.2)]]++bw 20 []))⟩))
def aaQ:Fs Tryz.prog aJc bq aww:=eV 57 Tryz.f57 (λo=>([.d fi o],[])) (λx=>⟨.d fi x,[],[]⟩) [av fi] [aAI,akJ] {loops:=lz [(3,{bg:=[1,2,3,10,11,12],sites:=[2,9]})],outs:=lu [(3,{bg:=[1,2,3],sites:=[2,9],data:=[(3,(.slice jE))]},{bg:=[2]})],fa:=mc [(3,y4.E)],res:=[av fi]}
theorem arb:y4.RS:=rL [.d fi,.n,.n,.d ti,.d ti,.d ti,.d (.slice jE)] y4
theorem SZ(aBx lL aHg t11 t12 n2 n9)(kn:K2 R)(kx:K3 R):aaQ.R 0 y4 (aBx,lL,aHg,t11,t12,n2,n9) kn kx=aJ (fv t12 t11) (aJ (eA t12 ((aHg:Nat):Int)) (aJ (decide ((0+(ab t12)) < (ae n9))) (aJ (decide ((((0+(ab t12))*4)+0)=(0+((ab t12)*4)))) (ao (Gp.call (nth jE n9 (0+(ab t12))).1) λx1=>aJ (eA t12 ((lL:Nat):Int)) (aJ (decide ((0+(ab t12)) < (ae n9))) (aJ (decide ((((0+(ab t12))*4)+0)=((0+((ab t12)*4))+0))) (aJ (decide ((0+(ab t12)) < (ae n9))) (kn (y4.st (aBx,lL,aHg,t11,(bz .i64 t12 1),n2,(gF n9 (0+(ab t12)) (x1,(nth jE n9 (0+(ab t12))).2))))) aH) aH) aH) aH) aH) aH) aH) (aJ (decide (0=0/\(0+lL)<=(ae n9))) (y4.go kx ((aBx,n2),((cut n9 0 lL),n9))) aH):=cd
theorem aPS(o)(k:K1 R):aaQ.A o k=ao (ahN.call o.2.1.1) λx1=>ao (y4.call (o,x1.1,x1.1,((x1.1:Nat):Int),0,0,x1.2)) λx3=>k (aaQ.out (x3.1.1.1,((x3.2.1,()),()))):=cd
theorem awx:(aaQ.jx 0 y4):=by
 refine(aaQ.mf 0 y4) (λ(_,_,_,_,i,_,l)=>l.length - i.toNat) ?_
 rintro⟨o,n,m,t,i,u,l⟩ ⟨⟨hlen,hx⟩,k,hk,rfl,rfl,rfl,rfl⟩;have hlen:l.length<=1000:=hlen;have hk:k<=l.length:=hk;by_cases h:k < l.length
 ·left;have n1:nth jE l k=l[k]:=bY (t:=jE) h;have hs:l.set k l[k]=l:=gU h;have e:=hx _ (aK h);refine⟨(o,l.length,l.length,(l.length:Int),((k+1:Nat):Int),u,l),⟨⟨hlen,hx⟩,k+1,aq,rfl,rfl,rfl,rfl⟩,by simp only[aa];omega,rfl,λkn kx=> ?_⟩;rw[SZ,aS aq,ba aq aq];simp only[aa,aV,cD,aj,aX h,b8,n1];rw[aeD (d:=l[k].1) e];simp only[ag,bq,Uh];rw[N.jL aq];exact bW (λz=>kn (y4.st (_,_,_,_,_,_,z))) hs
 ·right;obtain rfl:k=l.length:=aq;intro R kn kx;rw[SZ,aQ aq,al,aX aq,aj,ea rfl];rfl
theorem aPT:aaQ.Ok:=by rintro⟨a,⟨l,u⟩,v⟩ ⟨h1,h2⟩;have h1:l.length<=1000:=h1;rw[aPS,aq0 (d:=l) (by show l.length<=_;omega)];simp only[ag,bq,amv];rw[arb (d:=((a,(l,u),v),l.length,l.length,(l.length:Int),0,0,l)) ⟨⟨h1,h2⟩,0,aL _,rfl,rfl,rfl,rfl⟩];rfl
theorem arc:aaQ.RS:=rE [.d fi] aaQ
def aAM:=aaQ.eY aPT 1 ⟨.e7 awx,trivial⟩
abbrev Dy:=Int×(List jV)×Int×Int×(List (cz×fj))
def qX:Dy->AS:=λ(sum,t13,t14,t15,n10)=>⟨([bE,bE,bE,eP 12,.d ti sum]++aW 8 ([.d (.slice fi) t13,.d ti t14,.d ti t15]++aW 35 [])),[],(bw 10 ([dm (.mp bQ ff n10),[],dm (.pr (.c7 (.new 10 0) 0) (.pr (.dJ) gR))]++bw 38 []))⟩
def gq:Unit->Exit×AS:=λx=>(.ret,⟨([bE,bE,.jW]++aW 48 []),[],(ai 51 [])⟩)
abbrev YO:=(List (cz×fj))
def BT:YO->Exit×AS:=λx=>(.exit 0,⟨([bE,bE,bE,eP 12]++aW 47 []),[],(bw 10 ([dm (.mp bQ ff x),[],dm (.pr (.c7 (.new 10 0) 0) (.pr (.dJ) gR))]++bw 38 []))⟩)
abbrev QI:=(Unit)⊕(YO)
abbrev acU:=(Unit)⊕(((List (cz×fj))))
def IC:QI->Out (Exit×AS):=λx=> .br x.isLeft (.get x.getLeft? λa=> .ok (gq a)) (.get x.getRight? λb=> .ok (BT b))
def mM:Dy->acU->QI:=λ(sum,t13,t14,t15,n10) y=>match y with | .inl y=> .inl y | .inr z=> .inr (z)
abbrev Tk:=(List jV)
def acW:Tk->SA:=λouts=>([.d (.slice fi) outs],[])
abbrev aAW:=(Unit)⊕((List (cz×fj))×(List cV))
abbrev amQ:=(Unit)⊕((List (cz×fj))×(List cV))
def Hr:amQ->jf:=λx=>match x with | .inl x=>⟨.jW,[],[]⟩ | .inr x=>⟨eP 0,[],[dq (.pr (.c7 (.new 0 1) 0) (.pr (.bU (.new 0 2) 0 [] 0 0 0) gR)),dq (.mp bQ ff x.1),dq (.vec 212 cH x.2)]⟩
def Hq:Tk->aAW->amQ:=λouts y=>match y with | .inl y=> .inl y | .inr y=> .inr y
def wO(k:Nat)(o:jV):cz×fj:=((ai 32 (0:Int),((k:Int),())),(o,((0:Int),())))
def rv(sum:Int)(o:jV):Bool:=lI o.2.1 && decide (0<=o.1/\o.1<=1125899906842624 - sum)
def DQ(sum:Int)(k:Nat):List jV->Option (List (cz×fj))
 |[]=>av []
 |o::l=>match rv sum o with | true=>(DQ (sum+o.1) (k+1) l).map (wO k o:: ·) | false=>aH
def Rp(outs:List jV):Option (List (cz×fj)):=if outs.length<=256 then DQ 0 0 outs else aH
def Wi(o:jV):Prop:=abu o.2.1/\o.2.1.1.length<=9223372036854775807/\o.1<=9223372036854775807
def BS:Dy->Prop:=λ(sum,outs,n,i,a)=>(∀o∈outs,Wi o)/\outs.length<=256/\0<=sum/\sum<=1125899906842624/\∃k:Nat,k<=outs.length/\i=k/\n=outs.length/\∀p∈a,p.1.2.1 < (k:Int)
def qW:Dy->acU:=λ(sum,outs,_,i,a)=>match DQ sum i.toNat (outs.drop i.toNat) with | none=> .inl () | some r=> .inr (a++r)
def WB:Tk->Prop:=λouts=>∀o∈outs,Wi o
def N5:Tk->aAW:=λouts=>match Rp outs with | none=> .inl () | some r=> .inr (r,[])
def amO:tg:=jr (P:=Tryz.prog) [Hy,aAM]
def acT:=dB.e7 qX BS mM qW IC
def Pe:Dy->Option QI:=fS acT qX
def acV:Da:= {cg:=[12],loops:=lz [(5,{bg:=[3,4,13,14,15],sites:=[10,12]})],outs:=lu [(5,{bg:=[3],sites:=[10,12]},{bg:=[2]})],fa:=mc [(5,acT)],owns:=[⟨2,[.snd,.fst],0,97⟩]}
def aAU:= @Si Tryz.prog amO acV 0 Tryz.f8 _ acW
abbrev aJu:=avN @aAU WB Hq N5 Hr
def QH:= @ej Tryz.prog amO acV 0 Tryz.f8 0 _ qX
abbrev YN:=jj Tryz.prog amO acV 0 Tryz.f8 0 qX BS mM qW IC
theorem amP:ik Pe BS mM qW:=jX (jA [.d ti,.d (.slice fi),.d ti,.d ti,.d (.slice (.pair bQ ff))] λ_=>cd)
theorem Tl:ma @QH qX BS mM qW IC YN:=mJ
theorem Pf(sum t13 t14 t15 n10)(kn:K2 R)(kx:K3 R):QH (sum,t13,t14,t15,n10) kn kx=aJ (fv t15 t14) (aJ (eA t15 (((ae t13):Nat):Int)) (ao (rn.call (nth fi t13 (ab t15)).2.1) λx1=>aJ (!x1) (kx (gq ()).1 (gq ()).2) (aJ (fv (nth fi t13 (ab t15)).1 (0:Int)) (kx (gq ()).1 (gq ()).2) (aJ (xW (nth fi t13 (ab t15)).1 (df .i64 (1125899906842624:Int) sum)) (kx (gq ()).1 (gq ()).2) (ao (aaQ.call (nth fi t13 (ab t15))) λx2=>kn (qX ((bz .i64 sum (nth fi t13 (ab t15)).1),t13,t14,(bz .i64 t15 (1:Int)),(fp bQ ((ai 32 (0:Int)),(t15,())) (x2,((0:Int),())) n10))))))) aH) (kx (BT n10).1 (BT n10).2):=cd
theorem aJv(outs)(k:K1 R):aAU outs k=aJ (xW (((ae outs):Nat):Int) (256:Int)) (k (Hr (.inl ()))) (ao (Pe ((0:Int),outs,(((ae outs):Nat):Int),(0:Int),([]:List (cz×fj)))) λx3=>aJ x3.isLeft (ao x3.getLeft? λa4=>k (Hr (.inl ()))) (ao x3.getRight? λb5=>k (Hr (.inr (b5,([]:List cV)))))):=cd
theorem ars:YN:=by
 refine Tl (λ(_,outs,_,i,_)=>outs.length - i.toNat) ?_
 rintro⟨sum,outs,n,i,a⟩ ⟨hg,hl,h0,h1,k,hk,rfl,rfl,hf⟩;have h0:0<=sum:=h0;have h1:sum<=1125899906842624:=h1;have hl:outs.length<=256:=hl;have hk:k<=outs.length:=hk;by_cases h:k < outs.length
 ·obtain⟨g1,g2,g3⟩:=hg _ (aK h);have n1:nth fi outs k=outs[k]:=bY (t:=fi) h;have hd:outs.drop k=outs[k]::outs.drop (k+1):=au h
  have hs:∀ {R:Type} (kn:AS->Option R) (kx:Exit->AS->Option R),QH (sum,outs,(outs.length:Int),(k:Int),a) kn kx=
    aJ (!(lI outs[k].2.1)) (kx (gq ()).1 (gq ()).2) (aJ (fv outs[k].1 0) (kx (gq ()).1 (gq ()).2) (aJ (xW outs[k].1 (1125899906842624 - sum)) (kx (gq ()).1 (gq ()).2)
     (ao (aaQ.call outs[k]) λx2=>kn (qX ((bz .i64 sum outs[k].1),outs,(outs.length:Int),(bz .i64 (k:Int) (1:Int)),(fp bQ ((ai 32 (0:Int)),((k:Int),())) (x2,((0:Int),())) a)))))):=λkn kx=>by
   rw[Pf,aS aq,aj,ba aq aq,aj,aa,n1,DM (d:=outs[k].2.1) ⟨g1,g2⟩,fI aq aq];rfl
  by_cases gX:rv sum outs[k]=bm
  ·left;have hok':=gX;unfold rv at hok';simp only[aw,bt]at hok';obtain⟨k1,k2,k3⟩:=hok';have ahU:=W0 k1;refine⟨(sum+outs[k].1,outs,(outs.length:Int),((k+1:Nat):Int),a++ [wO k outs[k]]),⟨hg,hl,by show 0<=sum+outs[k].1;omega,by show sum+outs[k].1<=_;omega,k+1,aq,rfl,rfl,λp hp=> ?_⟩,by simp only[aa];omega,?_,λkn kx=> ?_⟩
   ·rcases bR.1 hp with hp | hp
    ·have:=hf p hp;omega
    ·rw[bB.1 hp];show(k:Int) < _;omega
   ·simp only[mM,qW,aa,hd,DQ,gX];cases DQ (sum+outs[k].1) (k+1) (outs.drop (k+1)) with
    |none=>rfl
    |some r=>simp only[eN,aO,cE]
   ·rw[hs,k1,bT,al,aQ aq,al,cI aq,al,arc (d:=outs[k]) ⟨aq,λb hb=>by have:=ahU.2 b hb;omega⟩];simp only[ag,bq,aww];rw[fA aq aq,N.jL aq,Al iF]
    ·rfl
    ·intro hm;obtain⟨p,hp,he⟩:=dy.1 hm;have:=hf p hp;have he:p.1=_:=he;rw[he]at this;have this:(k:Int) < k:=this;omega
  ·right;have anm:rv sum outs[k]=aZ:=by simpa using gX
   refine⟨gq (),?_,λkn kx=> ?_⟩;rotate_left
   ·rw[hs];unfold rv at anm;cases k1:lI outs[k].2.1 with
    |false=>rw[dX,aj]
    |true=>
     rw[k1]at anm;simp only[bM,gA]at anm;rw[bT,al];by_cases k2:outs[k].1 < 0
     ·rw[aS k2,aj]
     ·rw[aQ k2,al,dw aq,aj]
   ·simp only[mM,qW,aa,hd,DQ,anm];rfl
 ·right;obtain rfl:k=outs.length:=aq;refine⟨BT a,?_,λkn kx=> ?_⟩;rotate_left
  ·rw[Pf,aQ aq,al]
  ·simp only[mM,qW,aa,aI,DQ,bK];rfl
theorem aJw:aJu:=by
 intro outs hg;rw[aJv];simp only[Hq,N5,Rp];by_cases h:outs.length<=256
 ·rw[cI aq,al,amP (d:=(0,outs,(outs.length:Int),0,[])) ⟨hg,h,eX,eX,0,aL _,rfl,rfl,λp hp=>by cases hp⟩,if_pos h];simp only[ag,mM,qW,aT,ay];cases DQ 0 0 outs with
  |none=>rfl
  |some r=>rfl
 ·rw[dw aq,aj,if_neg h]
def aAV:=Entry.asE [av (.slice fi)] acW WB Hq N5 Hr
def Dz:Tk->Option amQ:=K6 aAV acW
theorem ajU:ik Dz WB Hq N5:=alJ (adv [.d (.slice fi)] λ_=>cd)
def art:SG Tryz.prog:=⟨8,nV,aAV,.of (.aWA (.fn 1 cd aJw (And.intro (.e7 ars cd) trivial))) (by rfl)⟩
def aYo(c:fj):Prop:=lI c.1.2.1=bm/\abu c.1.2.1/\0<=c.1.1/\c.1.1<=1125899906842624/\0<=c.2.1/\c.2.1<=1048576
def Wf(a:List (cz×fj)):Prop:=(a.map (·.1)).Nodup/\∀p∈a,KD p.1/\aYo p.2
theorem Wf.get{a:List (cz×fj)}(h:Wf a){o:cz}{c:fj}(hg:cw bQ o a=av c):aYo c:=(h.2 _ ((mq iF h.1).1 hg)).2
def aOT:fj:=((0,(([],()),())),(0,()))
abbrev Dw:=Int×dM×Int×(List ji)×Int×Int×Nat×(List (cz×fj))×(List cV)×Bs
def qU:Dw->AS:=λ(dj,fP,gB,t35,t36,t37,o0L,cP,dH,n8)=>⟨([.ptr (.bP 0) 0 [] 0,bE,.d ti dj,bE,.dz dU fP,bE,bE,bE,eP 8,.d ti gB]++aW 25 ([.d (.slice fo) t35,.d ti t36,.d ti t37]++aW 69 [])),[dq (.pr (.c7 (.bP 1) 0) (.pr (.bU (.bP 2) 0 [] 0 0 o0L) gR)),dq (.mp bQ ff cP),dq (.vec 212 cH dH)],(bw 8 ([dm (.d tH n8)]++bw 98 []))⟩
abbrev YH:=(Nat×(List (cz×fj))×(List cV))×(Int)
def kA:YH->Exit×AS:=λ((a,b,c),e)=>(.ret,⟨(aW 6 ([.d ti (0:Int),.d ti e]++aW 99 [])),[dq (.pr (.c7 (.bP 1) 0) (.pr (.bU (.bP 2) 0 [] 0 0 a) gR)),dq (.mp bQ ff b),dq (.vec 212 cH c)],(ai 107 [])⟩)
abbrev YI:=(dM×Nat×(List (cz×fj))×(List cV))×(Int)
def BN:YI->Exit×AS:=λ((a,b,c,e),f)=>(.exit 0,⟨([.ptr (.bP 0) 0 [] 0,bE,bE,bE,.dz dU a]++aW 4 ([.d ti f]++aW 97 [])),[dq (.pr (.c7 (.bP 1) 0) (.pr (.bU (.bP 2) 0 [] 0 0 b) gR)),dq (.mp bQ ff c),dq (.vec 212 cH e)],(ai 107 [])⟩)
abbrev QE:=(YH)⊕(YI)
abbrev acP:=(Int)⊕(Int)
def Iz:QE->Out (Exit×AS):=λx=> .br x.isLeft (.get x.getLeft? λa=> .ok (kA a)) (.get x.getRight? λb=> .ok (BN b))
def kz:Dw->acP->QE:=λ(dj,fP,gB,t35,t36,t37,o0L,cP,dH,n8) y=>match y with | .inl y=> .inl ((o0L,cP,dH),y) | .inr z=> .inr (((fP,o0L,cP,dH),z))
abbrev Dx:=dM×Int×(List cz)×Int×Int×Nat×(List (cz×fj))×(List cV)
def vS:Dx->AS:=λ(lS,Bk,t75,t76,t77,gr,lp,me)=>⟨([.ptr (.bP 0) 0 [] 0,bE,bE,bE,.dz dU lS]++aW 4 ([.d ti Bk]++aW 65 ([.d (.slice bQ) t75,.d ti t76,.d ti t77]++aW 29 []))),[dq (.pr (.c7 (.bP 1) 0) (.pr (.bU (.bP 2) 0 [] 0 0 gr) gR)),dq (.mp bQ ff lp),dq (.vec 212 cH me)],(ai 107 [])⟩
abbrev YK:=Nat×(List (cz×fj))×(List cV)
def BP:YK->Exit×AS:=λ(a,b,c)=>(.ret,⟨(aW 6 ([.d ti (0:Int),.d ti (4:Int)]++aW 99 [])),[dq (.pr (.c7 (.bP 1) 0) (.pr (.bU (.bP 2) 0 [] 0 0 a) gR)),dq (.mp bQ ff b),dq (.vec 212 cH c)],(ai 107 [])⟩)
abbrev YL:=dM×Int×Nat×(List (cz×fj))×(List cV)
def BQ:YL->Exit×AS:=λ(a,b,c,e,f)=>(.exit 2,⟨(aW 4 ([.dz dU a]++aW 4 ([.d ti b]++aW 97 []))),[dq (.pr (.c7 (.bP 1) 0) (.pr (.bU (.bP 2) 0 [] 0 0 c) gR)),dq (.mp bQ ff e),dq (.vec 212 cH f)],(ai 107 [])⟩)
abbrev QF:=(YK)⊕(YL)
abbrev acS:=(Unit)⊕(Unit)
def IA:QF->Out (Exit×AS):=λx=> .br x.isLeft (.get x.getLeft? λa=> .ok (BP a)) (.get x.getRight? λb=> .ok (BQ b))
def mL:Dx->acS->QF:=λ(lS,Bk,t75,t76,t77,gr,lp,me) y=>match y with | .inl y=> .inl (gr,lp,me) | .inr z=> .inr ((lS,Bk,gr,lp,me))
abbrev QG:=Int×(List jV)×Int×Int×Nat×(List (cz×fj))×(List cV)
def BR:QG->Int->((Nat×(List (cz×fj))×(List cV))×(Int)):=λ(aj2,t93,t94,t95,aes,axF,tR) y=>((aes,axF,tR),y)
abbrev aAT:=dM×Int×Nat×(List (cz×fj))×(List cV)
def rh(h:Int)(id:List Int)(a:List (cz×fj)):List ji->Int->Int⊕Int
 |[],gB=> .inr gB
 |x::l,gB=>match cw bQ x.1 a with
  |none=> .inl 5
  |some c=>if v8 c.1.2.1 x.2.1 id h (h - c.2.1)≠0 then .inl (v8 c.1.2.1 x.2.1 id h (h - c.2.1)) else rh h id a l (gB+c.1.1)
def l5(a:List (cz×fj))(o:cz):Bool:=(cw bQ o a).isSome
def gH(l:List jV):Int:=(l.map (·.1)).sum
def cK(t:dM)(h:Int)(a:List (cz×fj)):Int×Int:=
 if hP t=bm/\1<=h/\h<=1048576 then
  match rh h (wz t) a t.1 0 with
  | .inl e=>(0,e)
  | .inr gB=>if(fY t).any (l5 a)=bm then(0,4) else if gB - gH t.2.1 < 0 then(0,8) else(gB - gH t.2.1,0)
 else(0,1)
def BM:Dw->Prop:=λ(h,_,gB,l,n,i,_,a,_,id)=>(0<=h/\h<=1048576)/\Sm id/\l.length<=64/\(∀x∈l,aY4 x)/\Wf a/\∃k:Nat,k<=l.length/\i=k/\n=l.length/\0<=gB/\gB<=(k:Int)*1125899906842624
def pB:Dw->acP:=λ(h,_,gB,l,_,i,_,a,_,id)=>rh h id a (l.drop i.toNat) gB
def BO:Dx->Prop:=λ(_,_,l,n,i,_,_,_)=>l.length<=1000/\∃k:Nat,k<=l.length/\i=k/\n=l.length
def qV:Dx->acS:=λ(_,_,l,_,i,_,a,_)=>if(l.drop i.toNat).any (l5 a)=bm then .inl () else .inr ()
def amL:QG->Prop:=λ(gB,l,n,i,_,_,_)=>l.length<=64/\(∀o∈l,0<=o.1/\o.1<=1125899906842624)/\∃k:Nat,k<=l.length/\i=k/\n=l.length/\ -((k:Int)*1125899906842624)<=gB/\gB<=1000000000000000000
def IB:QG->Int:=λ(gB,l,_,i,_,_,_)=>gB - gH (l.drop i.toNat)
def aDJ:aAT->Prop:=λ(t,_,_,a,_)=>th t/\Wf a
def amI:aAT->(Int×Int×Nat×(List (cz×fj))×(List cV)):=λ(t,h,n,a,s)=>((cK t h a).1,(cK t h a).2,n,a,s)
def acO:=dB.e7 qU BM kz pB Iz
def Pb:Dw->Option QE:=fS acO qU
def acQ:=dB.e7 vS BO mL qV IA
def Pc:Dx->Option QF:=fS acQ vS
def wQ:Ls amL BR IB:=pD (λ(aj2,t93,t94,t95,aes,axF,tR)=>⟨(aW 9 ([.d ti aj2]++aW 83 ([.d (.slice fi) t93,.d ti t94,.d ti t95]++aW 11 []))),[dq (.pr (.c7 (.bP 1) 0) (.pr (.bU (.bP 2) 0 [] 0 0 aes) gR)),dq (.mp bQ ff axF),dq (.vec 212 cH tR)],(ai 107 [])⟩) (λx=>(.exit 4,⟨(aW 9 ([.d ti x.2]++aW 97 [])),[dq (.pr (.c7 (.bP 1) 0) (.pr (.bU (.bP 2) 0 [] 0 0 x.1.1) gR)),dq (.mp bQ ff x.1.2.1),dq (.vec 212 cH x.1.2.2)],(ai 107 [])⟩))
def nP:Fs Tryz.prog aDJ bq amI:=eV 146 Tryz.f146 (λ(t,height,o0baL,o1,o2)=>([.ptr (.bP 0) 0 [] 0,.d dU t,.d ti height],[.obj 0 aZ (.pr (.c7 (.bP 1) 0) (.pr (.bU (.bP 2) 0 [] 0 0 o0baL) (.d .unit ()))),.obj 0 aZ (.mp bQ ff o1),.obj 0 aZ (.vec 212 cH o2)])) (λx=>⟨.cons (.d ti x.1) (.cons (.d ti x.2.1) (.nil)),[.obj 0 aZ (.pr (.c7 (.bP 1) 0) (.pr (.bU (.bP 2) 0 [] 0 0 x.2.2.1) (.d .unit ()))),.obj 0 aZ (.mp bQ ff x.2.2.2.1),.obj 0 aZ (.vec 212 cH x.2.2.2.2)],[]⟩) [aH,av dU,av ti] [te,X9,aK3,avh] {loops:=lz [(5,{bg:=[0,2,4,8,9,35,36,37],sites:=[8]}),(16,{bg:=[0,4,9,75,76,77]}),(23,{bg:=[9,93,94,95]})],outs:=lu [(5,{bg:=[0,4,9]},{bg:=[6,7]}),(16,{bg:=[4,9]},{bg:=[6,7]}),(23,{bg:=[9]},{bg:=[6,7]})],fa:=mc [(5,acO),(16,acQ),(23,wQ.E)]}
def QD:= @ej Tryz.prog (jr nP.G) nP.an 0 Tryz.f146 0 _ qU
abbrev YG:=jj Tryz.prog (jr nP.G) nP.an 0 Tryz.f146 0 qU BM kz pB Iz
def acR:= @ej Tryz.prog (jr nP.G) nP.an 0 Tryz.f146 1 _ vS
abbrev YJ:=jj Tryz.prog (jr nP.G) nP.an 0 Tryz.f146 1 vS BO mL qV IA
theorem amJ:ik Pb BM kz pB:=jX (jA [.d ti,.d dU,.d ti,.d (.slice fo),.d ti,.d ti,.n,.d (.slice (.pair bQ ff)),.d (.slice cH),.d tB] λ_=>cd)
theorem Th:ma @QD qU BM kz pB Iz YG:=mJ
theorem Gb(dj fP gB t35 t36 t37 o0L cP dH n8)(kn:K2 R)(kx:K3 R):QD (dj,fP,gB,t35,t36,t37,o0L,cP,dH,n8) kn kx=aJ (fv t37 t36) (aJ (eA t37 (((ae t35):Nat):Int)) (aJ (!(cw bQ (nth fo t35 (ab t37)).1 cP).isSome) (kx (kA ((o0L,cP,dH),(5:Int))).1 (kA ((o0L,cP,dH),(5:Int))).2) (ao (oM.call (((cw bQ (nth fo t35 (ab t37)).1 cP).getD (((0:Int),((([]:List nR),()),())),((0:Int),()))).1.2.1,(nth fo t35 (ab t37)).2.1,n8,dj,(df .i64 dj ((cw bQ (nth fo t35 (ab t37)).1 cP).getD (((0:Int),((([]:List nR),()),())),((0:Int),()))).2.1))) λx1=>aJ (C3 x1 (0:Int)) (kx (kA ((o0L,cP,dH),x1)).1 (kA ((o0L,cP,dH),x1)).2) (kn (qU (dj,fP,(bz .i64 gB ((cw bQ (nth fo t35 (ab t37)).1 cP).getD (((0:Int),((([]:List nR),()),())),((0:Int),()))).1.1),t35,t36,(bz .i64 t37 (1:Int)),o0L,cP,dH,n8))))) aH) (kx (BN ((fP,o0L,cP,dH),gB)).1 (BN ((fP,o0L,cP,dH),gB)).2):=cd
theorem amK:ik Pc BO mL qV:=jX (jA [.d dU,.d ti,.d (.slice bQ),.d ti,.d ti,.n,.d (.slice (.pair bQ ff)),.d (.slice cH)] λ_=>cd)
theorem Ti:ma @acR vS BO mL qV IA YJ:=mJ
theorem Gc(lS Bk t75 t76 t77 gr lp me)(kn:K2 R)(kx:K3 R):acR (lS,Bk,t75,t76,t77,gr,lp,me) kn kx=aJ (fv t77 t76) (aJ (eA t77 (((ae t75):Nat):Int)) (aJ ((cw bQ (nth bQ t75 (ab t77)) lp).isSome) (kx (BP (gr,lp,me)).1 (BP (gr,lp,me)).2) (kn (vS (lS,Bk,t75,t76,(bz .i64 t77 (1:Int)),gr,lp,me)))) aH) (kx (BQ (lS,Bk,gr,lp,me)).1 (BQ (lS,Bk,gr,lp,me)).2):=cd
theorem amM:wQ.RS:=rL [.d ti,.d (.slice fi),.d ti,.d ti,.n,.d (.slice (.pair bQ ff)),.d (.slice cH)] wQ
theorem Pd(aj2 t93 t94 t95 aes axF tR)(kn:K2 R)(kx:K3 R):nP.R 2 wQ (aj2,t93,t94,t95,aes,axF,tR) kn kx=aJ (fv t95 t94) (aJ (eA t95 (t93.length:Int)) (kn (wQ.st ((df .i64 aj2 (nth fi t93 (ab t95)).1),t93,t94,(bz .i64 t95 1),aes,axF,tR))) aH) (wQ.go kx ((aes,axF,tR),aj2)):=cd
theorem aJs(t height o0baL o1 o2)(k:K1 R):nP.A (t,height,o0baL,o1,o2) k=ao (iQ.call t) λx1=>aJ (!x1) (k (nP.out (0,1,o0baL,o1,o2))) (aJ (fv height 1) (k (nP.out (0,1,o0baL,o1,o2))) (aJ (xW height 1048576) (k (nP.out (0,1,o0baL,o1,o2))) (ao (tid.call t) λx2=>ao (Pb (height,t,0,t.1,(t.1.length:Int),0,o0baL,o1,o2,x2)) λx4=>aJ x4.isLeft (ao x4.getLeft? λa5=>k (nP.out (0,a5.2,a5.1.1,a5.1.2.1,a5.1.2.2))) (ao x4.getRight? λb6=>ao (Kq.call b6.1.1) λx7=>ao (Pc (b6.1.1,b6.2,x7,(x7.length:Int),0,b6.1.2.1,b6.1.2.2.1,b6.1.2.2.2)) λx8=>aJ x8.isLeft (ao x8.getLeft? λa9=>k (nP.out (0,4,a9.1,a9.2.1,a9.2.2))) (ao x8.getRight? λb10=>ao (wQ.call (b10.2.1,b10.1.2.1,(b10.1.2.1.length:Int),0,b10.2.2.1,b10.2.2.2.1,b10.2.2.2.2)) λavK=>aJ (fv avK.2 0) (k (nP.out (0,8,avK.1.1,avK.1.2.1,avK.1.2.2))) (k (nP.out (avK.2,0,avK.1.1,avK.1.2.1,avK.1.2.2)))))))):=cd
theorem arl:YG:=by
 refine Th (λ(_,_,_,l,_,i,_,_,_,_)=>l.length - i.toNat) ?_
 rintro⟨h,t,gB,l,n,i,o,a,s,id⟩ ⟨⟨aUL,aTk⟩,dL,hl,hu,ha,k,hk,rfl,rfl,aKk,aA8⟩;have aUL:0<=h:=aUL;have aTk:h<=1048576:=aTk;have hl:l.length<=64:=hl;have aKk:0<=gB:=aKk;have aA8:gB<=(k:Int)*1125899906842624:=aA8;have hk:k<=l.length:=hk;by_cases fF:k < l.length
 ·have hx:=hu _ (aK fF);have n1:nth fo l k=l[k]:=bY (t:=fo) fF;have hd:l.drop k=l[k]::l.drop (k+1):=au fF;cases hg:cw bQ l[k].1 a with
  |none=>
   right;refine⟨kA ((o,a,s),5),?_,λkn kx=> ?_⟩;rotate_left
   ·rw[Gb,aS aq,aj,ba aq aq,aj,aa,n1,hg];simp only[ph,dX,aj]
   ·simp only[kz,pB,aa,hd,rh,hg];rfl
  |some c=>
   have hc:=ha.get hg;obtain⟨c1,c2,c3,c4,c5,c6⟩:=hc
   have xZ:∀ {R:Type} (kn:AS->Option R) (kx:Exit->AS->Option R),QD (h,t,gB,l,(l.length:Int),(k:Int),o,a,s,id) kn kx=
     aJ (C3 (v8 c.1.2.1 l[k].2.1 id h (h - c.2.1)) 0) (kx (kA ((o,a,s),v8 c.1.2.1 l[k].2.1 id h (h - c.2.1))).1 (kA ((o,a,s),v8 c.1.2.1 l[k].2.1 id h (h - c.2.1))).2)
      (kn (qU (h,t,gB+c.1.1,l,(l.length:Int),((k+1:Nat):Int),o,a,s,id))):=λkn kx=>by
    rw[Gb,aS aq,aj,ba aq aq,aj,aa,n1,hg];simp only[Option.isSome_some,bT,al,ed];rw[fI aq aq,aEH (d:=(c.1.2.1,l[k].2.1,id,h,h - c.2.1)) ⟨c2,by have:=W0 c1;omega,hx.2.1,dL⟩];simp only[ag,bq,anI];rw[fA aq aq,N.jL aq]
   by_cases he:v8 c.1.2.1 l[k].2.1 id h (h - c.2.1)=0
   ·left;refine⟨(h,t,gB+c.1.1,l,(l.length:Int),((k+1:Nat):Int),o,a,s,id),⟨⟨aUL,aTk⟩,dL,hl,hu,ha,k+1,aq,rfl,rfl,by show 0<=gB+c.1.1;omega,by show gB+c.1.1<=_;omega⟩,by simp only[aa];omega,?_,λkn kx=> ?_⟩
    ·simp only[kz,pB,aa,hd,rh,hg,he,ne_eq,qA,bC]
    ·rw[xZ,dN he,al]
   ·right;refine⟨kA ((o,a,s),v8 c.1.2.1 l[k].2.1 id h (h - c.2.1)),?_,λkn kx=> ?_⟩;rotate_left
    ·rw[xZ,fH he,aj]
    ·simp only[kz,pB,aa,hd,rh,hg];rw[if_pos he];rfl
 ·right;obtain rfl:k=l.length:=aq;refine⟨BN ((t,o,a,s),gB),?_,λkn kx=> ?_⟩;rotate_left
  ·rw[Gb,aQ aq,al]
  ·simp only[kz,pB,aa,aI,rh];rfl
theorem arn:YJ:=by
 refine Ti (λ(_,_,l,_,i,_,_,_)=>l.length - i.toNat) ?_
 rintro⟨t,gB,l,n,i,o,a,s⟩ ⟨hl,k,hk,rfl,rfl⟩;have hl:l.length<=1000:=hl;have hk:k<=l.length:=hk;by_cases fF:k < l.length
 ·have n1:nth bQ l k=l[k]:=bY (t:=bQ) fF;have hd:l.drop k=l[k]::l.drop (k+1):=au fF;cases hg:(cw bQ l[k] a).isSome with
  |true=>
   right;refine⟨BP (o,a,s),?_,λkn kx=> ?_⟩;rotate_left
   ·rw[Gc,aS aq,aj,ba aq aq,aj,aa,n1,hg,aj]
   ·simp only[mL,qV,aa,hd,eM,l5,hg,Bool.true_or,bO];rfl
  |false=>
   left;refine⟨(t,gB,l,(l.length:Int),((k+1:Nat):Int),o,a,s),⟨hl,k+1,aq,rfl,rfl⟩,by simp only[aa];omega,?_,λkn kx=> ?_⟩
   ·simp only[mL,qV,aa,hd,eM,l5,hg,tC]
   ·rw[Gc,aS aq,aj,ba aq aq,aj,aa,n1,hg,al,N.jL aq]
 ·right;obtain rfl:k=l.length:=aq;refine⟨BQ (t,gB,o,a,s),?_,λkn kx=> ?_⟩;rotate_left
  ·rw[Gc,aQ aq,al]
  ·simp only[mL,qV,aa,aI,iL,bG,bC];rfl
theorem aro:(nP.jx 2 wQ):=by
 refine(nP.mf 2 wQ) (λ(_,l,_,i,_,_,_)=>l.length - i.toNat) ?_
 rintro⟨gB,l,n,i,o,a,s⟩ ⟨hl,ho,k,hk,rfl,rfl,aKk,aA8⟩;have hl:l.length<=64:=hl;have hk:k<=l.length:=hk;have aKk: -((k:Int)*1125899906842624)<=gB:=aKk;have aA8:gB<=1000000000000000000:=aA8;by_cases fF:k < l.length
 ·left;have n1:nth fi l k=l[k]:=bY (t:=fi) fF;have hd:l.drop k=l[k]::l.drop (k+1):=au fF;have hx:=ho _ (aK fF);refine⟨(gB - l[k].1,l,(l.length:Int),((k+1:Nat):Int),o,a,s),⟨hl,ho,k+1,aq,rfl,rfl,by show _<=gB - l[k].1;omega,by show gB - l[k].1<=_;omega⟩,by simp only[aa];omega,?_,λkn kx=> ?_⟩
  ·simp only[BR,IB,aa,hd,gH,cj,List.sum_cons];rw[Int.sub_sub]
  ·rw[Pd,aS aq,aj,ba aq aq,aj,aa,n1,fI aq aq,N.jL aq]
 ·right;obtain rfl:k=l.length:=aq;intro R kn kx;rw[Pd,aQ aq,al];simp only[BR,IB,aa,aI,gH,fK,List.sum_nil,rV]
theorem vY{t:dM}(h:hP t=bm):(fY t).length=t.2.1.length:=by unfold fY;rw[if_pos h];simp[xc]
theorem Q8{h:Int}{id:List Int}{a:List (cz×fj)}(ha:Wf a):∀(l:List ji) (gB f:Int),rh h id a l gB= .inr f->gB<=f/\f<=gB+(l.length:Int)*1125899906842624
 |[],gB,f,e=>by simp only[rh,Sum.inr.injEq]at e;subst e;simp
 |x::l,gB,f,e=>by
  simp only[rh]at e;cases hg:cw bQ x.1 a with
  |none=>rw[hg]at e;cases e
  |some c=>
   rw[hg]at e;simp only at e;split at e
   ·cases e
   ·have hc:=ha.get hg;have:=Q8 ha l _ _ e;obtain⟨_,_,c3,c4,_⟩:=hc;rw[aF];omega
theorem aJt:nP.Ok:=by
 rintro⟨t,h,n,a,s⟩ ⟨hv,ha⟩;have hv:th t:=hv;have ha:Wf a:=ha;rw[aJs,pV (d:=t) hv.1];simp only[ag,bq,rS,bq,amI,cK];by_cases gX:hP t=bm
 ·rw[gX,bT,al];obtain⟨⟨_,a2,a3,_⟩,b1,b2⟩:=iq gX;by_cases h1:1<=h
  ·rw[aQ aq,al];by_cases h2:h<=1048576
   ·rw[cI aq,al,if_pos ⟨rfl,h1,h2⟩,OG (d:=t) hv];simp only[ag,bq,ahc];rw[amJ (d:=(h,t,0,t.1,(t.1.length:Int),0,n,a,s,wz t)) ⟨⟨by show 0<=h;omega,h2⟩,xT,a2,hv.2.1,ha,0,aL _,rfl,rfl,eX,eX⟩];simp only[ag,kz,pB,aT,ay];cases hi:rh h (wz t) a t.1 0 with
    |inl e=>
     simp only[jK,aj,ir,ag]
    |inr gB=>
     have hb:=Q8 ha _ _ _ hi;simp only[db,al,cC,ag];rw[alX (d:=t) hv];simp only[ag,bq,abY];rw[amK (d:=(t,gB,fY t,((fY t).length:Int),0,n,a,s)) ⟨by rw[vY gX];omega,0,aL _,rfl,rfl⟩];simp only[ag,mL,qV,aT,ay];by_cases hm:(fY t).any (l5 a)=bm
     ·rw[if_pos hm];simp only[jK,aj,ir,ag,bO,hm]
     ·rw[if_neg hm];simp only[db,al,cC,ag];rw[amM (d:=(gB,t.2.1,(t.2.1.length:Int),0,n,a,s)) ⟨a3,λo ho=>(kc _ _ b2 o ho).1,0,aL _,rfl,rfl,by show -((0:Int)*_)<=gB;omega,by show gB<=_;omega⟩];simp only[ag,BR,IB,aT,ay];rw[if_neg hm];by_cases hf:gB - gH t.2.1 < 0
      ·rw[aS hf,aj,if_pos hf]
      ·rw[aQ hf,al,if_neg hf]
   ·rw[dw aq,aj,if_neg (λe=>h2 e.2.2)]
  ·rw[aS aq,aj,if_neg (λe=>h1 e.2.1)]
 ·have hok':hP t=aZ:=by simpa using gX
  rw[hok',dX,aj,if_neg (λe=>by cases e.1)]
theorem ajT:nP.RS:=rE [.d dU,.d ti,.n,.d (.slice (.pair bQ ff)),.d (.slice cH)] nP
def Tj:=nP.eY aJt 3 ⟨.e7 arl,⟨.e7 arn,⟨.e7 aro,trivial⟩⟩⟩
def DA(l:List cz)(a:List (cz×fj)):List (cz×fj):=l.foldl (λm o=>kH bQ o m) a
def ae8(l:List ei)(a:List (cz×fj)):List (cz×fj):=l.foldl (λm e=>fp bQ e.1 e.2.1 m) a
def yh(a:List (cz×fj))(st:cV):List (cz×fj):=ae8 st.1 (DA st.2.1 a)
def avO(st:cV):Prop:=st.1.length<=1000/\st.2.1.length<=1000
abbrev QK:=Int×(List cz)×Int×Int×Nat×(List (cz×fj))×(List cV)
abbrev acX:=(List (cz×fj))
def BV:QK->acX->((Int×Nat×(List cV))×((List (cz×fj)))):=λ(n,t23,t24,t25,o0L,cP,dH) y=>((n,o0L,dH),y)
abbrev QL:=Int×(List ei)×Int×Int×Nat×(List (cz×fj))×(List cV)
abbrev acY:=(List (cz×fj))
def BW:QL->acY->((Int×Nat×(List cV))×((List (cz×fj)))):=λ(ze,t42,t43,t44,gr,lp,me) y=>((ze,gr,me),y)
abbrev aAY:=Nat×(List (cz×fj))×(List cV)
def amU:QK->Prop:=λ(_,l,n,i,_,_,_)=>l.length<=1000/\∃k:Nat,k<=l.length/\i=k/\n=l.length
def IE:QK->acX:=λ(_,l,_,i,_,a,_)=>DA (l.drop i.toNat) a
def amW:QL->Prop:=λ(_,l,n,i,_,_,_)=>l.length<=1000/\∃k:Nat,k<=l.length/\i=k/\n=l.length
def IF:QL->acY:=λ(_,l,_,i,_,a,_)=>ae8 (l.drop i.toNat) a
def aDN:aAY->Prop:=λ(n,_,s)=>n<=s.length/\s.length<=1000000/\∀st∈s,avO st
def abB:aAY->(Bool×Nat×(List (cz×fj))×(List cV)):=λ(n,a,s)=>if n=0 then(aZ,n,a,s) else(bm,n - 1,yh a (nth cH s (n - 1)),s)
def wT:Ls amU BV IE:=pD (λ(n,t23,t24,t25,o0L,cP,dH)=>⟨([.ptr (.bP 0) 0 [] 0,bE,bE,.d ti n]++aW 19 ([.d (.slice bQ) t23,.d ti t24,.d ti t25]++aW 40 [])),[dq (.pr (.c7 (.bP 1) 0) (.pr (.bU (.bP 2) 0 [] 0 0 o0L) gR)),dq (.mp bQ ff cP),dq (.vec 212 cH dH)],(ai 66 [])⟩) (λx=>(.exit 0,⟨([.ptr (.bP 0) 0 [] 0,bE,bE,.d ti x.1.1]++aW 62 []),[dq (.pr (.c7 (.bP 1) 0) (.pr (.bU (.bP 2) 0 [] 0 0 x.1.2.1) gR)),dq (.mp bQ ff x.2),dq (.vec 212 cH x.1.2.2)],(ai 66 [])⟩))
def wU:Ls amW BW IF:=pD (λ(ze,t42,t43,t44,gr,lp,me)=>⟨([.ptr (.bP 0) 0 [] 0,bE,bE,.d ti ze]++aW 38 ([.d (.slice ez) t42,.d ti t43,.d ti t44]++aW 21 [])),[dq (.pr (.c7 (.bP 1) 0) (.pr (.bU (.bP 2) 0 [] 0 0 gr) gR)),dq (.mp bQ ff lp),dq (.vec 212 cH me)],(ai 66 [])⟩) (λx=>(.exit 2,⟨([.ptr (.bP 0) 0 [] 0,bE,bE,.d ti x.1.1]++aW 62 []),[dq (.pr (.c7 (.bP 1) 0) (.pr (.bU (.bP 2) 0 [] 0 0 x.1.2.1) gR)),dq (.mp bQ ff x.2),dq (.vec 212 cH x.1.2.2)],(ai 66 [])⟩))
def ES:Fs Tryz.prog aDN bq abB:=eV 78 Tryz.f78 (λ(o0baL,o1,o2)=>([.ptr (.bP 0) 0 [] 0],[.obj 0 aZ (.pr (.c7 (.bP 1) 0) (.pr (.bU (.bP 2) 0 [] 0 0 o0baL) (.d .unit ()))),.obj 0 aZ (.mp bQ ff o1),.obj 0 aZ (.vec 212 cH o2)])) (λx=>⟨.d .bool x.1,[.obj 0 aZ (.pr (.c7 (.bP 1) 0) (.pr (.bU (.bP 2) 0 [] 0 0 x.2.1) (.d .unit ()))),.obj 0 aZ (.mp bQ ff x.2.2.1),.obj 0 aZ (.vec 212 cH x.2.2.2)],[]⟩) [aH] [] {loops:=lz [(5,{bg:=[0,3,23,24,25]}),(10,{bg:=[0,3,42,43,44]})],outs:=lu [(5,{bg:=[0,3]},{bg:=[2]}),(10,{bg:=[0,3]},{bg:=[2]})],fa:=mc [(5,wT.E),(10,wU.E)]}
theorem amV:wT.RS:=rL [.d ti,.d (.slice bQ),.d ti,.d ti,.n,.d (.slice (.pair bQ ff)),.d (.slice cH)] wT
theorem Ph(n t23 t24 t25 o0L cP dH)(kn:K2 R)(kx:K3 R):ES.R 0 wT (n,t23,t24,t25,o0L,cP,dH) kn kx=aJ (fv t25 t24) (aJ (eA t25 (t23.length:Int)) (kn (wT.st (n,t23,t24,(bz .i64 t25 1),o0L,(kH bQ (nth bQ t23 (ab t25)) cP),dH))) aH) (wT.go kx ((n,o0L,dH),cP)):=cd
theorem amX:wU.RS:=rL [.d ti,.d (.slice ez),.d ti,.d ti,.n,.d (.slice (.pair bQ ff)),.d (.slice cH)] wU
theorem Pj(ze t42 t43 t44 gr lp me)(kn:K2 R)(kx:K3 R):ES.R 1 wU (ze,t42,t43,t44,gr,lp,me) kn kx=aJ (fv t44 t43) (aJ (eA t44 (t42.length:Int)) (kn (wU.st (ze,t42,t43,(bz .i64 t44 1),gr,(fp bQ (nth ez t42 (ab t44)).1 (nth ez t42 (ab t44)).2.1 lp),me))) aH) (wU.go kx ((ze,gr,me),lp)):=cd
theorem aJz(o0baL o1 o2)(k:K1 R):ES.A (o0baL,o1,o2) k=aJ (fv (df .i64 ((o0baL:Nat):Int) 1) 0) (k (ES.out (aZ,o0baL,o1,o2))) (aJ (eA (df .i64 ((o0baL:Nat):Int) 1) ((o0baL:Nat):Int)) (aJ (decide ((0+(ab (df .i64 ((o0baL:Nat):Int) 1))) < (ae o2))) (aJ (decide ((((0+(ab (df .i64 ((o0baL:Nat):Int) 1)))*2)+1)=((0+((ab (df .i64 ((o0baL:Nat):Int) 1))*2))+1))) (ao (wT.call ((df .i64 ((o0baL:Nat):Int) 1),(nth cH o2 (0+(ab (df .i64 ((o0baL:Nat):Int) 1)))).2.1,(((ae (nth cH o2 (0+(ab (df .i64 ((o0baL:Nat):Int) 1)))).2.1):Nat):Int),0,o0baL,o1,o2)) λx1=>aJ (eA x1.1.1 ((x1.1.2.1:Nat):Int)) (aJ (decide ((0+(ab x1.1.1)) < (ae x1.1.2.2))) (aJ (decide ((((0+(ab x1.1.1))*2)+0)=((0+((ab x1.1.1)*2))+0))) (ao (wU.call (x1.1.1,(nth cH x1.1.2.2 (0+(ab x1.1.1))).1,(((ae (nth cH x1.1.2.2 (0+(ab x1.1.1))).1):Nat):Int),0,x1.1.2.1,x1.2,x1.1.2.2)) λx2=>aJ (inc x2.1.1 ((x2.1.2.1:Nat):Int)) (k (ES.out (bm,((ab x2.1.1) - 0),x2.2,x2.1.2.2))) aH) aH) aH) aH) aH) aH) aH):=cd
theorem arw:(ES.jx 0 wT):=by
 refine(ES.mf 0 wT) (λ(_,l,_,i,_,_,_)=>l.length - i.toNat) ?_
 rintro⟨u,l,n,i,o,a,s⟩ ⟨hl,k,hk,rfl,rfl⟩;have hl:l.length<=1000:=hl;have hk:k<=l.length:=hk;by_cases fF:k < l.length
 ·left;have n1:nth bQ l k=l[k]:=bY (t:=bQ) fF;have hd:l.drop k=l[k]::l.drop (k+1):=au fF;refine⟨(u,l,(l.length:Int),((k+1:Nat):Int),o,DA [l[k]] a,s),⟨hl,k+1,aq,rfl,rfl⟩,by simp only[aa];omega,?_,λkn kx=> ?_⟩
  ·simp only[BV,IE,aa,hd,DA,bn,ct]
  ·rw[Ph,aS aq,aj,ba aq aq,aj,aa,n1,N.jL aq];rfl
 ·right;obtain rfl:k=l.length:=aq;intro R kn kx;rw[Ph,aQ aq,al];simp only[BV,IE,aa,aI,DA,ct]
theorem arx:(ES.jx 1 wU):=by
 refine(ES.mf 1 wU) (λ(_,l,_,i,_,_,_)=>l.length - i.toNat) ?_
 rintro⟨u,l,n,i,o,a,s⟩ ⟨hl,k,hk,rfl,rfl⟩;have hl:l.length<=1000:=hl;have hk:k<=l.length:=hk;by_cases fF:k < l.length
 ·left;have n1:nth ez l k=l[k]:=bY (t:=ez) fF;have hd:l.drop k=l[k]::l.drop (k+1):=au fF;refine⟨(u,l,(l.length:Int),((k+1:Nat):Int),o,ae8 [l[k]] a,s),⟨hl,k+1,aq,rfl,rfl⟩,by simp only[aa];omega,?_,λkn kx=> ?_⟩
  ·simp only[BW,IF,aa,hd,ae8,bn,ct]
  ·rw[Pj,aS aq,aj,ba aq aq,aj,aa,n1,N.jL aq];rfl
 ·right;obtain rfl:k=l.length:=aq;intro R kn kx;rw[Pj,aQ aq,al];simp only[BW,IF,aa,aI,ae8,ct]
theorem aJA:ES.Ok:=by
 rintro⟨n,a,s⟩ ⟨h1,h2,h3⟩;have h1:n<=s.length:=h1;have h2:s.length<=1000000:=h2;have h3:∀st∈s,avO st:=h3;rw[aJz];simp only[bq,abB];cases n with
 |zero=>
  rw[aS eX,aj];rfl
 |succ m=>
  have e1:df .i64 (((m+1:Nat):Nat):Int) (1:Int)=(m:Int):=by rw[fI aq aq];omega
  have hm:m < s.length:=aq;have n1:nth cH s m=s[m]:=bY (t:=cH) hm;have hs:=h3 _ (aK hm);rw[e1,aQ aq,al,ba aq aq,aj];simp only[aa,aV,cD,aX hm,aj,b8,n1];rw[amV (d:=((m:Int),s[m].2.1,(s[m].2.1.length:Int),0,m+1,a,s)) ⟨hs.2,0,aL _,rfl,rfl⟩];simp only[ag,BV,IE,aT,ay];rw[ba aq aq,aj];simp only[aa,aV,cD,aX hm,aj,b8,n1];rw[amX (d:=((m:Int),s[m].1,(s[m].1.length:Int),0,m+1,DA s[m].2.1 a,s)) ⟨hs.1,0,aL _,rfl,rfl⟩];simp only[ag,BW,IF,aT,ay];rw[oo aq aq,aj,if_neg aq];simp only[aa,kr,pd,n1,yh]
theorem aDO:ES.RS:=rE [.n,.d (.slice (.pair bQ ff)),.d (.slice cH)] ES
def aJB:=ES.eY aJA 2 ⟨.e7 arw,⟨.e7 arx,trivial⟩⟩
abbrev Du:=Int×dM×(List cz)×Int×Int×Nat×(List (cz×fj))×(List cV)×Nat×((List cz)×Unit)×(List ei)
def vQ:Du->AS:=λ(dj,fP,t28,t29,t30,o0L,cP,dH,aO5,n9,n45)=>⟨([.ptr (.bP 0) 0 [] 0,bE,.d ti dj,bE,.dz dU fP]++aW 4 ([eP 9]++aW 18 ([.d (.slice bQ) t28,.d ti t29,.d ti t30]++aW 54 []))),[dq (.pr (.c7 (.bP 1) 0) (.pr (.bU (.bP 2) 0 [] 0 0 o0L) gR)),dq (.mp bQ ff cP),dq (.vec 212 cH dH)],(bw 9 ([dm (.pr (jl 45 aO5) (.d (.pair (.slice bQ) .unit) n9))]++bw 35 ([dm (.vec 214 ez n45)]++bw 39 [])))⟩
abbrev EN:=(Int×dM×Nat×(List cV)×((List cz)×Unit))×((List (cz×fj))×Nat×(List ei))
def BJ:EN->Exit×AS:=λ((a,b,c,e,f),g,h,i)=>(.exit 0,⟨([.ptr (.bP 0) 0 [] 0,bE,.d ti a,bE,.dz dU b]++aW 4 ([eP 9]++aW 75 [])),[dq (.pr (.c7 (.bP 1) 0) (.pr (.bU (.bP 2) 0 [] 0 0 c) gR)),dq (.mp bQ ff g),dq (.vec 212 cH e)],(bw 9 ([dm (.pr (jl 45 h) (.d (.pair (.slice bQ) .unit) f))]++bw 35 ([dm (.vec 214 ez i)]++bw 39 [])))⟩)
def Td:EN->Out (Exit×AS):=λx=> .ok (BJ x)
def pz:Du->((List (cz×fj))×Nat×(List ei))->EN:=λ(dj,fP,t28,t29,t30,o0L,cP,dH,aO5,n9,n45) y=>((dj,fP,o0L,dH,n9),y)
abbrev Dv:=Int×dM×(List cz)×Int×Int×Nat×(List (cz×fj))×(List cV)×Nat×((List cz)×Unit)×(List ei)
def vR:Dv->AS:=λ(oh,lS,t54,t55,t56,gr,lp,me,Zn,sD,Zj)=>⟨([.ptr (.bP 0) 0 [] 0,bE,.d ti oh,bE,.dz dU lS]++aW 4 ([eP 9]++aW 44 ([.d (.slice bQ) t54,.d ti t55,.d ti t56]++aW 28 []))),[dq (.pr (.c7 (.bP 1) 0) (.pr (.bU (.bP 2) 0 [] 0 0 gr) gR)),dq (.mp bQ ff lp),dq (.vec 212 cH me)],(bw 9 ([dm (.pr (jl 45 Zn) (.d (.pair (.slice bQ) .unit) sD))]++bw 35 ([dm (.vec 214 ez Zj)]++bw 39 [])))⟩
abbrev EO:=(Nat×(List cV)×Nat×((List cz)×Unit)×(List ei))×((List (cz×fj)))
def BL:EO->Exit×AS:=λ((a,b,c,e,f),g)=>(.exit 2,⟨([.ptr (.bP 0) 0 [] 0]++aW 8 ([eP 9]++aW 75 [])),[dq (.pr (.c7 (.bP 1) 0) (.pr (.bU (.bP 2) 0 [] 0 0 a) gR)),dq (.mp bQ ff g),dq (.vec 212 cH b)],(bw 9 ([dm (.pr (jl 45 c) (.d (.pair (.slice bQ) .unit) e))]++bw 35 ([dm (.vec 214 ez f)]++bw 39 [])))⟩)
def Tf:EO->Out (Exit×AS):=λx=> .ok (BL x)
def pA:Dv->((List (cz×fj)))->EO:=λ(oh,lS,t54,t55,t56,gr,lp,me,Zn,sD,Zj) y=>((gr,me,Zn,sD,Zj),y)
abbrev S8:=dM×Int×Nat×(List (cz×fj))×(List cV)
def acN:S8->SA:=λ(t,height,o0baL,o1,o2)=>([.ptr (.bP 0) 0 [] 0,.d dU t,.d ti height],[dq (.pr (.c7 (.bP 1) 0) (.pr (.bU (.bP 2) 0 [] 0 0 o0baL) gR)),dq (.mp bQ ff o1),dq (.vec 212 cH o2)])
abbrev aAS:=(Int×Nat×(List (cz×fj))×(List cV))⊕(Int×Nat×(List (cz×fj))×(List cV))
abbrev amH:=(Int×Nat×(List (cz×fj))×(List cV))⊕(Int×Nat×(List (cz×fj))×(List cV))
def N3:amH->jf:=λx=>match x with | .inl x=>⟨.d ti x.1,[dq (.pr (.c7 (.bP 1) 0) (.pr (.bU (.bP 2) 0 [] 0 0 x.2.1) gR)),dq (.mp bQ ff x.2.2.1),dq (.vec 212 cH x.2.2.2)],[]⟩ | .inr x=>⟨.d ti x.1,[dq (.pr (.c7 (.bP 1) 0) (.pr (.bU (.bP 2) 1 [] 0 0 x.2.1) gR)),dq (.mp bQ ff x.2.2.1),.obj 1 aZ (.vec 212 cH x.2.2.2)],[]⟩
def C2:S8->aAS->amH:=λ(t,height,o0baL,o1,o2) y=>match y with | .inl y=> .inl y | .inr y=> .inr y
def JZ(a:List (cz×fj)):List cz->List ei
 |[]=> []
 |o::l=>(o,((cw bQ o a).getD aOT,()))::JZ (kH bQ o a) l
def OL(h:Int):List cz->List jV->List (cz×fj)->List (cz×fj)
 |o::l,x::xs,a=>OL h l xs (fp bQ o (x,(h,())) a)
 |_,_,a=>a
def stepOf(t:dM)(a:List (cz×fj)):cV:=(JZ a (dP t),(fY t,()))
def cG(t:dM)(h:Int)(a:List (cz×fj)):List (cz×fj):=OL h (fY t) t.2.1 (DA (dP t) a)
def BI:Du->Prop:=λ(_,_,l,n,i,_,_,_,gL,_,g)=>l.length<=1000/\∃k:Nat,k<=l.length/\i=k/\n=l.length/\gL=g.length/\g.length=k
def u7:Du->((List (cz×fj))×Nat×(List ei)):=λ(_,_,l,_,i,_,a,_,gL,_,g)=>(DA (l.drop i.toNat) a,gL+(l.drop i.toNat).length,g++JZ a (l.drop i.toNat))
def BK:Dv->Prop:=λ(_,t,l,n,i,_,_,_,_,_,_)=>l.length<=1000/\l.length=t.2.1.length/\(∀o∈t.2.1,baV o.2.1)/\∃k:Nat,k<=l.length/\i=k/\n=l.length
def u9:Dv->((List (cz×fj))):=λ(h,t,l,_,i,_,a,_,_,_,_)=>OL h (l.drop i.toNat) (t.2.1.drop i.toNat) a
def WA:S8->Prop:=λ(t,_,n,a,s)=>th t/\Wf a/\n<=s.length/\s.length<=1000000
def N0:S8->aAS:=λ(t,h,n,a,s)=>if(cK t h a).2≠0 then .inl ((cK t h a).2,n,a,s) else .inr (0,n+1,cG t h a,s.take n++ [stepOf t a])
def S9:tg:=jr (P:=Tryz.prog) [Tj,avh,ahp,aAM]
def acJ:=dB.e7 vQ BI pz u7 Td
def O7:Du->Option EN:=fS acJ vQ
def acL:=dB.e7 vR BK pA u9 Tf
def O9:Dv->Option EO:=fS acL vR
def Ld:Da:= {loops:=lz [(6,{bg:=[0,2,4,9,28,29,30],sites:=[9,45],owns:=[⟨9,[.fst],45,210⟩]}),(12,{bg:=[0,2,4,9,54,55,56],sites:=[9,45]})],outs:=lu [(6,{bg:=[0,2,4,9],sites:=[9,45]},{bg:=[6]}),(12,{bg:=[0,9],sites:=[9,45]},{bg:=[6]})],fa:=mc [(6,acJ),(12,acL)]}
def aAQ:= @Si Tryz.prog S9 Ld 0 Tryz.f72 _ acN
abbrev aJp:=avN @aAQ WA C2 N0 N3
def acK:= @ej Tryz.prog S9 Ld 0 Tryz.f72 0 _ vQ
abbrev YE:=jj Tryz.prog S9 Ld 0 Tryz.f72 0 vQ BI pz u7 Td
def acM:= @ej Tryz.prog S9 Ld 0 Tryz.f72 1 _ vR
abbrev YF:=jj Tryz.prog S9 Ld 0 Tryz.f72 1 vR BK pA u9 Tf
theorem amF:ik O7 BI pz u7:=jX (jA [.d ti,.d dU,.d (.slice bQ),.d ti,.d ti,.n,.d (.slice (.pair bQ ff)),.d (.slice cH),.n,.d (.pair (.slice bQ) .unit),.d (.slice ez)] λ_=>cd)
theorem Tc:aqa @acK vQ BI pz u7 BJ YE:=aDg
theorem O8(dj fP t28 t29 t30 o0L cP dH aO5 n9 n45)(kn:K2 R)(kx:K3 R):acK (dj,fP,t28,t29,t30,o0L,cP,dH,aO5,n9,n45) kn kx=aJ (fv t30 t29) (aJ (eA t30 (((ae t28):Nat):Int)) (aJ (decide (aO5<=(ae n45))) (aJ (cZ (aO5+1) 80) (kn (vQ (dj,fP,t28,t29,(bz .i64 t30 (1:Int)),o0L,(kH bQ (nth bQ t28 (ab t30)) cP),dH,(aO5+1),n9,((aM aO5 n45)++ [((nth bQ t28 (ab t30)),(((cw bQ (nth bQ t28 (ab t30)) cP).getD (((0:Int),((([]:List nR),()),())),((0:Int),()))),()))])))) aH) aH) aH) (kx (BJ ((dj,fP,o0L,dH,n9),(cP,aO5,n45))).1 (BJ ((dj,fP,o0L,dH,n9),(cP,aO5,n45))).2):=cd
theorem amG:ik O9 BK pA u9:=jX (jA [.d ti,.d dU,.d (.slice bQ),.d ti,.d ti,.n,.d (.slice (.pair bQ ff)),.d (.slice cH),.n,.d (.pair (.slice bQ) .unit),.d (.slice ez)] λ_=>cd)
theorem Te:aqa @acM vR BK pA u9 BL YF:=aDg
theorem Pa(oh lS t54 t55 t56 gr lp me Zn sD Zj)(kn:K2 R)(kx:K3 R):acM (oh,lS,t54,t55,t56,gr,lp,me,Zn,sD,Zj) kn kx=aJ (fv t56 t55) (aJ (eA t56 (((ae t54):Nat):Int)) (aJ (eA t56 (((ae lS.2.1):Nat):Int)) (ao (aaQ.call (nth fi lS.2.1 (ab t56))) λx1=>kn (vR (oh,lS,t54,t55,(bz .i64 t56 (1:Int)),gr,(fp bQ (nth bQ t54 (ab t56)) (x1,(oh,())) lp),me,Zn,sD,Zj))) aH) aH) (kx (BL ((gr,me,Zn,sD,Zj),lp)).1 (BL ((gr,me,Zn,sD,Zj),lp)).2):=cd
theorem aJq(t height o0baL o1 o2)(k:K1 R):aAQ (t,height,o0baL,o1,o2) k=ao (nP.call (t,height,o0baL,o1,o2)) λx1=>aJ (C3 x1.2.1 (0:Int)) (k (N3 (.inl (x1.2.1,x1.2.2.1,x1.2.2.2.1,x1.2.2.2.2)))) (ao (Kq.call t) λx2=>ao (uV.call t) λx3=>ao (O7 (height,t,x3,(((ae x3):Nat):Int),(0:Int),x1.2.2.1,x1.2.2.2.1,x1.2.2.2.2,0,(x2,()),([]:List ei))) λx4=>ao (O9 (x4.1.1,x4.1.2.1,x4.1.2.2.2.2.1,(((ae x4.1.2.2.2.2.1):Nat):Int),(0:Int),x4.1.2.2.1,x4.2.1,x4.1.2.2.2.1,x4.2.2.1,x4.1.2.2.2.2,x4.2.2.2)) λx6=>aJ (decide (0=0/\(0+x6.1.2.2.1)<=(ae x6.1.2.2.2.2))) (aJ (decide (x6.1.1<=(ae x6.1.2.1))) (aJ (cZ (x6.1.1+1) 48) (k (N3 (.inr ((0:Int),(x6.1.1+1),x6.2,((aM x6.1.1 x6.1.2.1)++ [((cut x6.1.2.2.2.2 0 x6.1.2.2.1),x6.1.2.2.2.1)]))))) aH) aH) aH):=cd
theorem arj:YE:=by
 refine Tc (λ(_,_,l,_,i,_,_,_,_,_,_)=>l.length - i.toNat) ?_
 rintro⟨h,t,l,n,i,o,a,s,gL,u,g⟩ ⟨hl,k,hk,rfl,rfl,rfl,hg⟩;have hl:l.length<=1000:=hl;have hk:k<=l.length:=hk;have hg:g.length=k:=hg;by_cases fF:k < l.length
 ·left;have n1:nth bQ l k=l[k]:=bY (t:=bQ) fF;have hd:l.drop k=l[k]::l.drop (k+1):=au fF;refine⟨(h,t,l,(l.length:Int),((k+1:Nat):Int),o,kH bQ l[k] a,s,g.length+1,u,g++ [(l[k],((cw bQ l[k] a).getD aOT,()))]),⟨hl,k+1,aq,rfl,rfl,by simp,by simp[hg]⟩,by simp only[aa];omega,?_,λkn kx=> ?_⟩
  ·simp only[pz,u7,aa,hd,DA,bn,JZ,aO,cE,aF];rw[show g.length+1+(l.drop (k+1)).length=g.length+((l.drop (k+1)).length+1) by omega]
  ·rw[O8,aS aq,aj,ba aq aq,aj,aX (az _),aj,cM aq aq,aj,aa,n1,N.jL aq,bN];rfl
 ·right;obtain rfl:k=l.length:=aq;intro R kn kx;rw[O8,aQ aq,al];simp only[pz,u7,aa,aI,DA,ct,JZ,bK,bp,cD]
theorem ark:YF:=by
 refine Te (λ(_,_,l,_,i,_,_,_,_,_,_)=>l.length - i.toNat) ?_
 rintro⟨h,t,l,n,i,o,a,s,gL,u,g⟩ ⟨hl,he,hb,k,hk,rfl,rfl⟩;have hl:l.length<=1000:=hl;have he:l.length=t.2.1.length:=he;have hk:k<=l.length:=hk;by_cases fF:k < l.length
 ·left;have aUQ:k < t.2.1.length:=aq;have n1:nth bQ l k=l[k]:=bY (t:=bQ) fF;have n2:nth fi t.2.1 k=t.2.1[k]:=bY (t:=fi) aUQ;have hd:l.drop k=l[k]::l.drop (k+1):=au fF;have aYy:t.2.1.drop k=t.2.1[k]::t.2.1.drop (k+1):=au aUQ;refine⟨(h,t,l,(l.length:Int),((k+1:Nat):Int),o,fp bQ l[k] (t.2.1[k],(h,())) a,s,gL,u,g),⟨hl,he,hb,k+1,aq,rfl,rfl⟩,by simp only[aa];omega,?_,λkn kx=> ?_⟩
  ·simp only[pA,u9,aa,hd,aYy,OL]
  ·rw[Pa,aS aq,aj,ba aq aq,aj,ba aq aq,aj,aa,n1,n2,arc (d:=t.2.1[k]) (hb _ (aK aUQ))];simp only[ag,bq,aww];rw[N.jL aq]
 ·right;obtain rfl:k=l.length:=aq;intro R kn kx;rw[Pa,aQ aq,al];simp only[pA,u9,aa,aI,OL]
theorem NW{t:dM}{h:Int}{a:List (cz×fj)}(e:(cK t h a).2=0):hP t=bm/\1<=h/\h<=1048576/\∃gB,rh h (wz t) a t.1 0= .inr gB/\(fY t).any (l5 a)=aZ/\0<=gB - gH t.2.1/\cK t h a=(gB - gH t.2.1,0):=by
 unfold cK at e ⊢;by_cases h0:hP t=bm/\1<=h/\h<=1048576
 ·rw[if_pos h0]at e;rw[if_pos h0];refine⟨h0.1,h0.2.1,h0.2.2,?_⟩;cases hi:rh h (wz t) a t.1 0 with
  |inl x=>
   exfalso;rw[hi]at e;simp only at e;subst e;have key:∀(l:List ji) (f:Int),rh h (wz t) a l f≠ .inl 0:=by
    intro l
    induction l with
    |nil=>intro f hf;cases hf
    |cons x l ih=>
     intro f hf;simp only[rh]at hf;cases hg:cw bQ x.1 a with
     |none=>rw[hg]at hf;simp at hf
     |some c=>
      rw[hg]at hf;simp only at hf;split at hf
      ·rename_i jk;exact jk (by injection hf)
      ·exact ih _ hf
   exact key _ _ hi
  |inr gB=>
   rw[hi]at e;simp only at e ⊢;by_cases hm:(fY t).any (l5 a)=bm
   ·rw[if_pos hm]at e;cases e
   ·rw[if_neg hm]at e;rw[if_neg hm];by_cases hf:gB - gH t.2.1 < 0
    ·rw[if_pos hf]at e;cases e
    ·rw[if_neg hf];exact⟨gB,rfl,by simpa using hm,aq,rfl⟩
 ·rw[if_neg h0]at e;cases e
theorem adx{t:dM}(h:hP t=bm):(dP t).length=t.1.length:=by unfold dP;rw[if_pos h,da]
theorem aJr:aJp:=by
 rintro⟨t,h,n,a,s⟩ ⟨hv,ha,hn,hs⟩;have hv:th t:=hv;have ha:Wf a:=ha;have hn:n<=s.length:=hn;have hs:s.length<=1000000:=hs;rw[aJq,ajT (d:=(t,h,n,a,s)) ⟨hv,ha⟩];simp only[ag,bq,amI,C2,N0];by_cases he:(cK t h a).2=0
 ·rw[dN he,al,if_neg (λe=>e he)];obtain⟨gX,_,_,_⟩:=NW he;obtain⟨⟨_,a2,a3,_⟩,b1,b2⟩:=iq gX;rw[alX (d:=t) hv];simp only[ag,bq,abY];rw[aaG (d:=t) hv.1];simp only[ag,bq,OI];rw[amF (d:=(h,t,dP t,((dP t).length:Int),0,n,a,s,0,(fY t,()),[])) ⟨by rw[adx gX];omega,0,aL _,rfl,rfl,rfl,rfl⟩];simp only[ag,pz,u7,aT,ay,aY,aV];rw[amG (d:=(h,t,fY t,((fY t).length:Int),0,n,DA (dP t) a,s,(dP t).length,(fY t,()),JZ a (dP t))) ⟨by rw[vY gX];omega,vY gX,λo ho=>by
   have:=W0 (kc _ _ b2 o ho).2;exact⟨aq,λb hb=>by have:=this.2 b hb;omega⟩,0,aL _,rfl,rfl⟩]
  simp only[ag,pA,u9,aT,ay];have bbd:∀(l:List cz) (a:List (cz×fj)),(JZ a l).length=l.length:=by
   intro l
   induction l with
   |nil=>intro a;rfl
   |cons o l ih=>intro a;simp[JZ,ih]
  rw[aX (by rw[bbd];exact⟨trivial,aq⟩),aj,aX hn,aj,cM aq aq,aj,ea (bbd _ _)];rfl
 ·rw[fH he,aj,if_pos he]
def aAR:=Entry.asE [aH,av dU,av ti] acN WA C2 N0 N3
def vc:S8->Option amH:=K6 aAR acN
theorem aDI:ik vc WA C2 N0:=alJ (adv [.d dU,.d ti,.n,.d (.slice (.pair bQ ff)),.d (.slice cH)] λ_=>cd)
def Tg:SG Tryz.prog:=⟨72,nV,aAR,.of (.aWA (.fn 2 cd aJr (And.intro (.e7 arj cd) (And.intro (.e7 ark cd) trivial)))) (by rfl)⟩
theorem aN3(k:Int)(m:List Int):aOV (qC k m):=by
 unfold qC;split
 ·exact⟨(aSx _).u,(aAr _ _).u⟩
 ·exact⟨⟨eF 0,eX⟩,eF 0,eX⟩
theorem arQ:∀(l l':List ji) (b:List Int),l.map (·.1)=l'.map (·.1)->l.foldl Og b=l'.foldl Og b
 |[],[],_,_=>rfl
 |[],_::_,_,h=>by cases h
 |_::_,[],_,h=>by cases h
 |x::l,y::l',b,h=>by
  rw[cj,cj,cR]at h;have e:Og b x=Og b y:=by unfold Og;rw[h.1]
  rw[bn,bn,e,arQ l l' _ h.2]
theorem aFC{l l':List ji}(t:List jV×Int×Unit)(h:l.map (·.1)=l'.map (·.1)):xl (l,t)=xl (l',t):=by
 have hl:l.length=l'.length:=by have:=bW ae h;simpa using this
 unfold xl;simp only[hl];rw[arQ l l' _ h]
theorem ase:∀(l l':List ji) (m:List (cz×Bool)),l.map (·.1)=l'.map (·.1)->Hw m l=bm->(∀x∈l',Bn x.2.1=bm)->Hw m l'=bm
 |[],[],_,_,_,_=>rfl
 |[],_::_,_,h,_,_=>by cases h
 |_::_,[],_,h,_,_=>by cases h
 |x::l,y::l',m,h,hi,hw=>by
  rw[cj,cj,cR]at h;rw[Hw,aw,aw]at hi ⊢;have hx:=hi.1.2;unfold Kz at hx;rw[aw]at hx;refine⟨⟨?_,?_⟩,?_⟩
  ·have:=hi.1.1;unfold TC at this ⊢;rw[<-h.1];exact this
  ·unfold Kz;rw[<-h.1,hx.1,hw y aU];rfl
  ·rw[<-h.1];exact ase l l' _ h.2 hi.2 λz hz=>hw z (aP _ hz)
theorem aOG{l l':List ji}{t:List jV×Int×Unit}(h:l.map (·.1)=l'.map (·.1))(gX:hP (l,t)=bm)(hw:∀x∈l',Bn x.2.1=bm):hP (l',t)=bm:=by
 have hl:l.length=l'.length:=by have:=bW ae h;simpa using this
 unfold hP ahu at gX ⊢;rw[aw,aw]at gX ⊢;simp only[hl]at gX;exact⟨gX.1,ase l l' _ h gX.2.1 hw,gX.2.2⟩
theorem aCo{l l':List ji}{t:List jV×Int×Unit}(h:l.map (·.1)=l'.map (·.1))(h1:hP (l,t)=bm)(h2:hP (l',t)=bm):wz (l',t)=wz (l,t):=by unfold wz;rw[h1,h2,aFC t h]
theorem azX{l l':List ji}{t:List jV×Int×Unit}(h:l.map (·.1)=l'.map (·.1))(h1:hP (l,t)=bm)(h2:hP (l',t)=bm):dP (l',t)=dP (l,t):=by unfold dP;rw[h1,h2];exact h.symm
theorem aLc{l l':List ji}{t:List jV×Int×Unit}(h:l.map (·.1)=l'.map (·.1))(h1:hP (l,t)=bm)(h2:hP (l',t)=bm):fY (l',t)=fY (l,t):=by unfold fY;rw[h1,h2,aCo h h1 h2]
def abo(t:dM)(k:Nat)(w:V9):dM:=(t.1.set k ((nth fo t.1 k).1,w,()),t.2)
theorem VG(l:List ji)(k:Nat)(w:V9)(h:k < l.length):l.map (·.1)=(l.set k ((nth fo l k).1,w,())).map (·.1):=by
 have n1:nth fo l k=l[k]:=bY (t:=fo) h;rw[n1,List.map_set];have e:(l[k].1:cz)=(l.map (·.1))[k]'(by rw[da];exact h):=by rw[List.getElem_map]
 show _=(l.map (·.1)).set k l[k].1;rw[e,gU]
theorem auW{l:List ji}{k:Nat}{w:V9}{x:ji}(h:k < l.length)(hx:x∈l.set k ((nth fo l k).1,w,())):x∈l\/(x.1=l[k].1/\x.2.1=w):=by
 have n1:nth fo l k=l[k]:=bY (t:=fo) h;rw[n1]at hx;rcases List.mem_or_eq_of_mem_set hx with h1 | h1
 ·exact .inl h1
 ·exact .inr ⟨by rw[h1],by rw[h1]⟩
theorem abX{t:dM}{k:Nat}{w:V9}(h:k < t.1.length)(gX:hP t=bm)(hw:Bn w=bm):hP (abo t k w)=bm:=by
 obtain⟨_,b1,_⟩:=iq gX;refine aOG (l:=t.1) (VG t.1 k w h) gX λx hx=> ?_
 rcases auW h hx with h1 | h1
 ·have:=mS _ _ b1 x h1;unfold Kz at this;rw[aw]at this;exact this.2
 ·rw[h1.2];exact hw
theorem aVF{t:dM}{k:Nat}{w:V9}(h:k < t.1.length)(hv:th t)(hu:Sl w)(hl:w.2.1.length<=9223372036854775807):th (abo t k w):=by
 refine⟨⟨hv.1.1,by show(t.1.set k _).length<=_;rw[List.length_set];exact hv.1.2.1,hv.1.2.2⟩,λx hx=> ?_,hv.2.2⟩;rcases auW h hx with h1 | h1
 ·exact hv.2.1 x h1
 ·refine⟨?_,by rw[h1.2];exact hu,by rw[h1.2];exact hl⟩;rw[h1.1];exact(hv.2.1 _ (aK h)).1
theorem aSl{t:dM}{k:Nat}{w:V9}(h:k < t.1.length)(gX:hP t=bm)(hw:Bn w=bm):wz (abo t k w)=wz t/\dP (abo t k w)=dP t/\fY (abo t k w)=fY t:=⟨aCo (l:=t.1) (VG t.1 k w h) gX (abX h gX hw),azX (l:=t.1) (VG t.1 k w h) gX (abX h gX hw),aLc (l:=t.1) (VG t.1 k w h) gX (abX h gX hw)⟩
def ai4(t:dM)(br:Int)(ks:List Int)(sc:Int):V9:=(br,ks.map (λk=>qC k (wz t)),sc,())
theorem aN5(t:dM)(i br:Int)(ks:List Int)(sc:Int):aN4 t i br ks sc=if JF t i br ks then(abo t i.toNat (ai4 t br ks sc),0) else(([],[],0,()),1):=rfl
theorem au0{t:dM}{i br:Int}{ks:List Int}(h:JF t i br ks=bm):hP t=bm/\(0<=i/\i < t.1.length/\0<=br/\br < 4/\ks.length<=12)/\∀k∈ks,k < 2305843009213688669/\k≠0:=by unfold JF at h;simp only[aw,bt,di]at h;refine⟨h.1,h.2.1,λk hk=> ?_⟩;have:=h.2.2;rw[jY]at this;have:=this k hk;unfold Qo at this;simpa using this
theorem aSn{t:dM}{i br:Int}{ks:List Int}(sc:Int)(h:JF t i br ks=bm):Bn (ai4 t br ks sc)=bm:=by have e:=(au0 h).2.1;unfold Bn ai4;rw[aX ⟨e.2.2.1,e.2.2.2.1⟩,aX (by rw[da];exact e.2.2.2.2)];rfl
theorem aVJ(t:dM)(br:Int)(ks:List Int){sc:Int}(h:lG sc):Sl (ai4 t br ks sc):=⟨λs hs=>by
  obtain⟨k,_,rfl⟩:=dy.1 (show s∈ks.map λk=>qC k (wz t) from hs);exact aN3 k _,h⟩
theorem aN6{t:dM}{i br sc:Int}{ks:List Int}(hv:th t)(h:JF t i br ks=bm)(hs:lG sc):
  hP (abo t i.toNat (ai4 t br ks sc))=bm/\th (abo t i.toNat (ai4 t br ks sc))/\wz (abo t i.toNat (ai4 t br ks sc))=wz t/\dP (abo t i.toNat (ai4 t br ks sc))=dP t/\fY (abo t i.toNat (ai4 t br ks sc))=fY t:=by
 obtain⟨gX,e,_⟩:=au0 h;have hk:i.toNat < t.1.length:=aq;have hw:=aSn sc h;exact⟨abX hk gX hw,aVF hk hv (aVJ t br ks hs) (by show(ks.map _).length<=_;rw[da];omega),aSl hk gX hw⟩
def Lq(r:ij):List Int×ij:=((oE 32 r).1++bD (oE 32 r).1.length (ai 32 (0:Int)),(oE 32 r).2)
def Kw(r:ij):List Int×ij:=if(eh r).2.2.1=bm then([],(eh r).2) else oE (eh r).1.toNat (eh r).2
def Sc(most:Int)(r:ij):Int×ij:=(if(eh r).1 > most then -1 else(eh r).1,(eh r).2)
def aTF(r:ij):cz×ij:=(((Lq r).1,(eh (Lq r).2).1,()),(eh (Lq r).2).2)
def OQ:Nat->ij->List cz×ij
 | 0,r=>([],r)
 |k+1,r=>((aTF r).1::(OQ k (aTF r).2).1,(OQ k (aTF r).2).2)
def aex(r:ij):jV×ij:=(((eh r).1,(Kc (Kw (eh r).2).1).1,()),(Kw (eh r).2).2)
def J2:Nat->ij->Option (List jV×ij)
 | 0,r=>av ([],r)
 |k+1,r=>if(Kc (Kw (eh r).2).1).2=bm then(match J2 k (aex r).2 with
  |some x=>av ((aex r).1::x.1,x.2)
  |none=>aH) else aH
def aTL(r:ij):Sg×ij:=(((uh r).1,(uh (uh r).2).1,()),(uh (uh r).2).2)
def JE:Nat->ij->List Sg×ij
 | 0,r=>([],r)
 |k+1,r=>((aTL r).1::(JE k (aTL r).2).1,(JE k (aTL r).2).2)
def yS(r:ij):List Sg×ij:=JE (Sc 12 (eh r).2).1.toNat (Sc 12 (eh r).2).2
def aAi(r:ij):Option (V9×ij):=if(Sc 12 (eh r).2).1 < 0 then aH else av (((eh r).1,(yS r).1,(uh (yS r).2).1,()),(uh (yS r).2).2)
def Kt:List cz->ij->Option (List ji×ij)
 |[],r=>av ([],r)
 |o::l,r=>match aAi r with
  |none=>aH
  |some w=>match Kt l w.2 with
   |none=>aH
   |some x=>av ((o,w.1,())::x.1,x.2)
def aVl:dM×Bool:=(([],[],0,()),aZ)
def aJL(n m:Int)(t:dM)(r:ij):dM×Bool:=if n < 0\/m < 0\/r.2.1=bm\/0 < r.1.length\/hP t=aZ then aVl else(t,bm)
def aLe(n m:Int)(ops:List cz)(os:List jV)(r:ij):dM×Bool:=match Kt ops (eh r).2 with
 |none=>aVl
 |some x=>aJL n m (x.1,os,(eh r).1,()) x.2
def ao8(b:List Int):dM×Bool:=
 let n:=Sc 64 (b,aZ,())
 let ops:=OQ n.1.toNat n.2
 let m:=Sc 64 ops.2
 match J2 m.1.toNat m.2 with
 |none=>aVl
 |some x=>aLe n.1 m.1 ops.1 x.1 x.2
def axI(o:cz):List Int:=o.1++gO o.2.1
def HD(o:jV):List Int:=gO o.1++(gO (Rc o.2.1).length++Rc o.2.1)
def aHS(s:Sg):List Int:=jo s.1++jo s.2.1
def Hc(w:V9):List Int:=gO w.1++(gO w.2.1.length++(w.2.1.flatMap aHS++jo w.2.2.1))
def aYV(t:dM):List Int:=gO t.1.length++(t.1.flatMap (λx=>axI x.1)++(gO t.2.1.length++(t.2.1.flatMap HD++(gO t.2.2.1++t.1.flatMap λx=>Hc x.2.1))))
theorem Hs{α:Type}(f:List Int->α->List Int)(w:α->List Int):∀(l:List α) (b:List Int),(∀x∈l,∀b,f b x=b++w x)->l.foldl f b=b++l.flatMap w
 |[],b,_=>by simp
 |x::l,b,h=>by rw[bn,h x aU,Hs f w l _ λy hy=>h y (aP _ hy),dK,aO]
theorem D6(b:List Int){n:Int}(h:0<=n):cQ b n=b++gO n:=by unfold cQ;rw[if_neg aq]
theorem aOF{t:dM}(gX:hP t=bm):aSD t=aYV t:=by
 obtain⟨⟨_,a2,a3,a4⟩,b1,b2⟩:=iq gX;have e1:∀b,t.1.foldl Og b=b++t.1.flatMap λx=>axI x.1:=λb=>Hs _ _ _ _ λx hx b=>by have:=DH (mS _ _ b1 x hx);unfold Og axI;rw[D6 _ this.1,aO]
 have e2:∀b,t.2.1.foldl OR b=b++t.2.1.flatMap HD:=λb=>Hs _ _ _ _ λo ho b=>by have:=(kc _ _ b2 o ho).1;unfold OR HD;rw[D6 _ this.1,aO]
 have e3:∀(l:List Sg) b,l.foldl agL b=b++l.flatMap aHS:=λl b=>Hs _ _ _ _ λs _ b=>by unfold agL aHS;rw[aO]
 have e4:∀b,t.1.foldl aAh b=b++t.1.flatMap λx=>Hc x.2.1:=λb=>Hs _ _ _ _ λx hx b=>by have:=DH (mS _ _ b1 x hx);unfold aAh Hc;rw[e3,D6 _ this.2.2.1,D6 _ aq];simp only[aO]
 unfold aSD xl aYV;rw[if_pos gX,e4,D6 _ a4,e2,D6 _ aq,e1,D6 _ aq,aY];simp only[aO]
theorem alV{n:Nat}(a rest:List Int)(h:a.length=n):oE n (a++rest,aZ,())=(a,(rest,aZ,())):=by
 unfold oE;rw[if_neg (by
  intro x;rcases x with x | x
  ·cases x
  ·have x:(a++rest).length < n:=x;rw[ak]at x;omega)]
 show((a++rest).take n,((a++rest).drop n,aZ,()))=_;rw[ml h,mj h]
theorem aEc(a rest:List Int)(h:a.length=32):Lq (a++rest,aZ,())=(a,(rest,aZ,())):=by unfold Lq;rw[alV a rest h];simp only[h];rw[show bD 32 (ai 32 (0:Int))=[] from rfl,bK]
theorem HC(n:Int)(h:Ku n)(rest:List Int):eh (gO n++rest,aZ,())=(n,(rest,aZ,())):=LR n h rest _
theorem aII(a rest:List Int)(h:a.length<=1000000000):Kw (gO a.length++(a++rest),aZ,())=(a,(rest,aZ,())):=by unfold Kw;rw[HC _ (xe aq)];simp only[bG,bC,aa];exact alV a rest rfl
theorem apW{n m:Int}(h:Ku n)(hm:n<=m)(rest:List Int):Sc m (gO n++rest,aZ,())=(n,(rest,aZ,())):=by unfold Sc;rw[HC n h];simp only[if_neg (show ¬n > m by omega)]
theorem asZ:∀(l:List cz) (rest:List Int),(∀o∈l,o.1.length=32/\Ku o.2.1)->OQ l.length (l.flatMap axI++rest,aZ,())=(l,(rest,aZ,()))
 |[],rest,_=>rfl
 |o::l,rest,h=>by
  obtain⟨h1,h2⟩:=h o aU;have e:aTF ((o::l).flatMap axI++rest,aZ,())=(o,(l.flatMap axI++rest,aZ,())):=by unfold aTF axI;rw[dK,aO,aO,aEc _ _ h1];simp only[];rw[HC _ h2]
  rw[aF,OQ,e,asZ l rest λx hx=>h x (aP _ hx)]
theorem akG:∀(l:List jV) (rest:List Int),(∀o∈l,Ku o.1/\lI o.2.1=bm/\abu o.2.1)->J2 l.length (l.flatMap HD++rest,aZ,())=av (l,(rest,aZ,()))
 |[],rest,_=>rfl
 |o::l,rest,h=>by
  obtain⟨h1,h2,h3⟩:=h o aU;have hl:=Ol o.2.1;have e0:eh ((o::l).flatMap HD++rest,aZ,())=(o.1,(gO (Rc o.2.1).length++(Rc o.2.1++(l.flatMap HD++rest)),aZ,())):=by rw[dK];unfold HD;simp only[aO];exact HC _ h1 _
  have e1:Kw (eh ((o::l).flatMap HD++rest,aZ,())).2=(Rc o.2.1,(l.flatMap HD++rest,aZ,())):=by rw[e0];exact aII _ _ aq
  have e2:aex ((o::l).flatMap HD++rest,aZ,())=(o,(l.flatMap HD++rest,aZ,())):=by unfold aex;rw[e1,e0,aln h3 h2]
  rw[aF,J2,e1,aln h3 h2,if_pos rfl,e2,akG l rest λx hx=>h x (aP _ hx)]
theorem auX:∀(l:List Sg) (rest:List Int),(∀s∈l,lG s.1/\lG s.2.1)->JE l.length (l.flatMap aHS++rest,aZ,())=(l,(rest,aZ,()))
 |[],rest,_=>rfl
 |s::l,rest,h=>by
  obtain⟨h1,h2⟩:=h s aU;have e:aTL ((s::l).flatMap aHS++rest,aZ,())=(s,(l.flatMap aHS++rest,aZ,())):=by unfold aTL aHS;rw[dK,aO,aO,NP _ h1];simp only[];rw[NP _ h2]
  rw[aF,JE,e,auX l rest λx hx=>h x (aP _ hx)]
theorem aOP(w:V9)(rest:List Int)(hw:Sl w)(hb:Ku w.1)(wD:w.2.1.length<=12):aAi (Hc w++rest,aZ,())=av (w,(rest,aZ,())):=by
 have e0:eh (Hc w++rest,aZ,())=(w.1,(gO w.2.1.length++(w.2.1.flatMap aHS++(jo w.2.2.1++rest)),aZ,())):=by unfold Hc;simp only[aO];exact HC _ hb _
 have e1:Sc 12 (eh (Hc w++rest,aZ,())).2=((w.2.1.length:Int),(w.2.1.flatMap aHS++(jo w.2.2.1++rest),aZ,())):=by rw[e0];exact apW (xe aq) aq _
 have e2:yS (Hc w++rest,aZ,())=(w.2.1,(jo w.2.2.1++rest,aZ,())):=by unfold yS;rw[e1];exact auX _ _ hw.1
 unfold aAi;rw[e1,if_neg (by show ¬(w.2.1.length:Int) < 0;omega),e2,e0];simp only[];rw[NP _ hw.2]
theorem al5:∀(l:List ji) (rest:List Int),(∀x∈l,Sl x.2.1/\Ku x.2.1.1/\x.2.1.2.1.length<=12)->Kt (l.map (·.1)) (l.flatMap (λx=>Hc x.2.1)++rest,aZ,())=av (l,(rest,aZ,()))
 |[],rest,_=>rfl
 |x::l,rest,h=>by obtain⟨h1,h2,h3⟩:=h x aU;rw[dK,aO,cj,Kt,aOP _ _ h1 h2 h3];simp only[];rw[al5 l rest λy hy=>h y (aP _ hy)]
theorem azh{t:dM}(hv:th t)(gX:hP t=bm):ao8 (aSD t)=(t,bm):=by
 obtain⟨⟨a1,a2,a3,a4⟩,b1,b2⟩:=iq gX;have arY:∀x∈t.1,_:=λx hx=>DH (mS _ _ b1 x hx)
 have bcc:=hv.2.2;rw[aOF gX];have e1:=apW (n:=(t.1.length:Int)) (m:=64) (xe aq) aq (t.1.flatMap (λx=>axI x.1)++(gO t.2.1.length++(t.2.1.flatMap HD++(gO t.2.2.1++t.1.flatMap λx=>Hc x.2.1))));have ef:t.1.flatMap (λx=>axI x.1)=(t.1.map (·.1)).flatMap axI:=by rw[List.flatMap_map]
 have e2:=asZ (t.1.map (·.1)) (gO t.2.1.length++(t.2.1.flatMap HD++(gO t.2.2.1++t.1.flatMap λx=>Hc x.2.1))) λo ho=>by obtain⟨x,hx,rfl⟩:=dy.1 ho;exact⟨(hv.2.1 x hx).1.1,(arY x hx).1,by have:=(arY x hx).2.1;omega⟩
 rw[<-ef,da]at e2;have e3:=apW (n:=(t.2.1.length:Int)) (m:=64) (xe aq) aq (t.2.1.flatMap HD++(gO t.2.2.1++t.1.flatMap λx=>Hc x.2.1));have e4:=akG t.2.1 (gO t.2.2.1++t.1.flatMap λx=>Hc x.2.1) λo ho=>by have:=kc _ _ b2 o ho;exact⟨⟨this.1.1,aq⟩,this.2,(hv.1.1 o ho).1⟩
 have e5:=HC t.2.2.1 ⟨a4,bcc⟩ (t.1.flatMap λx=>Hc x.2.1);have e6:=al5 t.1 [] λx hx=>⟨(hv.2.1 x hx).2.1,⟨(arY x hx).2.2.1,by have:=(arY x hx).2.2.2.1;omega⟩,(arY x hx).2.2.2.2⟩
 rw[bK]at e6;unfold ao8 aYV;simp only[e1,aa,e2,e3,e4];unfold aLe;simp only[e5,e6];unfold aJL;rw[if_neg];rintro(x | x | x | x | x)
 ·omega
 ·omega
 ·cases x
 ·simp at x
 ·rw[show((t.1,t.2.1,t.2.2.1,()):dM)=t from rfl,gX]at x;cases x
def wI(r:ij):Prop:=tI r/\(r.2.1=bm->r.1=[])
def Ov(r r':ij)(e:List Int):Prop:=wI r'/\(r'.2.1=aZ->r.2.1=aZ/\r.1=e++r'.1)
theorem Ov.trans{r r1 r2:ij}{e1 e2:List Int}(h1:Ov r r1 e1)(h2:Ov r1 r2 e2):Ov r r2 (e1++e2):=
 ⟨h2.1,λh=>⟨(h1.2 (h2.2 h).1).1,by rw[(h1.2 (h2.2 h).1).2,(h2.2 h).2,aO]⟩⟩
theorem Ov.of{r r':ij}{e e':List Int}(h:Ov r r' e)(he:r'.2.1=aZ->e=e'):Ov r r' e':=⟨h.1,λh'=>by rw[<-he h'];exact h.2 h'⟩
theorem Ov.refl{r:ij}(h:wI r):Ov r r []:=⟨h,λh'=>⟨h',rfl⟩⟩
theorem aP4:wI Tt:=⟨am6,λ_=>rfl⟩
theorem arK(r:ij)(e:List Int):Ov r Tt e:=⟨aP4,λh=>by cases h⟩
theorem aRU{b:List Int}(hb:Bytes b)(hl:b.length<=1000000000):wI (b,aZ,()):=⟨azg hb hl (aZ,()),λh=>by cases h⟩
theorem ag4{r:ij}(h:wI r)(n:Nat):Ov r (oE n r).2 (oE n r).1/\((oE n r).2.2.1=aZ->(oE n r).1.length=n):=by
 have hb:=(CR (n:=n) h.1).2.2
 revert hb
 unfold oE;split
 ·exact λ_=>⟨arK _ _,λh=>by cases h⟩
 ·rename_i hc;intro hb;have h1:r.2.1=aZ:=by cases hr:r.2.1 with | false=>rfl | true=>exact absurd (jg hr) hc
  have h2:¬r.1.length < n:=λx=>hc (eI x)
  exact⟨⟨⟨hb,λ(hx:r.2.1=bm)=>by rw[h1]at hx;cases hx⟩,λ_=>⟨h1,(eC n r.1).symm⟩⟩,λ_=>by show(r.1.take n).length=n;rw[bV];omega⟩
theorem agy(f:Nat){d:Int}(h:d < 128):gW f d=([],d):=by
 cases f with
 |zero=>rfl
 |succ f=>rw[gW,if_neg aq]
theorem asR:∀(l:List Int) (a:Nat) (n:Int) (v:Int×Nat),Bytes l->a<=9->DS l a n= .inl v->
  ∃w rest,v.1=n+w*128^a/\0<=w/\(a=0\/0 < w)/\w < 128^(9 - a)/\l=(gW (8 - a) w).1++(gW (8 - a) w).2::rest/\v.2=a+(gW (8 - a) w).1.length+1
 |[],a,n,v,_,_,h=>by cases h
 |d::l,a,n,v,hb,ha,h=>by
  obtain⟨x1,x2⟩:=hb d aU;rw[DS]at h;split at h
  ·cases h
  rename_i hc;have ba4:a<=8:=aq;have e9:(128:Int)^(9 - a)=128^(8 - a)*128:=by rw[show 9 - a=(8 - a)+1 by omega];exact gj 128 (8 - a)
  have p8:(0:Int) < 128^(8 - a):=Int.pow_pos eX;split at h
  ·rename_i hd;cases h;refine⟨d,l,by rw[eW x1 hd],x1,aq,aq,?_,?_⟩
   ·rw[agy _ hd];rfl
   ·rw[agy _ hd];rfl
  ·rename_i hd;obtain⟨w,rest,e1,w0,w1,w2,e2,e3⟩:=asR l (a+1) _ v (λx hx=>hb x (aP _ hx)) aq h;have w1:0 < w:=aq;rw[show 9 - (a+1)=8 - a by omega]at w2;have bc1:a<=7:=by
    by_cases h8:a=8
    ·rw[h8]at w2;have:(128:Int)^(8 - 8)=1:=rfl;omega
    ·omega
   have er:gW (8 - a) (d%128+128*w)=((d%128+128)::(gW (8 - (a+1)) w).1,(gW (8 - (a+1)) w).2):=by rw[show 8 - a=(8 - (a+1))+1 by omega,gW,if_pos aq,show(d%128+128*w)%128=d%128 by omega,show(d%128+128*w) / 128=w by omega]
   refine⟨d%128+128*w,rest,?_,aq,aq,aq,?_,?_⟩
   ·rw[e1,gj,Int.add_mul,tF,rT 128 w,tG w,rT 128]
   ·rw[er,e2,show d%128+128=d by omega];rfl
   ·rw[er,e3];simp only[aF];omega
theorem uv{r:ij}(h:wI r):Ov r (eh r).2 (gO (eh r).1)/\((eh r).2.2.1=aZ->Ku (eh r).1):=by
 have hk:=uu h.1
 revert hk
 unfold eh;cases hf:DS r.1 0 0 with
 |inr _=>exact λ_=>⟨arK _ _,λh=>by cases h⟩
 |inl v=>
  intro hk;obtain⟨w,rest,e1,w0,_,w2,e2,e3⟩:=asR r.1 0 0 v h.1.2 eX hf;have h1:r.2.1=aZ:=by
   cases hr:r.2.1 with
   |false=>rfl
   |true=>rw[h.2 hr]at hf;cases hf
  have ew:v.1=w:=by rw[e1,mC];omega
  have e9:(128:Int)^(9 - 0)=9223372036854775808:=rfl;have e8:(128:Int)^(8+1)=9223372036854775808:=rfl;have e10:(128:Int)^(10+1)=151115727451828646838272:=rfl;have er:gW 10 w=gW 8 w:=OB 10 8 w (by rw[e10];omega) (by rw[e8];omega);have en:gO v.1=(gW 8 w).1++ [(gW 8 w).2]:=by rw[ew];unfold gO;rw[er]
  refine⟨⟨⟨hk.2.2,λ(hx:r.2.1=bm)=>by rw[h1]at hx;cases hx⟩,λ_=>⟨h1,?_⟩⟩,λ_=>⟨hk.1,hk.2.1⟩⟩;show r.1=gO v.1++r.1.drop v.2;rw[en,e3,aO]
  conv=>rhs;rw[e2]
  rw[List.append_cons,aV,mj (by rw[ak];rfl)];exact e2
theorem aIc{l:List Int}(h:l.length=8)(hb:Bytes l):jo (Rq l)=l:=by
 match l,h with
 |[a,b,c,d,e,f,g,i],_=>
  have h0:=hb a (by simp);have h1:=hb b (by simp);have h2:=hb c (by simp);have h3:=hb d (by simp);have h4:=hb e (by simp);have h5:=hb f (by simp);have h6:=hb g (by simp);have h7:=hb i (by simp);unfold ab0 at h0 h1 h2 h3 h4 h5 h6 h7;unfold jo Rq;simp only[bn,ct];congr 1
  ·omega
  congr 1
  ·omega
  congr 1
  ·omega
  congr 1
  ·omega
  congr 1
  ·omega
  congr 1
  ·omega
  congr 1
  ·omega
  congr 1;omega
theorem OK{r:ij}(h:wI r):Ov r (uh r).2 (jo (uh r).1):=by have e:=ag4 h 8;exact e.1.of λhk=>(aIc (e.2 hk) (CR h.1).2.1).symm
theorem arX{r:ij}(h:wI r):Ov r (Lq r).2 (Lq r).1:=by
 have e:=ag4 h 32;refine e.1.of λhk=> ?_
 unfold Lq;simp only[e.2 hk];rw[show bD 32 (ai 32 (0:Int))=[] from rfl,bK]
theorem aKg{r:ij}(h:tI r):Sm (Lq r).1:=by
 have e:=CR (n:=32) h;refine⟨?_,gN e.2.1 λx hx=> ?_⟩
 ·show((oE 32 r).1++bD (oE 32 r).1.length (ai 32 (0:Int))).length=32;rw[ak,du,dd];have:=e.1;omega
 ·obtain rfl:=(pc.1 (qJ hx)).2;exact⟨eX,eX⟩
theorem amr{r:ij}(h:wI r):Ov r (Kw r).2 (gO (Kw r).1.length++(Kw r).1)/\Bytes (Kw r).1/\(Kw r).1.length<=1000000000:=by
 have e:=uv h;unfold Kw;split
 ·rename_i hc;exact⟨⟨e.1.1,λhk=>by rw[hc]at hk;cases hk⟩,λx hx=>(by cases hx),aL _⟩
 ·rename_i hc;have hc:(eh r).2.2.1=aZ:=by simpa using hc
  have t:=ag4 e.1.1 (eh r).1.toNat;have tb:=CR (n:=(eh r).1.toNat) e.1.1.1;have n0:=(e.2 hc).1;refine⟨(e.1.trans t.1).of λhk=> ?_,tb.2.1,?_⟩
  ·rw[t.2 hk,Int.toNat_of_nonneg n0]
  ·have hl:(oE (eh r).1.toNat (eh r).2).1.length<=(eh r).2.1.length:=by
    unfold oE;split
    ·exact aL _
    ·show((eh r).2.1.take _).length<=_;rw[bV];omega
   have:=e.1.1.1.1;omega
theorem aVY{r:ij}(h:wI r){m:Int}(h0:0<=(Sc m r).1):Ov r (Sc m r).2 (gO (Sc m r).1)/\(Sc m r).1<=m:=by
 have e:=uv h;unfold Sc at h0 ⊢;by_cases hc:(eh r).1 > m
 ·simp only[if_pos hc]at h0;omega
 ·simp only[if_neg hc];exact⟨e.1,aq⟩
theorem aCr{r:ij}(h:wI r)(m:Int):wI (Sc m r).2:=(uv h).1.1
theorem aCq{r:ij}(h:tI r){m:Int}(hm:0<=m): -1<=(Sc m r).1/\(Sc m r).1<=m:=by
 have:=(uu h).1;unfold Sc;split
 ·exact⟨aq,by show(-1:Int)<=m;omega⟩
 ·rename_i hc;have hc:¬(eh r).1 > m:=hc;exact⟨by show -1<=(eh r).1;omega,by show(eh r).1<=m;omega⟩
theorem aBA:∀(k:Nat) {r:ij},wI r->Ov r (OQ k r).2 ((OQ k r).1.flatMap axI)/\(OQ k r).1.length=k/\∀o∈(OQ k r).1,Sm o.1
 | 0,r,h=>⟨Ov.refl h,rfl,λx hx=>by cases hx⟩
 |k+1,r,h=>by
  have e1:=arX h;have e2:=uv e1.1;have ih:=aBA k (r:=(aTF r).2) e2.1.1;refine⟨?_,by rw[OQ,aF,ih.2.1],λo ho=> ?_⟩
  ·have:=(e1.trans e2.1).trans ih.1;rw[OQ,dK];exact this
  ·rcases cq.1 ho with rfl | ho
   ·exact aKg h.1
   ·exact ih.2.2 o ho
theorem aVr{r:ij}(h:wI r):wI (aex r).2:=(amr (uv h).1.1).1.1
theorem as1:∀(k:Nat) {r:ij} {x:List jV×ij},wI r->J2 k r=av x->Ov r x.2 (x.1.flatMap HD)/\x.1.length=k/\∀o∈x.1,o.1<=9223372036854775807/\lI o.2.1=bm/\aTV o.2.1
 | 0,r,x,h,hx=>by cases hx;exact⟨Ov.refl h,rfl,λx hx=>by cases hx⟩
 |k+1,r,x,h,hx=>by
  rw[J2]at hx;split at hx
  ·rename_i hr;split at hx
   ·rename_i y hy;cases hx;have e1:=uv h;have e2:=amr e1.1.1;have ih:=as1 k (aVr h) hy;obtain⟨l,hl,aUP,he,hle⟩:=aNi hr;have hu:=aB8 e2.2.1 e2.2.2;have el:(aex r).1.2.1=l:=by show(Kc (Kw (eh r).2).1).1=l;rw[he]
    refine⟨?_,by rw[aF,ih.2.1],λo ho=> ?_⟩
    ·have:=(e1.1.trans e2.1).trans ih.1;rw[dK];unfold HD;rw[el,aUP];exact this
    ·rcases cq.1 ho with rfl | ho
     ·refine⟨(uu h.1).2.1,by rw[el];exact hl,?_⟩;rw[el,hle];exact⟨hu.1,by show(wo _).length<=_;omega⟩
     ·exact ih.2.2 o ho
   ·cases hx
  ·cases hx
theorem apo:∀(k:Nat) {r:ij},wI r->Ov r (JE k r).2 ((JE k r).1.flatMap aHS)/\(JE k r).1.length=k/\∀s∈(JE k r).1,aOV s
 | 0,r,h=>⟨Ov.refl h,rfl,λx hx=>by cases hx⟩
 |k+1,r,h=>by
  have e1:=OK h;have e2:=OK e1.1;have ih:=apo k (r:=(aTL r).2) e2.1;refine⟨?_,by rw[JE,aF,ih.2.1],λo ho=> ?_⟩
  ·have:=(e1.trans e2).trans ih.1;rw[JE,dK];exact this
  ·rcases cq.1 ho with rfl | ho
   ·exact⟨(Yb h.1).1,(Yb e1.1.1).1⟩
   ·exact ih.2.2 o ho
theorem aCt{r:ij}(h:wI r):wI (yS r).2/\(yS r).1.length<=12/\∀s∈(yS r).1,aOV s:=by have e1:=uv h;have ih:=apo (Sc 12 (eh r).2).1.toNat (aCr e1.1.1 12);have:=aCq e1.1.1.1 (m:=12) eX;exact⟨ih.1.1,by show(JE _ _).1.length<=12;rw[ih.2.1];omega,ih.2.2⟩
theorem aSO{r:ij}{w:V9×ij}(h:wI r)(hw:aAi r=av w):Ov r w.2 (Hc w.1)/\Sl w.1/\w.1.2.1.length<=12:=by
 unfold aAi at hw;split at hw
 ·cases hw
 ·rename_i hc;cases hw;have e1:=uv h;have hc:0<=(Sc 12 (eh r).2).1:=aq;have e2:=aVY e1.1.1 hc;have e3:=apo (Sc 12 (eh r).2).1.toNat e2.1.1;have g:=aCt h;have e4:=OK g.1;have hl:((yS r).1.length:Int)=(Sc 12 (eh r).2).1:=by show((JE _ _).1.length:Int)=_;rw[e3.2.1];omega
  have:=((e1.1.trans e2.1).trans e3.1).trans e4;refine⟨this.of λ_=> ?_,⟨g.2.2,(Yb g.1.1).1⟩,g.2.1⟩;unfold Hc;simp only[hl,aO];rfl
theorem avy:∀(l:List cz) {r:ij} {x:List ji×ij},wI r->Kt l r=av x->Ov r x.2 (x.1.flatMap λy=>Hc y.2.1)/\x.1.map (·.1)=l/\∀y∈x.1,Sl y.2.1/\y.2.1.2.1.length<=12
 |[],r,x,h,hx=>by cases hx;exact⟨Ov.refl h,rfl,λx hx=>by cases hx⟩
 |o::l,r,x,h,hx=>by
  rw[Kt]at hx;split at hx
  ·cases hx
  ·rename_i w hw;have e:=aSO h hw;split at hx
   ·cases hx
   ·rename_i y hy;cases hx;have ih:=avy l e.1.1 hy;refine⟨?_,by rw[cj,ih.2.1],λz hz=> ?_⟩
    ·have:=e.1.trans ih.1;rw[dK];exact this
    ·rcases cq.1 hz with rfl | hz
     ·exact e.2
     ·exact ih.2.2 z hz
def aO6(o:cz):F2:=(o,(0,aH,0,()),())
def aYM(x:ji):F2:=(x.1,(x.2.1.1,av x.2.1.2.1,x.2.1.2.2),())
def baF(x:F2):ji:=(x.1,(x.2.1.1,x.2.1.2.1.getD [],x.2.1.2.2),())
theorem aUm(l:List F2):aWb (.slice ug) (.slice fo) l=l.map baF:=cd
theorem aVW(l:List ji):(l.map aYM).map baF=l:=by rw[wG];have:(baF∘aYM)=id:=rfl;rw[this,List.map_id]
theorem aRb{t:Ty}{l:List t.den}{k:Nat}{y:t.den}(h:k < l.length):nth t (l.set k y) k=y:=by simp[nth,h]
theorem aRa{t:Ty}{a b:List t.den}{k:Nat}{y:t.den}(h:a.length=k):nth t (a++y::b) k=y:=by subst h;simp[nth]
theorem aSm{α:Type}{a b:List α}{k:Nat}{y z:α}(h:a.length=k):(a++y::b).set k z=a++z::b:=by subst h;simp
theorem aHj{α:Type}{l:List α}{k:Nat}{y:α}:(l.set k y).take k=l.take k:=by rw[List.take_set,List.set_eq_of_length_le (by rw[bV];omega)]
theorem aDQ{α:Type}{l:List α}{k:Nat}{y:α}:(l.set k y).drop (k+1)=l.drop (k+1):=List.drop_set_of_lt aq
def aGH:ij->Prop:=λr=>tI r
def aCb:ij->(Bs×ij):=λr=>Lq r
def agl:Fs Tryz.prog aGH bq aCb:=eV 230 Tryz.f230 (λo0=>([.ptr (.bP 0) 0 [] 0],[.obj 0 aZ (.d wE o0)])) (λx=>⟨.d tH x.1,[.obj 0 aZ (.d wE x.2)],[]⟩) [aH] [agC]
theorem aNp(o0)(k:K1 R):agl.A o0 k=ao (Nf.call (32,o0)) λx1=>aJ (decide ((ae x1.1)<=32)) (k (agl.out ((x1.1++(bD (ae x1.1) (ai 32 0))),x1.2))) aH:=cd
theorem aNq:agl.Ok:=by intro r h;have h:tI r:=h;have e:=(CR (n:=32) h).1;rw[aNp,X0 (d:=(32,r)) ⟨eX,h.1⟩];simp only[ag,bq,abW];rw[show ab 32=32 from rfl,aX e];rfl
theorem aGI:agl.RS:=rE [.d wE] agl
def aNr:=agl.eY aNq
def azc:ij->Prop:=λr=>tI r
def af8:ij->(Bs×ij):=λr=>Kw r
def M0:Fs Tryz.prog azc bq af8:=eV 232 Tryz.f232 (λo0=>([.ptr (.bP 0) 0 [] 0],[.obj 0 aZ (.d wE o0)])) (λx=>⟨.d tB x.1,[.obj 0 aZ (.d wE x.2)],[]⟩) [aH] [abV,agC] {res:=[av tB],QN:=[⟨0,[.arr],wE⟩]}
theorem aGx(o0)(k:K1 R):M0.A o0 k=ao (GZ.call o0) λx1=>aJ (x1.2.2.1) (k (M0.out (([]:List Int),x1.2))) (ao (Nf.call (x1.1,x1.2)) λx2=>k (M0.out (x2.1,x2.2))):=cd
theorem aGy:M0.Ok:=by
 intro r h;have h:tI r:=h;have e:=uu h;rw[aGx,rI (d:=r) h];simp only[ag,bq,yM,bq,af8,Kw];cases hc:(eh r).2.2.1
 ·rw[al,X0 (d:=((eh r).1,(eh r).2)) ⟨e.1,e.2.2.1⟩];rfl
 ·rfl
theorem azd:M0.RS:=rE [.d wE] M0
def aGz:=M0.eY aGy
def aHB:(Int×ij)->Prop:=λ(m,r)=>tI r
def V3:(Int×ij)->(Int×ij):=λ(m,r)=>Sc m r
def Qk:Fs Tryz.prog aHB bq V3:=eV 228 Tryz.f228 (λ(most,o1)=>([.d ti most,.ptr (.bP 0) 0 [] 0],[.obj 0 aZ (.ptr (.bP 1) 0 [] 0),.obj 0 aZ (.d wE o1)])) (λx=>⟨.d ti x.1,[.obj 0 aZ (.ptr (.bP 1) 0 [] 0),.obj 0 aZ (.d wE x.2)],[]⟩) [av ti,aH] [abV]
theorem aOB(most o1)(k:K1 R):Qk.A (most,o1) k=ao (GZ.call o1) λx1=>aJ (xW x1.1 most) (k (Qk.out ((-1),x1.2))) (k (Qk.out (x1.1,x1.2))):=cd
theorem aOC:Qk.Ok:=by
 rintro⟨m,r⟩ h;have h:tI r:=h;rw[aOB,rI (d:=r) h];simp only[ag,bq,yM,bq,V3,Sc];by_cases hc:(eh r).1 > m
 ·rw[dw hc,if_pos hc];rfl
 ·rw[cI hc,if_neg hc];rfl
theorem Ya:Qk.RS:=rE [.d ti,.d wE] Qk
def aOD:=Qk.eY aOC
abbrev R2:=Int×Int×Int×(Int×Unit)×Nat×(Int×Unit)×ij×(List F2)
abbrev ahh:=Nat×ij×(List F2)
def CS:R2->ahh->((Int×(Int×Unit)×(Int×Unit))×(Nat×ij×(List F2))):=λ(n,t20,t21,n2,aQ2,n4,n16,n32) y=>((n,n2,n4),y)
abbrev Eu:=Int×Int×Int×Int×(Int×Unit)×Nat×Nat×(Int×Unit)×ij×(List F2)×(List jV)
def rP:Eu->AS:=λ(ze,m,t37,t38,mW,Zk,Px,DP,Hz,vZ,aTB)=>⟨([bE,bE,eP 2,bE,eP 4,eP 5,.fn 228 (.cons (eP 5) (.nil)),.d ti ze,.d ti m]++aW 28 ([.d ti t37,.d ti t38]++aW 93 [])),[],([[],[],dm (.pr (.dJ) (.pr (.dJ) (.d (.pair ti .unit) mW))),[],dm (.pr (jl 32 Zk) (.pr (jl 58 Px) (.d (.pair ti .unit) DP))),dm (eP 16)]++bw 10 ([dm (.d wE Hz)]++bw 15 ([dm (.vec 140 ug vZ)]++bw 25 ([dm (.vec 87 fi aTB)]++bw 73 []))))⟩
def tc:(Int×Unit)->Exit×AS:=λx=>(.ret,⟨([bE,bE,eP 2,.d .bool aZ]++aW 128 []),[],([[],[],dm (.pr (.dJ) (.pr (.dJ) (.d (.pair ti .unit) x)))]++bw 129 [])⟩)
abbrev aay:=(Int×Int×(Int×Unit)×Nat×(Int×Unit)×(List F2))×(Nat×ij×(List jV))
def CU:aay->Exit×AS:=λ((a,b,c,e,f,g),h,i,j)=>(.exit 2,⟨([bE,bE,eP 2,bE,eP 4,eP 5,.fn 228 (.cons (eP 5) (.nil)),.d ti a,.d ti b]++aW 123 []),[],([[],[],dm (.pr (.dJ) (.pr (.dJ) (.d (.pair ti .unit) c))),[],dm (.pr (jl 32 e) (.pr (jl 58 h) (.d (.pair ti .unit) f))),dm (eP 16)]++bw 10 ([dm (.d wE i)]++bw 15 ([dm (.vec 140 ug g)]++bw 25 ([dm (.vec 87 fi j)]++bw 73 []))))⟩)
abbrev R4:=((Int×Unit))⊕(aay)
abbrev ahj:=((Int×Unit))⊕((Nat×ij×(List jV)))
def JP:R4->Out (Exit×AS):=λx=> .br x.isLeft (.get x.getLeft? λa=> .ok (tc a)) (.get x.getRight? λb=> .ok (CU b))
def nC:Eu->ahj->R4:=λ(ze,m,t37,t38,mW,Zk,Px,DP,Hz,vZ,aTB) y=>match y with | .inl y=> .inl y | .inr z=> .inr (((ze,m,mW,Zk,DP,vZ),z))
abbrev Ev:=Int×Int×Int×Int×(Int×Unit)×Nat×Nat×(Int×Unit)×ij×(List F2)×(List jV)
def rR:Ev->AS:=λ(aVh,ah6,t66,t67,vp,Zl,aee,T8,ad3,fR,aei)=>⟨([bE,bE,eP 2,bE,eP 4,eP 5,.fn 228 (.cons (eP 5) (.nil)),.d ti aVh,.d ti ah6]++aW 57 ([.d ti t66,.d ti t67]++aW 64 [])),[],([[],[],dm (.pr (.dJ) (.pr (.dJ) (.d (.pair ti .unit) vp))),[],dm (.pr (jl 32 Zl) (.pr (jl 58 aee) (.d (.pair ti .unit) T8))),dm (eP 16)]++bw 10 ([dm (.d wE ad3)]++bw 15 ([dm (.vec 140 ug fR)]++bw 25 ([dm (.vec 87 fi aei)]++bw 73 []))))⟩
def td:(Int×Unit)->Exit×AS:=λx=>(.ret,⟨([bE,bE,eP 2,.d .bool aZ]++aW 128 []),[],([[],[],dm (.pr (.dJ) (.pr (.dJ) (.d (.pair ti .unit) x)))]++bw 129 [])⟩)
abbrev aaA:=Int×Int×(Int×Unit)×Nat×Nat×(Int×Unit)×ij×(List F2)×(List jV)
def CW:aaA->Exit×AS:=λ(a,b,c,e,f,g,h,i,j)=>(.exit 4,⟨([bE,bE,eP 2,bE,eP 4,eP 5,bE,.d ti a,.d ti b]++aW 123 []),[],([[],[],dm (.pr (.dJ) (.pr (.dJ) (.d (.pair ti .unit) c))),[],dm (.pr (jl 32 e) (.pr (jl 58 f) (.d (.pair ti .unit) g))),dm (eP 16)]++bw 10 ([dm (.d wE h)]++bw 15 ([dm (.vec 140 ug i)]++bw 25 ([dm (.vec 87 fi j)]++bw 73 []))))⟩)
abbrev R6:=((Int×Unit))⊕(aaA)
abbrev ahl:=((Int×Unit))⊕((Int×Int×(Int×Unit)×Nat×Nat×(Int×Unit)×ij×(List F2)×(List jV)))
def JQ:R6->Out (Exit×AS):=λx=> .br x.isLeft (.get x.getLeft? λa=> .ok (td a)) (.get x.getRight? λb=> .ok (CW b))
def nD:Ev->ahl->R6:=λ(aVh,ah6,t66,t67,vp,Zl,aee,T8,ad3,fR,aei) y=>match y with | .inl y=> .inl y | .inr z=> .inr (z)
abbrev R7:=Int×Int×Int×Int×Int×Int×(Int×Unit)×Nat×Nat×(Int×Unit)×ij×(List F2)×cz×Int×Nat×(Int×Unit)×(List F2)×(List jV)×(List Sg)
abbrev ahm:=ij×(List F2)×(List Sg)
def CX:R7->ahm->((Int×Int×Int×Int×(Int×Unit)×Nat×Nat×(Int×Unit)×(List jV))×(ij×(List F2)×(List Sg))):=λ(aVi,aU9,ag0,Ij,t85,t86,Rn,aef,aeg,axz,akv,aky,akz,akA,aaW,akB,ad8,aej,n99) y=>((aVi,aU9,ag0,Ij,Rn,aef,aeg,axz,aej),y)
def apH:R2->Prop:=λ(n,m,i,u,L,v,r,l)=>wI r/\m<=64/\∃k:Nat,i=k/\k<=64/\L=l.length/\l.length=k
def JO:R2->ahh:=λ(n,m,i,u,L,v,r,l)=>(L+(m - i).toNat,(OQ (m - i).toNat r).2,l++(OQ (m - i).toNat r).1.map aO6)
def CT:Eu->Prop:=λ(n,m1,m,i,u,L,L2,v,r,l,os)=>wI r/\m<=64/\∃k:Nat,i=k/\k<=64/\L2=os.length/\os.length=k
def rO:Eu->ahj:=λ(n,m1,m,i,u,L,L2,v,r,l,os)=>match J2 (m - i).toNat r with | none=> .inl (0,()) | some x=> .inr (L2+x.1.length,x.2,os++x.1)
def apL:R7->Prop:=λ(n,m1,mo,io,m,i,u,L,L2,v,r,la,op,br,Ls,sc,lb,os,sg)=>wI r/\m<=12/\∃k:Nat,i=k/\k<=12/\Ls=sg.length/\sg.length=k
def JR:R7->ahm:=λ(n,m1,mo,io,m,i,u,L,L2,v,r,la,op,br,Ls,sc,lb,os,sg)=>((JE (m - i).toNat r).2,la++(op,(br,av (sg++(JE (m - i).toNat r).1),sc),())::lb,sg++(JE (m - i).toNat r).1)
def CV:Ev->Prop:=λ(n,m1,m,i,u,L,L2,v,r,l,os)=>wI r/\l.length<=64/\∃k:Nat,i=k/\k<=l.length/\m=l.length/\L=l.length/\∀x∈l.drop k,x=aO6 x.1
def rQ:Ev->ahl:=λ(n,m1,m,i,u,L,L2,v,r,l,os)=>match Kt ((l.drop i.toNat).map (·.1)) r with | none=> .inl (0,()) | some x=> .inr (n,m1,u,L,L2,v,x.2,l.take i.toNat++x.1.map aYM,os)
def aHs:Bs->Prop:=λb=>Bytes b/\b.length<=1000000000
def apG:Bs->(dM×Bool):=λb=>ao8 b
def xQ:Ls apH CS JO:=pD (λ(n,t20,t21,n2,aQ2,n4,n16,n32)=>⟨([bE,bE,eP 2,bE,eP 4,eP 5,.fn 228 (.cons (eP 5) (.nil)),.d ti n]++aW 12 ([.d ti t20,.d ti t21]++aW 110 [])),[],([[],[],dm (.pr (.dJ) (.pr (.dJ) (.d (.pair ti .unit) n2))),[],dm (.pr (jl 32 aQ2) (.pr (.dJ) (.d (.pair ti .unit) n4))),dm (eP 16)]++bw 10 ([dm (.d wE n16)]++bw 15 ([dm (.vec 140 ug n32)]++bw 99 [])))⟩) (λx=>(.exit 0,⟨([bE,bE,eP 2,bE,eP 4,eP 5,.fn 228 (.cons (eP 5) (.nil)),.d ti x.1.1]++aW 124 []),[],([[],[],dm (.pr (.dJ) (.pr (.dJ) (.d (.pair ti .unit) x.1.2.1))),[],dm (.pr (jl 32 x.2.1) (.pr (.dJ) (.d (.pair ti .unit) x.1.2.2))),dm (eP 16)]++bw 10 ([dm (.d wE x.2.2.1)]++bw 15 ([dm (.vec 140 ug x.2.2.2)]++bw 99 [])))⟩))
def ahi:=dB.e7 rP CT nC rO JP
def Qd:Eu->Option R4:=fS ahi rP
def ahk:=dB.e7 rR CV nD rQ JQ
def Qf:Ev->Option R6:=fS ahk rR
def xR:Ls apL CX JR:=pD (λ(aVi,aU9,ag0,Ij,t85,t86,Rn,aef,aeg,axz,akv,aky,akz,akA,aaW,akB,ad8,aej,n99)=>⟨([bE,bE,eP 2,bE,eP 4,eP 5,.fn 228 (.cons (eP 5) (.nil)),.d ti aVi,.d ti aU9]++aW 4 ([.ptr (.new 32 0) 0 [.snd,.fst,.snd,.fst] ((0+((ab Ij)*36))+33)]++aW 52 ([.d ti ag0,.d ti Ij]++aW 17 ([.d ti t85,.d ti t86]++aW 45 [])))),[],([[],[],dm (.pr (.dJ) (.pr (.dJ) (.d (.pair ti .unit) Rn))),[],dm (.pr (jl 32 aef) (.pr (jl 58 aeg) (.d (.pair ti .unit) axz))),dm (eP 16)]++bw 10 ([dm (.d wE akv)]++bw 15 ([dm (.bx 140 36 (.pr (.d (.arr (0+(ab Ij)) ug) aky) (.pr (.pr (.d bQ akz) (.pr (.pr (.d ti akA) (.pr (jl 99 aaW) (.d (.pair tu .unit) akB))) gR)) (.d (.arr (ae ad8) ug) ad8))))]++bw 25 ([dm (.vec 87 fi aej)]++bw 40 ([dm (.vec 225 KF n99)]++bw 32 [])))))⟩) (λx=>(.exit 6,⟨([bE,bE,eP 2,bE,eP 4,eP 5,.fn 228 (.cons (eP 5) (.nil)),.d ti x.1.1,.d ti x.1.2.1]++aW 4 ([.ptr (.new 32 0) 0 [.idx (0+(ab x.1.2.2.2.1)),.snd,.fst] ((0+((ab x.1.2.2.2.1)*36))+33)]++aW 52 ([.d ti x.1.2.2.1,.d ti x.1.2.2.2.1]++aW 64 []))),[],([[],[],dm (.pr (.dJ) (.pr (.dJ) (.d (.pair ti .unit) x.1.2.2.2.2.1))),[],dm (.pr (jl 32 x.1.2.2.2.2.2.1) (.pr (jl 58 x.1.2.2.2.2.2.2.1) (.d (.pair ti .unit) x.1.2.2.2.2.2.2.2.1))),dm (eP 16)]++bw 10 ([dm (.d wE x.2.1)]++bw 15 ([dm (.vec 140 ug x.2.2.1)]++bw 25 ([dm (.vec 87 fi x.1.2.2.2.2.2.2.2.2)]++bw 40 ([[.obj 0 bm (.vec 225 KF x.2.2.2)]]++bw 32 [])))))⟩))
def nQ:Fs Tryz.prog aHs bq apG:=eV 173 Tryz.f173 (λb=>([.d tB b],[])) (λx=>⟨.cons (.d dU x.1) (.cons (.d .bool x.2) (.nil)),[],[]⟩) [av tB] [auw,aOD,aNr,abV,aGz,aK6,aCf,aR5,aNu,te] {cg:=[100031,100032],loops:=lz [(6,{bg:=[2,4,5,6,7,20,21],sites:=[2,4,5,16,32],owns:=[⟨4,[.fst],32,100072⟩]}),(11,{bg:=[2,4,5,6,7,8,37,38],sites:=[2,4,5,16,32,58],owns:=[⟨4,[.snd,.fst],58,22⟩]}),(21,{bg:=[2,4,5,6,7,8,66,67],sites:=[2,4,5,16,32,58]}),(29,{bg:=[2,4,5,6,7,8,13,66,67,85,86],sites:=[2,4,5,16,32,58,99],owns:=[⟨13,[.snd,.fst],99,136⟩],ba0:=[13]})],outs:=lu [(6,{bg:=[2,4,5,6,7],sites:=[2,4,5,16,32]},{bg:=[2,3]}),(11,{bg:=[2,4,5,6,7,8],sites:=[2,4,5,16,32,58]},{bg:=[2,3],sites:=[2]}),(21,{bg:=[2,4,5,7,8],sites:=[2,4,5,16,32,58]},{bg:=[2,3],sites:=[2]}),(29,{bg:=[2,4,5,6,7,8,13,66,67],sites:=[2,4,5,16,32,58,99],bbE:=[13]},{bg:=[2,3]})],fa:=mc [(6,xQ.E),(11,ahi),(21,ahk),(29,xR.E)],res:=[av dU,aH]}
def R3:= @ej Tryz.prog (jr nQ.G) nQ.an 0 Tryz.f173 1 _ rP
abbrev aax:=jj Tryz.prog (jr nQ.G) nQ.an 0 Tryz.f173 1 rP CT nC rO JP
def R5:= @ej Tryz.prog (jr nQ.G) nQ.an 0 Tryz.f173 2 _ rR
abbrev aaz:=jj Tryz.prog (jr nQ.G) nQ.an 0 Tryz.f173 2 rR CV nD rQ JQ
theorem apI:xQ.RS:=rL [.d ti,.d ti,.d ti,.d (.pair ti .unit),.n,.d (.pair ti .unit),.d wE,.d (.slice ug)] xQ
theorem Qc(n t20 t21 n2 aQ2 n4 n16 n32)(kn:K2 R)(kx:K3 R):nQ.R 0 xQ (n,t20,t21,n2,aQ2,n4,n16,n32) kn kx=aJ (fv t21 t20) (ao (agl.call n16) λx7=>ao (GZ.call x7.2) λx8=>aJ (decide (aQ2<=(ae n32))) (aJ (cZ (aQ2+1) 80) (kn (xQ.st (n,t20,(bz .i64 t21 1),n2,(aQ2+1),n4,x8.2,((aM aQ2 n32)++ [((x7.1,(x8.1,())),((0,(aH,(0,()))),()))])))) aH) aH) (xQ.go kx ((n,n2,n4),(aQ2,n16,n32))):=cd
theorem apJ:ik Qd CT nC rO:=jX (jA [.d ti,.d ti,.d ti,.d ti,.d (.pair ti .unit),.n,.n,.d (.pair ti .unit),.d wE,.d (.slice ug),.d (.slice fi)] λ_=>cd)
theorem VX:ma @R3 rP CT nC rO JP aax:=mJ
theorem Qe(ze m t37 t38 mW Zk Px DP Hz vZ aTB)(kn:K2 R)(kx:K3 R):R3 (ze,m,t37,t38,mW,Zk,Px,DP,Hz,vZ,aTB) kn kx=aJ (fv t38 t37) (ao (GZ.call Hz) λvG=>ao (M0.call vG.2) λbbH=>ao (DK.call bbH.1) λabr=>aJ (!abr.2) (kx (tc ((0:Int),())).1 (tc ((0:Int),())).2) (aJ (decide (Px<=(ae aTB))) (aJ (cZ (Px+1) 32) (kn (rP (ze,m,t37,(bz .i64 t38 (1:Int)),mW,Zk,(Px+1),DP,bbH.2,vZ,((aM Px aTB)++ [(vG.1,(abr.1,()))])))) aH) aH)) (kx (CU ((ze,m,mW,Zk,DP,vZ),(Px,Hz,aTB))).1 (CU ((ze,m,mW,Zk,DP,vZ),(Px,Hz,aTB))).2):=cd
theorem apK:ik Qf CV nD rQ:=jX (jA [.d ti,.d ti,.d ti,.d ti,.d (.pair ti .unit),.n,.n,.d (.pair ti .unit),.d wE,.d (.slice ug),.d (.slice fi)] λ_=>cd)
theorem VY:ma @R5 rR CV nD rQ JQ aaz:=mJ
theorem Qg(aVh ah6 t66 t67 vp Zl aee T8 ad3 fR aei)(kn:K2 R)(kx:K3 R):R5 (aVh,ah6,t66,t67,vp,Zl,aee,T8,ad3,fR,aei) kn kx=aJ (fv t67 t66) (aJ (eA t67 ((Zl:Nat):Int)) (ao (GZ.call ad3) λvG=>aJ (decide ((0+(ab t67)) < (ae fR))) (aJ (decide ((((0+(ab t67))*36)+33)=(((0+((ab t67)*36))+33)+0))) (aJ (decide ((0+(ab t67)) < (ae fR))) (ao (Qk.call ((12:Int),vG.2)) λaV1=>aJ (fv aV1.1 (0:Int)) (kx (td ((0:Int),())).1 (td ((0:Int),())).2) (aJ (decide ((0+(ab t67)) < (ae (gF fR (0+(ab t67)) ((nth ug fR (0+(ab t67))).1,((vG.1,(nth ug fR (0+(ab t67))).2.1.2),(nth ug fR (0+(ab t67))).2.2)))))) (aJ (Option.isNone (nth ug (gF fR (0+(ab t67)) ((nth ug fR (0+(ab t67))).1,((vG.1,(nth ug fR (0+(ab t67))).2.1.2),(nth ug fR (0+(ab t67))).2.2))) (0+(ab t67))).2.1.2.1) (ao (xR.call (aVh,ah6,t66,t67,aV1.1,(0:Int),vp,Zl,aee,T8,aV1.2,(aM (0+(ab t67)) (gF fR (0+(ab t67)) ((nth ug fR (0+(ab t67))).1,((vG.1,(nth ug fR (0+(ab t67))).2.1.2),(nth ug fR (0+(ab t67))).2.2)))),((nth ug (gF fR (0+(ab t67)) ((nth ug fR (0+(ab t67))).1,((vG.1,(nth ug fR (0+(ab t67))).2.1.2),(nth ug fR (0+(ab t67))).2.2))) (0+(ab t67))).1.1,((nth ug (gF fR (0+(ab t67)) ((nth ug fR (0+(ab t67))).1,((vG.1,(nth ug fR (0+(ab t67))).2.1.2),(nth ug fR (0+(ab t67))).2.2))) (0+(ab t67))).1.2.1,(nth ug (gF fR (0+(ab t67)) ((nth ug fR (0+(ab t67))).1,((vG.1,(nth ug fR (0+(ab t67))).2.1.2),(nth ug fR (0+(ab t67))).2.2))) (0+(ab t67))).1.2.2)),(nth ug (gF fR (0+(ab t67)) ((nth ug fR (0+(ab t67))).1,((vG.1,(nth ug fR (0+(ab t67))).2.1.2),(nth ug fR (0+(ab t67))).2.2))) (0+(ab t67))).2.1.1,0,((nth ug (gF fR (0+(ab t67)) ((nth ug fR (0+(ab t67))).1,((vG.1,(nth ug fR (0+(ab t67))).2.1.2),(nth ug fR (0+(ab t67))).2.2))) (0+(ab t67))).2.1.2.2.1,(nth ug (gF fR (0+(ab t67)) ((nth ug fR (0+(ab t67))).1,((vG.1,(nth ug fR (0+(ab t67))).2.1.2),(nth ug fR (0+(ab t67))).2.2))) (0+(ab t67))).2.1.2.2.2),(bD ((0+(ab t67))+1) (gF fR (0+(ab t67)) ((nth ug fR (0+(ab t67))).1,((vG.1,(nth ug fR (0+(ab t67))).2.1.2),(nth ug fR (0+(ab t67))).2.2)))),aei,([]:List Sg))) λQl=>ao (Vx.call Ql.2.1) λabr=>aJ (decide ((0+(ab Ql.1.2.2.2.1)) < (ae Ql.2.2.1))) (aJ (decide ((((0+(ab Ql.1.2.2.2.1))*36)+35)=(((0+((ab Ql.1.2.2.2.1)*36))+33)+2))) (aJ (decide ((0+(ab Ql.1.2.2.2.1)) < (ae Ql.2.2.1))) (kn (rR (Ql.1.1,Ql.1.2.1,Ql.1.2.2.1,(bz .i64 Ql.1.2.2.2.1 (1:Int)),Ql.1.2.2.2.2.1,Ql.1.2.2.2.2.2.1,Ql.1.2.2.2.2.2.2.1,Ql.1.2.2.2.2.2.2.2.1,abr.2,(gF Ql.2.2.1 (0+(ab Ql.1.2.2.2.1)) ((nth ug Ql.2.2.1 (0+(ab Ql.1.2.2.2.1))).1,(((nth ug Ql.2.2.1 (0+(ab Ql.1.2.2.2.1))).2.1.1,((nth ug Ql.2.2.1 (0+(ab Ql.1.2.2.2.1))).2.1.2.1,(abr.1,(nth ug Ql.2.2.1 (0+(ab Ql.1.2.2.2.1))).2.1.2.2.2))),(nth ug Ql.2.2.1 (0+(ab Ql.1.2.2.2.1))).2.2))),Ql.1.2.2.2.2.2.2.2.2))) aH) aH) aH) aH) aH)) aH) aH) aH) aH) (kx (CW (aVh,ah6,vp,Zl,aee,T8,ad3,fR,aei)).1 (CW (aVh,ah6,vp,Zl,aee,T8,ad3,fR,aei)).2):=cd
theorem apM:xR.RS:=rL [.d ti,.d ti,.d ti,.d ti,.d ti,.d ti,.d (.pair ti .unit),.n,.n,.d (.pair ti .unit),.d wE,.d (.slice ug),.d bQ,.d ti,.n,.d (.pair tu .unit),.d (.slice ug),.d (.slice fi),.d (.slice KF)] xR
theorem Qh(aVi aU9 ag0 Ij t85 t86 Rn aef aeg axz akv aky akz akA aaW akB ad8 aej n99)(kn:K2 R)(kx:K3 R):nQ.R 3 xR (aVi,aU9,ag0,Ij,t85,t86,Rn,aef,aeg,axz,akv,aky,akz,akA,aaW,akB,ad8,aej,n99) kn kx=aJ (fv t86 t85) (aJ (decide ((((0+(ab Ij))*36)+34)=(((0+((ab Ij)*36))+33)+1))) (ao (Vx.call akv) λx7=>ao (Vx.call x7.2) λx8=>aJ (decide (aaW<=(ae n99))) (aJ (cZ (aaW+1) 16) (aJ (decide ((((0+(ab Ij))*36)+34)=(((0+((ab Ij)*36))+33)+1))) (kn (xR.st (aVi,aU9,ag0,Ij,t85,(bz .i64 t86 1),Rn,aef,aeg,axz,x8.2,aky,akz,akA,(aaW+1),akB,ad8,aej,((aM aaW n99)++ [(x7.1,(x8.1,()))])))) aH) aH) aH) aH) (aJ (decide (0=0/\(0+aaW)<=(ae n99))) (xR.go kx ((aVi,aU9,ag0,Ij,Rn,aef,aeg,axz,aej),(akv,(aky++(akz,((akA,((av (cut n99 0 aaW)),akB)),()))::ad8),n99))) aH):=cd
theorem aOs(b)(k:K1 R):nQ.A b k=ao (aaf.call b) λx4=>ao (Qk.call (64,x4)) λx8=>ao (xQ.call (x8.1,x8.1,0,(0,()),0,(0,()),x8.2,([]:List F2))) λajq=>ao (Qk.call (64,ajq.2.2.1)) λaaJ=>ao (Qd (ajq.1.1,aaJ.1,aaJ.1,0,ajq.1.2.1,ajq.2.1,0,ajq.1.2.2,aaJ.2,ajq.2.2.2,([]:List jV))) λbaU=>aJ baU.isLeft (ao baU.getLeft? λa83=>k (nQ.out ((([]:List ji),(([]:List jV),a83)),aZ))) (ao baU.getRight? λb84=>ao (GZ.call b84.2.2.1) λEB=>ao (Qf (b84.1.1,b84.1.2.1,((b84.1.2.2.2.1:Nat):Int),0,b84.1.2.2.1,b84.1.2.2.2.1,b84.2.1,(EB.1,b84.1.2.2.2.2.1.2),EB.2,b84.1.2.2.2.2.2,b84.2.2.2)) λaV0=>aJ aV0.isLeft (ao aV0.getLeft? λa125=>k (nQ.out ((([]:List ji),(([]:List jV),a125)),aZ))) (ao aV0.getRight? λb126=>aJ (fv b126.1 0) (k (nQ.out ((([]:List ji),(([]:List jV),(0,()))),aZ))) (aJ (fv b126.2.1 0) (k (nQ.out ((([]:List ji),(([]:List jV),(0,()))),aZ))) (ao (azq.call b126.2.2.2.2.2.2.1) λaYl=>aJ (!aYl.2) (k (nQ.out ((([]:List ji),(([]:List jV),(0,()))),aZ))) (ao (agm.call aYl.1) λbaJ=>aJ (xW baJ.2 0) (k (nQ.out ((([]:List ji),(([]:List jV),(0,()))),aZ))) (aJ (decide (0=0/\(0+b126.2.2.2.1)<=(ae b126.2.2.2.2.2.2.2.1))) (aJ (decide (0=0/\(0+b126.2.2.2.2.1)<=(ae b126.2.2.2.2.2.2.2.2))) (ao (iQ.call ((aWb (.slice ug) (.slice fo) (cut b126.2.2.2.2.2.2.2.1 0 b126.2.2.2.1)),((cut b126.2.2.2.2.2.2.2.2 0 b126.2.2.2.2.1),b126.2.2.2.2.2.1))) λbaK=>aJ (!baK) (k (nQ.out ((([]:List ji),(([]:List jV),(0,()))),aZ))) (aJ (decide (0=0/\(0+b126.2.2.2.1)<=(ae b126.2.2.2.2.2.2.2.1))) (aJ (decide (0=0/\(0+b126.2.2.2.2.1)<=(ae b126.2.2.2.2.2.2.2.2))) (k (nQ.out (((aWb (.slice ug) (.slice fo) (cut b126.2.2.2.2.2.2.2.1 0 b126.2.2.2.1)),((cut b126.2.2.2.2.2.2.2.2 0 b126.2.2.2.2.1),b126.2.2.2.2.2.1)),bm))) aH) aH)) aH) aH)))))):=cd
theorem avk:(nQ.jx 0 xQ):=by
 refine(nQ.mf 0 xQ) (λ(n,m,i,u,L,v,r,l)=>(m - i).toNat) ?_
 rintro⟨n,m,i,u,L,v,r,l⟩ ⟨hr,hm,k,rfl,hk,rfl,ahU⟩;have hr:wI r:=hr;have hm:m<=64:=hm;have ahU:l.length=k:=ahU;by_cases h:(k:Int) < m
 ·left;have e1:(m - (k:Int)).toNat=(m - ((k+1:Nat):Int)).toNat+1:=aq;have h1:=arX hr;refine⟨(n,m,((k+1:Nat):Int),u,l.length+1,v,(aTF r).2,l++ [aO6 (aTF r).1]),⟨(uv h1.1).1.1,hm,k+1,rfl,aq,by rw[ak];rfl,by rw[ak];show l.length+1=_;omega⟩,by show(m - ((k+1:Nat):Int)).toNat < (m - (k:Int)).toNat;omega,?_,λkn kx=> ?_⟩
  ·simp only[CS,JO,e1,OQ,cj,aO,cE];rw[show ∀a c:Nat,a+1+c=a+(c+1) from λa c=>aq]
  ·rw[Qc,aS h,aGI (d:=r) hr.1];simp only[aj,ag,bq,aCb];rw[rI (d:=(Lq r).2) h1.1.1];simp only[ag,bq,yM];rw[aX (az _),cM aq aq,N.jL aq,bN];rfl
 ·right;intro R kn kx;have e1:(m - (k:Int)).toNat=0:=aq;rw[Qc,aQ h,al];simp only[CS,JO,e1,OQ,fK,bK,cD]
theorem avl:aax:=by
 refine VX (λ(n,m1,m,i,u,L,L2,v,r,l,os)=>(m - i).toNat) ?_
 rintro⟨n,m1,m,i,u,L,L2,v,r,l,os⟩ ⟨hr,hm,k,rfl,hk,rfl,ahU⟩;have hr:wI r:=hr;have hm:m<=64:=hm;have ahU:os.length=k:=ahU;by_cases h:(k:Int) < m
 ·have e1:(m - (k:Int)).toNat=(m - ((k+1:Nat):Int)).toNat+1:=aq;have h1:=uv hr;have h2:=amr h1.1.1;have step:∀ {R:Type} (kn:AS->Option R) (kx:Exit->AS->Option R),R3 (n,m1,m,(k:Int),u,L,os.length,v,r,l,os) kn kx=aJ (!(Kc (Kw (eh r).2).1).2) (kx (tc (0,())).1 (tc (0,())).2) (kn (rP (n,m1,m,((k+1:Nat):Int),u,L,os.length+1,v,(aex r).2,l,os++ [(aex r).1]))):=by intro R kn kx;rw[Qe,aS h,rI (d:=r) hr.1];simp only[aj,ag,bq,yM];rw[azd (d:=(eh r).2) h1.1.1.1];simp only[ag,bq,af8];rw[aEJ (d:=(Kw (eh r).2).1) ⟨h2.2.1,h2.2.2⟩];simp only[ag,bq,anK];rw[aX (az _),cM aq aq,N.jL aq,bN];rfl
  cases hp:(Kc (Kw (eh r).2).1).2
  ·right;refine⟨tc (0,()),?_,λkn kx=> ?_⟩
   ·simp only[nC,rO,e1,J2,hp,bG,bC];rfl
   ·rw[step,hp];rfl
  ·left;refine⟨(n,m1,m,((k+1:Nat):Int),u,L,os.length+1,v,(aex r).2,l,os++ [(aex r).1]),⟨h2.1.1,hm,k+1,rfl,aq,by rw[ak];rfl,by rw[ak];show os.length+1=_;omega⟩,by show(m - ((k+1:Nat):Int)).toNat < (m - (k:Int)).toNat;omega,?_,λkn kx=> ?_⟩
   ·simp only[nC,rO,e1,J2,hp,bO];cases J2 (m - ((k+1:Nat):Int)).toNat (aex r).2 with
    |none=>rfl
    |some x=>
     simp only[aF,aO,cE];rw[show ∀a c:Nat,a+1+c=a+(c+1) from λa c=>aq]
   ·rw[step,hp];rfl
 ·right;have e1:(m - (k:Int)).toNat=0:=aq;refine⟨CU ((n,m1,u,L,v,l),(os.length,r,os)),?_,λkn kx=> ?_⟩
  ·simp only[nC,rO,e1,J2,bp,cD,bK];rfl
  ·rw[Qe,aQ h,al]
theorem avn:(nQ.jx 3 xR):=by
 refine(nQ.mf 3 xR) (λ(n,m1,mo,io,m,i,u,L,L2,v,r,la,op,br,Ls,sc,lb,os,sg)=>(m - i).toNat) ?_
 rintro⟨n,m1,mo,io,m,i,u,L,L2,v,r,la,op,br,Ls,sc,lb,os,sg⟩ ⟨hr,hm,k,rfl,hk,rfl,ahU⟩;have hr:wI r:=hr;have hm:m<=12:=hm;have ahU:sg.length=k:=ahU;by_cases h:(k:Int) < m
 ·left;have e1:(m - (k:Int)).toNat=(m - ((k+1:Nat):Int)).toNat+1:=aq;have h1:=OK hr;have h2:=OK h1.1;refine⟨(n,m1,mo,io,m,((k+1:Nat):Int),u,L,L2,v,(aTL r).2,la,op,br,sg.length+1,sc,lb,os,sg++ [(aTL r).1]),⟨h2.1,hm,k+1,rfl,aq,by rw[ak];rfl,by rw[ak];show sg.length+1=_;omega⟩,by show(m - ((k+1:Nat):Int)).toNat < (m - (k:Int)).toNat;omega,?_,λkn kx=> ?_⟩
  ·simp only[CX,JR,e1,JE,aO,cE]
  ·rw[Qh,aS h,aX aq,Ng (d:=r) hr.1];simp only[aj,ag,bq,X2];rw[Ng (d:=(uh r).2) h1.1.1];simp only[ag,bq,X2];rw[aX (az _),cM aq aq,N.jL aq,bN];rfl
 ·right;intro R kn kx;have e1:(m - (k:Int)).toNat=0:=aq;rw[Qh,aQ h,al];simp only[CX,JR,e1,JE,bK,aV,az,gm,b8,aj,ea]
theorem avm:aaz:=by
 refine VY (λ(n,m1,m,i,u,L,L2,v,r,l,os)=>l.length - i.toNat) ?_
 rintro⟨n,m1,m,i,u,L,L2,v,r,l,os⟩ ⟨hr,hl,k,rfl,hk,rfl,rfl,hg⟩;have hr:wI r:=hr;have hl:l.length<=64:=hl;have hk:k<=l.length:=hk;by_cases h:k < l.length
 ·have n1:nth ug l k=l[k]:=bY (t:=ug) h;have hd:l.drop k=l[k]::l.drop (k+1):=au h;have dW:l[k]=aO6 l[k].1:=hg _ (by rw[hd];exact aU);obtain⟨op,aXy⟩:∃op,l[k].1=op:=⟨_,rfl⟩;rw[aXy]at dW;have h1:=uv hr;have h2:=aCr h1.1.1 12;have h3:=aCq h1.1.1.1 (m:=12) eX;have hw:=aCt hr;have hu:=OK hw.1;have Wb:(l.take k).length=k:=by rw[bV];omega
  have step:∀ {R:Type} (kn:AS->Option R) (kx:Exit->AS->Option R),R5 (n,m1,(l.length:Int),(k:Int),u,l.length,L2,v,r,l,os) kn kx=aJ (fv (Sc 12 (eh r).2).1 0) (kx (td (0,())).1 (td (0,())).2) (kn (rR (n,m1,(l.length:Int),((k+1:Nat):Int),u,l.length,L2,v,(uh (yS r).2).2,l.take k++(op,((eh r).1,av (yS r).1,(uh (yS r).2).1,()),())::l.drop (k+1),os))):=by
   intro R kn kx;rw[Qg,aS aq,ba aq aq,rI (d:=r) hr.1];have ns:∀y:F2,nth ug (l.set k y) k=y:=λy=>aRb (t:=ug) h
   have nm:∀(y:F2) (b:List F2),nth ug (l.take k++y::b) k=y:=λy b=>aRa (t:=ug) Wb
   simp only[aj,ag,bq,yM,aa,aV,cD,n1,dW,aX h,b8];rw[Ya (d:=(12,(eh r).2)) h1.1.1.1];simp only[aj,ag,bq,V3];refine bW (λz=>aJ _ _ z) ?_
   simp only[List.length_set,aX h,aj,aO6,ns,aHj,aDQ,Option.isNone_none];rw[apM (d:=(n,m1,(l.length:Int),(k:Int),(Sc 12 (eh r).2).1,0,u,l.length,L2,v,(Sc 12 (eh r).2).2,l.take k,op,(eh r).1,0,(0,()),l.drop (k+1),os,[])) ⟨h2,h3.2,0,rfl,eX,rfl,rfl⟩];simp only[ag,CX,JR,rV,aY];rw[show JE (Sc 12 (eh r).2).1.toNat (Sc 12 (eh r).2).2=yS r from rfl,Ng (d:=(yS r).2) hw.1.1];simp only[ag,bq,X2,aa,nm,aSm Wb,aX (show k < (l.take k++(op,((eh r).1,av (yS r).1,0,()),())::l.drop (k+1)).length by rw[ak,aF];omega),fB,Nat.reduceAdd,b8,aj];rw[N.jL aq]
  by_cases hp:(Sc 12 (eh r).2).1 < 0
  ·right;refine⟨td (0,()),?_,λkn kx=> ?_⟩
   ·simp only[nD,rQ,aa,hd,cj,Kt,aAi,if_pos hp];rfl
   ·rw[step,aS hp,aj]
  ·left;have awW:(l.take k++(op,((eh r).1,av (yS r).1,(uh (yS r).2).1,()),())::l.drop (k+1)).length=l.length:=by rw[ak,aF,du];omega
   have aYy:(l.take k++(op,((eh r).1,av (yS r).1,(uh (yS r).2).1,()),())::l.drop (k+1)).drop (k+1)=l.drop (k+1):=by rw[List.append_cons,mj (by rw[ak];show(l.take k).length+1=_;omega)]
   have aZY:(l.take k++(op,((eh r).1,av (yS r).1,(uh (yS r).2).1,()),())::l.drop (k+1)).take (k+1)=l.take k++ [(op,((eh r).1,av (yS r).1,(uh (yS r).2).1,()),())]:=by rw[List.append_cons,ml (by rw[ak];show(l.take k).length+1=_;omega)]
   refine⟨(n,m1,(l.length:Int),((k+1:Nat):Int),u,l.length,L2,v,(uh (yS r).2).2,l.take k++(op,((eh r).1,av (yS r).1,(uh (yS r).2).1,()),())::l.drop (k+1),os),⟨hu.1,by rw[awW];exact hl,k+1,rfl,by rw[awW];omega,by rw[awW],by rw[awW],by rw[aYy];exact λx hx=>hg x (by rw[hd];exact aP _ hx)⟩,by simp only[aa,awW];omega,?_,λkn kx=> ?_⟩
   ·simp only[nD,rQ,aa,aYy,aZY,hd,cj,Kt,aAi,if_neg hp,aXy];cases Kt ((l.drop (k+1)).map (·.1)) (uh (yS r).2).2 with
    |none=>rfl
    |some x=>
     simp only[cj,aO,cE];rfl
   ·rw[step,aQ hp,al]
 ·right;obtain rfl:k=l.length:=aq;refine⟨CW (n,m1,u,l.length,L2,v,r,l,os),?_,λkn kx=> ?_⟩
  ·simp only[nD,rQ,aa,aI,fK,Kt,bN,bK];rfl
  ·rw[Qg,aQ aq,al]
theorem aQY(l:List cz):(l.map aO6).map (·.1)=l:=by rw[wG];have:((λx:F2=>x.1)∘aO6)=id:=rfl;rw[this,List.map_id]
theorem aOt:nQ.Ok:=by
 rintro b ⟨hb,hl⟩;have hb:Bytes b:=hb;have hl:b.length<=1000000000:=hl;have k0:=aRU hb hl;have k1:=aCr k0 64;have u1:=aCq k0.1 (m:=64) eX;rw[aOs,alB (d:=b) hl];simp only[ag,bq,apc,bq,apG,ao8];rw[Ya (d:=(64,(b,aZ,()))) k0.1];simp only[ag,bq,V3];generalize Sc 64 (b,aZ,())=n at*;have o2:=aBA n.1.toNat k1;rw[apI (d:=(n.1,n.1,0,(0,()),0,(0,()),n.2,[])) ⟨k1,u1.2,0,rfl,eX,rfl,rfl⟩];simp only[ag,CS,JO,rV,aY,aV];generalize OQ n.1.toNat n.2=ops at*;have k3:=aCr o2.1.1 64;have u3:=aCq o2.1.1.1 (m:=64) eX;rw[Ya (d:=(64,ops.2)) o2.1.1.1];simp only[ag,bq,V3];generalize Sc 64 ops.2=m at*;rw[apJ (d:=(n.1,m.1,m.1,0,(0,()),n.1.toNat,0,(0,()),m.2,ops.1.map aO6,[])) ⟨k3,u3.2,0,rfl,eX,rfl,rfl⟩];simp only[ag,nC,rO,rV,aY,aV];cases hx:J2 m.1.toNat m.2 with
 |none=>rfl
 |some x=>
  have o4:=as1 _ k3 hx;have o5:=uv o4.1.1;have ol:(ops.1.map aO6).length=n.1.toNat:=by rw[da];exact o2.2.1
  simp only[db,cC,al,ag];rw[rI (d:=x.2) o4.1.1.1];simp only[ag,bq,yM];rw[apK (d:=(n.1,m.1,(n.1.toNat:Int),0,(0,()),n.1.toNat,x.1.length,((eh x.2).1,()),(eh x.2).2,ops.1.map aO6,x.1)) ⟨o5.1.1,by rw[ol];omega,0,rfl,aL _,by rw[ol],by rw[ol],λz hz=>by
   rw[ay]at hz;obtain⟨o,_,rfl⟩:=dy.1 hz;rfl⟩]
  simp only[ag,nD,rQ,aT,ay,dD,aY,aQY,aLe];cases hy:Kt ops.1 (eh x.2).2 with
  |none=>rfl
  |some y=>
   have o6:=avy _ o5.1.1 hy;have yl:y.1.length=n.1.toNat:=by rw[<-o2.2.1,<-o6.2.1,da]
   have yl2:(y.1.map aYM).length=n.1.toNat:=by rw[da];exact yl
   simp only[db,cC,al,ag,aJL];by_cases c1:n.1 < 0
   ·rw[aS c1,aj,if_pos (jg c1)];rfl
   rw[aQ c1,al];by_cases c2:m.1 < 0
   ·rw[aS c2,aj,if_pos (eI (jg c2))];rfl
   rw[aQ c2,al,aNE (d:=y.2) trivial];simp only[ag,auv,aNC,Bool.not_not];cases c3:y.2.2.1
   ·rw[al,aGK (d:=y.2) trivial];simp only[ag,alr,aCc];by_cases c4:0 < y.2.1.length
    ·rw[dw aq,aj,if_pos (eI (eI (eI (jg c4))))];rfl
    ·rw[cI aq,al,aX ⟨by trivial,aq⟩,aX ⟨by trivial,aq⟩,ea yl2,ea rfl,aUm,aVW];simp only[aj];rw[pV (d:=(y.1,x.1,(eh x.2).1,())) ⟨λo ho=>(o4.2.2 o ho).2.2,by show y.1.length<=_;omega,by show x.1.length<=_;have:=o4.2.1;omega⟩];simp only[ag,bq,rS];cases c5:hP (y.1,x.1,(eh x.2).1,())
     ·rw[if_pos (eI (eI (eI (eI (by trivial)))))];rfl
     ·rw[if_neg (by
       rintro(z | z | z | z | z)
       ·exact c1 z
       ·exact c2 z
       ·cases z
       ·exact c4 z
       ·cases z)]
      rfl
   ·rw[aj,if_pos (eI (eI (jg (by trivial))))];rfl
theorem aHt:nQ.RS:=rE [.d tB] nQ
def aOu:=nQ.eY aOt 4 ⟨.e7 avk,⟨.e7 avl,⟨.e7 avm,⟨.e7 avn,trivial⟩⟩⟩⟩
theorem aOa{t:dM}(h:qp t=bm):t.1.length<=66/\t.2.1.length<=66/\(∀x∈t.1,x.2.1.2.1.length<=14)/\∀o∈t.2.1,o.2.1.1.length<=6/\∀b∈o.2.1.1,b.1.length<=14:=by
 unfold qp at h;simp only[aw,bt,dr]at h;refine⟨h.1.1,h.1.2,λx hx=> ?_,λo ho=> ?_⟩
 ·have:=h.2.1 x hx;unfold zP at this;simpa using this
 ·have:=h.2.2 o ho;unfold uf at this;simp only[aw,bt,dr]at this;refine⟨this.1,λb hb=> ?_⟩;have:=this.2 b hb;unfold zO at this;simpa using this
theorem Iu{α:Type}{f:α->List Int}{l:List α}(h:∀x∈l,Bytes (f x)):Bytes (l.flatMap f):=λb hb=>by obtain⟨x,hx,hb⟩:=jm.1 hb;exact h x hx b hb
theorem LC{α:Type}{f:α->List Int}{n:Nat}:∀ {l:List α},(∀x∈l,(f x).length<=n)->(l.flatMap f).length<=n*l.length
 |[],_=>aL _
 |x::l,h=>by
  rw[dK,ak,aF,Nat.mul_add,jJ];have h1:=h x aU;have h2:=LC (l:=l) λy hy=>h y (aP _ hy)
  omega
theorem aHC{t:dM}(hv:th t):Bytes (aSD t)/\(aSD t).length<=1000000:=by
 cases gX:hP t
 ·unfold aSD;rw[gX];exact⟨λx hx=>(by cases hx),aL _⟩
 obtain⟨⟨a1,a2,a3,a4⟩,b1,b2⟩:=iq gX;have arY:∀x∈t.1,_:=λx hx=>DH (mS _ _ b1 x hx)
 rw[aOF gX];have n0:∀ {n:Nat},n<=1000->Ku (n:Int):=λh=>xe aq
 have e1:∀x∈t.1,Bytes (axI x.1)/\(axI x.1).length<=43:=λx hx=>by have hi:=arY x hx;have hr:=lR x.1.2.1;have hs:=(hv.2.1 x hx).1;exact⟨gN hs.2 (mz ⟨hi.1,aq⟩),by unfold axI;rw[ak,hs.1];omega⟩
 have e2:∀o∈t.2.1,Bytes (HD o)/\(HD o).length<=1022:=λo ho=>by have hi:=(kc _ _ b2 o ho).1;have hr:=lR o.1;have aBb:=lR (Rc o.2.1).length;have hl:=Ol o.2.1;exact⟨gN (mz ⟨hi.1,aq⟩) (gN (mz (n0 hl)) (aEC _)),by unfold HD;rw[ak,ak];omega⟩
 have e3:∀x∈t.1,Bytes (Hc x.2.1)/\(Hc x.2.1).length<=300:=λx hx=>by
  have hi:=arY x hx;have hr:=lR x.2.1.1;have aBb:=lR x.2.1.2.1.length;have hf:=LC (f:=aHS) (n:=16) (l:=x.2.1.2.1) λs _=>by unfold aHS;rw[ak,cv,cv];omega
  refine⟨gN (mz ⟨hi.2.2.1,aq⟩) (gN (mz (n0 aq)) (gN (Iu λs _=>gN (Hm _) (Hm _)) (Hm _))),?_⟩;unfold Hc;simp only[ak,cv];omega
 have f1:=LC (f:=λx:ji=>axI x.1) (n:=43) (l:=t.1) λx hx=>(e1 x hx).2
 have f2:=LC (f:=HD) (n:=1022) (l:=t.2.1) λx hx=>(e2 x hx).2
 have f3:=LC (f:=λx:ji=>Hc x.2.1) (n:=300) (l:=t.1) λx hx=>(e3 x hx).2
 have r1:=lR t.1.length;have r2:=lR t.2.1.length;have r3:=lR t.2.2.1;refine⟨gN (mz (n0 aq)) (gN (Iu λx hx=>(e1 x hx).1) (gN (mz (n0 aq)) (gN (Iu λx hx=>(e2 x hx).1) (gN (mz ⟨a4,hv.2.2⟩) (Iu λx hx=>(e3 x hx).1))))),?_⟩;unfold aYV;simp only[ak];omega
section
section
variable {β:Type} {kt:Ty}
theorem Tz(hc:kt.comp=bm)(o o':kt.den)(v:β):∀l:List (kt.den×β),cw kt o (fp kt o' v l)=if kt.beq o o'=bm then av v else cw kt o l
 |[]=>by rw[W6,fm,yq]
 |p::l=>by
  rw[DN];by_cases h:kt.beq o' p.1=bm
  ·rw[if_pos h,fm,fm];have e:=beq_eq kt _ _ hc h;by_cases h2:kt.beq o o'=bm
   ·rw[if_pos h2,if_pos h2]
   ·rw[if_neg h2,if_neg h2,if_neg (by rw[<-e];exact h2)]
  ·rw[if_neg h,fm,fm,Tz hc o o' v l];by_cases h3:kt.beq o p.1=bm
   ·rw[if_pos h3,if_pos h3,if_neg];intro h4;apply h;rw[<-beq_eq kt _ _ hc h4];exact h3
   ·rw[if_neg h3,if_neg h3]
theorem aA6(hc:kt.comp=bm)(o o':kt.den):∀ {l:List (kt.den×β)},(l.map (·.1)).Nodup->cw kt o (kH kt o' l)=if kt.beq o o'=bm then aH else cw kt o l
 |[],_=>by rw[aES,yq];split <;> rfl
 |p::l,hn=>by
  rw[cj,dx]at hn;rw[I4];by_cases h:kt.beq o' p.1=bm
  ·rw[if_pos h,fm];have e:=beq_eq kt _ _ hc h;by_cases h2:kt.beq o o'=bm
   ·rw[if_pos h2];have e2:=beq_eq kt _ _ hc h2;cases hg:cw kt o l with
    |none=>rfl
    |some v=>exact absurd (dy.2 ⟨_,(mq hc hn.2).1 hg,rfl⟩) (by rw[e2,e];exact hn.1)
   ·rw[if_neg h2,if_neg (by rw[<-e];exact h2)]
  ·rw[if_neg h,fm,fm,aA6 hc o o' hn.2];by_cases h3:kt.beq o p.1=bm
   ·rw[if_pos h3,if_pos h3,if_neg];intro h4;apply h;rw[<-beq_eq kt _ _ hc h4];exact h3
   ·rw[if_neg h3,if_neg h3]
theorem get_none(hc:kt.comp=bm){o:kt.den}{l:List (kt.den×β)}(hn:(l.map (·.1)).Nodup):cw kt o l=aH↔o ∉ l.map (·.1):=by
 constructor
 ·intro h hm;obtain⟨p,hp,e⟩:=dy.1 hm;have e:p.1=o:=e;have:=(mq hc hn (x:=o) (v:=p.2)).2 (by rw[<-e];exact hp);rw[h]at this;cases this
 ·intro h;cases hg:cw kt o l with
  |none=>rfl
  |some v=>exact absurd (dy.2 ⟨_,(mq hc hn).1 hg,rfl⟩) h
theorem Py{l:List (kt.den×β)}(hn:(l.map (·.1)).Nodup):l.Nodup:=by
 induction l with
 |nil=>exact jH
 |cons p l ih=>
  rw[cj,dx]at hn;exact dx.2 ⟨λh=>hn.1 (dy.2 ⟨p,h,rfl⟩),ih hn.2⟩
theorem as9(hc:kt.comp=bm){l l':List (kt.den×β)}(hn:(l.map (·.1)).Nodup)(hn':(l'.map (·.1)).Nodup)(h:∀o,cw kt o l=cw kt o l'):l.Perm l':=by rw[List.perm_ext_iff_of_nodup (Py hn) (Py hn')];rintro⟨o,v⟩;rw[<-mq hc hn,<-mq hc hn',h]
end
theorem F4(a b:cz):(Ty.beq bQ a b=bm)↔a=b:=⟨beq_eq bQ a b rfl,λh=>by rw[h];exact beq_refl bQ b rfl⟩
abbrev At:=List (cz×fj)
abbrev eH(a:At):List cz:=a.map (·.1)
theorem awU(o o':cz)(v:fj)(a:At):cw bQ o (fp bQ o' v a)=if o=o' then av v else cw bQ o a:=by
 rw[Tz iF];by_cases h:o=o'
 ·rw[if_pos ((F4 _ _).2 h),if_pos h]
 ·rw[if_neg (λe=>h ((F4 _ _).1 e)),if_neg h]
theorem awT(o o':cz){a:At}(hn:(eH a).Nodup):cw bQ o (kH bQ o' a)=if o=o' then aH else cw bQ o a:=by
 rw[aA6 iF _ _ hn];by_cases h:o=o'
 ·rw[if_pos ((F4 _ _).2 h),if_pos h]
 ·rw[if_neg (λe=>h ((F4 _ _).1 e)),if_neg h]
theorem Q3{o:cz}{v:fj}{a:At}(hn:(eH a).Nodup):(eH (fp bQ o v a)).Nodup:=Zi iF hn
theorem vh{o:cz}{a:At}(hn:(eH a).Nodup):(eH (kH bQ o a)).Nodup:=LM iF hn
theorem aTd{a a':At}(hn:(eH a).Nodup)(hn':(eH a').Nodup)(h:∀o,cw bQ o a=cw bQ o a'):a.Perm a':=as9 iF hn hn' h
theorem aL6{a a':At}(hn:(eH a).Nodup)(h:a'.Perm a)(o:cz):cw bQ o a'=cw bQ o a:=adX iF hn h
theorem az9{o:cz}{c:fj}{a:At}(hn:(eH a).Nodup)(hg:cw bQ o a=av c):a.Perm ((o,c)::kH bQ o a):=by
 refine aTd hn ?_ λx=> ?_
 ·show(o::eH (kH bQ o a)).Nodup;refine dx.2 ⟨?_,vh hn⟩;have:=(get_none iF (vh (o:=o) hn)).1 (by rw[awT o o hn,if_pos rfl]);exact this
 ·rw[fm,awT x o hn];by_cases h:x=o
  ·subst h;rw[if_pos ((F4 _ _).2 rfl),hg]
  ·rw[if_neg (λe=>h ((F4 _ _).1 e)),if_neg h]
theorem N6(o:cz)(l:List cz)(a:At):DA (o::l) a=DA l (kH bQ o a):=rfl
theorem DB:∀(l:List cz) {a:At},(eH a).Nodup->(eH (DA l a)).Nodup
 |[],_,h=>h
 |o::l,a,h=>by rw[N6];exact DB l (vh h)
theorem YR(x:cz):∀(l:List cz) {a:At},(eH a).Nodup->cw bQ x (DA l a)=if x∈l then aH else cw bQ x a
 |[],a,_=>by rw[if_neg (by simp)];rfl
 |o::l,a,h=>by
  rw[N6,YR x l (vh h),awT x o h];by_cases h1:x∈l
  ·rw[if_pos h1,if_pos (aP _ h1)]
  ·rw[if_neg h1];by_cases h2:x=o
   ·rw[if_pos h2,if_pos (by rw[h2];exact aU ..)]
   ·rw[if_neg h2,if_neg (by simp[h1,h2])]
theorem yj(h:Int)(o:cz)(l:List cz)(x:jV)(xs:List jV)(a:At):OL h (o::l) (x::xs) a=OL h l xs (fp bQ o (x,(h,())) a):=rfl
theorem ab2(h:Int):∀(l:List cz) (xs:List jV) {a:At},(eH a).Nodup->(eH (OL h l xs a)).Nodup
 |[],[],_,hn=>hn
 |[],_::_,_,hn=>hn
 |_::_,[],_,hn=>hn
 |o::l,x::xs,a,hn=>by rw[yj];exact ab2 h l xs (Q3 hn)
theorem aA5(h:Int)(x:cz):∀(l:List cz) (xs:List jV) (a:At),x ∉ l->cw bQ x (OL h l xs a)=cw bQ x a
 |[],[],_,_=>rfl
 |[],_::_,_,_=>rfl
 |_::_,[],_,_=>rfl
 |o::l,y::xs,a,hx=>by rw[yj,aA5 h x l xs _ (λe=>hx (aP _ e)),awU,if_neg (λe=>hx (by rw[e];exact aU ..))]
theorem arR(h:Int):∀(l:List cz) (xs:List jV) (a:At),l.Nodup->∀(k:Nat) (hk:k < l.length) (avC:k < xs.length),cw bQ l[k] (OL h l xs a)=av (xs[k],(h,()))
 |[],_,_,_,k,hk,_=>by simp at hk
 |_::_,[],_,_,k,_,hk=>by simp at hk
 |o::l,y::xs,a,hn,k,hk,avC=>by
  rw[dx]at hn;rw[yj];cases k with
  |zero=>
   show cw bQ o _=av (y,(h,()));rw[aA5 h o l xs _ hn.1,awU,if_pos rfl]
  |succ k=>
   simp only[List.getElem_cons_succ];exact arR h l xs _ hn.2 k (by simpa using hk) (by simpa using avC)
def Bg(a:At)(l:List cz):Int:=(l.map λo=>((cw bQ o a).getD aOT).1.1).sum
theorem arB:∀(l:List cz) {a:At},(eH a).Nodup->l.Nodup->(∀o∈l,(cw bQ o a).isSome=bm)->gM (DA l a)=gM a - Bg a l/\(DA l a).length+l.length=a.length
 |[],a,_,_,_=>by simp[DA,Bg]
 |o::l,a,hn,hl,ht=>by
  rw[dx]at hl;obtain⟨c,hc⟩:=bZ.1 (ht o (aU ..));have hg:∀x∈l,cw bQ x (kH bQ o a)=cw bQ x a:=λx hx=>by rw[awT x o hn,if_neg (λe=>hl.1 (by rw[<-e];exact hx))]
  obtain⟨h1,h2⟩:=arB l (vh (o:=o) hn) hl.2 λx hx=>by rw[hg x hx];exact ht x (aP _ hx)
  have hp:=az9 hn hc;have h3:=vI hp;have h4:=hp.length_eq;have h5:Bg (kH bQ o a) l=Bg a l:=by unfold Bg;congr 1;exact iS λx hx=>by rw[hg x hx]
  rw[mm]at h3;rw[aF]at h4;rw[N6,h1,h5,aF];have h6:Bg a (o::l)=c.1.1+Bg a l:=by simp[Bg,hc]
  rw[h6];exact⟨by have h3:gM a=c.1.1+gM (kH bQ o a):=h3;omega,aq⟩
theorem rz(x:jV)(xs:List jV):gH (x::xs)=x.1+gH xs:=by simp[gH]
theorem aqd(h:Int):∀(l:List cz) (xs:List jV) {a:At},(eH a).Nodup->l.Nodup->l.length=xs.length->(∀o∈l,cw bQ o a=aH)->gM (OL h l xs a)=gM a+gH xs/\(OL h l xs a).length=a.length+l.length
 |[],[],a,_,_,_,_=>by simp[OL,gH]
 |[],_::_,_,_,_,he,_=>by simp at he
 |_::_,[],_,_,_,he,_=>by simp at he
 |o::l,x::xs,a,hn,hl,he,ht=>by
  rw[dx]at hl;have h0:=(get_none iF hn).1 (ht o (aU ..));have e:fp bQ o (x,(h,())) a=a++ [(o,(x,(h,())))]:=Al iF h0;obtain⟨h1,h2⟩:=aqd h l xs (Q3 (o:=o) (v:=(x,(h,()))) hn) hl.2 (by simpa using he) λy hy=>by rw[awU,if_neg (λe=>hl.1 (by rw[<-e];exact hy))];exact ht y (aP _ hy)
  rw[yj,h1,h2,e,aqh,rz,ak];simp only[gM,cj,fK,List.sum_cons,List.sum_nil,aF,bp];omega
theorem ady:∀(l:List ji) (m:List (cz×Bool)),Hw m l=bm->(l.map (·.1)).Nodup/\∀x∈l,cw bQ x.1 m≠av bm
 |[],_,_=>⟨jH,λ_ h=>by cases h⟩
 |x::l,m,h=>by
  rw[Hw,aw,aw]at h;obtain⟨⟨h1,_⟩,h2⟩:=h;obtain⟨h3,h4⟩:=ady l _ h2;have hs:∀y∈l,cw bQ y.1 (fp bQ x.1 bm m)≠av bm:=h4;have jk:∀y∈l,y.1≠x.1:=λy hy e=>hs y hy (by rw[Tz iF,if_pos ((F4 _ _).2 e)])
  refine⟨?_,λy hy=> ?_⟩
  ·rw[cj,dx];refine⟨λhm=> ?_,h3⟩;obtain⟨y,hy,e⟩:=dy.1 hm;exact jk y hy e
  ·rcases cq.1 hy with rfl | hy
   ·intro e;unfold TC at h1;rw[e]at h1;cases h1
   ·have:=hs y hy;rw[Tz iF,if_neg (λe=>jk y hy ((F4 _ _).1 e))]at this;exact this
theorem JG(t:dM):(dP t).Nodup:=by
 unfold dP;split
 ·rename_i h;exact(ady _ _ (iq h).2.1).1
 ·exact jH
theorem Rj(t:dM):(fY t).Nodup:=by
 unfold fY;split
 ·unfold xc;refine List.Pairwise.map _ (λa b jk e=> ?_) (List.nodup_range' (s:=0) (n:=t.2.1.length) (step:=1));have:(a:Int)=b:=bW (λo:cz=>o.2.1) e;exact jk aq
 ·exact jH
theorem adw{h:Int}{id:List Int}{a:At}:∀(l:List ji) (f0 f:Int),rh h id a l f0= .inr f->(∀o∈l.map (·.1),(cw bQ o a).isSome=bm)/\f=f0+Bg a (l.map (·.1))
 |[],f0,f,e=>by simp only[rh,Sum.inr.injEq]at e;subst e;simp[Bg]
 |x::l,f0,f,e=>by
  simp only[rh]at e;cases hg:cw bQ x.1 a with
  |none=>rw[hg]at e;cases e
  |some c=>
   rw[hg]at e;simp only at e;split at e
   ·cases e
   ·obtain⟨h1,h2⟩:=adw l _ _ e;refine⟨λo ho=> ?_,?_⟩
    ·rw[cj]at ho;rcases cq.1 ho with rfl | ho
     ·rw[hg];rfl
     ·exact h1 o ho
    ·rw[h2];simp only[Bg,cj,List.sum_cons,hg,ed];omega
structure qI(t:dM)(h:Int)(a:At)(gB:Int):Prop where
 ok:hP t=bm
 h1:1<=h
 h2:h<=1048576
 ins:∃f,rh h (wz t) a t.1 0= .inr f/\gB=f - gH t.2.1
 there:∀o∈dP t,(cw bQ o a).isSome=bm
 made:∀o∈fY t,cw bQ o a=aH
 aWU:gB=Bg a (dP t) - gH t.2.1
 pos:0<=gB
theorem y3{t:dM}{h:Int}{a:At}(e:(cK t h a).2=0):qI t h a (cK t h a).1:=by
 obtain⟨gX,h1,h2,f,hi,hm,hp,hc⟩:=NW e;obtain⟨i1,i2⟩:=adw _ _ _ hi;have hs:dP t=t.1.map (·.1):=by unfold dP;rw[if_pos gX]
 rw[hc];refine⟨gX,h1,h2,⟨f,hi,rfl⟩,by rw[hs];exact i1,λo ho=> ?_,by rw[hs,i2];show 0+_ - _=_;omega,hp⟩;have:=jY.1 hm o ho;unfold l5 at this;cases hg:cw bQ o a with
 |none=>rfl
 |some c=>rw[hg]at this;simp at this
section
variable {t:dM} {h gB:Int} {a:At}
theorem qI.aTM(hc:qI t h a gB)(ha:(eH a).Nodup){o:cz}(ho:o∈dP t):cw bQ o (cG t h a)=aH:=by
 have hm:o ∉ fY t:=λe=>by have:=hc.there o ho;rw[hc.made o e]at this;cases this
 unfold cG;rw[aA5 h o _ _ _ hm,YR o _ ha,if_pos ho]
theorem qI.new(hc:qI t h a gB){k:Nat}(hk:k < (fY t).length)(avC:k < t.2.1.length):cw bQ (fY t)[k] (cG t h a)=av (t.2.1[k],(h,())):=by unfold cG;exact arR h _ _ _ (Rj t) k hk avC
theorem Bp(ha:(eH a).Nodup){o:cz}(h1:o ∉ dP t)(h2:o ∉ fY t):cw bQ o (cG t h a)=cw bQ o a:=by unfold cG;rw[aA5 h o _ _ _ h2,YR o _ ha,if_neg h1]
theorem gZ(ha:(eH a).Nodup):(eH (cG t h a)).Nodup:=ab2 h _ _ (DB _ ha)
theorem qI.sum(hc:qI t h a gB)(ha:(eH a).Nodup):gM (cG t h a)=gM a - gB/\(cG t h a).length+t.1.length=a.length+t.2.1.length:=by
 obtain⟨d1,d2⟩:=arB (dP t) ha (JG t) hc.there;obtain⟨e1,e2⟩:=aqd h (fY t) t.2.1 (DB (dP t) ha) (Rj t) (vY hc.ok) λo ho=>by
  rw[YR o _ ha];split
  ·rfl
  ·exact hc.made o ho
 have hf:=hc.aWU;have hl:=adx hc.ok;have hm:=vY hc.ok;unfold cG;rw[e1,e2,d1];exact⟨aq,aq⟩
theorem qI.nT(hc:qI t h a gB)(ha:Wf a)(hv:th t):Wf (cG t h a):=by
 refine⟨gZ ha.1,λp hp=> ?_⟩;have hg:=(mq iF (gZ (t:=t) (h:=h) ha.1) (x:=p.1) (v:=p.2)).2 hp;by_cases h2:p.1∈fY t
 ·obtain⟨k,hk,e⟩:=List.getElem_of_mem h2;have avC:k < t.2.1.length:=by rw[<-vY hc.ok];exact hk
  rw[<-e,hc.new hk avC]at hg;have hg:=(bf hg).symm;have ho:=kc _ _ (iq hc.ok).2.2 _ (aK avC);have hu:=hv.1.1 _ (aK avC);have h1:=hc.h1;have h3:=hc.h2;refine⟨?_,?_⟩
  ·rw[<-e];have hm:fY t=xc (wz t) 0 t.2.1.length:=by unfold fY;rw[if_pos hc.ok]
   simp only[hm,xc,List.getElem_map];have:=(xT (t:=t));exact⟨this.1,λx hx=>this.2 x hx⟩
  ·rw[hg];exact⟨ho.2,hu.1,ho.1.1,ho.1.2,by show 0<=h;omega,h3⟩
 ·by_cases h1:p.1∈dP t
  ·rw[hc.aTM ha.1 h1]at hg;cases hg
  ·rw[Bp ha.1 h1 h2]at hg;exact ha.2 p ((mq iF ha.1).1 hg)
end
end
abbrev Z5:=Bs×Nat×Int×(List Int)
def aiP:Z5->Prop:=λ(h,m,i,l)=>h.length=32/\m=l.length/\∃k:Nat,k<=32/\i=k/\l.length<=100000000+k
def Fq:Z5->(Nat×(List Int)):=λ(h,m,i,l)=>((l++h.drop i.toNat).length,l++h.drop i.toNat)
def ayY:(Bs×Bs)->Prop:=λ(b,h)=>b.length<=90000000/\h.length=32
def H5:(Bs×Bs)->Bs:=λ(b,h)=>b++h
def sS:Ls aiP bq Fq:=pD (λ(Hd,outL,i,n7)=>⟨([bE,bE,bE,.dz tH Hd,bE,jl 7 outL,.d ti i]++aW 14 []),[],(bw 7 ([dm (.vec 5 tb n7)]++bw 13 []))⟩) (λx=>(.exit 0,⟨(aW 5 ([jl 7 x.1]++aW 15 [])),[],(bw 7 ([dm (.vec 5 tb x.2)]++bw 13 []))⟩))
def yz:Fs Tryz.prog ayY bq H5:=eV 136 Tryz.f136 (λ(b,h)=>([.d tB b,.d tH h],[])) (λx=>⟨.d tB x,[],[]⟩) [av tB,av tH] [] {cg:=[7],loops:=lz [(3,{bg:=[3,5,6],sites:=[7],owns:=[⟨5,[],7,114⟩]})],outs:=lu [(3,{bg:=[5],sites:=[7]},{bg:=[4]})],fa:=mc [(3,sS.E)],res:=[av tB]}
theorem aiQ:sS.RS:=rL [.d tH,.n,.d ti,.d tB] sS
theorem MQ(Hd outL i n7)(kn:K2 R)(kx:K3 R):yz.R 0 sS (Hd,outL,i,n7) kn kx=aJ (fv i 32) (aJ (eA i 32) (aJ (decide (outL<=(ae n7))) (aJ (cZ (outL+1) 1) (kn (sS.st (Hd,(outL+1),(bz .i64 i 1),((aM outL n7)++ [(nth tb Hd (ab i))])))) aH) aH) aH) (sS.go kx (outL,n7)):=cd
theorem aGk(b h)(k:K1 R):yz.A (b,h) k=aJ (cZ (0+(ae b)) 1) (ao (sS.call (h,(0+(ae b)),0,((aM 0 (ai 0 0))++b))) λx1=>aJ (decide (0=0/\(0+x1.1)<=(ae x1.2))) (k (yz.out (cut x1.2 0 x1.1))) aH) aH:=cd
theorem ao0:(yz.jx 0 sS):=by
 refine(yz.mf 0 sS) (λ(_,_,i,_)=>(32 - i).toNat) ?_
 rintro⟨h,m,i,l⟩ ⟨aUE,rfl,k,hk,rfl,hl⟩;have aUE:h.length=32:=aUE;have hl:l.length<=100000000+k:=hl;by_cases fF:k < 32
 ·left;have n1:nth tb h k=h[k]:=bY (t:=tb) aq;have el:(l++ [h[k]]).length=l.length+1:=by rw[ak];rfl
  refine⟨(h,l.length+1,((k+1:Nat):Int),l++ [h[k]]),⟨aUE,el.symm,k+1,aq,rfl,by show(l++ [h[k]]).length<=_;omega⟩,by show(32 - ((k+1:Nat):Int)).toNat < (32 - (k:Int)).toNat;omega,?_,λkn kx=> ?_⟩
  ·simp only[bq,Fq,aa];rw[au (show k < h.length by omega),aO,cE]
  ·rw[MQ,aS aq,aj,ba aq aq,aj,aX (az _),aj,cM aq aq,aj,N.jL aq,aa,n1,bN]
 ·right;obtain rfl:k=32:=aq;intro T kn kx;rw[MQ,aQ aq,al];simp only[bq,Fq,aa];rw[dO aq,bK]
theorem aGl:yz.Ok:=by rintro⟨b,h⟩ ⟨hb,aUE⟩;have hb:b.length<=90000000:=hb;have aUE:h.length=32:=aUE;rw[aGk];simp only[aV,dD,aY];rw[cM aq aq,aj,aiQ (d:=(h,b.length,0,b)) ⟨aUE,rfl,0,aq,rfl,aq⟩];simp only[ag,bq,Fq,aT,ay,az,gm,b8,aj,ea,bq,H5]
theorem Jq:yz.RS:=rE [.d tB,.d tB] yz
def ak6:=yz.eY aGl 1 ⟨.e7 ao0,trivial⟩
def ayZ:(Bs×Int)->Prop:=λ(b,n)=>b.length<=90000000/\n<=9223372036854775807
def afS:(Bs×Int)->(Nat×(List Int)):=λ(b,n)=>((cQ b n).length,cQ b n)
def MR:Fs Tryz.prog ayZ bq afS:=eV 137 Tryz.f137 (λ(b,n)=>([.d tB b,.d ti n],[])) (λx=>⟨.bU (.new 0 0) 0 [] 0 0 x.1,[],[.obj 0 aZ (.vec 5 tb x.2)]⟩) [av tB,av ti] [auc] {cg:=[6],owns:=[⟨4,[],6,114⟩]}
theorem aGm(b n)(k:K1 R):MR.A (b,n) k=aJ (cZ (0+(ae b)) 1) (aJ (AM n 0) (ao (RT n) λx1=>aJ (decide ((0+(ae b))<=(ae ((aM 0 (ai 0 0))++b)))) (aJ (cZ ((0+(ae b))+(ae x1)) 1) (k (MR.out (((0+(ae b))+(ae x1)),((aM (0+(ae b)) ((aM 0 (ai 0 0))++b))++x1)))) aH) aH) (k (MR.out ((0+(ae b)),((aM 0 (ai 0 0))++b))))) aH:=cd
theorem aGn:MR.Ok:=by
 rintro⟨b,n⟩ ⟨hb,hn⟩;have hb:b.length<=90000000:=hb;have hn:n<=9223372036854775807:=hn;rw[aGm];simp only[aV,dD,aY,bq,afS,cQ,az,b8,aj,bN];rw[cM aq aq,aj];by_cases h:n>=0
 ·have hl:=lR n;rw[fG h,aj,if_neg aq,ak8 (d:=n) ⟨h,hn,by have e:(128:Int)^(8+1)=9223372036854775808:=rfl;rw[e];show n < _;omega⟩];simp only[ag,wj,Fu];rw[cM aq aq,ak];rfl
 ·rw[eg h,if_pos aq];rfl
theorem ay0:MR.RS:=rE [.d tB,.d ti] MR
def aGo:=MR.eY aGn
def ayW:(Bs×Bs)->Prop:=λ(b,c)=>b.length+c.length<=80000000
def afR:(Bs×Bs)->Bs:=λ(b,c)=>b++(gO c.length++c)
def RR:Fs Tryz.prog ayW bq afR:=eV 223 Tryz.f223 (λ(b,c)=>([.d tB b,.d tB c],[])) (λx=>⟨.d tB x,[],[]⟩) [av tB,av tB] [aGo] {res:=[av tB]}
theorem aGh(b c)(k:K1 R):RR.A (b,c) k=ao (MR.call (b,(c.length:Int))) λx1=>aJ (decide (x1.1<=(ae x1.2))) (aJ (cZ (x1.1+(ae c)) 1) (aJ (decide (0=0/\(0+(x1.1+(ae c)))<=(ae ((aM x1.1 x1.2)++c)))) (k (RR.out (cut ((aM x1.1 x1.2)++c) 0 (x1.1+(ae c))))) aH) aH) aH:=cd
theorem aGi:RR.Ok:=by
 rintro⟨b,c⟩ h;have h:b.length+c.length<=80000000:=h;have hl:=dT b c.length;have e:cQ b c.length=b++gO c.length:=by unfold cQ;rw[if_neg aq]
 have el:(b++gO c.length++c).length=(b++gO c.length).length+c.length:=ak;rw[aGh,ay0 (d:=(b,(c.length:Int))) ⟨by show b.length<=_;omega,by show(c.length:Int)<=_;omega⟩];simp only[ag,bq,afS,az,b8,aj,bN,aV,lT];rw[e]at hl ⊢;rw[cM aq aq,aj,aX aq,aj,ea el];simp only[bq,afR,aO]
theorem ayX:RR.RS:=rE [.d tB,.d tB] RR
def aGj:=RR.eY aGi
def aFS:V9->Prop:=λ_=>True
def aoC:V9->Bool:=λw=>Bn w
def UF:Fs Tryz.prog aFS bq aoC:=eV 198 Tryz.f198 (λwv=>([.d ap9 wv],[])) (λx=>⟨.d .bool x,[],[]⟩) [av ap9]
theorem aMJ(wv)(k:K1 R):UF.A wv k=aJ (AM wv.1 0) (aJ (ahY wv.1 3) (k (UF.out (ahY (wv.2.1.length:Int) 12))) (k (UF.out aZ))) (k (UF.out aZ)):=cd
theorem aMK:UF.Ok:=by
 rintro⟨b,ss,sc,u⟩ _;rw[aMJ];simp only[bq,aoC,Bn];by_cases h:0<=b
 ·rw[fG h,aj];by_cases h2:b < 4
  ·rw[om aq,aj,aX ⟨h,h2⟩,bM];by_cases h3:ss.length<=12
   ·rw[om aq,aX h3]
   ·rw[j4 aq,bo h3]
  ·rw[j4 aq,al,bo (λx=>h2 x.2),dA]
 ·rw[eg h,al,bo (λx=>h x.1),dA]
theorem aFT:UF.RS:=rE [.d ap9] UF
def aML:=UF.eY aMK
def adi(pre:List ji)(o:cz):Bool:=pre.any λy=>Ty.beq bQ y.1 o
def asf:List ji->List ji->Bool
 |_,[]=>bm
 |pre,x::l=>(Kz x && !(adi pre x.1)) && asf (pre++ [x]) l
theorem aKH:∀(l:List ji) (m:List (cz×Bool)) (pre:List ji),(∀o,(cw bQ o m).getD aZ=adi pre o)->Hw m l=asf pre l
 |[],_,_,_=>rfl
 |x::l,m,pre,h=>by
  have e:TC m x=adi pre x.1:=h x.1;rw[Hw,asf,e,aKH l (fp bQ x.1 bm m) (pre++ [x]) λo=> ?_,Bool.and_comm (Kz x)];rw[Tz iF];unfold adi;rw[List.any_append];simp only[eM,iL,qb];by_cases h1:o=x.1
  ·rw[if_pos ((F4 _ _).2 h1),(F4 x.1 o).2 h1.symm,Bool.or_true];rfl
  ·rw[if_neg (λe=>h1 ((F4 _ _).1 e)),h o];have:Ty.beq bQ x.1 o=aZ:=by
    cases hb:Ty.beq bQ x.1 o with
    |false=>rfl
    |true=>exact absurd ((F4 _ _).1 hb).symm h1
   rw[this,qb];rfl
def DU(o:jV):Bool:=ym o.1 && lI o.2.1
theorem as0:∀(l:List jV) (s:Int),0<=s->s<=1125899906842624->AY s l=(l.all DU && decide (s+gH l<=1125899906842624))
 |[],s,h0,h1=>by rw[aX (show s+gH []<=1125899906842624 by show s+0<=_;omega)];rfl
 |o::l,s,h0,h1=>by
  have hc:ym s=bm:=aX ⟨h0,h1⟩;rw[AY,gg,rz];unfold tj;rw[hc,bM,show DU o=(ym o.1 && lI o.2.1) from rfl];cases c1:ym o.1 with
  |false=>rfl
  |true=>
   have c2:0<=o.1/\o.1<=1125899906842624:=of_decide_eq_true c1;rw[bM,bM];by_cases hs:s+o.1<=1125899906842624
   ·rw[aX hs,bM,as0 l (s+o.1) aq hs,tF,Bool.and_assoc]
   ·rw[bo hs,dA,dA];cases hl:l.all DU with
    |false=>cases lI o.2.1 <;> rfl
    |true=>
     have key:∀l:List jV,l.all DU=bm->0<=gH l:=by
      intro l
      induction l with
      |nil=>intro _;exact eF 0
      |cons x l ih=>
       intro h;rw[gg,aw]at h;have h1:=h.1;unfold DU at h1;rw[aw]at h1;have h2:0<=x.1/\x.1<=1125899906842624:=of_decide_eq_true h1.1;have:=ih h.2;rw[rz];omega
     have:=key l hl;rw[bo (show ¬s+(o.1+gH l)<=1125899906842624 by omega)];cases lI o.2.1 <;> rfl
abbrev tW:=dM×Int
def lK:tW->AS:=λ(fP,i)=>⟨([bE,.dz dU fP,bE,.d ti i]++aW 100 []),[],(ai 104 [])⟩
def fM:Unit->Exit×AS:=λx=>(.ret,⟨([bE,bE,.d .bool aZ]++aW 101 []),[],(ai 104 [])⟩)
def uG:dM->Exit×AS:=λx=>(.exit 0,⟨([bE,.dz dU x]++aW 102 []),[],(ai 104 [])⟩)
abbrev GF:=(Unit)⊕(dM)
abbrev PQ:=(Unit)⊕(dM)
def A5:GF->Out (Exit×AS):=λx=> .br x.isLeft (.get x.getLeft? λa=> .ok (fM a)) (.get x.getRight? λb=> .ok (uG b))
def iY:tW->PQ->GF:=λ(fP,i) y=>match y with | .inl y=> .inl y | .inr z=> .inr (z)
abbrev tX:=dM×Int×Int×ji
def lM:tX->AS:=λ(lS,fk,kv,n4)=>⟨([bE,.dz dU lS,bE,.d ti fk,eP 4,.d ti kv]++aW 98 []),[],(bw 4 ([dm (.d fo n4)]++bw 99 []))⟩
def mu:Unit->Exit×AS:=λx=>(.ret,⟨([bE,bE,.d .bool aZ]++aW 101 []),[],(ai 104 [])⟩)
def uI:(dM×Int)->Exit×AS:=λx=>(.exit 2,⟨([bE,.dz dU x.1,bE,.d ti x.2]++aW 100 []),[],(ai 104 [])⟩)
abbrev GH:=(Unit)⊕((dM×Int))
abbrev PS:=(Unit)⊕(Unit)
def A6:GH->Out (Exit×AS):=λx=> .br x.isLeft (.get x.getLeft? λa=> .ok (mu a)) (.get x.getRight? λb=> .ok (uI b))
def iZ:tX->PS->GH:=λ(lS,fk,kv,n4) y=>match y with | .inl y=> .inl y | .inr z=> .inr ((lS,fk))
abbrev tY:=dM×Int×Int
def lN:tY->AS:=λ(G7,sum,Gg)=>⟨([bE,.dz dU G7]++aW 4 ([.d ti sum,.d ti Gg]++aW 96 [])),[],(ai 104 [])⟩
def gJ:Unit->Exit×AS:=λx=>(.ret,⟨([bE,bE,.d .bool aZ]++aW 101 []),[],(ai 104 [])⟩)
def uK:Int->Exit×AS:=λx=>(.exit 4,⟨(aW 6 ([.d ti x]++aW 97 [])),[],(ai 104 [])⟩)
abbrev GJ:=(Unit)⊕(Int)
abbrev PU:=(Unit)⊕(Int)
def A7:GJ->Out (Exit×AS):=λx=> .br x.isLeft (.get x.getLeft? λa=> .ok (gJ a)) (.get x.getRight? λb=> .ok (uK b))
def ja:tY->PU->GJ:=λ(G7,sum,Gg) y=>match y with | .inl y=> .inl y | .inr z=> .inr (z)
def uH:tX->Prop:=λ(t,i,j,x)=>∃(n k:Nat),n<=t.1.length/\k<=n/\n<=1000/\i=n/\j=k
def kN:tX->PS:=λ(t,i,j,x)=>if adi ((t.1.take i.toNat).drop j.toNat) x.1 then .inl () else .inr ()
def uF:tW->Prop:=λ(t,i)=>t.1.length<=64/\∃k:Nat,k<=t.1.length/\i=k
def kM:tW->PQ:=λ(t,i)=>if asf (t.1.take i.toNat) (t.1.drop i.toNat) then .inr t else .inl ()
def uJ:tY->Prop:=λ(t,s,i)=>t.2.1.length<=64/\(∀o∈t.2.1,abu o.2.1)/\∃k:Nat,k<=t.2.1.length/\i=k/\0<=s/\s<=(k:Int)*1125899906842624
def kO:tY->PU:=λ(t,s,i)=>if(t.2.1.drop i.toNat).all DU then .inr (s+gH (t.2.1.drop i.toNat)) else .inl ()
def aoI:dM->Prop:=λt=>aTX t
def Ed:dM->Bool:=λt=>hP t
def PO:=dB.e7 lK uF iY kM A5
def HQ:tW->Option GF:=fS PO lK
def PR:=dB.e7 lM uH iZ kN A6
def HS:tX->Option GH:=fS PR lM
def PT:=dB.e7 lN uJ ja kO A7
def HU:tY->Option GJ:=fS PT lN
def fN:Fs Tryz.prog aoI bq Ed:=eV 138 Tryz.f138 (λt=>([.d dU t],[])) (λx=>⟨.d .bool x,[],[]⟩) [av dU] [aML,Fg] {loops:=lz [(4,{bg:=[1,3]}),(10,{bg:=[1,3,4,5],sites:=[4]}),(16,{bg:=[1,6,7]})],outs:=lu [(4,{bg:=[1]},{bg:=[2]}),(10,{bg:=[1,3]},{bg:=[2]}),(16,{bg:=[6]},{bg:=[2]})],fa:=mc [(4,PO),(10,PR),(16,PT)]}
def GD:= @ej Tryz.prog (jr fN.G) fN.an 0 Tryz.f138 0 _ lK
abbrev Mn:=jj Tryz.prog (jr fN.G) fN.an 0 Tryz.f138 0 lK uF iY kM A5
def GG:= @ej Tryz.prog (jr fN.G) fN.an 0 Tryz.f138 1 _ lM
abbrev Mp:=jj Tryz.prog (jr fN.G) fN.an 0 Tryz.f138 1 lM uH iZ kN A6
def GI:= @ej Tryz.prog (jr fN.G) fN.an 0 Tryz.f138 2 _ lN
abbrev Mr:=jj Tryz.prog (jr fN.G) fN.an 0 Tryz.f138 2 lN uJ ja kO A7
theorem aa9:ik HQ uF iY kM:=jX (jA [.d dU,.d ti] λ_=>cd)
theorem Mo:ma @GD lK uF iY kM A5 Mn:=mJ
theorem HR(fP i)(kn:K2 R)(kx:K3 R):GD (fP,i) kn kx=aJ (fv i (((ae fP.1):Nat):Int)) (aJ (eA i (((ae fP.1):Nat):Int)) (aJ (fv (nth fo fP.1 (ab i)).1.2.1 (0:Int)) (kx (fM ()).1 (fM ()).2) (aJ (xW (nth fo fP.1 (ab i)).1.2.1 (63:Int)) (kx (fM ()).1 (fM ()).2) (ao (UF.call (nth fo fP.1 (ab i)).2.1) λx1=>aJ (!x1) (kx (fM ()).1 (fM ()).2) (ao (HS (fP,i,(0:Int),(nth fo fP.1 (ab i)))) λx2=>aJ x2.isLeft (ao x2.getLeft? λa3=>kx (fM ()).1 (fM ()).2) (ao x2.getRight? λb4=>kn (lK (b4.1,(bz .i64 b4.2 (1:Int))))))))) aH) (kx (uG fP).1 (uG fP).2):=cd
theorem aba:ik HS uH iZ kN:=jX (jA [.d dU,.d ti,.d ti,.d fo] λ_=>cd)
theorem Mq:ma @GG lM uH iZ kN A6 Mp:=mJ
theorem HT(lS fk kv n4)(kn:K2 R)(kx:K3 R):GG (lS,fk,kv,n4) kn kx=aJ (fv kv fk) (aJ (eA kv (((ae lS.1):Nat):Int)) (aJ (Ty.beq bQ (nth fo lS.1 (ab kv)).1 n4.1) (kx (mu ()).1 (mu ()).2) (kn (lM (lS,fk,(bz .i64 kv (1:Int)),n4)))) aH) (kx (uI (lS,fk)).1 (uI (lS,fk)).2):=cd
theorem abb:ik HU uJ ja kO:=jX (jA [.d dU,.d ti,.d ti] λ_=>cd)
theorem Ms:ma @GI lN uJ ja kO A7 Mr:=mJ
theorem HV(G7 sum Gg)(kn:K2 R)(kx:K3 R):GI (G7,sum,Gg) kn kx=aJ (fv Gg (((ae G7.2.1):Nat):Int)) (aJ (eA Gg (((ae G7.2.1):Nat):Int)) (aJ (fv (nth fi G7.2.1 (ab Gg)).1 (0:Int)) (kx (gJ ()).1 (gJ ()).2) (aJ (xW (nth fi G7.2.1 (ab Gg)).1 (1125899906842624:Int)) (kx (gJ ()).1 (gJ ()).2) (ao (jS.call (nth fi G7.2.1 (ab Gg)).2.1) λx1=>aJ (!x1) (kx (gJ ()).1 (gJ ()).2) (kn (lN (G7,(bz .i64 sum (nth fi G7.2.1 (ab Gg)).1),(bz .i64 Gg (1:Int)))))))) aH) (kx (uK sum).1 (uK sum).2):=cd
theorem atI(t)(k:K1 R):fN.A t k=aJ (fv (t.1.length:Int) 1) (k (fN.out aZ)) (aJ (xW (t.1.length:Int) 64) (k (fN.out aZ)) (aJ (xW (t.2.1.length:Int) 64) (k (fN.out aZ)) (aJ (fv t.2.2.1 0) (k (fN.out aZ)) (ao (HQ (t,0)) λx5=>aJ x5.isLeft (ao x5.getLeft? λa6=>k (fN.out aZ)) (ao x5.getRight? λb7=>ao (HU (b7,0,0)) λx9=>aJ x9.isLeft (ao x9.getLeft? λa10=>k (fN.out aZ)) (ao x9.getRight? λb11=>k (fN.out (ahY b11 1125899906842624)))))))):=cd
theorem afs:Mp:=by
 refine Mq (λ(_,i,j,_)=>(i - j).toNat) ?_
 rintro⟨t,i,j,x⟩ ⟨n,k,hn,hk,hm,rfl,rfl⟩;by_cases fF:k < n
 ·have avC:k < (t.1.take n).length:=by rw[bV];omega
  have n1:nth fo t.1 k=t.1[k]:=bY (t:=fo) aq;have hd:(t.1.take n).drop k=t.1[k]::(t.1.take n).drop (k+1):=by rw[au avC,List.getElem_take]
  have hh:adi ((t.1.take n).drop k) x.1=(Ty.beq bQ t.1[k].1 x.1 || adi ((t.1.take n).drop (k+1)) x.1):=by rw[hd];rfl
  have step:∀ {R:Type} (kn:AS->Option R) (kx:Exit->AS->Option R),GG (t,(n:Int),(k:Int),x) kn kx=aJ (Ty.beq bQ t.1[k].1 x.1) (kx (mu ()).1 (mu ()).2) (kn (lM (t,(n:Int),((k+1:Nat):Int),x))):=by intro R kn kx;rw[HT,aS aq,aj,ba aq aq,aj,aa,n1,N.jL aq]
  cases hb:Ty.beq bQ t.1[k].1 x.1 with
  |true=>
   right;refine⟨mu (),?_,λkn kx=> ?_⟩
   ·simp only[iZ,kN,aa,hh,hb,Bool.true_or,bO];rfl
   ·rw[step,hb,aj]
  |false=>
   left;refine⟨(t,(n:Int),((k+1:Nat):Int),x),⟨n,k+1,hn,aq,hm,rfl,rfl⟩,by show((n:Int) - ((k+1:Nat):Int)).toNat < ((n:Int) - (k:Int)).toNat;omega,?_,λkn kx=> ?_⟩
   ·simp only[iZ,kN,aa,hh,hb,tC]
   ·rw[step,hb,al]
 ·right;obtain rfl:k=n:=aq;have e:(t.1.take k).drop k=[]:=dO (by rw[bV];omega);refine⟨uI (t,(k:Int)),?_,λkn kx=> ?_⟩
  ·simp only[iZ,kN,aa,e];rfl
  ·rw[HT,aQ aq,al]
theorem afr:Mn:=by
 refine Mo (λ(t,i)=>t.1.length - i.toNat) ?_
 rintro⟨t,i⟩ ⟨wZ,k,hk,rfl⟩;have wZ:t.1.length<=64:=wZ;have hk:k<=t.1.length:=hk;by_cases fF:k < t.1.length
 ·have n1:nth fo t.1 k=t.1[k]:=bY (t:=fo) fF;have hd:asf (t.1.take k) (t.1.drop k)=((Kz t.1[k] && !(adi (t.1.take k) t.1[k].1)) && asf (t.1.take (k+1)) (t.1.drop (k+1))):=by rw[au fF,asf,iN fF]
  have step:∀ {R:Type} (kn:AS->Option R) (kx:Exit->AS->Option R),GD (t,(k:Int)) kn kx=aJ (Kz t.1[k] && !(adi (t.1.take k) t.1[k].1)) (kn (lK (t,((k+1:Nat):Int)))) (kx (fM ()).1 (fM ()).2):=by
   intro R kn kx;rw[HR,aS aq,aj,ba aq aq,aj,aa,n1];unfold Kz;by_cases h1:t.1[k].1.2.1 < 0
   ·rw[aS h1,aj,bo aq];rfl
   rw[aQ h1,al];by_cases h2:t.1[k].1.2.1 > 63
   ·rw[dw h2,aj,bo aq];rfl
   rw[cI h2,al,aX aq,aFT (d:=t.1[k].2.1) trivial];simp only[ag,bq,aoC,bM];cases Bn t.1[k].2.1 with
   |false=>rfl
   |true=>
    rw[bT,al,bM,aba (d:=(t,(k:Int),0,t.1[k])) ⟨k,0,hk,aL _,aq,rfl,rfl⟩];simp only[ag,iZ,kN,aa,aT,ay];cases adi (t.1.take k) t.1[k].1 with
    |true=>rfl
    |false=>
     simp only[bG,bC,db,al,cC,ag,dX,aj];rw[N.jL aq]
  cases hp:Kz t.1[k] && !(adi (t.1.take k) t.1[k].1)
  ·right;refine⟨fM (),?_,λkn kx=> ?_⟩
   ·simp only[iY,kM,aa,hd,hp,dA,bG,bC];rfl
   ·rw[step,hp,al]
  ·left;refine⟨(t,((k+1:Nat):Int)),⟨wZ,k+1,aq,rfl⟩,by simp only[aa];omega,?_,λkn kx=> ?_⟩
   ·simp only[iY,kM,aa,hd,hp,bM]
   ·rw[step,hp,aj]
 ·right;obtain rfl:k=t.1.length:=aq;refine⟨uG t,?_,λkn kx=> ?_⟩
  ·simp only[iY,kM,aa,aI];rfl
  ·rw[HR,aQ aq,al]
theorem aft:Mr:=by
 refine Ms (λ(t,_,i)=>t.2.1.length - i.toNat) ?_
 rintro⟨t,s,i⟩ ⟨wZ,hu,k,hk,rfl,h0,h1⟩;have wZ:t.2.1.length<=64:=wZ;have hk:k<=t.2.1.length:=hk;have h0:0<=s:=h0;have h1:s<=(k:Int)*1125899906842624:=h1;by_cases fF:k < t.2.1.length
 ·have n1:nth fi t.2.1 k=t.2.1[k]:=bY (t:=fi) fF;have hd:t.2.1.drop k=t.2.1[k]::t.2.1.drop (k+1):=au fF;have step:∀ {R:Type} (kn:AS->Option R) (kx:Exit->AS->Option R),GI (t,s,(k:Int)) kn kx=aJ (DU t.2.1[k]) (kn (lN (t,s+t.2.1[k].1,((k+1:Nat):Int)))) (kx (gJ ()).1 (gJ ()).2):=by
   intro R kn kx;rw[HV,aS aq,aj,ba aq aq,aj,aa,n1];unfold DU ym;by_cases c1:t.2.1[k].1 < 0
   ·rw[aS c1,aj,bo aq];rfl
   rw[aQ c1,al];by_cases c2:t.2.1[k].1 > 1125899906842624
   ·rw[dw c2,aj,bo aq];rfl
   rw[cI c2,al,aX aq,xu (d:=t.2.1[k].2.1) (hu _ (aK fF))];simp only[ag,bq,vB,bM];rw[fA aq aq,N.jL aq];cases lI t.2.1[k].2.1 <;> rfl
  cases hp:DU t.2.1[k]
  ·right;refine⟨gJ (),?_,λkn kx=> ?_⟩
   ·simp only[ja,kO,aa,hd,gg,hp,dA,bG,bC];rfl
   ·rw[step,hp,al]
  ·left;have hp':=hp;unfold DU at hp';rw[aw]at hp';have c:0<=t.2.1[k].1/\t.2.1[k].1<=1125899906842624:=of_decide_eq_true hp'.1;refine⟨(t,s+t.2.1[k].1,((k+1:Nat):Int)),⟨wZ,hu,k+1,aq,rfl,by show 0<=s+t.2.1[k].1;omega,by show s+t.2.1[k].1<=((k+1:Nat):Int)*1125899906842624;omega⟩,by simp only[aa];omega,?_,λkn kx=> ?_⟩
   ·simp only[ja,kO,aa,hd,gg,hp,bM,rz,tF]
   ·rw[step,hp,aj]
 ·right;obtain rfl:k=t.2.1.length:=aq;refine⟨uK s,?_,λkn kx=> ?_⟩
  ·simp only[ja,kO,aa,aI];rw[show s+gH ([]:List jV)=s+0 from rfl,Int.add_zero];rfl
  ·rw[HV,aQ aq,al]
theorem atJ:fN.Ok:=by
 intro t hv;have hv:aTX t:=hv;rw[atI];simp only[bq,Ed,hP,ahu];by_cases h1:t.1.length < 1
 ·rw[aS aq,bo aq];rfl
 by_cases h2:t.1.length > 64
 ·rw[aQ aq,al,dw aq,bo aq];rfl
 by_cases h3:t.2.1.length > 64
 ·rw[aQ aq,al,cI aq,al,dw aq,bo aq];rfl
 rw[aQ aq,al,cI aq,al,cI aq,al];by_cases h4:t.2.2.1 < 0
 ·rw[aS h4,bo aq];rfl
 rw[aQ h4,al,aX aq,bM,aa9 (d:=(t,0)) ⟨by show t.1.length<=64;omega,0,aL _,rfl⟩];simp only[ag,iY,kM,aT,ay,dD];rw[aKH t.1 [] [] (λo=>by rw[yq];rfl),as0 t.2.1 0 eX eX];cases asf [] t.1 with
 |false=>rfl
 |true=>
  simp only[bO,db,al,cC,ag,bM];rw[abb (d:=(t,0,0)) ⟨by show t.2.1.length<=64;omega,λo ho=>(hv.1 o ho).1,0,aL _,rfl,eF 0,aq⟩];simp only[ag,ja,kO,aT,ay];cases t.2.1.all DU with
  |false=>rfl
  |true=>
   simp only[bO,db,al,cC,ag,bM];by_cases hs:0+gH t.2.1<=1125899906842624
   ·rw[om hs,aX hs]
   ·rw[j4 hs,bo hs]
theorem Jl:fN.RS:=rE [.d dU] fN
def Mt:=fN.eY atJ 3 ⟨.e7 afr,⟨.e7 afs,⟨.e7 aft,trivial⟩⟩⟩
abbrev GB:=dM×Bs×Int
def uD:GB->Bs->((dM)×(Bs)):=λ(fP,b,i) y=>(fP,y)
abbrev GC:=dM×Bs×Int
def uE:GC->Bs->((dM)×(Bs)):=λ(lS,eU,fk) y=>(lS,y)
def aa4:GB->Prop:=λ(t,b,i)=>(t.1).length<=1000000000/\∃k:Nat,k<=(t.1).length/\i=k/\(t.1.length<=64)/\(∀x∈t.1,x.1.1.length=32/\x.1.2.1<=9223372036854775807)/\(b.length<=100+50*k)
def zp:GB->Bs:=λ(t,b,i)=>(bD (ab i) t.1).foldl Og b
def aa6:GC->Prop:=λ(t,b,i)=>(t.2.1).length<=1000000000/\∃k:Nat,k<=(t.2.1).length/\i=k/\(t.2.1.length<=64)/\(∀o∈t.2.1,o.1<=9223372036854775807/\abu o.2.1)/\(b.length<=4000+1100*k)
def zq:GC->Bs:=λ(t,b,i)=>(bD (ab i) t.2.1).foldl OR b
def aoD:dM->Prop:=λt=>hP t=bm/\th t
def afo:dM->Bs:=λt=>xl t
def nk:Ls aa4 uD zp:=pD (λ(fP,b,i)=>⟨([bE,.dz dU fP,bE,.d tB b,.d ti i]++aW 63 []),[],(ai 68 [])⟩) (λx=>(.exit 0,⟨([bE,.dz dU x.1,bE,.d tB x.2]++aW 64 []),[],(ai 68 [])⟩))
def np:Ls aa6 uE zq:=pD (λ(lS,eU,fk)=>⟨([bE,.dz dU lS,bE,.d tB eU,bE,.d ti fk]++aW 62 []),[],(ai 68 [])⟩) (λx=>(.exit 2,⟨([bE,.dz dU x.1,bE,.d tB x.2]++aW 64 []),[],(ai 68 [])⟩))
def oA:Fs Tryz.prog aoD bq afo:=eV 169 Tryz.f169 (λt=>([.d dU t],[])) (λx=>⟨.d tB x,[],[]⟩) [av dU] [afQ,ak6,aty,aGj] {loops:=lz [(3,{bg:=[1,3,4]}),(9,{bg:=[1,3,5]})],outs:=lu [(3,{bg:=[1,3]},{bg:=[2]}),(9,{bg:=[1,3]},{bg:=[2]})],fa:=mc [(3,nk.E),(9,np.E)],res:=[av tB]}
theorem aa5:nk.RS:=rL [.d dU,.d tB,.d ti] nk
theorem HO(fP b i)(kn:K2 R)(kx:K3 R):oA.R 0 nk (fP,b,i) kn kx=aJ (fv i (fP.1.length:Int)) (aJ (eA i (fP.1.length:Int)) (ao (yz.call (b,(nth fo fP.1 (ab i)).1.1)) λx1=>aJ (eA i (fP.1.length:Int)) (ao (ud.call (x1,(nth fo fP.1 (ab i)).1.2.1)) λx2=>kn (nk.st (fP,x2,(bz .i64 i 1)))) aH) aH) (nk.go kx (fP,b)):=cd
theorem aa7:np.RS:=rL [.d dU,.d tB,.d ti] np
theorem HP(lS eU fk)(kn:K2 R)(kx:K3 R):oA.R 1 np (lS,eU,fk) kn kx=aJ (fv fk (lS.2.1.length:Int)) (aJ (eA fk (lS.2.1.length:Int)) (ao (ud.call (eU,(nth fi lS.2.1 (ab fk)).1)) λx1=>aJ (eA fk (lS.2.1.length:Int)) (ao (ng.call (nth fi lS.2.1 (ab fk)).2.1) λx2=>ao (RR.call (x1,x2)) λx3=>kn (np.st (lS,x3,(bz .i64 fk 1)))) aH) aH) (np.go kx (lS,eU)):=cd
theorem atF(t)(k:K1 R):oA.A t k=ao (ud.call (([]:List Int),(t.1.length:Int))) λx1=>ao (nk.call (t,x1,0)) λx4=>ao (ud.call (x4.2,(x4.1.2.1.length:Int))) λx5=>ao (np.call (x4.1,x5,0)) λx9=>ao (ud.call (x9.2,x9.1.2.2.1)) λal6=>k (oA.out al6):=cd
theorem afp:(oA.jx 0 nk):=by
 refine(oA.mf 0 nk) (λ(t,b,i)=>(t.1).length - ab i) ?_
 rintro⟨t,b,i⟩ ⟨hlen,k,hk,rfl,wZ,hx,hb⟩;have hlen:(t.1).length<=1000000000:=hlen;have hk:k<=(t.1).length:=hk;have wZ:t.1.length<=64:=wZ;have hx:∀x∈t.1,x.1.1.length=32/\x.1.2.1<=9223372036854775807:=hx;have hb:b.length<=100+50*k:=hb;by_cases h:k < (t.1).length
 ·left;have n1:nth fo t.1 k=t.1[k]:=bY (t:=fo) h;have hd:bD k t.1=t.1[k]::bD (k+1) t.1:=au h;refine⟨(t,(Og b t.1[k]),((k+1:Nat):Int)),⟨hlen,k+1,aq,rfl,wZ,hx,by have:=ans b t.1[k];have:=(hx _ (aK h)).1;omega⟩,by simp only[aa];omega,?_,λkn kx=> ?_⟩
  ·simp only[uD,zp,aa,hd,bn]
  ·rw[HO,aS aq,ba aq aq,aa,n1];simp only[aj];have e:=hx _ (aK h);have e2:(b++t.1[k].1.1).length=b.length+t.1[k].1.1.length:=ak;rw[Jq (d:=(b,t.1[k].1.1)) ⟨by show b.length<=_;omega,e.1⟩];simp only[ag,bq,H5];rw[j7 (d:=(b++t.1[k].1.1,t.1[k].1.2.1)) ⟨by show(b++t.1[k].1.1).length<=_;omega,e.2⟩];simp only[ag,bq,pO];rw[N.jL aq];rfl
 ·right;obtain rfl:k=(t.1).length:=aq;intro R kn kx;rw[HO,aQ aq,al];simp only[uD,zp,aa,aI,ct]
theorem afq:(oA.jx 1 np):=by
 refine(oA.mf 1 np) (λ(t,b,i)=>(t.2.1).length - ab i) ?_
 rintro⟨t,b,i⟩ ⟨hlen,k,hk,rfl,wZ,hx,hb⟩;have hlen:(t.2.1).length<=1000000000:=hlen;have hk:k<=(t.2.1).length:=hk;have wZ:t.2.1.length<=64:=wZ;have hx:∀o∈t.2.1,o.1<=9223372036854775807/\abu o.2.1:=hx;have hb:b.length<=4000+1100*k:=hb;by_cases h:k < (t.2.1).length
 ·left;have n1:nth fi t.2.1 k=t.2.1[k]:=bY (t:=fi) h;have hd:bD k t.2.1=t.2.1[k]::bD (k+1) t.2.1:=au h;refine⟨(t,(OR b t.2.1[k]),((k+1:Nat):Int)),⟨hlen,k+1,aq,rfl,wZ,hx,by have:=aew b t.2.1[k];omega⟩,by simp only[aa];omega,?_,λkn kx=> ?_⟩
  ·simp only[uE,zq,aa,hd,bn]
  ·rw[HP,aS aq,ba aq aq,aa,n1];simp only[aj];have e:=hx _ (aK h);have e1:=dT b t.2.1[k].1;have e2:=Ol t.2.1[k].2.1;rw[j7 (d:=(b,t.2.1[k].1)) ⟨by show b.length<=_;omega,e.1⟩];simp only[ag,bq,pO];rw[aoA (d:=t.2.1[k].2.1) e.2];simp only[ag,bq,RI];rw[ayX (d:=(cQ b t.2.1[k].1,Rc t.2.1[k].2.1)) (by show(cQ b t.2.1[k].1).length+(Rc t.2.1[k].2.1).length<=_;omega)];simp only[ag,bq,afR];rw[N.jL aq];rfl
 ·right;obtain rfl:k=(t.2.1).length:=aq;intro R kn kx;rw[HP,aQ aq,al];simp only[uE,zq,aa,aI,ct]
theorem atG:oA.Ok:=by
 rintro t ⟨gX,hv⟩;have hv:th t:=hv;obtain⟨⟨_,a2,a3,_⟩,b1,b2⟩:=iq gX;have h0:([]:List Int).length=0:=rfl;have l0:=dT [] t.1.length;have l1:=abI t.1 (cQ [] t.1.length) λx hx=>(hv.2.1 x hx).1.1
 have l2:=dT (t.1.foldl Og (cQ [] t.1.length)) t.2.1.length;have l3:=Ud t.2.1 (cQ (t.1.foldl Og (cQ [] t.1.length)) t.2.1.length);rw[atF,j7 (d:=([],(t.1.length:Int))) ⟨by show([]:List Int).length<=_;omega,by show(t.1.length:Int)<=_;omega⟩];simp only[ag,bq,pO];rw[aa5 (d:=(t,cQ [] t.1.length,0)) ⟨by show t.1.length<=_;omega,0,aL _,rfl,a2,λx hx=>⟨(hv.2.1 x hx).1.1,by have:=DH (mS _ _ b1 x hx);omega⟩,by show(cQ [] t.1.length).length<=_;omega⟩];simp only[ag,uD,zp,aT,ay];rw[j7 (d:=(t.1.foldl Og (cQ [] t.1.length),(t.2.1.length:Int))) ⟨by show(t.1.foldl Og (cQ [] t.1.length)).length<=_;omega,by show(t.2.1.length:Int)<=_;omega⟩];simp only[ag,bq,pO];rw[aa7 (d:=(t,cQ (t.1.foldl Og (cQ [] t.1.length)) t.2.1.length,0)) ⟨by show t.2.1.length<=_;omega,0,aL _,rfl,a3,λo ho=>⟨by have:=(kc _ _ b2 o ho).1;omega,(hv.1.1 o ho).1⟩,by show(cQ (t.1.foldl Og (cQ [] t.1.length)) t.2.1.length).length<=_;omega⟩];simp only[ag,uE,zq,aT,ay];rw[j7 (d:=(t.2.1.foldl OR (cQ (t.1.foldl Og (cQ [] t.1.length)) t.2.1.length),t.2.2.1)) ⟨by show(t.2.1.foldl OR (cQ (t.1.foldl Og (cQ [] t.1.length)) t.2.1.length)).length<=_;omega,hv.2.2⟩];rfl
theorem aoE:oA.RS:=rE [.d dU] oA
def atH:=oA.eY atG 2 ⟨.e7 afp,⟨.e7 afq,trivial⟩⟩
def aFU:dM->Prop:=λt=>th t
def UJ:dM->Bs:=λt=>wz t
def PN:Fs Tryz.prog aFU bq UJ:=eV 95 Tryz.f95 (λt=>([.d dU t],[])) (λx=>⟨.d tH x,[],[]⟩) [av dU] [Mt,atH,ape]
theorem aMM(t)(k:K1 R):PN.A t k=ao (fN.call t) λx1=>aJ (!x1) (k (PN.out (ai 32 0))) (ao (oA.call t) λx2=>ao (abm.call ((⟨#[116,120]⟩:ByteArray),[x2])) λx3=>k (PN.out x3)):=cd
theorem aMN:PN.Ok:=by
 intro t hv;have hv:th t:=hv;rw[aMM,Jl (d:=t) hv.1];simp only[ag,bq,Ed,bq,UJ,wz];cases gX:hP t
 ·rfl
 ·have hl:=RA gX hv;rw[aoE (d:=t) ⟨gX,hv⟩];simp only[bT,al,bO,ag,bq,afo];rw[agB (d:=((⟨#[116,120]⟩:ByteArray),[xl t])) (VQ eX aq)];rfl
theorem Xn:PN.RS:=rE [.d dU] PN
def afn:=PN.eY aMN
theorem aPi(k:Int):lG (gb k):=(afc _ _).u
theorem axc{x:Int}{l:List Int}(h:lG x)(hl:EE l):EE (x::l):=λp hp=>by
 rcases cq.1 hp with rfl | hp
 ·exact h
 ·exact hl p hp
theorem aEv:EE []:=λp hp=>by cases hp
theorem aPA(ks:List Int)(a d:Int)(h:ks.length<=12):xX (ks,a,d,0,())=(ks.all tA && (WO a && WO d)):=by have e:xX (ks,a,d,0,())=(decide (ks.length<=12) && (ks.all tA && (WO a && (WO d && bm)))):=rfl;rw[e,aX h,bM,Bool.and_true]
def aLH(b:nR)(sg:List Sg)(s:Int)(m:List Int)(height age:Int):Int:=if height < b.2.1\/age < b.2.2.1 then 11 else if b.2.2.2.1≠0/\gb s≠b.2.2.2.1 then 23 else if sg.length≠b.1.length then 7 else if vE m b.1 sg then 0 else 7
theorem aRf{l:Lk}{i:Nat}{b:nR}(gX:lI l=bm)(hi:i < l.1.length)(hb:l.1[i]=b)(sg:List Sg)(s:Int)(m:List Int)(h a:Int):v8 l ((i:Int),sg,s,()) m h a=aLH b sg s m h a:=by
 have n1:nth (.pair (.slice (.int .u64)) (.pair (.int .i64) (.pair (.int .i64) (.pair (.int .u64) .unit)))) l.1 i=l.1[i]:=bY (t:=(.pair (.slice (.int .u64)) (.pair (.int .i64) (.pair (.int .i64) (.pair (.int .u64) .unit))))) hi;unfold v8;rw[if_neg (by
  intro hh;rcases hh with hh | hh | hh
  ·rw[gX]at hh;cases hh
  ·have hh:(i:Int) < 0:=hh;omega
  ·have hh:(i:Int)>=l.1.length:=hh;omega)]
 show(if h < (nth (.pair (.slice (.int .u64)) (.pair (.int .i64) (.pair (.int .i64) (.pair (.int .u64) .unit)))) l.1 i).2.1\/a < (nth (.pair (.slice (.int .u64)) (.pair (.int .i64) (.pair (.int .i64) (.pair (.int .u64) .unit)))) l.1 i).2.2.1 then 11 else if(nth (.pair (.slice (.int .u64)) (.pair (.int .i64) (.pair (.int .i64) (.pair (.int .u64) .unit)))) l.1 i).2.2.2.1≠0/\gb s≠(nth (.pair (.slice (.int .u64)) (.pair (.int .i64) (.pair (.int .i64) (.pair (.int .u64) .unit)))) l.1 i).2.2.2.1 then 23 else if sg.length≠(nth (.pair (.slice (.int .u64)) (.pair (.int .i64) (.pair (.int .i64) (.pair (.int .u64) .unit)))) l.1 i).1.length then 7 else if vE m (nth (.pair (.slice (.int .u64)) (.pair (.int .i64) (.pair (.int .i64) (.pair (.int .u64) .unit)))) l.1 i).1 sg then 0 else 7)=_;rw[n1,hb];rfl
theorem ahB(m:List Int):∀ks:List Int,(∀k∈ks,0 < k/\k < 2305843009213688669)->vE m (ks.map gb) (ks.map λk=>qC k m)=bm
 |[],_=>rfl
 |k::ks,h=>by have hk:=h k aU;show(qR (gb k) m 1 (qC k m) && vE m (ks.map gb) (ks.map λk=>qC k m))=bm;rw[aSo k m hk.1 hk.2,ahB m ks λx hx=>h x (aP _ hx)];rfl
theorem an0(ks:List Int)(hk:∀k∈ks,0 < k/\k < 2305843009213688669)(af dl sc s:Int)(m:List Int)(h a:Int)(hs:sc=0\/gb s=sc):
  aLH (ks.map gb,af,dl,sc,()) (ks.map λk=>qC k m) s m h a=if h < af\/a < dl then 11 else 0:=by
 have e:aLH (ks.map gb,af,dl,sc,()) (ks.map λk=>qC k m) s m h a=if h < af\/a < dl then 11 else if sc≠0/\gb s≠sc then 23 else if(ks.map λk=>qC k m).length≠(ks.map gb).length then 7 else if vE m (ks.map gb) (ks.map λk=>qC k m) then 0 else 7:=rfl
 rw[e,ahB m ks hk,if_neg (c:=sc≠0/\gb s≠sc) (by rintro⟨h1,h2⟩;exact hs.elim h1 h2),if_neg (c:=(ks.map λk=>qC k m).length≠(ks.map gb).length) (by rw[da,da];exact λx=>x rfl)];rfl
theorem aXZ{k:Int}(h:0 < k/\k < 2305843009213688669):∀x∈ [k],0 < x/\x < 2305843009213688669:=λx hx=>by rw[bB]at hx;subst hx;exact h
def z32:List Int:=ai 32 0
theorem aOH:lG 0:=⟨eX,eX⟩
section
structure xV(m n:Nat)(a:At)(s:List cV):Prop where
 nT:Wf a
 le:n<=s.length
 len:s.length<=m
 aVS:∀st∈s,avO st
 sum:gM a<=1125899906842624
 aI8:a.length<=256+64*m
theorem xV.mono{m m' n:Nat}{a:At}{s:List cV}(h:xV m n a s)(hm:m<=m'):xV m' n a s:=⟨h.nT,h.le,jy h.len hm,h.aVS,h.sum,by have:=h.aI8;omega⟩
theorem Sn{a:At}(h:∀p∈a,0<=p.2.1.1):0<=gM a:=by
 induction a with
 |nil=>exact eF 0
 |cons p a ih=>
  rw[mm];have:=h p aU;have:=ih λq hq=>h q (aP _ hq)
  omega
theorem Wf.pos{a:At}(h:Wf a):0<=gM a:=Sn λp hp=>(h.2 p hp).2.2.2.1
theorem W9:∀(l:List jV) (sum:Int) (k:Nat) {a:At},0<=sum->sum<=1125899906842624->(∀o∈l,Wi o)->DQ sum k l=av a->
  a.length=l.length/\gM a=gH l/\sum+gH l<=1125899906842624/\(∀o∈l,0<=o.1)/\(∀p∈a,KD p.1/\aYo p.2/\(k:Int)<=p.1.2.1)/\(eH a).Nodup
 |[],sum,k,a,h0,h1,_,e=>by obtain rfl:=bf e;exact⟨rfl,rfl,by show sum+0<=_;omega,λo ho=>(by cases ho),λp hp=>(by cases hp),jH⟩
 |o::l,sum,k,a,h0,h1,hg,e=>by
  rw[DQ]at e;cases ho:rv sum o with
  |false=>rw[ho]at e;cases e
  |true=>
   rw[ho]at e;simp only at e;cases hr:DQ (sum+o.1) (k+1) l with
   |none=>rw[hr]at e;cases e
   |some r=>
    rw[hr]at e;obtain rfl:=bf e;have ho':=ho;unfold rv at ho';simp only[aw,bt]at ho';obtain⟨k1,k2,k3⟩:=ho';obtain⟨i1,i2,i3,i4,i5,i6⟩:=W9 l (sum+o.1) (k+1) aq aq (λx hx=>hg x (aP _ hx)) hr;have hu:=hg o aU;refine⟨by rw[aF,aF,i1],?_,by rw[rz];omega,λx hx=> ?_,λp hp=> ?_,?_⟩
    ·rw[mm,rz,i2];rfl
    ·rcases cq.1 hx with rfl | hx
     ·exact k2
     ·exact i4 x hx
    ·rcases cq.1 hp with rfl | hp
     ·refine⟨⟨by show(ai 32 (0:Int)).length=32;rw[dd],λx hx=> ?_⟩,⟨k1,hu.1,k2,by show o.1<=_;omega,eF 0,by show(0:Int)<=_;decide⟩,by show(k:Int)<=k;omega⟩;have hx:x∈ai 32 (0:Int):=hx;obtain rfl:=(pc.1 hx).2;exact⟨eX,eX⟩
     ·have:=i5 p hp;exact⟨this.1,this.2.1,aq⟩
    ·show((wO k o).1::eH r).Nodup;refine dx.2 ⟨λhm=> ?_,i6⟩;obtain⟨p,hp,he⟩:=dy.1 hm;have:=(i5 p hp).2.2;have he:p.1=(wO k o).1:=he;rw[he]at this;have this:((k+1:Nat):Int)<=(k:Int):=this;omega
theorem akD{outs:List jV}{a:At}(hg:∀o∈outs,Wi o)(e:Rp outs=av a):xV 0 0 a []/\gM a=gH outs/\a.length=outs.length/\outs.length<=256/\(∀o∈outs,0<=o.1)/\gH outs<=1125899906842624:=by
 unfold Rp at e;by_cases hl:outs.length<=256
 ·rw[if_pos hl]at e;obtain⟨i1,i2,i3,i4,i5,i6⟩:=W9 outs 0 0 eX eX hg e;exact⟨⟨⟨i6,λp hp=>⟨(i5 p hp).1,(i5 p hp).2.1⟩⟩,az _,az _,λst xZ=>(by cases xZ),aq,aq⟩,i2,i1,hl,i4,aq⟩
 ·rw[if_neg hl]at e;cases e
theorem aQ9{outs:List jV}(hg:∀o∈outs,Wi o):Dz outs=av (match Rp outs with | none=> .inl () | some r=> .inr (r,[])):=by rw[ajU (d:=outs) hg];simp only[Hq,N5];cases Rp outs <;> rfl
theorem aj9:∀(l:List cz) (a:At),(JZ a l).length=l.length
 |[],_=>rfl
 |o::l,a=>by rw[JZ,aF,aF,aj9 l]
theorem aOg{t:dM}{h gB:Int}{a:At}(hc:qI t h a gB):avO (stepOf t a):=by have h1:=(iq hc.ok).1;have h2:=vY hc.ok;have h3:=adx hc.ok;unfold avO stepOf;rw[aj9];exact⟨aq,by show(fY t).length<=1000;omega⟩
section
variable {m n:Nat} {t:dM} {h:Int} {a:At} {s:List cV}
theorem xV.app(hg:xV m n a s)(hc:qI t h a (cK t h a).1)(hv:th t):xV (m+1) (n+1) (cG t h a) (s.take n++ [stepOf t a]):=by
 have hl:=hg.le;have hm:=hg.len;have hs:=hc.sum hg.nT.1;have hp:=hc.pos;have h1:=(iq hc.ok).1;have e:(s.take n).length=n:=by rw[bV];omega
 refine⟨hc.nT hg.nT hv,by rw[ak,e];exact az _,by rw[ak,e];show n+1<=_;omega,λst xZ=> ?_,?_,?_⟩
 ·rcases bR.1 xZ with xZ | xZ
  ·exact hg.aVS st (qK xZ)
  ·rw[bB.1 xZ];exact aOg hc
 ·have:=hg.sum;omega
 ·have:=hg.aI8;omega
theorem xV.apply(hg:xV m n a s)(hm:m<=1000)(hv:th t):((cK t h a).2≠0/\vc (t,h,n,a,s)=av (.inl ((cK t h a).2,n,a,s)))\/
  (qI t h a (cK t h a).1/\(cK t h a).2=0/\vc (t,h,n,a,s)=av (.inr (0,n+1,cG t h a,s.take n++ [stepOf t a]))/\xV (m+1) (n+1) (cG t h a) (s.take n++ [stepOf t a])):=by
 have hr:=aDI (d:=(t,h,n,a,s)) ⟨hv,hg.nT,hg.le,by have:=hg.len;show s.length<=_;omega⟩;by_cases he:(cK t h a).2=0
 ·right;refine⟨y3 he,he,?_,hg.app (y3 he) hv⟩;rw[hr];simp only[C2,N0,he,ne_eq,qA,bC]
 ·left;refine⟨he,?_⟩;rw[hr];simp only[C2,N0,ne_eq,he,qz,bO]
theorem xV.check(hg:xV m n a s)(hv:th t):nP.call (t,h,n,a,s)=av ((cK t h a).1,(cK t h a).2,n,a,s):=ajT (d:=(t,h,n,a,s)) ⟨hv,hg.nT⟩
def ahH(a:At):List cz:=RZ (t:=bQ) xY (eH a)
theorem xV.all(hg:xV m n a s)(hm:m<=1000):Ds.call (n,a,s)=av (a.length,n,a,s,ahH a):=aDH (d:=(n,a,s)) ⟨by have:=hg.aI8;show a.length<=_;omega,λp hp=>(hg.nT.2 p hp).1⟩
theorem xV.total(hg:xV m n a s):ER.call (n,a,s)=av (gM a,n,a,s):=ajV (d:=(n,a,s)) ⟨λp hp=>(hg.nT.2 p hp).2.2.2.1,by have:=hg.sum;show gM a<=_;omega⟩
theorem xV.copy(hg:xV m n a s)(hm:m<=1000):wR.call (n,a,s)=av (n,a,s,(s.take n).length,fC a,s.take n):=awC (d:=(n,a,s)) ⟨hg.le,by have:=hg.len;show s.length<=_;omega,hg.nT.1⟩
theorem Wf.perm{a':At}(h:Wf a)(hp:a.Perm a'):Wf a':=⟨(hp.map _).nodup_iff.1 h.1,λp hm=>h.2 p (hp.mem_iff.2 hm)⟩
theorem xV.canon(hg:xV m n a s):xV m n (fC a) (s.take n)/\(s.take n).length=n:=by
 have hp:=Ae a;have e:(s.take n).length=n:=by rw[bV];have:=hg.le;omega
 exact⟨⟨hg.nT.perm hp.symm,aq,by have:=hg.le;have:=hg.len;omega,λst xZ=>hg.aVS st (qK xZ),by rw[vI hp];exact hg.sum,by rw[hp.length_eq];exact hg.aI8⟩,e⟩
end
theorem aH4{a:At}(h:Wf a):(ahH a).Perm (eH a):=(apw Ho λx hx=>by
 obtain⟨p,hp,rfl⟩:=dy.1 hx;exact(h.2 p hp).1).1
end
def uY(a a':At):Prop:=∀o,cw bQ o a=cw bQ o a'
theorem uY.refl(a:At):uY a a:=λ_=>rfl
theorem uY.symm{a b:At}(h:uY a b):uY b a:=λo=>(h o).symm
theorem uY.trans{a b c:At}(h:uY a b)(h':uY b c):uY a c:=λo=>(h o).trans (h' o)
theorem uY.perm{a b:At}(h:uY a b)(ha:(eH a).Nodup)(hb:(eH b).Nodup):a.Perm b:=aTd ha hb h
theorem arI{a b:At}(hb:(eH b).Nodup)(h:a.Perm b):uY a b:=λo=>aL6 hb h o
theorem uY.del{a b:At}(h:uY a b)(ha:(eH a).Nodup)(hb:(eH b).Nodup)(l:List cz):uY (DA l a) (DA l b):=λo=>by
 rw[YR o l ha,YR o l hb,h o]
theorem Ou(e:ei)(l:List ei)(a:At):ae8 (e::l) a=ae8 l (fp bQ e.1 e.2.1 a):=rfl
theorem uY.set{a b:At}(h:uY a b)(o:cz)(c:fj):uY (fp bQ o c a) (fp bQ o c b):=λx=>by rw[awU,awU,h x]
theorem uY.put:∀(l:List ei) {a b:At},uY a b->uY (ae8 l a) (ae8 l b)
 |[],_,_,h=>h
 |e::l,a,b,h=>by rw[Ou,Ou];exact uY.put l (h.set _ _)
theorem ae9:∀(l:List ei) {a:At},(eH a).Nodup->(eH (ae8 l a)).Nodup
 |[],_,h=>h
 |e::l,a,h=>by rw[Ou];exact ae9 l (Q3 h)
theorem F0{a:At}(h:(eH a).Nodup)(st:cV):(eH (yh a st)).Nodup:=ae9 _ (DB _ h)
theorem uY.aSK{a b:At}(h:uY a b)(ha:(eH a).Nodup)(hb:(eH b).Nodup)(st:cV):uY (yh a st) (yh b st):=uY.put _ (h.del ha hb _)
theorem uY.add(h:Int):∀(l:List cz) (xs:List jV) {a b:At},uY a b->uY (OL h l xs a) (OL h l xs b)
 |[],[],_,_,e=>e
 |[],_::_,_,_,e=>e
 |_::_,[],_,_,e=>e
 |o::l,x::xs,a,b,e=>by rw[yj,yj];exact uY.add h l xs (e.set _ _)
theorem uY.apply{a b:At}(e:uY a b)(ha:(eH a).Nodup)(hb:(eH b).Nodup)(t:dM)(h:Int):uY (cG t h a) (cG t h b):=uY.add h _ _ (e.del ha hb _)
theorem uY.ins{a b:At}(e:uY a b)(h:Int)(id:List Int):∀(l:List ji) (f:Int),rh h id a l f=rh h id b l f
 |[],_=>rfl
 |x::l,f=>by
  simp only[rh,e x.1];cases cw bQ x.1 b with
  |none=>rfl
  |some c=>simp only[uY.ins e h id l]
theorem uY.check{a b:At}(e:uY a b)(t:dM)(h:Int):cK t h a=cK t h b:=by
 have e2:l5 a=l5 b:=funext λo=>by unfold l5;rw[e o]
 unfold cK;rw[e.ins,e2]
theorem aTe(x:cz):∀(l:List cz) {a:At} (b:At),(eH a).Nodup->l.Nodup->(∀o∈l,(cw bQ o a).isSome=bm)->cw bQ x (ae8 (JZ a l) b)=if x∈l then cw bQ x a else cw bQ x b
 |[],a,b,_,_,_=>by rw[if_neg (by simp)];rfl
 |o::l,a,b,hn,hl,ht=>by
  rw[dx]at hl;obtain⟨c,hc⟩:=bZ.1 (ht o aU);have ht':∀y∈l,(cw bQ y (kH bQ o a)).isSome=bm:=λy hy=>by rw[awT y o hn,if_neg (λe=>hl.1 (by rw[<-e];exact hy))];exact ht y (aP _ hy)
  rw[JZ,Ou,aTe x l _ (vh hn) hl.2 ht',awT x o hn,hc];by_cases h1:x∈l
  ·have h2:¬x=o:=λe=>hl.1 (by rw[<-e];exact h1)
   rw[if_pos h1,if_neg h2,if_pos (aP _ h1)]
  ·rw[if_neg h1];show cw bQ x (fp bQ o c b)=_;rw[awU];by_cases h2:x=o
   ·subst h2;rw[if_pos rfl,if_pos aU,hc]
   ·rw[if_neg h2,if_neg (by simp[h1,h2])]
theorem ahz{t:dM}{h gB:Int}{a:At}(hc:qI t h a gB)(ha:(eH a).Nodup):uY (yh (cG t h a) (stepOf t a)) a:=λo=>by
 unfold yh stepOf;rw[aTe o (dP t) _ ha (JG t) hc.there];by_cases h1:o∈dP t
 ·rw[if_pos h1]
 ·rw[if_neg h1];show cw bQ o (DA (fY t) (cG t h a))=_;rw[YR o _ (gZ ha)];by_cases h2:o∈fY t
  ·rw[if_pos h2,hc.made o h2]
  ·rw[if_neg h2,Bp ha h1 h2]
theorem aLu{s:List cV}{x:cV}{n k:Nat}(hn:n<=s.length)(hk:k < n):nth cH (s.take n++ [x]) k=nth cH s k:=by
 have h1:k < (s.take n++ [x]).length:=by rw[ak,bV];omega
 rw[bY (t:=cH) h1,bY (t:=cH) (show k < s.length by omega)];show(aM n s++ [x])[k]=s[k];rw[List.getElem_append_left (by rw[bV];omega),List.getElem_take]
theorem aLt{s:List cV}{x:cV}{n:Nat}(hn:n<=s.length):nth cH (s.take n++ [x]) n=x:=by
 have e:(s.take n).length=n:=by rw[bV];omega
 have h1:n < (s.take n++ [x]).length:=by rw[ak,e];exact sa n
 rw[bY (t:=cH) h1];show(aM n s++ [x])[n]=x;rw[List.getElem_append_right aq];simp[e]
section
def jF(l:List ei):At:=l.map λe=>(e.1,e.2.1)
def aOW(a b:cz):Bool:=decide (lx a.1 b.1 < 0\/lx a.1 b.1=0/\a.2.1 < b.2.1)
def vy:List ei->cz->Int->Int
 |[],_,_=> -1
 |e::l,o,i=>if Ty.beq bQ e.1 o=bm then i else vy l o (i+1)
def AQ:List ei->cz->List ei
 |[],_=> []
 |e::l,o=>if Ty.beq bQ e.1 o=bm then l else e::AQ l o
def yi:List ei->ei->List ei
 |[],c=> [c]
 |e::l,c=>if aOW e.1 c.1=bm then e::yi l c else c::e::l
theorem ajB(a b:cz):Ty.beq bQ a b=Ty.beq bQ b a:=by
 cases h:Ty.beq bQ a b with
 |true=>rw[(F4 b a).2 ((F4 a b).1 h).symm]
 |false=>
  cases h2:Ty.beq bQ b a with
  |false=>rfl
  |true=>rw[(F4 a b).2 ((F4 b a).1 h2).symm]at h;cases h
theorem Rx:∀(l:List ei) (o:cz) (i:Int),0<=i->(vy l o i= -1/\cw bQ o (jF l)=aH/\AQ l o=l)\/
  ∃(k:Nat) (h:k < l.length),vy l o i=i+k/\cw bQ o (jF l)=av l[k].2.1/\AQ l o=l.take k++l.drop (k+1)/\l[k].1=o
 |[],o,i,_=> .inl ⟨rfl,rfl,rfl⟩
 |e::l,o,i,h0=>by
  have hg:cw bQ o (jF (e::l))=if Ty.beq bQ o e.1=bm then av e.2.1 else cw bQ o (jF l):=fm
  rw[hg,vy,AQ,ajB o e.1];by_cases h:Ty.beq bQ e.1 o=bm
  ·right;refine⟨0,Nat.zero_lt_succ _,?_,?_,?_,(F4 _ _).1 h⟩
   ·rw[if_pos h];show i=i+0;omega
   ·rw[if_pos h];rfl
   ·rw[if_pos h];rfl
  ·rw[if_neg h,if_neg h,if_neg h];rcases Rx l o (i+1) aq with⟨h1,h2,h3⟩ | ⟨k,hk,h1,h2,h3,h4⟩
   ·left;exact⟨h1,h2,by rw[h3]⟩
   ·right;refine⟨k+1,Nat.succ_lt_succ hk,by rw[h1];omega,h2,by rw[h3];rfl,h4⟩
theorem ax3{l:List ei}{o:cz}{i:Int}(h0:0<=i):vy l o i= -1\/i<=vy l o i/\vy l o i < i+l.length:=by
 rcases Rx l o i h0 with⟨h,_⟩ | ⟨k,hk,h,_⟩
 ·exact .inl h
 ·right;rw[h];omega
theorem abZ:∀(l:List ei) (o:cz),jF (AQ l o)=kH bQ o (jF l)
 |[],o=>by rw[AQ];rfl
 |e::l,o=>by
  have hg:kH bQ o (jF (e::l))=if Ty.beq bQ o e.1=bm then jF l else(e.1,e.2.1)::kH bQ o (jF l):=I4
  rw[hg,AQ,ajB o e.1];by_cases h:Ty.beq bQ e.1 o=bm
  ·rw[if_pos h,if_pos h]
  ·rw[if_neg h,if_neg h,<-abZ l o];rfl
theorem yT:∀(l:List ei) (c:ei),(yi l c).Perm (c::l)
 |[],c=>lE _
 |e::l,c=>by
  rw[yi];split
  ·exact((yT l c).cons e).trans (List.Perm.swap c e l)
  ·exact lE _
theorem aOr(l:List ei):eH (jF l)=l.map (·.1):=by unfold jF eH;rw[wG];rfl
theorem aJD(l:List ei)(o:cz):(AQ l o).length<=l.length:=by
 induction l with
 |nil=>exact az _
 |cons e l ih=>
  rw[AQ];split
  ·exact vH _
  ·exact Nat.succ_le_succ ih
theorem aJE(l:List ei)(o:cz):(AQ l o).Sublist l:=by
 induction l with
 |nil=>exact List.Sublist.refl _
 |cons e l ih=>
  rw[AQ];split
  ·exact List.sublist_cons_self e l
  ·exact ih.cons_cons e
def aTW(l:List ei):Prop:=l.Pairwise λx y=>¬xY y.1 x.1 < 0
theorem aPw{a b:cz}(ha:KD a)(hb:KD b):aOW a b=decide (xY a b < 0):=by
 unfold aOW;rw[sk ha hb];unfold AW;rw[abM _ _ (ha.1.trans hb.1.symm)];unfold aWy;by_cases h:lx a.1 b.1=0
 ·rw[if_pos h];unfold Qy;by_cases h2:a.2.1 < b.2.1
  ·rw[if_pos h2,aX (.inr ⟨h,h2⟩),aX eX]
  ·rw[if_neg h2,bo aq];split
   ·rw[bo eX]
   ·rw[bo eX]
 ·rw[if_neg h];by_cases h2:lx a.1 b.1 < 0
  ·rw[aX (.inl h2),aX h2]
  ·rw[bo aq,bo h2]
theorem ajO{a b:cz}(ha:KD a)(hb:KD b)(h:xY a b < 0):¬xY b a < 0:=λh2=>by rw[sk ha hb]at h;rw[sk hb ha,W2]at h2;omega
theorem al4:∀(l:List ei) (c:ei),(∀e∈l,KD e.1)->KD c.1->aTW l->aTW (yi l c)
 |[],c,_,_,_=>List.pairwise_singleton _ _
 |e::l,c,hq,hc,hs=>by
  have he:=hq e aU;have hs':=lF.1 hs;rw[yi,aPw he hc];by_cases h:xY e.1 c.1 < 0
  ·rw[aX h,if_pos rfl];refine lF.2 ⟨λy hy=> ?_,al4 l c (λx hx=>hq x (aP _ hx)) hc hs'.2⟩;rcases cq.1 ((yT l c).mem_iff.1 hy) with rfl | hy
   ·exact ajO he hc h
   ·exact hs'.1 y hy
  ·rw[bo h,if_neg (by simp)];refine lF.2 ⟨λy hy=> ?_,hs⟩;rcases cq.1 hy with rfl | hy
   ·exact h
   ·exact Ho.ntrans _ _ _ (hq y (aP _ hy)) he hc (hs'.1 y hy) h
structure Rl(a:At)(l:List ei):Prop where
 nT:Wf a
 baC:aTW l
 nd:(eH (jF l)).Nodup
 eqv:uY (jF l) a
section
variable {a:At} {l:List ei}
theorem Rl.perm(h:Rl a l):(jF l).Perm a:=h.eqv.perm h.nd h.nT.1
theorem Rl.aYs(h:Rl a l):Wf (jF l):=h.nT.perm h.perm.symm
theorem Rl.q(h:Rl a l):∀e∈l,KD e.1:=λe he=>(h.aYs.2 (e.1,e.2.1) (dy.2 ⟨e,he,rfl⟩)).1
theorem Rl.len(h:Rl a l):l.length=a.length:=by have:=h.perm.length_eq;unfold jF at this;rwa[da]at this
theorem Rl.all(h:Rl a l):l.map (·.1)=ahH a:=by
 have hq:∀x∈eH a,KD x:=λx hx=>by obtain⟨p,hp,rfl⟩:=dy.1 hx;exact(h.nT.2 p hp).1
 refine R0 Ho hq (λx hx y hy a b=>Qz (hq x hx) (hq y hy) a b) ⟨?_,?_⟩
 ·rw[<-aOr];exact h.perm.map _
 ·exact List.pairwise_map.2 h.baC
theorem Rl.aH5(h:Rl a l):gM (jF l)=gM a:=vI h.perm
theorem Rl.aWS{b:At}(h:Rl a l)(hb:Wf b)(e:uY a b):Rl b l:=⟨hb,h.baC,h.nd,h.eqv.trans e⟩
end
abbrev H9:=cz×cz×Int
def yG:H9->AS:=λ(Dd,eU,i)=>⟨([bE,bE,.dz bQ Dd,.dz bQ eU,bE,.d ti i]++aW 27 []),[],(ai 33 [])⟩
def FC:Bool->Exit×AS:=λx=>(.ret,⟨(aW 4 ([.d .bool x]++aW 28 [])),[],(ai 33 [])⟩)
def FD:(cz×cz)->Exit×AS:=λx=>(.exit 0,⟨([bE,bE,.dz bQ x.1,.dz bQ x.2]++aW 29 []),[],(ai 33 [])⟩)
abbrev XB:=(Bool)⊕((cz×cz))
abbrev alg:=(Bool)⊕(Unit)
def MZ:XB->Out (Exit×AS):=λx=> .br x.isLeft (.get x.getLeft? λa=> .ok (FC a)) (.get x.getRight? λb=> .ok (FD b))
def oU:H9->alg->XB:=λ(Dd,eU,i) y=>match y with | .inl y=> .inl y | .inr z=> .inr ((Dd,eU))
def FB:H9->Prop:=λ(a,b,i)=>a.1.length=32/\b.1.length=32/\∃k:Nat,k<=32/\i=k
def wk:H9->alg:=λ(a,b,i)=>if lx (a.1.drop i.toNat) (b.1.drop i.toNat)=0 then .inr () else .inl (decide (lx (a.1.drop i.toNat) (b.1.drop i.toNat) < 0))
def aNc:(cz×cz)->Prop:=λ(a,b)=>a.1.length=32/\b.1.length=32
def aNb:(cz×cz)->Bool:=λ(a,b)=>aOW a b
def ale:=dB.e7 yG FB oU wk MZ
def U6:H9->Option XB:=fS ale yG
def XA:Fs Tryz.prog aNc bq aNb:=eV 93 Tryz.f93 (λ(a,b)=>([.d bQ a,.d bQ b],[])) (λx=>⟨.d .bool x,[],[]⟩) [av bQ,av bQ] [] {loops:=lz [(2,{bg:=[2,3,5]})],outs:=lu [(2,{bg:=[2,3]},{bg:=[4]})],fa:=mc [(2,ale)]}
def alf:= @ej Tryz.prog (jr XA.G) XA.an 0 Tryz.f93 0 _ yG
abbrev af7:=jj Tryz.prog (jr XA.G) XA.an 0 Tryz.f93 0 yG FB oU wk MZ
theorem auh:ik U6 FB oU wk:=jX (jA [.d bQ,.d bQ,.d ti] λ_=>cd)
theorem XC:ma @alf yG FB oU wk MZ af7:=mJ
theorem Jt(Dd eU i)(kn:K2 R)(kx:K3 R):alf (Dd,eU,i) kn kx=aJ (fv i (32:Int)) (aJ (eA i (32:Int)) (aJ (eA i (32:Int)) (aJ (C3 (nth tb Dd.1 (ab i)) (nth tb eU.1 (ab i))) (aJ (eA i (32:Int)) (aJ (eA i (32:Int)) (kx (FC (fv (nth tb Dd.1 (ab i)) (nth tb eU.1 (ab i)))).1 (FC (fv (nth tb Dd.1 (ab i)) (nth tb eU.1 (ab i)))).2) aH) aH) (kn (yG (Dd,eU,(bz .i64 i (1:Int)))))) aH) aH) (kx (FD (Dd,eU)).1 (FD (Dd,eU)).2):=cd
theorem aRO(a b)(k:K1 R):XA.A (a,b) k=ao (U6 (a,b,0)) λx1=>aJ x1.isLeft (ao x1.getLeft? λa2=>k (XA.out a2)) (ao x1.getRight? λb3=>k (XA.out (fv b3.1.2.1 b3.2.2.1))):=cd
theorem azb:af7:=by
 refine XC (λ(_,_,i)=>(32 - i).toNat) ?_
 rintro⟨a,b,i⟩ ⟨ha,hb,k,hk,rfl⟩;have ha:a.1.length=32:=ha;have hb:b.1.length=32:=hb;by_cases fF:k < 32
 ·have n1:nth tb a.1 k=a.1[k]:=bY (t:=tb) aq;have n2:nth tb b.1 k=b.1[k]:=bY (t:=tb) aq;have hd:lx (a.1.drop k) (b.1.drop k)=if a.1[k]≠b.1[k] then(if a.1[k] < b.1[k] then -1 else 1) else lx (a.1.drop (k+1)) (b.1.drop (k+1)):=by rw[au (show k < a.1.length by omega),au (show k < b.1.length by omega),lx]
  by_cases h:a.1[k]=b.1[k]
  ·left;refine⟨(a,b,((k+1:Nat):Int)),⟨ha,hb,k+1,aq,rfl⟩,by show(32 - ((k+1:Nat):Int)).toNat < (32 - (k:Int)).toNat;omega,?_,λkn kx=> ?_⟩
   ·rw[if_neg (λe=>e h)]at hd;simp only[oU,wk,aa,hd]
   ·rw[Jt,aS aq,aj,ba aq aq,aj,aj,aa,n1,n2,dN h,al,N.jL aq]
  ·right;rw[if_pos h]at hd;refine⟨FC (decide (a.1[k] < b.1[k])),?_,λkn kx=> ?_⟩
   ·simp only[oU,wk,aa,hd];by_cases h2:a.1[k] < b.1[k]
    ·simp only[h2,bO];rfl
    ·simp only[h2,bC];rfl
   ·rw[Jt,aS aq,aj,ba aq aq,aj,aj,aa,n1,n2,fH h,aj,aj,aj];by_cases h2:a.1[k] < b.1[k]
    ·rw[aS h2,aX h2]
    ·rw[aQ h2,bo h2]
 ·right;obtain rfl:k=32:=aq;refine⟨FD (a,b),?_,λkn kx=> ?_⟩
  ·have e:lx (a.1.drop 32) (b.1.drop 32)=0:=by rw[dO aq,dO aq];rfl
   simp only[oU,wk,aa,e];rfl
  ·rw[Jt,aQ aq,al]
theorem aRP:XA.Ok:=by
 rintro⟨a,b⟩ ⟨ha,hb⟩;rw[aRO,auh (d:=(a,b,0)) ⟨ha,hb,0,aq,rfl⟩];simp only[ag,oU,wk,aT,ay,bq,aNb,aOW];by_cases h:lx a.1 b.1=0
 ·simp only[h,bO,db,al,cC,ag];by_cases h2:a.2.1 < b.2.1
  ·rw[aS h2,aX (.inr ⟨by trivial,h2⟩)]
  ·rw[aQ h2,bo (by rintro(h3 | h3);exact absurd h3 eX;exact h2 h3.2)]
 ·simp only[h,bC,jK,aj,ir,ag];by_cases h2:lx a.1 b.1 < 0
  ·rw[aX h2,aX (.inl h2)]
  ·rw[bo h2,bo (by rintro(h3 | h3);exact h2 h3;exact h3.1)]
theorem aNd:XA.RS:=rE [.d bQ,.d bQ] XA
def aRQ:=XA.eY aRP 1 ⟨.e7 azb,trivial⟩
abbrev RW:=(List ei)×ei×Int
def xH:RW->Int->(((List ei)×ei)×(Int)):=λ(tl,ap2,kv) y=>((tl,ap2),y)
abbrev aCg:=(List ei)×ei
theorem QM{l:List ei}{n:Nat}(h:l.length=n):cut l 0 n=l:=by subst h;simp[cut]
def aaO(l:List ei)(o:cz):Nat:=(l.takeWhile λe=>aOW e.1 o).length
theorem al3:∀(l:List ei) (c:ei),yi l c=l.take (aaO l c.1)++(c::l.drop (aaO l c.1))
 |[],c=>rfl
 |e::l,c=>by
  unfold aaO;rw[yi,List.takeWhile_cons];by_cases h:aOW e.1 c.1=bm
  ·rw[if_pos h,if_pos h,al3 l c];rfl
  ·rw[if_neg h,if_neg h];rfl
theorem aPQ(l:List ei)(o:cz):aaO l o<=l.length:=(List.takeWhile_sublist _).length_le
def apg:RW->Prop:=λ(l,c,i)=>l.length<=1000000/\(∀e∈l,e.1.1.length=32)/\c.1.1.length=32/\∃k:Nat,k<=l.length/\i=k
def Em:RW->Int:=λ(l,c,i)=>i+(aaO (l.drop i.toNat) c.1:Int)
def aGW:aCg->Prop:=λ(l,c)=>l.length<=1000000/\(∀e∈l,e.1.1.length=32)/\c.1.1.length=32
def aCh:aCg->(List ei):=λ(l,c)=>yi l c
def ue:Ls apg xH Em:=pD (λ(tl,ap2,kv)=>⟨([.d (.slice ez) tl,bE,bE,.dz ez ap2,bE,.d ti kv]++aW 32 []),[],(ai 38 [])⟩) (λx=>(.exit 0,⟨([.d (.slice ez) x.1.1,bE,bE,.dz ez x.1.2,bE,.d ti x.2]++aW 32 []),[],(ai 38 [])⟩))
def Nh:Fs Tryz.prog aGW bq aCh:=eV 145 Tryz.f145 (λ(l,c)=>([.d (.slice ez) l,.d ez c],[])) (λx=>⟨.d (.slice ez) x,[],[]⟩) [av (.slice ez),av ez] [aRQ] {cg:=[23],loops:=lz [(2,{bg:=[0,3,5]})],outs:=lu [(2,{bg:=[0,3,5]},{bg:=[4]})],fa:=mc [(2,ue.E)],res:=[av (.slice ez)]}
theorem aph:ue.RS:=rL [.d (.slice ez),.d ez,.d ti] ue
theorem G1(tl ap2 kv)(kn:K2 R)(kx:K3 R):Nh.R 0 ue (tl,ap2,kv) kn kx=aJ (fv kv (tl.length:Int)) (aJ (eA kv (tl.length:Int)) (ao (XA.call ((nth ez tl (ab kv)).1,ap2.1)) λx1=>aJ (x1) (kn (ue.st (tl,ap2,(bz .i64 kv 1)))) (ue.go kx ((tl,ap2),kv))) aH) (ue.go kx ((tl,ap2),kv)):=cd
theorem aNY(l c)(k:K1 R):Nh.A (l,c) k=ao (ue.call (l,c,0)) λx2=>aJ (inc x2.2 (x2.1.1.length:Int)) (aJ (cZ (0+(ae (cut x2.1.1 0 ((ab x2.2) - 0)))) 80) (aJ (decide ((0+(ae (cut x2.1.1 0 ((ab x2.2) - 0))))<=(ae ((aM 0 (ai 0 (((ai 32 0),(0,())),(((0,((([]:List nR),()),())),(0,())),()))))++(cut x2.1.1 0 ((ab x2.2) - 0)))))) (aJ (cZ ((0+(ae (cut x2.1.1 0 ((ab x2.2) - 0))))+1) 80) (aJ (inc x2.2 (x2.1.1.length:Int)) (aJ (decide (((0+(ae (cut x2.1.1 0 ((ab x2.2) - 0))))+1)<=(ae ((aM (0+(ae (cut x2.1.1 0 ((ab x2.2) - 0)))) ((aM 0 (ai 0 (((ai 32 0),(0,())),(((0,((([]:List nR),()),())),(0,())),()))))++(cut x2.1.1 0 ((ab x2.2) - 0))))++ [x2.1.2])))) (aJ (cZ (((0+(ae (cut x2.1.1 0 ((ab x2.2) - 0))))+1)+(ae (cut x2.1.1 (ab x2.2) ((ae x2.1.1) - (ab x2.2))))) 80) (aJ (decide (0=0/\(0+(((0+(ae (cut x2.1.1 0 ((ab x2.2) - 0))))+1)+(ae (cut x2.1.1 (ab x2.2) ((ae x2.1.1) - (ab x2.2))))))<=(ae ((aM ((0+(ae (cut x2.1.1 0 ((ab x2.2) - 0))))+1) ((aM (0+(ae (cut x2.1.1 0 ((ab x2.2) - 0)))) ((aM 0 (ai 0 (((ai 32 0),(0,())),(((0,((([]:List nR),()),())),(0,())),()))))++(cut x2.1.1 0 ((ab x2.2) - 0))))++ [x2.1.2]))++(cut x2.1.1 (ab x2.2) ((ae x2.1.1) - (ab x2.2))))))) (k (Nh.out (cut ((aM ((0+(ae (cut x2.1.1 0 ((ab x2.2) - 0))))+1) ((aM (0+(ae (cut x2.1.1 0 ((ab x2.2) - 0)))) ((aM 0 (ai 0 (((ai 32 0),(0,())),(((0,((([]:List nR),()),())),(0,())),()))))++(cut x2.1.1 0 ((ab x2.2) - 0))))++ [x2.1.2]))++(cut x2.1.1 (ab x2.2) ((ae x2.1.1) - (ab x2.2)))) 0 (((0+(ae (cut x2.1.1 0 ((ab x2.2) - 0))))+1)+(ae (cut x2.1.1 (ab x2.2) ((ae x2.1.1) - (ab x2.2)))))))) aH) aH) aH) aH) aH) aH) aH) aH:=cd
theorem auO:(Nh.jx 0 ue):=by
 refine(Nh.mf 0 ue) (λ(l,_,i)=>l.length - i.toNat) ?_
 rintro⟨l,c,i⟩ ⟨hl,hq,hc,k,hk,rfl⟩;have hl:l.length<=1000000:=hl;have hk:k<=l.length:=hk;by_cases fF:k < l.length
 ·have n1:nth ez l k=l[k]:=bY (t:=ez) fF;have hb:XA.call (l[k].1,c.1)=av (aOW l[k].1 c.1):=aNd (d:=(l[k].1,c.1)) ⟨hq _ (aK fF),hc⟩;have hd:aaO (l.drop k) c.1=if aOW l[k].1 c.1=bm then aaO (l.drop (k+1)) c.1+1 else 0:=by unfold aaO;rw[au fF,List.takeWhile_cons];split <;> rfl
  cases h:aOW l[k].1 c.1 with
  |true=>
   left;rw[h,if_pos rfl]at hd;refine⟨(l,c,((k+1:Nat):Int)),⟨hl,hq,hc,k+1,aq,rfl⟩,by simp only[aa];omega,?_,λkn kx=> ?_⟩
   ·simp only[xH,Em,aa,hd];rw[show((k+1:Nat):Int)+(aaO (l.drop (k+1)) c.1:Int)=(k:Int)+((aaO (l.drop (k+1)) c.1+1:Nat):Int) by omega]
   ·rw[G1,aS aq,aj,ba aq aq,aj,aa,n1,hb,ag,h,aj,N.jL aq]
  |false=>
   right;rw[h,if_neg (by simp)]at hd;intro T kn kx;rw[G1,aS aq,aj,ba aq aq,aj,aa,n1,hb,ag,h,al];simp only[xH,Em,aa,hd];rw[show(k:Int)+((0:Nat):Int)=k by omega]
 ·right;obtain rfl:k=l.length:=aq;intro T kn kx;rw[G1,aQ aq,al];simp only[xH,Em,aa,aI];rw[show(l.length:Int)+((aaO [] c.1:Nat):Int)=l.length by show(l.length:Int)+0=_;omega]
theorem aNZ:Nh.Ok:=by
 rintro⟨l,c⟩ ⟨hl,hq,hc⟩;have hl:l.length<=1000000:=hl;have hm:=aPQ l c.1;rw[aNY,aph (d:=(l,c,0)) ⟨hl,hq,hc,0,aL _,rfl⟩];simp only[ag,xH,Em,aT,ay,bq,aCh,mD,aa,kr,aV,dD,aY];rw[al3];generalize aaO l c.1=m at hm ⊢;have e1:cut l 0 m=l.take m:=by simp[cut]
 have e2:cut l m (l.length - m)=l.drop m:=by unfold cut;rw[bu (by rw[du];omega)]
 have l1:(l.take m).length=m:=by rw[bV];omega
 have l2:(l.drop m).length=l.length - m:=du;have t1:aM m (l.take m)=l.take m:=bu aq;have l3:(l.take m++ [c]).length=m+1:=by rw[ak,l1];rfl
 have t2:aM (m+1) (l.take m++ [c])=l.take m++ [c]:=bu aq;have l4:(l.take m++ [c]++l.drop m).length=m+1+(l.length - m):=by rw[ak,l3,l2]
 simp only[e1,e2,l1,l2,t1,l3,t2,l4,az,b8,aj,gm];rw[oo aq aq,aj,cM aq aq,aj,cM aq aq,aj,aj,cM aq aq,aj,QM l4];simp only[aO,cE]
theorem aGX:Nh.RS:=rE [.d (.slice ez),.d ez] Nh
def aN0:=Nh.eY aNZ 1 ⟨.e7 auO,trivial⟩
abbrev AA:=(List ei)×cz×Int
def sX:AA->AS:=λ(tl,aBx,i)=>⟨([.d (.slice ez) tl,bE,bE,.dz bQ aBx,bE,.d ti i]++aW 14 []),[],(ai 20 [])⟩
def zJ:Int->Exit×AS:=λx=>(.ret,⟨(aW 4 ([.d ti x]++aW 15 [])),[],(ai 20 [])⟩)
def zK:Unit->Exit×AS:=λx=>(.exit 0,⟨(aW 20 []),[],(ai 20 [])⟩)
abbrev Nc:=(Int)⊕(Unit)
abbrev aaj:=(Int)⊕(Unit)
def G0:Nc->Out (Exit×AS):=λx=> .br x.isLeft (.get x.getLeft? λa=> .ok (zJ a)) (.get x.getRight? λb=> .ok (zK b))
def kV:AA->aaj->Nc:=λ(tl,aBx,i) y=>match y with | .inl y=> .inl y | .inr z=> .inr (z)
abbrev auz:=(List ei)×cz
def zI:AA->Prop:=λ(l,o,i)=>l.length<=1000000/\∃k:Nat,k<=l.length/\i=k
def oZ:AA->aaj:=λ(l,o,i)=>if vy (l.drop i.toNat) o i < 0 then .inr () else .inl (vy (l.drop i.toNat) o i)
def azw:auz->Prop:=λ(l,o)=>l.length<=1000000
def auA:auz->Int:=λ(l,o)=>vy l o 0
def aah:=dB.e7 sX zI kV oZ G0
def Nd:AA->Option Nc:=fS aah sX
def rK:Fs Tryz.prog azw bq auA:=eV 143 Tryz.f143 (λ(l,o)=>([.d (.slice ez) l,.d bQ o],[])) (λx=>⟨.d ti x,[],[]⟩) [av (.slice ez),av bQ] [] {loops:=lz [(2,{bg:=[0,3,5]})],outs:=lu [(2,{},{bg:=[4]})],fa:=mc [(2,aah)]}
def aai:= @ej Tryz.prog (jr rK.G) rK.an 0 Tryz.f143 0 _ sX
abbrev Vs:=jj Tryz.prog (jr rK.G) rK.an 0 Tryz.f143 0 sX zI kV oZ G0
theorem aiZ:ik Nd zI kV oZ:=jX (jA [.d (.slice ez),.d bQ,.d ti] λ_=>cd)
theorem RV:ma @aai sX zI kV oZ G0 Vs:=mJ
theorem Ek(tl aBx i)(kn:K2 R)(kx:K3 R):aai (tl,aBx,i) kn kx=aJ (fv i (((ae tl):Nat):Int)) (aJ (eA i (((ae tl):Nat):Int)) (aJ (Ty.beq bQ (nth ez tl (ab i)).1 aBx) (kx (zJ i).1 (zJ i).2) (kn (sX (tl,aBx,(bz .i64 i (1:Int)))))) aH) (kx (zK ()).1 (zK ()).2):=cd
theorem aGQ(l o)(k:K1 R):rK.A (l,o) k=ao (Nd (l,o,0)) λx1=>aJ x1.isLeft (ao x1.getLeft? λa2=>k (rK.out a2)) (ao x1.getRight? λb3=>k (rK.out (-1))):=cd
theorem apd:Vs:=by
 refine RV (λ(l,_,i)=>l.length - i.toNat) ?_
 rintro⟨l,o,i⟩ ⟨hl,k,hk,rfl⟩;have hl:l.length<=1000000:=hl;have hk:k<=l.length:=hk;by_cases fF:k < l.length
 ·have n1:nth ez l k=l[k]:=bY (t:=ez) fF;have hd:vy (l.drop k) o k=if Ty.beq bQ l[k].1 o=bm then(k:Int) else vy (l.drop (k+1)) o ((k+1:Nat):Int):=by rw[au fF,vy];rfl
  cases h:Ty.beq bQ l[k].1 o with
  |true=>
   right;rw[h,if_pos rfl]at hd;refine⟨zJ (k:Int),?_,λkn kx=> ?_⟩
   ·simp only[kV,oZ,aa,hd];simp only[show ¬(k:Int) < 0 by omega,bC];rfl
   ·rw[Ek,aS aq,aj,ba aq aq,aj,aa,n1,h,aj]
  |false=>
   left;rw[h,if_neg (by simp)]at hd;refine⟨(l,o,((k+1:Nat):Int)),⟨hl,k+1,aq,rfl⟩,by simp only[aa];omega,?_,λkn kx=> ?_⟩
   ·simp only[kV,oZ,aa,hd]
   ·rw[Ek,aS aq,aj,ba aq aq,aj,aa,n1,h,al,N.jL aq]
 ·right;obtain rfl:k=l.length:=aq;refine⟨zK (),?_,λkn kx=> ?_⟩
  ·simp only[kV,oZ,aa,aI];rfl
  ·rw[Ek,aQ aq,al]
theorem aGR:rK.Ok:=by
 rintro⟨l,o⟩ hl;rw[aGQ,aiZ (d:=(l,o,0)) ⟨hl,0,aL _,rfl⟩];simp only[ag,kV,oZ,aT,ay,bq,auA];rcases ax3 (l:=l) (o:=o) (eF 0) with h | ⟨h,_⟩
 ·simp only[h];rfl
 ·simp only[show ¬vy l o 0 < 0 by omega,bC];rfl
theorem azx:rK.RS:=rE [.d (.slice ez),.d bQ] rK
def alG:=rK.eY aGR 1 ⟨.e7 apd,trivial⟩
theorem Xe{l:List ei}(hl:l.length<=1000000)(o:cz):(rK.call (l,o)=av (-1)/\cw bQ o (jF l)=aH)\/
  ∃(k:Nat) (h:k < l.length),rK.call (l,o)=av (k:Int)/\cw bQ o (jF l)=av l[k].2.1/\AQ l o=l.take k++l.drop (k+1)/\nth ez l k=l[k]:=by
 have hr:rK.call (l,o)=av (vy l o 0):=azx (d:=(l,o)) hl;rw[hr];rcases Rx l o 0 (eF 0) with⟨h1,h2,_⟩ | ⟨k,hk,h1,h2,h3,_⟩
 ·exact .inl ⟨by rw[h1],h2⟩
 ·exact .inr ⟨k,hk,by rw[h1,mD],h2,h3,bY (t:=ez) hk⟩
abbrev Xw:=Nat×Int×(List ei)×Nat×(List (List ei))×(List cz)
abbrev ak9:=Nat×(List cz)
def Fv:Xw->ak9->(((List ei)×Nat×(List (List ei)))×(Nat×(List cz))):=λ(outL,i,o0,o0L,cP,n24) y=>((o0,o0L,cP),y)
abbrev aM4:=(List ei)×Nat×(List (List ei))
def aud:Xw->Prop:=λ(n,i,l,_,_,r)=>l.length<=1000000/\n=r.length/\∃k:Nat,k<=l.length/\i=k/\r.length=k
def Oz:Xw->ak9:=λ(n,i,l,_,_,r)=>((r++(l.drop i.toNat).map (·.1)).length,r++(l.drop i.toNat).map (·.1))
def aM5:aM4->Prop:=λ(l,_,_)=>l.length<=1000000
def ay3:aM4->((List cz)×(List ei)×Nat×(List (List ei))):=λ(l,n,w)=>(l.map (·.1),l,n,w)
def CH:Ls aud Fv Oz:=pD (λ(outL,i,o0,o0L,cP,n24)=>⟨([.ptr (.bP 0) 0 [] 0,bE,bE,jl 24 outL,.d ti i]++aW 21 []),[dq (.pr (.d (.slice ez) o0) (.pr (.bU (.bP 1) 0 [] 0 0 o0L) gR)),dq (.vec 104 (.slice ez) cP)],(bw 24 [dm (.vec 62 bQ n24),[]])⟩) (λx=>(.exit 0,⟨([bE,bE,bE,jl 24 x.2.1]++aW 22 []),[dq (.pr (.d (.slice ez) x.1.1) (.pr (.bU (.bP 1) 0 [] 0 0 x.1.2.1) gR)),dq (.vec 104 (.slice ez) x.1.2.2)],(bw 24 [dm (.vec 62 bQ x.2.2),[]])⟩))
def UY:Fs Tryz.prog aM5 bq ay3:=eV 22 Tryz.f22 (λ(o0a,o0baL,o1)=>([.ptr (.bP 0) 0 [] 0],[.obj 0 aZ (.pr (.d (.slice ez) o0a) (.pr (.bU (.bP 1) 0 [] 0 0 o0baL) (.d .unit ()))),.obj 0 aZ (.vec 104 (.slice ez) o1)])) (λx=>⟨.d (.slice bQ) x.1,[.obj 0 aZ (.pr (.d (.slice ez) x.2.1) (.pr (.bU (.bP 1) 0 [] 0 0 x.2.2.1) (.d .unit ()))),.obj 0 aZ (.vec 104 (.slice ez) x.2.2.2)],[]⟩) [aH] [] {loops:=lz [(3,{bg:=[0,3,4],sites:=[24],owns:=[⟨3,[],24,26⟩]})],outs:=lu [(3,{bg:=[3],sites:=[24]},{bg:=[2]})],fa:=mc [(3,CH.E)],res:=[av (.slice bQ)]}
theorem aue:CH.RS:=rL [.n,.d ti,.d (.slice ez),.n,.d (.slice (.slice ez)),.d (.slice bQ)] CH
theorem UZ(outL i o0 o0L cP n24)(kn:K2 R)(kx:K3 R):UY.R 0 CH (outL,i,o0,o0L,cP,n24) kn kx=aJ (fv i (o0.length:Int)) (aJ (eA i (o0.length:Int)) (aJ (decide (outL<=(ae n24))) (aJ (cZ (outL+1) 40) (kn (CH.st ((outL+1),(bz .i64 i 1),o0,o0L,cP,((aM outL n24)++ [(nth ez o0 (ab i)).1])))) aH) aH) aH) (CH.go kx ((o0,o0L,cP),(outL,n24))):=cd
theorem aRI(o0a o0baL o1)(k:K1 R):UY.A (o0a,o0baL,o1) k=ao (CH.call (0,0,o0a,o0baL,o1,([]:List cz))) λx1=>aJ (decide (0=0/\(0+x1.2.1)<=(ae x1.2.2))) (k (UY.out ((cut x1.2.2 0 x1.2.1),x1.1.1,x1.1.2.1,x1.1.2.2))) aH:=cd
theorem ay4:(UY.jx 0 CH):=by
 refine(UY.mf 0 CH) (λ(_,i,l,_,_,_)=>l.length - i.toNat) ?_
 rintro⟨n,i,l,n2,w,r⟩ ⟨hl,rfl,k,hk,rfl,hr⟩;have hl:l.length<=1000000:=hl;have hk:k<=l.length:=hk;have hr:r.length=k:=hr;by_cases fF:k < l.length
 ·left;have n1:nth ez l k=l[k]:=bY (t:=ez) fF;have el:(r++ [l[k].1]).length=r.length+1:=by rw[ak];rfl
  refine⟨(r.length+1,((k+1:Nat):Int),l,n2,w,r++ [l[k].1]),⟨hl,el.symm,k+1,aq,rfl,by show(r++ [l[k].1]).length=_;omega⟩,by simp only[aa];omega,?_,λkn kx=> ?_⟩
  ·simp only[Fv,Oz,aa];rw[au fF,cj,aO,cE]
  ·rw[UZ,aS aq,aj,ba aq aq,aj,aX (az _),aj,cM aq aq,aj,N.jL aq,aa,n1,bN]
 ·right;obtain rfl:k=l.length:=aq;intro T kn kx;rw[UZ,aQ aq,al];simp only[Fv,Oz,aa,aI,fK,bK]
theorem aRJ:UY.Ok:=by rintro⟨l,n,w⟩ hl;rw[aRI,aue (d:=(0,0,l,n,w,[])) ⟨hl,rfl,0,aL _,rfl,rfl⟩];simp only[ag,Fv,Oz,aT,ay,aY,aV,az,gm,b8,aj,ea,bq,ay3]
theorem aM6:UY.RS:=rE [.d (.slice ez),.n,.d (.slice (.slice ez))] UY
def aRK:=UY.eY aRJ 1 ⟨.e7 ay4,trivial⟩
abbrev X1:=Int×Int×(List ei)×Nat×(List (List ei))
def FU:X1->Int->(((List ei)×Nat×(List (List ei)))×(Int)):=λ(sum,i,o0,o0L,cP) y=>((o0,o0L,cP),y)
abbrev aNP:=(List ei)×Nat×(List (List ei))
def auG:X1->Prop:=λ(sum,i,l,_,_)=>l.length<=1000000/\(∀p∈jF l,0<=p.2.1.1)/\0<=sum/\∃k:Nat,k<=l.length/\i=k/\sum+gM (jF (l.drop k))<=1000000000000000000
def OF:X1->Int:=λ(sum,i,l,_,_)=>sum+gM (jF (l.drop i.toNat))
def aNQ:aNP->Prop:=λ(l,_,_)=>l.length<=1000000/\(∀p∈jF l,0<=p.2.1.1)/\gM (jF l)<=1000000000000000000
def azB:aNP->(Int×(List ei)×Nat×(List (List ei))):=λ(l,n,w)=>(gM (jF l),l,n,w)
def CP:Ls auG FU OF:=pD (λ(sum,i,o0,o0L,cP)=>⟨([.ptr (.bP 0) 0 [] 0,bE,bE,.d ti sum,.d ti i]++aW 22 []),[dq (.pr (.d (.slice ez) o0) (.pr (.bU (.bP 1) 0 [] 0 0 o0L) gR)),dq (.vec 104 (.slice ez) cP)],(ai 27 [])⟩) (λx=>(.exit 0,⟨([bE,bE,bE,.d ti x.2]++aW 23 []),[dq (.pr (.d (.slice ez) x.1.1) (.pr (.bU (.bP 1) 0 [] 0 0 x.1.2.1) gR)),dq (.vec 104 (.slice ez) x.1.2.2)],(ai 27 [])⟩))
def agD:Fs Tryz.prog aNQ bq azB:=eV 24 Tryz.f24 (λ(o0a,o0baL,o1)=>([.ptr (.bP 0) 0 [] 0],[.obj 0 aZ (.pr (.d (.slice ez) o0a) (.pr (.bU (.bP 1) 0 [] 0 0 o0baL) (.d .unit ()))),.obj 0 aZ (.vec 104 (.slice ez) o1)])) (λx=>⟨.d ti x.1,[.obj 0 aZ (.pr (.d (.slice ez) x.2.1) (.pr (.bU (.bP 1) 0 [] 0 0 x.2.2.1) (.d .unit ()))),.obj 0 aZ (.vec 104 (.slice ez) x.2.2.2)],[]⟩) [aH] [] {loops:=lz [(3,{bg:=[0,3,4]})],outs:=lu [(3,{bg:=[3]},{bg:=[2]})],fa:=mc [(3,CP.E)]}
theorem auH:CP.RS:=rL [.d ti,.d ti,.d (.slice ez),.n,.d (.slice (.slice ez))] CP
theorem Vw(sum i o0 o0L cP)(kn:K2 R)(kx:K3 R):agD.R 0 CP (sum,i,o0,o0L,cP) kn kx=aJ (fv i (o0.length:Int)) (aJ (eA i (o0.length:Int)) (kn (CP.st ((bz .i64 sum (nth ez o0 (ab i)).2.1.1.1),(bz .i64 i 1),o0,o0L,cP))) aH) (CP.go kx ((o0,o0L,cP),sum)):=cd
theorem aSb(o0a o0baL o1)(k:K1 R):agD.A (o0a,o0baL,o1) k=ao (CP.call (0,0,o0a,o0baL,o1)) λx1=>k (agD.out (x1.2,x1.1.1,x1.1.2.1,x1.1.2.2)):=cd
theorem azC:(agD.jx 0 CP):=by
 refine(agD.mf 0 CP) (λ(_,i,l,_,_)=>l.length - i.toNat) ?_
 rintro⟨sum,i,l,n,w⟩ ⟨hl,hp,h0,k,hk,rfl,hs⟩;have hl:l.length<=1000000:=hl;have hk:k<=l.length:=hk;have h0:0<=sum:=h0;by_cases fF:k < l.length
 ·left;have n1:nth ez l k=l[k]:=bY (t:=ez) fF;have hd:gM (jF (l.drop k))=l[k].2.1.1.1+gM (jF (l.drop (k+1))):=by rw[au fF];show gM ((l[k].1,l[k].2.1)::jF (l.drop (k+1)))=_;rw[mm]
  have hx:0<=l[k].2.1.1.1:=hp (l[k].1,l[k].2.1) (dy.2 ⟨l[k],aK fF,rfl⟩);have hr:0<=gM (jF (l.drop (k+1))):=Sn λp hm=>by obtain⟨e,he,rfl⟩:=dy.1 hm;exact hp (e.1,e.2.1) (dy.2 ⟨e,qJ he,rfl⟩)
  rw[hd]at hs;refine⟨(sum+l[k].2.1.1.1,((k+1:Nat):Int),l,n,w),⟨hl,hp,by show 0<=sum+l[k].2.1.1.1;omega,k+1,aq,rfl,aq⟩,by simp only[aa];omega,?_,λkn kx=> ?_⟩
  ·simp only[FU,OF,aa,hd,tF]
  ·rw[Vw,aS aq,aj,ba aq aq,aj,aa,n1,fA aq aq,N.jL aq]
 ·right;obtain rfl:k=l.length:=aq;intro T kn kx;rw[Vw,aQ aq,al];simp only[FU,OF,aa,aI];rw[show sum+gM (jF [])=sum by show sum+0=_;omega]
theorem aSc:agD.Ok:=by rintro⟨l,n,w⟩ ⟨hl,hp,hs⟩;have hs:gM (jF l)<=1000000000000000000:=hs;rw[aSb,auH (d:=(0,0,l,n,w)) ⟨hl,hp,eF 0,0,aL _,rfl,by rw[ay];omega⟩];simp only[ag,FU,OF,aT,ay,mD,bq,azB]
theorem aNR:agD.RS:=rE [.d (.slice ez),.n,.d (.slice (.slice ez))] agD
def aSd:=agD.eY aSc 1 ⟨.e7 azC,trivial⟩
abbrev azE:=(List ei)×Nat×(List (List ei))
abbrev aNW:=Bool×(List ei)×Nat
def VA:azE->aNW->(((List (List ei)))×(Bool×(List ei)×Nat)):=λ(o0a,o0baL,o1) y=>(o1,y)
def aNV:azE->Prop:=λ(l,n,w)=>n<=w.length/\w.length<=1000000
def apf:azE->aNW:=λ(l,n,w)=>if n=0 then(aZ,l,n) else(bm,nth (.slice ez) w (n - 1),n - 1)
def auN:Fs Tryz.prog aNV VA apf:=eV 79 Tryz.f79 (λ(o0a,o0baL,o1)=>([.ptr (.bP 0) 0 [] 0],[.obj 0 aZ (.pr (.d (.slice ez) o0a) (.pr (.bU (.bP 1) 0 [] 0 0 o0baL) (.d .unit ()))),.obj 0 aZ (.vec 104 (.slice ez) o1)])) (λx=>⟨.d .bool x.2.1,[.obj 0 aZ (.pr (.d (.slice ez) x.2.2.1) (.pr (.bU (.bP 1) 0 [] 0 0 x.2.2.2) (.d .unit ()))),.obj 0 aZ (.vec 104 (.slice ez) x.1)],[]⟩) [aH]
theorem aSh(o0a o0baL o1)(k:K1 R):auN.A (o0a,o0baL,o1) k=aJ (fv (df .i64 ((o0baL:Nat):Int) 1) 0) (k (auN.out (o1,(aZ,o0a,o0baL)))) (aJ (eA (df .i64 ((o0baL:Nat):Int) 1) ((o0baL:Nat):Int)) (aJ (decide ((0+(ab (df .i64 ((o0baL:Nat):Int) 1))) < (ae o1))) (aJ (decide ((((0+(ab (df .i64 ((o0baL:Nat):Int) 1)))*1)+0)=(0+((ab (df .i64 ((o0baL:Nat):Int) 1))*1)))) (aJ (inc (df .i64 ((o0baL:Nat):Int) 1) ((o0baL:Nat):Int)) (k (auN.out (o1,(bm,(nth (.slice ez) o1 (0+(ab (df .i64 ((o0baL:Nat):Int) 1)))),((ab (df .i64 ((o0baL:Nat):Int) 1)) - 0))))) aH) aH) aH) aH):=cd
theorem aSi:auN.Ok:=by
 rintro⟨l,n,w⟩ ⟨hn,hw⟩;have hn:n<=w.length:=hn;have hw:w.length<=1000000:=hw;rw[aSh,fI aq aq];simp only[VA,apf];cases n with
 |zero=>rw[aS aq,aj];rfl
 |succ n=>
  have e:(((n+1:Nat):Int) - 1).toNat=n:=aq;rw[aQ aq,al,ba aq aq,aj,oo aq aq];simp only[e,aV,cD,b8,aj,kr,pd,Nat.add_one_ne_zero,bC];rw[aX (show n < w.length by omega),aj]
theorem aNX:auN.RS:=rE [.d (.slice ez),.n,.d (.slice (.slice ez))] auN
def aSj:=auN.eY aSi
end
end Go.Ab
end
