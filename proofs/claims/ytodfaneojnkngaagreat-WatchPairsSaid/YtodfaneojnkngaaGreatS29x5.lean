/-
  Made short by a program of mine (wip/tools/mini.py).
-/
import Derived.Test.YtodfaneojnkngaaGreatS29x4
import Derived.Test.YtodfaneojnkngaaGreatProg
import Derived.Shelf.SlSortCmp.NoneTotal
set_option linter.unusedVariables false
set_option linter.unusedSimpArgs false
set_option maxRecDepth 100000
set_option synthInstance.maxSize 5000
open List renaming replicate->ab,set->gN,length->ag,take->aW,drop->bZ
open BitVec renaming ofInt->bo
open UInt8 renaming ofNat->fQ
open Int renaming toNat->ae
open Or renaming inr->fN,inl->mL
open Option renaming some->av,none->aD
open Bool renaming true->aZ,false->aQ
noncomputable section
variable {R:Type}
namespace Go.Ab
open Go.Proofs
abbrev Fi:=Bs×Bs×Int×Int
def tR:Fi->AS:=λ(CA,lz,t12,t13)=>⟨([.d tB CA,.d tB lz]++aS 10 ([.d ti t12,.d ti t13]++aS 12 [])),[],(ab 26 [])⟩
def uu:Unit->Exit×AS:=λx=>(.ret,⟨(aS 4 ([.d .bool aQ]++aS 21 [])),[],(ab 26 [])⟩)
def De:Unit->Exit×AS:=λx=>(.exit 0,⟨(aS 26 []),[],(ab 26 [])⟩)
abbrev UK:=(Unit)⊕(Unit)
abbrev ahm:=(Unit)⊕(Unit)
def Jp:UK->Out (Exit×AS):=λx=> .br x.isLeft (.get x.getLeft? λa=> .ok (uu a)) (.get x.getRight? λb=> .ok (De b))
def nT:Fi->ahm->UK:=λ(CA,lz,t12,t13) y=>match y with | .inl y=> .inl y | .inr z=> .inr (z)
def Dd:Fi->Prop:=λ(a,b,m,i)=>a.length<=1000000000/\a.length=b.length/\m=a.length/\∃k:Nat,k<=a.length/\i=k
def ur:Fi->ahm:=λ(a,b,m,i)=>if a.drop i.toNat=b.drop i.toNat then .inr () else .inl ()
def aEO:(Bs×Bs)->Prop:=λ(a,b)=>a.length<=1000000000
def asL:(Bs×Bs)->Bool:=λ(a,b)=>decide (a=b)
def ahl:=dI.fI tR Dd nT ur Jp
def Q4:Fi->Option UK:=gO ahl tR
def UI:Fs Tryz.prog aEO bC asL:=fw 179 Tryz.f179 (λ(s1,s2)=>([.d tB s1,.d tB s2],[])) (λx=>⟨.d .bool x,[],[]⟩) [av tB,av tB] [] {loops:=oJ [(4,{ba:=[0,1,12,13]})],outs:=oI [(4,{},{ba:=[4]})],gf:=nQ [(4,ahl)]}
def UJ:= @eG Tryz.prog (jQ UI.G) UI.an 0 Tryz.f179 0 _ tR
abbrev aax:=j7 Tryz.prog (jQ UI.G) UI.an 0 Tryz.f179 0 tR Dd nT ur Jp
theorem anw:jh Q4 Dd nT ur:=lH (jx [.d tB,.d tB,.d ti,.d ti] λ_=>cr)
theorem UL:mK @UJ tR Dd nT ur Jp aax:=nc
theorem Q5(CA lz t12 t13)(kn:K2 R)(kx:K3 R):UJ (CA,lz,t12,t13) kn kx=aL (gz t13 t12) (aL (eL t13 (((ag CA):Nat):Int)) (aL (eL t13 (((ag lz):Nat):Int)) (aL (zg (nth tb CA (ae t13)) (nth tb lz (ae t13))) (kx (uu ()).1 (uu ()).2) (kn (tR (CA,lz,t12,(bO .i64 t13 (1:Int)))))) aD) aD) (kx (De ()).1 (De ()).2):=cr
theorem aL0(s1 s2)(k:K1 R):UI.A (s1,s2) k=aL (zg (s1.length:Int) (s2.length:Int)) (k (UI.out aQ)) (al (Q4 (s1,s2,(s1.length:Int),0)) λx1=>aL x1.isLeft (al x1.getLeft? λa2=>k (UI.out aQ)) (al x1.getRight? λb3=>k (UI.out aZ))):=cr
theorem asM:aax:=by
 refine UL (λ(a,b,m,i)=>a.length - i.toNat) ?_
 rintro⟨a,b,m,i⟩ ⟨hl,MP,rfl,k,hk,rfl⟩;have hl:a.length<=1000000000:=hl;have MP:a.length=b.length:=MP;have hk:k<=a.length:=hk;by_cases h:k < a.length
 ·have h2:k < b.length:=ak;have n1:nth (.int .u8) a k=a[k]:=cg (t:=(.int .u8)) h;have n2:nth (.int .u8) b k=b[k]:=cg (t:=(.int .u8)) h2;have hd:(a.drop k=b.drop k)=(a[k]=b[k]/\a.drop (k+1)=b.drop (k+1)):=by rw[aq h,aq h2,dB]
  have step:∀ {R:Type} (kn:AS->Option R) (kx:Exit->AS->Option R),UJ (a,b,(a.length:Int),(k:Int)) kn kx=if a[k]=b[k] then kn (tR (a,b,(a.length:Int),((k+1:Nat):Int))) else kx (uu ()).1 (uu ()).2:=by
   intro R kn kx;rw[Q5,aX ak,bj ak ak,bj ak ak,aa,n1,n2,N.mZ ak];simp only[aj];by_cases hx:a[k]=b[k]
   ·rw[dP hx,if_pos hx];rfl
   ·rw[fD hx,if_neg hx];rfl
  by_cases hx:a[k]=b[k]
  ·left;refine⟨(a,b,(a.length:Int),((k+1:Nat):Int)),⟨hl,MP,rfl,k+1,ak,rfl⟩,by simp only[aa];omega,?_,λkn kx=> ?_⟩
   ·simp only[nT,ur,aa,hd,hx,nL]
   ·rw[step,if_pos hx]
  ·right;refine⟨uu (),?_,λkn kx=> ?_⟩
   ·simp only[nT,ur,aa,hd,hx,false_and,bA];rfl
   ·rw[step,if_neg hx]
 ·right;obtain rfl:k=a.length:=ak;refine⟨De (),?_,λkn kx=> ?_⟩
  ·simp only[nT,ur,aa,aN];rw[MP,aN,if_pos rfl];rfl
  ·rw[Q5,aU ak,ao]
theorem aL1:UI.Ok:=by
 rintro⟨a,b⟩ hl;have hl:a.length<=1000000000:=hl;rw[aL0];simp only[bC,asL];by_cases h:a.length=b.length
 ·rw[dP ak,ao,anw (d:=(a,b,(a.length:Int),0)) ⟨hl,h,rfl,0,aP _,rfl⟩];simp only[ah,nT,ur,bg,aG];by_cases hx:a=b
  ·rw[if_pos hx,aM hx];rfl
  ·rw[if_neg hx,aV hx];rfl
 ·rw[fD ak,aV (λx=>h (by rw[x]))];rfl
theorem aEP:UI.RS:=rE [.d tB,.d tB] UI
def aL2:=UI.fC aL1 1 ⟨.fI asM,trivial⟩
abbrev Kk:=Bs×Bs×Int×Int
def xi:Kk->AS:=λ(CA,lz,t12,t13)=>⟨([.d tU CA,.d tU lz]++aS 10 ([.d ti t12,.d ti t13]++aS 12 [])),[],(ab 26 [])⟩
def xh:Unit->Exit×AS:=λx=>(.ret,⟨(aS 4 ([.d .bool aQ]++aS 21 [])),[],(ab 26 [])⟩)
def Ht:Unit->Exit×AS:=λx=>(.exit 0,⟨(aS 26 []),[],(ab 26 [])⟩)
abbrev adj:=(Unit)⊕(Unit)
abbrev aqm:=(Unit)⊕(Unit)
def Qg:adj->Out (Exit×AS):=λx=> .br x.isLeft (.get x.getLeft? λa=> .ok (xh a)) (.get x.getRight? λb=> .ok (Ht b))
def qC:Kk->aqm->adj:=λ(CA,lz,t12,t13) y=>match y with | .inl y=> .inl y | .inr z=> .inr (z)
def Hs:Kk->Prop:=λ(a,b,m,i)=>a.length<=1000000000/\a.length=b.length/\m=a.length/\∃k:Nat,k<=a.length/\i=k
def yQ:Kk->aqm:=λ(a,b,m,i)=>if a.drop i.toNat=b.drop i.toNat then .inr () else .inl ()
def aOf:(Bs×Bs)->Prop:=λ(a,b)=>a.length<=1000000000
def aIT:(Bs×Bs)->Bool:=λ(a,b)=>decide (a=b)
def aql:=dI.fI xi Hs qC yQ Qg
def X3:Kk->Option adj:=gO aql xi
def peq:Fs Tryz.prog aOf bC aIT:=fw 78 Tryz.f78 (λ(s1,s2)=>([.d tU s1,.d tU s2],[])) (λx=>⟨.d .bool x,[],[]⟩) [av tU,av tU] [] {loops:=oJ [(4,{ba:=[0,1,12,13]})],outs:=oI [(4,{},{ba:=[4]})],gf:=nQ [(4,aql)]}
def adi:= @eG Tryz.prog (jQ peq.G) peq.an 0 Tryz.f78 0 _ xi
abbrev aix:=j7 Tryz.prog (jQ peq.G) peq.an 0 Tryz.f78 0 xi Hs qC yQ Qg
theorem auU:jh X3 Hs qC yQ:=lH (jx [.d tU,.d tU,.d ti,.d ti] λ_=>cr)
theorem Y1:mK @adi xi Hs qC yQ Qg aix:=nc
theorem X4(CA lz t12 t13)(kn:K2 R)(kx:K3 R):adi (CA,lz,t12,t13) kn kx=aL (gz t13 t12) (aL (eL t13 (((ag CA):Nat):Int)) (aL (eL t13 (((ag lz):Nat):Int)) (aL (zg (nth tu CA (ae t13)) (nth tu lz (ae t13))) (kx (xh ()).1 (xh ()).2) (kn (xi (CA,lz,t12,(bO .i64 t13 (1:Int)))))) aD) aD) (kx (Ht ()).1 (Ht ()).2):=cr
theorem aRV(s1 s2)(k:K1 R):peq.A (s1,s2) k=aL (zg (s1.length:Int) (s2.length:Int)) (k (peq.out aQ)) (al (X3 (s1,s2,(s1.length:Int),0)) λx1=>aL x1.isLeft (al x1.getLeft? λa2=>k (peq.out aQ)) (al x1.getRight? λb3=>k (peq.out aZ))):=cr
theorem aBQ:aix:=by
 refine Y1 (λ(a,b,m,i)=>a.length - i.toNat) ?_
 rintro⟨a,b,m,i⟩ ⟨hl,MP,rfl,k,hk,rfl⟩;have hl:a.length<=1000000000:=hl;have MP:a.length=b.length:=MP;have hk:k<=a.length:=hk;by_cases h:k < a.length
 ·have h2:k < b.length:=ak;have n1:nth (.int .u64) a k=a[k]:=cg (t:=(.int .u64)) h;have n2:nth (.int .u64) b k=b[k]:=cg (t:=(.int .u64)) h2;have hd:(a.drop k=b.drop k)=(a[k]=b[k]/\a.drop (k+1)=b.drop (k+1)):=by rw[aq h,aq h2,dB]
  have step:∀ {R:Type} (kn:AS->Option R) (kx:Exit->AS->Option R),adi (a,b,(a.length:Int),(k:Int)) kn kx=if a[k]=b[k] then kn (xi (a,b,(a.length:Int),((k+1:Nat):Int))) else kx (xh ()).1 (xh ()).2:=by
   intro R kn kx;rw[X4,aX ak,bj ak ak,bj ak ak,aa,n1,n2,N.mZ ak];simp only[aj];by_cases hx:a[k]=b[k]
   ·rw[dP hx,if_pos hx];rfl
   ·rw[fD hx,if_neg hx];rfl
  by_cases hx:a[k]=b[k]
  ·left;refine⟨(a,b,(a.length:Int),((k+1:Nat):Int)),⟨hl,MP,rfl,k+1,ak,rfl⟩,by simp only[aa];omega,?_,λkn kx=> ?_⟩
   ·simp only[qC,yQ,aa,hd,hx,nL]
   ·rw[step,if_pos hx]
  ·right;refine⟨xh (),?_,λkn kx=> ?_⟩
   ·simp only[qC,yQ,aa,hd,hx,false_and,bA];rfl
   ·rw[step,if_neg hx]
 ·right;obtain rfl:k=a.length:=ak;refine⟨Ht (),?_,λkn kx=> ?_⟩
  ·simp only[qC,yQ,aa,aN];rw[MP,aN,if_pos rfl];rfl
  ·rw[X4,aU ak,ao]
theorem aRW:peq.Ok:=by
 rintro⟨a,b⟩ hl;have hl:a.length<=1000000000:=hl;rw[aRV];simp only[bC,aIT];by_cases h:a.length=b.length
 ·rw[dP ak,ao,auU (d:=(a,b,(a.length:Int),0)) ⟨hl,h,rfl,0,aP _,rfl⟩];simp only[ah,qC,yQ,bg,aG];by_cases hx:a=b
  ·rw[if_pos hx,aM hx];rfl
  ·rw[if_neg hx,aV hx];rfl
 ·rw[fD ak,aV (λx=>h (by rw[x]))];rfl
theorem aOg:peq.RS:=rE [.d tU,.d tU] peq
def aRX:=peq.fC aRW 1 ⟨.fI aBQ,trivial⟩
theorem Su{α:Type}{f:α->α->Bool}(hf:∀x,f x x=aZ):∀l:List α,ni f l l=aZ
 |[]=>rfl
 |x::l=>by rw[J3,hf,Su hf l];rfl
theorem Q6:∀(t:Ty) (x:t.den),t.comp=aZ->t.beq x x=aZ
 | .int _,x,_=>by simp[Ty.beq]
 | .bool,x,_=>by simp[Ty.beq]
 | .str,x,_=>by simp[Ty.beq]
 | .unit,_,_=>rfl
 | .pair a b,x,h=>by simp only[Ty.comp,au]at h;simp only[Ty.beq,Q6 a x.1 h.1,Q6 b x.2 h.2,xA]
 | .arr _ t,l,h=>Su (λx=>Q6 t x h) l
 | .slice _,_,h=>by cases h
 | .iT _,_,h=>by cases h
theorem aw2(t:Ty)(hc:t.comp=aZ)(x y:t.den) [Decidable (x=y)]:t.beq x y=decide (x=y):=by
 by_cases h:x=y
 ·subst h;rw[aM rfl,Q6 t x hc]
 ·rw[aV h];cases hb:t.beq x y
  ·rfl
  ·exact absurd (beq_eq t x y hc hb) h
theorem aQn(x y:Sg):Ty.beq BB x y=decide (x=y):= @aw2 BB rfl x y (inferInstanceAs (Decidable (x=y)))
theorem aQm(x y:bJ):Ty.beq bh x y=decide (x=y):= @aw2 bh rfl x y (inferInstanceAs (Decidable (x=y)))
abbrev Gc:=(List Sg)×(List Sg)×Int×Int
def um:Gc->AS:=λ(CA,lz,t12,t13)=>⟨([.d (.slice BB) CA,.d (.slice BB) lz]++aS 10 ([.d ti t12,.d ti t13]++aS 12 [])),[],(ab 26 [])⟩
def uT:Unit->Exit×AS:=λx=>(.ret,⟨(aS 4 ([.d .bool aQ]++aS 21 [])),[],(ab 26 [])⟩)
def D8:Unit->Exit×AS:=λx=>(.exit 0,⟨(aS 26 []),[],(ab 26 [])⟩)
abbrev Wo:=(Unit)⊕(Unit)
abbrev ai1:=(Unit)⊕(Unit)
def K8:Wo->Out (Exit×AS):=λx=> .br x.isLeft (.get x.getLeft? λa=> .ok (uT a)) (.get x.getRight? λb=> .ok (D8 b))
def oh:Gc->ai1->Wo:=λ(CA,lz,t12,t13) y=>match y with | .inl y=> .inl y | .inr z=> .inr (z)
abbrev aJ3:=(List Sg)×(List Sg)
def D7:Gc->Prop:=λ(a,b,m,i)=>a.length<=1000000000/\a.length=b.length/\m=a.length/\∃k:Nat,k<=a.length/\i=k
def uS:Gc->ai1:=λ(a,b,m,i)=>if a.drop i.toNat=b.drop i.toNat then .inr () else .inl ()
def aJ4:aJ3->Prop:=λ(a,b)=>a.length<=1000000000
def avU:aJ3->Bool:=λ(a,b)=>decide (a=b)
def ai0:=dI.fI um D7 oh uS K8
def TE:Gc->Option Wo:=gO ai0 um
def Wl:Fs Tryz.prog aJ4 bC avU:=fw 76 Tryz.f76 (λ(s1,s2)=>([.d (.slice BB) s1,.d (.slice BB) s2],[])) (λx=>⟨.d .bool x,[],[]⟩) [av (.slice BB),av (.slice BB)] [] {loops:=oJ [(4,{ba:=[0,1,12,13]})],outs:=oI [(4,{},{ba:=[4]})],gf:=nQ [(4,ai0)]}
def Wn:= @eG Tryz.prog (jQ Wl.G) Wl.an 0 Tryz.f76 0 _ um
abbrev aen:=j7 Tryz.prog (jQ Wl.G) Wl.an 0 Tryz.f76 0 um D7 oh uS K8
theorem aro:jh TE D7 oh uS:=lH (jx [.d (.slice BB),.d (.slice BB),.d ti,.d ti] λ_=>cr)
theorem Wp:mK @Wn um D7 oh uS K8 aen:=nc
theorem TF(CA lz t12 t13)(kn:K2 R)(kx:K3 R):Wn (CA,lz,t12,t13) kn kx=aL (gz t13 t12) (aL (eL t13 (((ag CA):Nat):Int)) (aL (eL t13 (((ag lz):Nat):Int)) (aL (!(Ty.beq BB (nth BB CA (ae t13)) (nth BB lz (ae t13)))) (kx (uT ()).1 (uT ()).2) (kn (um (CA,lz,t12,(bO .i64 t13 (1:Int)))))) aD) aD) (kx (D8 ()).1 (D8 ()).2):=cr
theorem aON(s1 s2)(k:K1 R):Wl.A (s1,s2) k=aL (zg (s1.length:Int) (s2.length:Int)) (k (Wl.out aQ)) (al (TE (s1,s2,(s1.length:Int),0)) λx1=>aL x1.isLeft (al x1.getLeft? λa2=>k (Wl.out aQ)) (al x1.getRight? λb3=>k (Wl.out aZ))):=cr
theorem avV:aen:=by
 refine Wp (λ(a,b,m,i)=>a.length - i.toNat) ?_
 rintro⟨a,b,m,i⟩ ⟨hl,MP,rfl,k,hk,rfl⟩;have hl:a.length<=1000000000:=hl;have MP:a.length=b.length:=MP;have hk:k<=a.length:=hk;by_cases h:k < a.length
 ·have h2:k < b.length:=ak;have n1:nth BB a k=a[k]:=cg (t:=BB) h;have n2:nth BB b k=b[k]:=cg (t:=BB) h2;have hd:(a.drop k=b.drop k)=(a[k]=b[k]/\a.drop (k+1)=b.drop (k+1)):=by rw[aq h,aq h2,dB]
  have step:∀ {R:Type} (kn:AS->Option R) (kx:Exit->AS->Option R),Wn (a,b,(a.length:Int),(k:Int)) kn kx=if a[k]=b[k] then kn (um (a,b,(a.length:Int),((k+1:Nat):Int))) else kx (uT ()).1 (uT ()).2:=by
   intro R kn kx;rw[TF,aX ak,bj ak ak,bj ak ak,aa,n1,n2,N.mZ ak];simp only[aj];rw[aQn];by_cases hx:a[k]=b[k]
   ·rw[aM hx,if_pos hx];rfl
   ·rw[aV hx,if_neg hx];rfl
  by_cases hx:a[k]=b[k]
  ·left;refine⟨(a,b,(a.length:Int),((k+1:Nat):Int)),⟨hl,MP,rfl,k+1,ak,rfl⟩,by simp only[aa];omega,?_,λkn kx=> ?_⟩
   ·simp only[oh,uS,aa,hd,hx,nL]
   ·rw[step,if_pos hx]
  ·right;refine⟨uT (),?_,λkn kx=> ?_⟩
   ·simp only[oh,uS,aa,hd,hx,false_and,bA];rfl
   ·rw[step,if_neg hx]
 ·right;obtain rfl:k=a.length:=ak;refine⟨D8 (),?_,λkn kx=> ?_⟩
  ·simp only[oh,uS,aa,aN];rw[MP,aN,if_pos rfl];rfl
  ·rw[TF,aU ak,ao]
theorem aOO:Wl.Ok:=by
 rintro⟨a,b⟩ hl;have hl:a.length<=1000000000:=hl;rw[aON];simp only[bC,avU];by_cases h:a.length=b.length
 ·rw[dP ak,ao,aro (d:=(a,b,(a.length:Int),0)) ⟨hl,h,rfl,0,aP _,rfl⟩];simp only[ah,oh,uS,bg,aG];by_cases hx:a=b
  ·rw[if_pos hx,aM hx];rfl
  ·rw[if_neg hx,aV hx];rfl
 ·rw[fD ak,aV (λx=>h (by rw[x]))];rfl
theorem aJ5:Wl.RS:=rE [.d (.slice BB),.d (.slice BB)] Wl
def aOP:=Wl.fC aOO 1 ⟨.fI avV,trivial⟩
def awp:(iF×iF)->Prop:=λ(x,y)=>x.2.1.2.1.length<=1000000000
def ae4:(iF×iF)->Bool:=λ(x,y)=>decide (x=y)
def E9:Fs Tryz.prog awp bC ae4:=fw 75 Tryz.f75 (λ(x,yv)=>([.d gT x,.d gT yv],[])) (λx=>⟨.d .bool x,[],[]⟩) [av gT,av gT] [aOP]
theorem aDs(x yv)(k:K1 R):E9.A (x,yv) k=aL (Ty.beq bh x.1 yv.1) (aL (oV x.2.1.1 yv.2.1.1) (aL (oV x.2.1.2.2.1 yv.2.1.2.2.1) (al (Wl.call (x.2.1.2.1,yv.2.1.2.1)) λx1=>k (E9.out x1)) (k (E9.out aQ))) (k (E9.out aQ))) (k (E9.out aQ)):=cr
theorem aDt:E9.Ok:=by
 rintro⟨⟨f1,⟨b1,s1,c1,u1⟩,v1⟩,⟨f2,⟨b2,s2,c2,u2⟩,v2⟩⟩ h;have h:s1.length<=1000000000:=h;rw[aDs,aJ5 (d:=(s1,s2)) h,aQm];simp only[ah,bC,avU,bC,ae4];by_cases e1:f1=f2
 ·by_cases e2:b1=b2
  ·by_cases e3:c1=c2
   ·by_cases e4:s1=s2
    ·rw[aM e1,du e2,du e3,aM e4,aM (by rw[e1,e2,e3,e4])];rfl
    ·rw[aM e1,du e2,du e3,aV e4,aV (by rintro⟨⟩;exact e4 rfl)];rfl
   ·rw[aM e1,du e2,fm e3,aV (p:=(f1,(b1,s1,c1,u1),v1)=(f2,(b2,s2,c2,u2),v2)) (by rintro⟨⟩;exact e3 rfl)];rfl
  ·rw[aM e1,fm e2,aV (p:=(f1,(b1,s1,c1,u1),v1)=(f2,(b2,s2,c2,u2),v2)) (by rintro⟨⟩;exact e2 rfl)];rfl
 ·rw[aV e1,aV (p:=(f1,(b1,s1,c1,u1),v1)=(f2,(b2,s2,c2,u2),v2)) (by rintro⟨⟩;exact e1 rfl)];rfl
theorem awq:E9.RS:=rE [.d gT,.d gT] E9
def aDu:=E9.fC aDt
def awr:(pM×pM)->Prop:=λ(x,z)=>x.1.length<=1000000000
def ae5:(pM×pM)->Bool:=λ(x,z)=>decide (x=z)
def Fa:Fs Tryz.prog awr bC ae5:=fw 77 Tryz.f77 (λ(x,yv)=>([.d kS x,.d kS yv],[])) (λx=>⟨.d .bool x,[],[]⟩) [av kS,av kS] [aRX]
theorem aDv(x yv)(k:K1 R):Fa.A (x,yv) k=aL (oV x.2.1 yv.2.1) (aL (oV x.2.2.1 yv.2.2.1) (aL (oV x.2.2.2.1 yv.2.2.2.1) (al (peq.call (x.1,yv.1)) λx1=>k (Fa.out x1)) (k (Fa.out aQ))) (k (Fa.out aQ))) (k (Fa.out aQ)):=cr
theorem aDw:Fa.Ok:=by
 rintro⟨⟨k1,a1,d1,s1,u1⟩,⟨k2,a2,d2,s2,u2⟩⟩ h;have h:k1.length<=1000000000:=h;rw[aDv,aOg (d:=(k1,k2)) h];simp only[ah,bC,aIT,bC,ae5];by_cases e1:k1=k2
 ·by_cases e2:a1=a2
  ·by_cases e3:d1=d2
   ·by_cases e4:s1=s2
    ·rw[aM e1,du e2,du e3,du e4,aM (by rw[e1,e2,e3,e4])];rfl
    ·rw[du e2,du e3,fm e4,aV (p:=(k1,a1,d1,s1,u1)=(k2,a2,d2,s2,u2)) (by rintro⟨⟩;exact e4 rfl)];rfl
   ·rw[du e2,fm e3,aV (p:=(k1,a1,d1,s1,u1)=(k2,a2,d2,s2,u2)) (by rintro⟨⟩;exact e3 rfl)];rfl
  ·rw[fm e2,aV (p:=(k1,a1,d1,s1,u1)=(k2,a2,d2,s2,u2)) (by rintro⟨⟩;exact e2 rfl)];rfl
 ·rw[aV e1,aV (p:=(k1,a1,d1,s1,u1)=(k2,a2,d2,s2,u2)) (by rintro⟨⟩;exact e1 rfl)];cases oV a1 a2 <;> cases oV d1 d2 <;> cases oV s1 s2 <;> rfl
theorem aws:Fa.RS:=rE [.d kS,.d kS] Fa
def aDx:=Fa.fC aDw
abbrev BK:=(List pM)×(List pM)×Int×Int
def pW:BK->AS:=λ(lz,t15,t16,t17)=>⟨([bH,.d (.slice kS) lz,.fn 77 (.nil)]++aS 12 ([.d (.slice kS) t15,.d ti t16,.d ti t17]++aS 14 [])),[],(ab 32 [])⟩
def rp:Unit->Exit×AS:=λx=>(.ret,⟨(aS 6 ([.d .bool aQ]++aS 25 [])),[],(ab 32 [])⟩)
def zX:Unit->Exit×AS:=λx=>(.exit 0,⟨(aS 32 []),[],(ab 32 [])⟩)
abbrev O6:=(Unit)⊕(Unit)
abbrev aaK:=(Unit)⊕(Unit)
def Gu:O6->Out (Exit×AS):=λx=> .br x.isLeft (.get x.getLeft? λa=> .ok (rp a)) (.get x.getRight? λb=> .ok (zX b))
def l7:BK->aaK->O6:=λ(lz,t15,t16,t17) y=>match y with | .inl y=> .inl y | .inr z=> .inr (z)
abbrev axb:=(List pM)×(List pM)
def zW:BK->Prop:=λ(b,a,m,i)=>(a.length<=1000000000/\∀x∈a,x.1.length<=1000000000)/\a.length=b.length/\m=a.length/\∃k:Nat,k<=a.length/\i=k
def pV:BK->aaK:=λ(b,a,m,i)=>if a.drop i.toNat=b.drop i.toNat then .inr () else .inl ()
def azA:axb->Prop:=λ(a,b)=>a.length<=1000000000/\∀x∈a,x.1.length<=1000000000
def ajL:axb->Bool:=λ(a,b)=>decide (a=b)
def aaJ:=dI.fI pW zW l7 pV Gu
def Na:BK->Option O6:=gO aaJ pW
def Fk:Fs Tryz.prog azA bC ajL:=fw 80 Tryz.f80 (λ(s1,s2)=>([.d (.slice kS) s1,.d (.slice kS) s2,.fn 77 (.nil)],[])) (λx=>⟨.d .bool x,[],[]⟩) [av (.slice kS),av (.slice kS),aD] [aDx] {loops:=oJ [(4,{ba:=[1,2,15,16,17]})],outs:=oI [(4,{},{ba:=[6]})],gf:=nQ [(4,aaJ)]}
def O5:= @eG Tryz.prog (jQ Fk.G) Fk.an 0 Tryz.f80 0 _ pW
abbrev W2:=j7 Tryz.prog (jQ Fk.G) Fk.an 0 Tryz.f80 0 pW zW l7 pV Gu
theorem ajM:jh Na zW l7 pV:=lH (jx [.d (.slice kS),.d (.slice kS),.d ti,.d ti] λ_=>cr)
theorem Rg:mK @O5 pW zW l7 pV Gu W2:=nc
theorem Nb(lz t15 t16 t17)(kn:K2 R)(kx:K3 R):O5 (lz,t15,t16,t17) kn kx=aL (gz t17 t16) (aL (eL t17 (((ag t15):Nat):Int)) (aL (eL t17 (((ag lz):Nat):Int)) (al (Fa.call ((nth kS t15 (ae t17)),(nth kS lz (ae t17)))) λx1=>aL (!x1) (kx (rp ()).1 (rp ()).2) (kn (pW (lz,t15,t16,(bO .i64 t17 (1:Int)))))) aD) aD) (kx (zX ()).1 (zX ()).2):=cr
theorem aFb(s1 s2)(k:K1 R):Fk.A (s1,s2) k=aL (zg (s1.length:Int) (s2.length:Int)) (k (Fk.out aQ)) (al (Na (s2,s1,(s1.length:Int),0)) λx2=>aL x2.isLeft (al x2.getLeft? λa3=>k (Fk.out aQ)) (al x2.getRight? λb4=>k (Fk.out aZ))):=cr
theorem anN:W2:=by
 refine Rg (λ(b,a,m,i)=>a.length - i.toNat) ?_
 rintro⟨b,a,m,i⟩ ⟨⟨hl,he⟩,MP,rfl,k,hk,rfl⟩;have hl:a.length<=1000000000:=hl;have MP:a.length=b.length:=MP;have hk:k<=a.length:=hk;by_cases h:k < a.length
 ·have h2:k < b.length:=ak;have n1:nth kS a k=a[k]:=cg (t:=kS) h;have n2:nth kS b k=b[k]:=cg (t:=kS) h2;have hd:(a.drop k=b.drop k)=(a[k]=b[k]/\a.drop (k+1)=b.drop (k+1)):=by rw[aq h,aq h2,dB]
  have step:∀ {R:Type} (kn:AS->Option R) (kx:Exit->AS->Option R),O5 (b,a,(a.length:Int),(k:Int)) kn kx=if a[k]=b[k] then kn (pW (b,a,(a.length:Int),((k+1:Nat):Int))) else kx (rp ()).1 (rp ()).2:=by
   intro R kn kx;rw[Nb,aX ak,bj ak ak,bj ak ak,aa,n1,n2,N.mZ ak,aws (d:=(a[k],b[k])) (he _ (aO h))];simp only[aj,ah,bC,ae5];by_cases hx:a[k]=b[k]
   ·rw[aM hx,if_pos hx];rfl
   ·rw[aV hx,if_neg hx];rfl
  by_cases hx:a[k]=b[k]
  ·left;refine⟨(b,a,(a.length:Int),((k+1:Nat):Int)),⟨⟨hl,he⟩,MP,rfl,k+1,ak,rfl⟩,by simp only[aa];omega,?_,λkn kx=> ?_⟩
   ·simp only[l7,pV,aa,hd,hx,nL]
   ·rw[step,if_pos hx]
  ·right;refine⟨rp (),?_,λkn kx=> ?_⟩
   ·simp only[l7,pV,aa,hd,hx,false_and,bA];rfl
   ·rw[step,if_neg hx]
 ·right;obtain rfl:k=a.length:=ak;refine⟨zX (),?_,λkn kx=> ?_⟩
  ·simp only[l7,pV,aa,aN];rw[MP,aN,if_pos rfl];rfl
  ·rw[Nb,aU ak,ao]
theorem aFc:Fk.Ok:=by
 rintro⟨a,b⟩ hl;have aXR:a.length<=1000000000:=hl.1;rw[aFb];simp only[bC,ajL];by_cases h:a.length=b.length
 ·rw[dP ak,ao,ajM (d:=(b,a,(a.length:Int),0)) ⟨hl,h,rfl,0,aP _,rfl⟩];simp only[ah,l7,pV,bg,aG];by_cases hx:a=b
  ·rw[if_pos hx,aM hx];rfl
  ·rw[if_neg hx,aV hx];rfl
 ·rw[fD ak,aV (λx=>h (by rw[x]))];rfl
theorem azB:Fk.RS:=rE [.d (.slice kS),.d (.slice kS)] Fk
def aFd:=Fk.fC aFc 1 ⟨.fI anN,trivial⟩
def awt:(iu×iu)->Prop:=λ(x,y)=>x.2.1.1.length<=1000000000/\∀b∈x.2.1.1,b.1.length<=1000000000
def ae6:(iu×iu)->Bool:=λ(x,y)=>decide (x=y)
def LI:Fs Tryz.prog awt bC ae6:=fw 79 Tryz.f79 (λ(x,yv)=>([.d gV x,.d gV yv,.ptr (.bt 0) 0 [] 0],[.obj 0 aQ (.fn 77 (.nil))])) (λx=>⟨.d .bool x,[.obj 0 aQ (.fn 77 (.nil))],[]⟩) [av gV,av gV,aD] [aFd]
theorem aDy(x yv)(k:K1 R):LI.A (x,yv) k=aL (oV x.1 yv.1) (al (Fk.call (x.2.1.1,yv.2.1.1)) λx1=>k (LI.out x1)) (k (LI.out aQ)):=cr
theorem aDz:LI.Ok:=by
 rintro⟨⟨n1,⟨b1,w1⟩,u1⟩,⟨n2,⟨b2,w2⟩,u2⟩⟩ h;rw[aDy,azB (d:=(b1,b2)) h];simp only[ah,bC,ajL,bC,ae6];by_cases e1:n1=n2
 ·by_cases e2:b1=b2
  ·rw[du e1,aM e2,aM (by rw[e1,e2])];rfl
  ·rw[du e1,aV e2,aV (by rintro⟨⟩;exact e2 rfl)];rfl
 ·rw[fm e1,aV (p:=(n1,(b1,w1),u1)=(n2,(b2,w2),u2)) (by rintro⟨⟩;exact e1 rfl)];rfl
theorem awu:LI.RS:=rE [.d gV,.d gV] LI
def aDA:=LI.fC aDz
abbrev FD:=(List iF)×(List iF)×Int×Int
def ue:FD->AS:=λ(lz,t15,t16,t17)=>⟨([bH,.d (.slice gT) lz,.fn 75 (.nil)]++aS 12 ([.d (.slice gT) t15,.d ti t16,.d ti t17]++aS 14 [])),[],(ab 32 [])⟩
def uD:Unit->Exit×AS:=λx=>(.ret,⟨(aS 6 ([.d .bool aQ]++aS 25 [])),[],(ab 32 [])⟩)
def Dx:Unit->Exit×AS:=λx=>(.exit 0,⟨(aS 32 []),[],(ab 32 [])⟩)
abbrev Vt:=(Unit)⊕(Unit)
abbrev ah7:=(Unit)⊕(Unit)
def JV:Vt->Out (Exit×AS):=λx=> .br x.isLeft (.get x.getLeft? λa=> .ok (uD a)) (.get x.getRight? λb=> .ok (Dx b))
def nZ:FD->ah7->Vt:=λ(lz,t15,t16,t17) y=>match y with | .inl y=> .inl y | .inr z=> .inr (z)
abbrev aHy:=(List iF)×(List iF)
def Dw:FD->Prop:=λ(b,a,m,i)=>(a.length<=1000000000/\∀x∈a,x.2.1.2.1.length<=1000000000)/\a.length=b.length/\m=a.length/\∃k:Nat,k<=a.length/\i=k
def uC:FD->ah7:=λ(b,a,m,i)=>if a.drop i.toNat=b.drop i.toNat then .inr () else .inl ()
def aHz:aHy->Prop:=λ(a,b)=>a.length<=1000000000/\∀x∈a,x.2.1.2.1.length<=1000000000
def auc:aHy->Bool:=λ(a,b)=>decide (a=b)
def ah6:=dI.fI ue Dw nZ uC JV
def Sd:FD->Option Vt:=gO ah6 ue
def Vr:Fs Tryz.prog aHz bC auc:=fw 81 Tryz.f81 (λ(s1,s2)=>([.d (.slice gT) s1,.d (.slice gT) s2,.fn 75 (.nil)],[])) (λx=>⟨.d .bool x,[],[]⟩) [av (.slice gT),av (.slice gT),aD] [aDu] {loops:=oJ [(4,{ba:=[1,2,15,16,17]})],outs:=oI [(4,{},{ba:=[6]})],gf:=nQ [(4,ah6)]}
def Vs:= @eG Tryz.prog (jQ Vr.G) Vr.an 0 Tryz.f81 0 _ ue
abbrev abV:=j7 Tryz.prog (jQ Vr.G) Vr.an 0 Tryz.f81 0 ue Dw nZ uC JV
theorem apm:jh Sd Dw nZ uC:=lH (jx [.d (.slice gT),.d (.slice gT),.d ti,.d ti] λ_=>cr)
theorem Vu:mK @Vs ue Dw nZ uC JV abV:=nc
theorem Se(lz t15 t16 t17)(kn:K2 R)(kx:K3 R):Vs (lz,t15,t16,t17) kn kx=aL (gz t17 t16) (aL (eL t17 (((ag t15):Nat):Int)) (aL (eL t17 (((ag lz):Nat):Int)) (al (E9.call ((nth gT t15 (ae t17)),(nth gT lz (ae t17)))) λx1=>aL (!x1) (kx (uD ()).1 (uD ()).2) (kn (ue (lz,t15,t16,(bO .i64 t17 (1:Int)))))) aD) aD) (kx (Dx ()).1 (Dx ()).2):=cr
theorem aNv(s1 s2)(k:K1 R):Vr.A (s1,s2) k=aL (zg (s1.length:Int) (s2.length:Int)) (k (Vr.out aQ)) (al (Sd (s2,s1,(s1.length:Int),0)) λx2=>aL x2.isLeft (al x2.getLeft? λa3=>k (Vr.out aQ)) (al x2.getRight? λb4=>k (Vr.out aZ))):=cr
theorem aud:abV:=by
 refine Vu (λ(b,a,m,i)=>a.length - i.toNat) ?_
 rintro⟨b,a,m,i⟩ ⟨⟨hl,he⟩,MP,rfl,k,hk,rfl⟩;have hl:a.length<=1000000000:=hl;have MP:a.length=b.length:=MP;have hk:k<=a.length:=hk;by_cases h:k < a.length
 ·have h2:k < b.length:=ak;have n1:nth gT a k=a[k]:=cg (t:=gT) h;have n2:nth gT b k=b[k]:=cg (t:=gT) h2;have hd:(a.drop k=b.drop k)=(a[k]=b[k]/\a.drop (k+1)=b.drop (k+1)):=by rw[aq h,aq h2,dB]
  have step:∀ {R:Type} (kn:AS->Option R) (kx:Exit->AS->Option R),Vs (b,a,(a.length:Int),(k:Int)) kn kx=if a[k]=b[k] then kn (ue (b,a,(a.length:Int),((k+1:Nat):Int))) else kx (uD ()).1 (uD ()).2:=by
   intro R kn kx;rw[Se,aX ak,bj ak ak,bj ak ak,aa,n1,n2,N.mZ ak,awq (d:=(a[k],b[k])) (he _ (aO h))];simp only[aj,ah,bC,ae4];by_cases hx:a[k]=b[k]
   ·rw[aM hx,if_pos hx];rfl
   ·rw[aV hx,if_neg hx];rfl
  by_cases hx:a[k]=b[k]
  ·left;refine⟨(b,a,(a.length:Int),((k+1:Nat):Int)),⟨⟨hl,he⟩,MP,rfl,k+1,ak,rfl⟩,by simp only[aa];omega,?_,λkn kx=> ?_⟩
   ·simp only[nZ,uC,aa,hd,hx,nL]
   ·rw[step,if_pos hx]
  ·right;refine⟨uD (),?_,λkn kx=> ?_⟩
   ·simp only[nZ,uC,aa,hd,hx,false_and,bA];rfl
   ·rw[step,if_neg hx]
 ·right;obtain rfl:k=a.length:=ak;refine⟨Dx (),?_,λkn kx=> ?_⟩
  ·simp only[nZ,uC,aa,aN];rw[MP,aN,if_pos rfl];rfl
  ·rw[Se,aU ak,ao]
theorem aNw:Vr.Ok:=by
 rintro⟨a,b⟩ hl;have aXR:a.length<=1000000000:=hl.1;rw[aNv];simp only[bC,auc];by_cases h:a.length=b.length
 ·rw[dP ak,ao,apm (d:=(b,a,(a.length:Int),0)) ⟨hl,h,rfl,0,aP _,rfl⟩];simp only[ah,nZ,uC,bg,aG];by_cases hx:a=b
  ·rw[if_pos hx,aM hx];rfl
  ·rw[if_neg hx,aV hx];rfl
 ·rw[fD ak,aV (λx=>h (by rw[x]))];rfl
theorem aHA:Vr.RS:=rE [.d (.slice gT),.d (.slice gT)] Vr
def aNx:=Vr.fC aNw 1 ⟨.fI aud,trivial⟩
abbrev Cn:=(List iu)×(List iu)×Int×Int
def qB:Cn->AS:=λ(lz,t15,t16,t17)=>⟨([bH,.d (.slice gV) lz,.fn 79 (.cons (.ptr (.bt 0) 0 [] 0) (.nil))]++aS 12 ([.d (.slice gV) t15,.d ti t16,.d ti t17]++aS 14 [])),ed (.fn 77 (.nil)),(ab 32 [])⟩
def rH:Unit->Exit×AS:=λx=>(.ret,⟨(aS 6 ([.d .bool aQ]++aS 25 [])),ed (.fn 77 (.nil)),(ab 32 [])⟩)
def AZ:Unit->Exit×AS:=λx=>(.exit 0,⟨(aS 32 []),ed (.fn 77 (.nil)),(ab 32 [])⟩)
abbrev Qd:=(Unit)⊕(Unit)
abbrev ade:=(Unit)⊕(Unit)
def Hq:Qd->Out (Exit×AS):=λx=> .br x.isLeft (.get x.getLeft? λa=> .ok (rH a)) (.get x.getRight? λb=> .ok (AZ b))
def my:Cn->ade->Qd:=λ(lz,t15,t16,t17) y=>match y with | .inl y=> .inl y | .inr z=> .inr (z)
abbrev ayc:=(List iu)×(List iu)
def AY:Cn->Prop:=λ(b,a,m,i)=>(a.length<=1000000000/\∀x∈a,x.2.1.1.length<=1000000000/\∀b∈x.2.1.1,b.1.length<=1000000000)/\a.length=b.length/\m=a.length/\∃k:Nat,k<=a.length/\i=k
def qA:Cn->ade:=λ(b,a,m,i)=>if a.drop i.toNat=b.drop i.toNat then .inr () else .inl ()
def aBL:ayc->Prop:=λ(a,b)=>a.length<=1000000000/\∀x∈a,x.2.1.1.length<=1000000000/\∀b∈x.2.1.1,b.1.length<=1000000000
def alD:ayc->Bool:=λ(a,b)=>decide (a=b)
def adb:=dI.fI qB AY my qA Hq
def NY:Cn->Option Qd:=gO adb qB
def FK:Fs Tryz.prog aBL bC alD:=fw 82 Tryz.f82 (λ(s1,s2)=>([.d (.slice gV) s1,.d (.slice gV) s2,.fn 79 (.cons (.ptr (.bt 0) 0 [] 0) (.nil))],[.obj 0 aQ (.fn 77 (.nil))])) (λx=>⟨.d .bool x,[.obj 0 aQ (.fn 77 (.nil))],[]⟩) [av (.slice gV),av (.slice gV),aD] [aDA] {loops:=oJ [(4,{ba:=[1,2,15,16,17]})],outs:=oI [(4,{},{ba:=[6]})],gf:=nQ [(4,adb)]}
def Qc:= @eG Tryz.prog (jQ FK.G) FK.an 0 Tryz.f82 0 _ qB
abbrev X1:=j7 Tryz.prog (jQ FK.G) FK.an 0 Tryz.f82 0 qB AY my qA Hq
theorem alE:jh NY AY my qA:=lH (jx [.d (.slice gV),.d (.slice gV),.d ti,.d ti] λ_=>cr)
theorem SR:mK @Qc qB AY my qA Hq X1:=nc
theorem NZ(lz t15 t16 t17)(kn:K2 R)(kx:K3 R):Qc (lz,t15,t16,t17) kn kx=aL (gz t17 t16) (aL (eL t17 (((ag t15):Nat):Int)) (aL (eL t17 (((ag lz):Nat):Int)) (al (LI.call ((nth gV t15 (ae t17)),(nth gV lz (ae t17)))) λx1=>aL (!x1) (kx (rH ()).1 (rH ()).2) (kn (qB (lz,t15,t16,(bO .i64 t17 (1:Int)))))) aD) aD) (kx (AZ ()).1 (AZ ()).2):=cr
theorem aIK(s1 s2)(k:K1 R):FK.A (s1,s2) k=aL (zg (s1.length:Int) (s2.length:Int)) (k (FK.out aQ)) (al (NY (s2,s1,(s1.length:Int),0)) λx2=>aL x2.isLeft (al x2.getLeft? λa3=>k (FK.out aQ)) (al x2.getRight? λb4=>k (FK.out aZ))):=cr
theorem aqd:X1:=by
 refine SR (λ(b,a,m,i)=>a.length - i.toNat) ?_
 rintro⟨b,a,m,i⟩ ⟨⟨hl,he⟩,MP,rfl,k,hk,rfl⟩;have hl:a.length<=1000000000:=hl;have MP:a.length=b.length:=MP;have hk:k<=a.length:=hk;by_cases h:k < a.length
 ·have h2:k < b.length:=ak;have n1:nth gV a k=a[k]:=cg (t:=gV) h;have n2:nth gV b k=b[k]:=cg (t:=gV) h2;have hd:(a.drop k=b.drop k)=(a[k]=b[k]/\a.drop (k+1)=b.drop (k+1)):=by rw[aq h,aq h2,dB]
  have step:∀ {R:Type} (kn:AS->Option R) (kx:Exit->AS->Option R),Qc (b,a,(a.length:Int),(k:Int)) kn kx=if a[k]=b[k] then kn (qB (b,a,(a.length:Int),((k+1:Nat):Int))) else kx (rH ()).1 (rH ()).2:=by
   intro R kn kx;rw[NZ,aX ak,bj ak ak,bj ak ak,aa,n1,n2,N.mZ ak,awu (d:=(a[k],b[k])) (he _ (aO h))];simp only[aj,ah,bC,ae6];by_cases hx:a[k]=b[k]
   ·rw[aM hx,if_pos hx];rfl
   ·rw[aV hx,if_neg hx];rfl
  by_cases hx:a[k]=b[k]
  ·left;refine⟨(b,a,(a.length:Int),((k+1:Nat):Int)),⟨⟨hl,he⟩,MP,rfl,k+1,ak,rfl⟩,by simp only[aa];omega,?_,λkn kx=> ?_⟩
   ·simp only[my,qA,aa,hd,hx,nL]
   ·rw[step,if_pos hx]
  ·right;refine⟨rH (),?_,λkn kx=> ?_⟩
   ·simp only[my,qA,aa,hd,hx,false_and,bA];rfl
   ·rw[step,if_neg hx]
 ·right;obtain rfl:k=a.length:=ak;refine⟨AZ (),?_,λkn kx=> ?_⟩
  ·simp only[my,qA,aa,aN];rw[MP,aN,if_pos rfl];rfl
  ·rw[NZ,aU ak,ao]
theorem aIL:FK.Ok:=by
 rintro⟨a,b⟩ hl;have aXR:a.length<=1000000000:=hl.1;rw[aIK];simp only[bC,alD];by_cases h:a.length=b.length
 ·rw[dP ak,ao,alE (d:=(b,a,(a.length:Int),0)) ⟨hl,h,rfl,0,aP _,rfl⟩];simp only[ah,my,qA,bg,aG];by_cases hx:a=b
  ·rw[if_pos hx,aM hx];rfl
  ·rw[if_neg hx,aV hx];rfl
 ·rw[fD ak,aV (λx=>h (by rw[x]))];rfl
theorem aBM:FK.RS:=rE [.d (.slice gV),.d (.slice gV)] FK
def aIM:=FK.fC aIL 1 ⟨.fI aqd,trivial⟩
def aDB:(dR×dR)->Prop:=λ(a,b)=>ass a
def ayy:(dR×dR)->Bool:=λ(a,b)=>decide (a=b)
def OC:Fs Tryz.prog aDB bC ayy:=fw 34 Tryz.f34 (λ(a,b)=>([.d fa a,.d fa b],[])) (λx=>⟨.d .bool x,[],[]⟩) [av fa,av fa] [aNx,aIM]
theorem aKF(a b)(k:K1 R):OC.A (a,b) k=aL (oV a.2.2.1 b.2.2.1) (al (Vr.call (a.1,b.1)) λx1=>aL (x1) (al (FK.call (a.2.1,b.2.1)) λx2=>k (OC.out x2)) (k (OC.out aQ))) (k (OC.out aQ)):=cr
theorem aKG:OC.Ok:=by
 rintro⟨⟨i1,o1,n1,u1⟩,⟨i2,o2,n2,u2⟩⟩ h;have h:ass (i1,o1,n1,u1):=h;rw[aKF,aHA (d:=(i1,i2)) h.1,aBM (d:=(o1,o2)) h.2];simp only[ah,bC,auc,bC,alD,bC,ayy];by_cases e1:n1=n2
 ·by_cases e2:i1=i2
  ·by_cases e3:o1=o2
   ·rw[du e1,aM e2,aM e3,aM (by rw[e1,e2,e3])];rfl
   ·rw[du e1,aM e2,aV e3,aV (by rintro⟨⟩;exact e3 rfl)];rfl
  ·rw[du e1,aV e2,aV (p:=(i1,o1,n1,u1)=(i2,o2,n2,u2)) (by rintro⟨⟩;exact e2 rfl)];rfl
 ·rw[fm e1,aV (p:=(i1,o1,n1,u1)=(i2,o2,n2,u2)) (by rintro⟨⟩;exact e1 rfl)];rfl
theorem aDC:OC.RS:=rE [.d fa,.d fa] OC
def aKH:=OC.fC aKG
def Bc(x:iF):Bool:=decide (x.2.1.2.1.length<=14)
def Bb(b:pM):Bool:=decide (b.1.length<=14)
def vZ(o:iu):Bool:=decide (o.2.1.1.length<=6) && o.2.1.1.all Bb
def amn(t:dR):Bool:=decide (t.1.length<=66/\t.2.1.length<=66) && (t.1.all Bc && t.2.1.all vZ)
abbrev sO:=dR×Int
def lq:sO->AS:=λ(pK,i)=>⟨([bH,.dV fa pK,bH,.d ti i]++aS 69 []),[],(ab 73 [])⟩
def lT:Unit->Exit×AS:=λx=>(.ret,⟨([bH,bH,.d .bool aQ]++aS 70 []),[],(ab 73 [])⟩)
def tz:dR->Exit×AS:=λx=>(.exit 0,⟨([bH,.dV fa x]++aS 71 []),[],(ab 73 [])⟩)
abbrev ET:=(Unit)⊕(dR)
abbrev Ob:=(Unit)⊕(Unit)
def zp:ET->Out (Exit×AS):=λx=> .br x.isLeft (.get x.getLeft? λa=> .ok (lT a)) (.get x.getRight? λb=> .ok (tz b))
def jo:sO->Ob->ET:=λ(pK,i) y=>match y with | .inl y=> .inl y | .inr z=> .inr (pK)
abbrev sP:=dR×Int
def lr:sP->AS:=λ(wM,gv)=>⟨([bH,.dV fa wM,bH,bH,.d ti gv]++aS 68 []),[],(ab 73 [])⟩
def jr:Unit->Exit×AS:=λx=>(.ret,⟨([bH,bH,.d .bool aQ]++aS 70 []),[],(ab 73 [])⟩)
def tC:Unit->Exit×AS:=λx=>(.exit 2,⟨(aS 73 []),[],(ab 73 [])⟩)
abbrev EV:=(Unit)⊕(Unit)
abbrev Od:=(Unit)⊕(Unit)
def zq:EV->Out (Exit×AS):=λx=> .br x.isLeft (.get x.getLeft? λa=> .ok (jr a)) (.get x.getRight? λb=> .ok (tC b))
def jq:sP->Od->EV:=λ(wM,gv) y=>match y with | .inl y=> .inl y | .inr z=> .inr (z)
abbrev sQ:=dR×Int×Int
def lu:sQ->AS:=λ(Zt,Mk,kv)=>⟨([bH,.dV fa Zt,bH,bH,.d ti Mk,.d ti kv]++aS 67 []),[],(ab 73 [])⟩
def lU:Unit->Exit×AS:=λx=>(.ret,⟨([bH,bH,.d .bool aQ]++aS 70 []),[],(ab 73 [])⟩)
def tE:(dR×Int)->Exit×AS:=λx=>(.exit 4,⟨([bH,.dV fa x.1,bH,bH,.d ti x.2]++aS 68 []),[],(ab 73 [])⟩)
abbrev EX:=(Unit)⊕((dR×Int))
abbrev Of:=(Unit)⊕(Unit)
def zr:EX->Out (Exit×AS):=λx=> .br x.isLeft (.get x.getLeft? λa=> .ok (lU a)) (.get x.getRight? λb=> .ok (tE b))
def js:sQ->Of->EX:=λ(Zt,Mk,kv) y=>match y with | .inl y=> .inl y | .inr z=> .inr ((Zt,Mk))
def tx:sO->Prop:=λ(t,i)=>t.1.length<=1000000000/\∃k:Nat,k<=t.1.length/\i=k
def kB:sO->Ob:=λ(t,i)=>if(bZ (ae i) t.1).all Bc then .inr () else .inl ()
def tD:sQ->Prop:=λ(t,j,i)=>(nth gV t.2.1 (ae j)).2.1.1.length<=1000000000/\∃k:Nat,k<=(nth gV t.2.1 (ae j)).2.1.1.length/\i=k/\(0<=j/\j < (t.2.1.length:Int))
def kD:sQ->Of:=λ(t,j,i)=>if(bZ (ae i) (nth gV t.2.1 (ae j)).2.1.1).all Bb then .inr () else .inl ()
def tA:sP->Prop:=λ(t,i)=>t.2.1.length<=1000000000/\∃k:Nat,k<=t.2.1.length/\i=k
def kC:sP->Od:=λ(t,i)=>if(bZ (ae i) t.2.1).all vZ then .inr () else .inl ()
def al0:dR->Prop:=λ_=>True
def Qq:dR->Bool:=λt=>amn t
def Oa:=dI.fI lq tx jo kB zp
def FZ:sO->Option ET:=gO Oa lq
def Oc:=dI.fI lr tA jq kC zq
def F1:sP->Option EV:=gO Oc lr
def Oe:=dI.fI lu tD js kD zr
def F3:sQ->Option EX:=gO Oe lu
def gQ:Fs Tryz.prog al0 bC Qq:=fw 42 Tryz.f42 (λt=>([.d fa t],[])) (λx=>⟨.d .bool x,[],[]⟩) [av fa] [] {loops:=oJ [(4,{ba:=[1,3]}),(9,{ba:=[1,4]}),(14,{ba:=[1,4,5]})],outs:=oI [(4,{ba:=[1]},{ba:=[2]}),(9,{},{ba:=[2]}),(14,{ba:=[1,4]},{ba:=[2]})],gf:=nQ [(4,Oa),(9,Oc),(14,Oe)]}
def ES:= @eG Tryz.prog (jQ gQ.G) gQ.an 0 Tryz.f42 0 _ lq
abbrev KB:=j7 Tryz.prog (jQ gQ.G) gQ.an 0 Tryz.f42 0 lq tx jo kB zp
def EU:= @eG Tryz.prog (jQ gQ.G) gQ.an 0 Tryz.f42 1 _ lr
abbrev KD:=j7 Tryz.prog (jQ gQ.G) gQ.an 0 Tryz.f42 1 lr tA jq kC zq
def EW:= @eG Tryz.prog (jQ gQ.G) gQ.an 0 Tryz.f42 2 _ lu
abbrev KF:=j7 Tryz.prog (jQ gQ.G) gQ.an 0 Tryz.f42 2 lu tD js kD zr
theorem Zf:jh FZ tx jo kB:=lH (jx [.d fa,.d ti] λ_=>cr)
theorem KC:mK @ES lq tx jo kB zp KB:=nc
theorem F0(pK i)(kn:K2 R)(kx:K3 R):ES (pK,i) kn kx=aL (gz i (((ag pK.1):Nat):Int)) (aL (eL i (((ag pK.1):Nat):Int)) (aL (pJ (((ag (nth gT pK.1 (ae i)).2.1.2.1):Nat):Int) (14:Int)) (kx (lT ()).1 (lT ()).2) (kn (lq (pK,(bO .i64 i (1:Int)))))) aD) (kx (tz pK).1 (tz pK).2):=cr
theorem Zg:jh F1 tA jq kC:=lH (jx [.d fa,.d ti] λ_=>cr)
theorem KE:mK @EU lr tA jq kC zq KD:=nc
theorem F2(wM gv)(kn:K2 R)(kx:K3 R):EU (wM,gv) kn kx=aL (gz gv (((ag wM.2.1):Nat):Int)) (aL (eL gv (((ag wM.2.1):Nat):Int)) (aL (pJ (((ag (nth gV wM.2.1 (ae gv)).2.1.1):Nat):Int) (6:Int)) (kx (jr ()).1 (jr ()).2) (al (F3 (wM,gv,(0:Int))) λx1=>aL x1.isLeft (al x1.getLeft? λa2=>kx (jr ()).1 (jr ()).2) (al x1.getRight? λb3=>kn (lr (b3.1,(bO .i64 b3.2 (1:Int))))))) aD) (kx (tC ()).1 (tC ()).2):=cr
theorem Zh:jh F3 tD js kD:=lH (jx [.d fa,.d ti,.d ti] λ_=>cr)
theorem KG:mK @EW lu tD js kD zr KF:=nc
theorem F4(Zt Mk kv)(kn:K2 R)(kx:K3 R):EW (Zt,Mk,kv) kn kx=aL (eL Mk (((ag Zt.2.1):Nat):Int)) (aL (gz kv (((ag (nth gV Zt.2.1 (ae Mk)).2.1.1):Nat):Int)) (aL (eL Mk (((ag Zt.2.1):Nat):Int)) (aL (eL kv (((ag (nth gV Zt.2.1 (ae Mk)).2.1.1):Nat):Int)) (aL (pJ (((ag (nth kS (nth gV Zt.2.1 (ae Mk)).2.1.1 (ae kv)).1):Nat):Int) (14:Int)) (kx (lU ()).1 (lU ()).2) (kn (lu (Zt,Mk,(bO .i64 kv (1:Int)))))) aD) aD) (kx (tE (Zt,Mk)).1 (tE (Zt,Mk)).2)) aD:=cr
theorem aqF(t)(k:K1 R):gQ.A t k=aL (pJ (t.1.length:Int) 66) (k (gQ.out aQ)) (aL (pJ (t.2.1.length:Int) 66) (k (gQ.out aQ)) (al (FZ (t,0)) λx1=>aL x1.isLeft (al x1.getLeft? λa2=>k (gQ.out aQ)) (al x1.getRight? λb3=>al (F1 (b3,0)) λx7=>aL x7.isLeft (al x7.getLeft? λa8=>k (gQ.out aQ)) (al x7.getRight? λb9=>k (gQ.out aZ))))):=cr
theorem adz:KB:=by
 refine KC (λ(t,i)=>t.1.length - ae i) ?_
 rintro⟨t,i⟩ ⟨hlen,k,hk,rfl⟩;have hlen:t.1.length<=1000000000:=hlen;have hk:k<=t.1.length:=hk;by_cases h:k < t.1.length
 ·have n1:nth gT t.1 k=t.1[k]:=cg (t:=gT) h;have hd:(bZ k t.1).all Bc=(Bc t.1[k] && (bZ (k+1) t.1).all Bc):=by rw[aq h,fK]
  have step:∀ {R:Type} (kn:AS->Option R) (kx:Exit->AS->Option R),ES (t,(k:Int)) kn kx=aL (Bc t.1[k]) (kn (lq (t,((k+1:Nat):Int)))) (kx (lT ()).1 (lT ()).2):=by
   intro R kn kx;rw[F0,aX ak,bj (show(0:Int)<=(k:Int) by omega) ak,aa,n1];simp only[aj];rw[N.mZ ak];unfold Bc;by_cases hs:t.1[k].2.1.2.1.length<=14
   ·rw[cH ak,aM hs];rfl
   ·rw[dd ak,aV hs];rfl
  cases hp:Bc t.1[k]
  ·right;refine⟨lT (),?_,λkn kx=> ?_⟩
   ·simp only[jo,kB,aa,hd,hp,cY,bw,bA];rfl
   ·rw[step,hp,ao]
  ·left;refine⟨(t,((k+1:Nat):Int)),⟨hlen,k+1,ak,rfl⟩,by simp only[aa];omega,?_,λkn kx=> ?_⟩
   ·simp only[jo,kB,aa,hd,hp,bF]
   ·rw[step,hp,aj]
 ·right;obtain rfl:k=t.1.length:=ak;refine⟨tz t,?_,λkn kx=> ?_⟩
  ·simp only[jo,kB,aa,aN];rfl
  ·rw[F0,aU ak,ao]
theorem adB:KF:=by
 refine KG (λ(t,j,i)=>(nth gV t.2.1 (ae j)).2.1.1.length - ae i) ?_
 rintro⟨t,j,i⟩ ⟨hlen,k,hk,rfl,hj⟩;have hlen:(nth gV t.2.1 (ae j)).2.1.1.length<=1000000000:=hlen;have hk:k<=(nth gV t.2.1 (ae j)).2.1.1.length:=hk;have hj:0<=j/\j < (t.2.1.length:Int):=hj;by_cases h:k < (nth gV t.2.1 (ae j)).2.1.1.length
 ·have n1:nth kS (nth gV t.2.1 (ae j)).2.1.1 k=(nth gV t.2.1 (ae j)).2.1.1[k]:=cg (t:=kS) h;have hd:(bZ k (nth gV t.2.1 (ae j)).2.1.1).all Bb=(Bb (nth gV t.2.1 (ae j)).2.1.1[k] && (bZ (k+1) (nth gV t.2.1 (ae j)).2.1.1).all Bb):=by rw[aq h,fK]
  have step:∀ {R:Type} (kn:AS->Option R) (kx:Exit->AS->Option R),EW (t,j,(k:Int)) kn kx=aL (Bb (nth gV t.2.1 (ae j)).2.1.1[k]) (kn (lu (t,j,((k+1:Nat):Int)))) (kx (lU ()).1 (lU ()).2):=by
   intro R kn kx;rw[F4,bj hj.1 hj.2,aj,aX ak,bj (show(0:Int)<=(k:Int) by omega) ak,aa,n1];simp only[aj];rw[N.mZ ak];unfold Bb;by_cases hs:(nth gV t.2.1 (ae j)).2.1.1[k].1.length<=14
   ·rw[cH ak,aM hs];rfl
   ·rw[dd ak,aV hs];rfl
  cases hp:Bb (nth gV t.2.1 (ae j)).2.1.1[k]
  ·right;refine⟨lU (),?_,λkn kx=> ?_⟩
   ·simp only[js,kD,aa,hd,hp,cY,bw,bA];rfl
   ·rw[step,hp,ao]
  ·left;refine⟨(t,j,((k+1:Nat):Int)),⟨hlen,k+1,ak,rfl,hj⟩,by simp only[aa];omega,?_,λkn kx=> ?_⟩
   ·simp only[js,kD,aa,hd,hp,bF]
   ·rw[step,hp,aj]
 ·right;obtain rfl:k=(nth gV t.2.1 (ae j)).2.1.1.length:=ak;refine⟨tE (t,j),?_,λkn kx=> ?_⟩
  ·simp only[js,kD,aa,aN];rfl
  ·rw[F4,bj hj.1 hj.2,aj,aU ak,ao]
theorem adA:KD:=by
 refine KE (λ(t,i)=>t.2.1.length - ae i) ?_
 rintro⟨t,i⟩ ⟨hlen,k,hk,rfl⟩;have hlen:t.2.1.length<=1000000000:=hlen;have hk:k<=t.2.1.length:=hk;by_cases h:k < t.2.1.length
 ·have n1:nth gV t.2.1 k=t.2.1[k]:=cg (t:=gV) h;have hd:(bZ k t.2.1).all vZ=(vZ t.2.1[k] && (bZ (k+1) t.2.1).all vZ):=by rw[aq h,fK]
  have step:∀ {R:Type} (kn:AS->Option R) (kx:Exit->AS->Option R),EU (t,(k:Int)) kn kx=aL (vZ t.2.1[k]) (kn (lr (t,((k+1:Nat):Int)))) (kx (jr ()).1 (jr ()).2):=by
   intro R kn kx;rw[F2,aX ak,bj (show(0:Int)<=(k:Int) by omega) ak,aa,n1];simp only[aj];unfold vZ;by_cases hs:t.2.1[k].2.1.1.length<=6
   ·rw[cH ak,aM hs,ao,Zh (d:=(t,(k:Int),0)) ⟨by rw[aa,n1];show t.2.1[k].2.1.1.length<=_;omega,0,aP _,rfl,by show(0:Int)<=(k:Int);omega,by show(k:Int) < (t.2.1.length:Int);omega⟩];simp only[ah,js,kD,aa,n1,bg,aG,bF];cases t.2.1[k].2.1.1.all Bb
    ·rfl
    ·simp only[bM,dJ,cW,ao,ah,aj];rw[N.mZ ak]
   ·rw[dd ak,aV hs];rfl
  cases hp:vZ t.2.1[k]
  ·right;refine⟨jr (),?_,λkn kx=> ?_⟩
   ·simp only[jq,kC,aa,hd,hp,cY,bw,bA];rfl
   ·rw[step,hp,ao]
  ·left;refine⟨(t,((k+1:Nat):Int)),⟨hlen,k+1,ak,rfl⟩,by simp only[aa];omega,?_,λkn kx=> ?_⟩
   ·simp only[jq,kC,aa,hd,hp,bF]
   ·rw[step,hp,aj]
 ·right;obtain rfl:k=t.2.1.length:=ak;refine⟨tC (),?_,λkn kx=> ?_⟩
  ·simp only[jq,kC,aa,aN];rfl
  ·rw[F2,aU ak,ao]
theorem aqG:gQ.Ok:=by
 intro t _;rw[aqF];simp only[bC,Qq,amn];by_cases h1:t.1.length<=66
 ·by_cases h2:t.2.1.length<=66
  ·rw[cH ak,cH ak,ao,ao,aM ⟨h1,h2⟩,Zf (d:=(t,0)) ⟨by show t.1.length<=_;omega,0,aP _,rfl⟩];simp only[ah,jo,kB,bg,aG,bF];cases t.1.all Bc
   ·rfl
   ·simp only[bM,dJ,cW,ao,ah,bF];rw[Zg (d:=(t,0)) ⟨by show t.2.1.length<=_;omega,0,aP _,rfl⟩];simp only[ah,jq,kC,bg,aG];cases t.2.1.all vZ <;> rfl
  ·rw[cH ak,dd ak,aV (λx=>h2 x.2)];rfl
 ·rw[dd ak,aV (λx=>h1 x.1)];rfl
theorem al1:gQ.RS:=rE [.d fa] gQ
def aqH:=gQ.fC aqG 3 ⟨.fI adz,⟨.fI adA,⟨.fI adB,trivial⟩⟩⟩
def I7(a b:bJ):Int:=aSX [afO a.1 b.1,an9 a.2.1 b.2.1]
def aFj:(bJ×bJ)->Prop:=λ(a,b)=>a.1.length=32/\b.1.length=32
def aFi:(bJ×bJ)->Int:=λ(a,b)=>I7 a b
def as7:Fs Tryz.prog aFj bC aFi:=fw 62 Tryz.f62 (λ(a,b)=>([.d bh a,.d bh b],[])) (λx=>⟨.d ti x,[],[]⟩) [av bh,av bh] [aLZ,aNn,aQD]
theorem aMe(a b)(k:K1 R):as7.A (a,b) k=al (asH.call ((cut a.1 0 32),(cut b.1 0 32))) λx1=>al (YV.call (a.2.1,b.2.1)) λx2=>al (aD8.call [x1,x2]) λx3=>k (as7.out x3):=cr
theorem aMf:as7.Ok:=by rintro⟨a,b⟩ ⟨ha,hb⟩;have ha:a.1.length=32:=ha;have hb:b.1.length=32:=hb;have c1:cut a.1 0 32=a.1:=fB ha;have c2:cut b.1 0 32=b.1:=fB hb;rw[aMe,c1,c2,aEM (d:=(a.1,b.1)) trivial];simp only[ah,bC,aEK];rw[aHr (d:=(a.2.1,b.2.1)) trivial];simp only[ah,bC,aua];rw[aMG (d:=[afO a.1 b.1,an9 a.2.1 b.2.1]) (by show 2<=_;decide)];simp only[ah,bC,aF4,bC,aFi,I7]
theorem aFk:as7.RS:=rE [.d bh,.d bh] as7
def aMg:=as7.fC aMf
def lx:List Int->List Int->Int
 |x::xs,y::ys=>if x≠y then(if x < y then -1 else 1) else lx xs ys
 |_,_=>0
theorem axZ:∀a,lx a a=0
 |[]=>rfl
 |x::a=>by simp[lx,axZ a]
theorem aPV:∀ {a b:List Int},a.length=b.length->lx a b=0->a=b
 |[],[],_,_=>rfl
 |[],_::_,h,_=>by simp at h
 |_::_,[],h,_=>by simp at h
 |x::a,y::b,h,h2=>by
  simp only[lx]at h2;split at h2
  ·split at h2 <;> omega
  ·rename_i e;have e:x=y:=ak;rw[e,aPV (by simpa using h) h2]
theorem aco:∀a b:List Int,lx b a= - lx a b
 |[],[]=>rfl
 |[],_::_=>rfl
 |_::_,[]=>rfl
 |x::a,y::b=>by
  simp only[lx];by_cases h:x=y
  ·rw[if_neg ak,if_neg ak,aco a b]
  ·rw[if_pos ak,if_pos h];by_cases h2:x < y
   ·rw[if_neg ak,if_pos h2];rfl
   ·rw[if_pos ak,if_neg h2]
theorem acp:∀ {a b c:List Int},a.length=b.length->b.length=c.length->lx a b<=0->lx b c<=0->lx a c<=0/\(lx a c=0->lx a b=0/\lx b c=0)
 |[],[],[],_,_,_,_=>by simp[lx]
 |x::a,y::b,z::c,h1,h2,h3,h4=>by
  have ih:=acp (a:=a) (b:=b) (c:=c) (by simpa using h1) (by simpa using h2);simp only[lx]at h3 h4 ⊢;by_cases e1:x=y
  ·by_cases e2:y=z
   ·rw[if_neg ak]at h3 h4;rw[if_neg ak,if_neg ak,if_neg ak];exact ih h3 h4
   ·rw[if_neg ak]at h3;rw[if_pos e2]at h4;rw[if_pos ak];by_cases e3:y < z
    ·rw[if_pos ak];exact⟨ak,λh=>ak⟩
    ·rw[if_neg e3]at h4;omega
  ·rw[if_pos e1]at h3;by_cases e3:x < y
   ·by_cases e2:y=z
    ·rw[if_pos ak,if_pos ak];exact⟨ak,λh=>ak⟩
    ·rw[if_pos e2]at h4;by_cases e4:y < z
     ·rw[if_pos ak,if_pos ak];exact⟨ak,λh=>ak⟩
     ·rw[if_neg e4]at h4;omega
   ·rw[if_neg e3]at h3;omega
 |[],_::_,_,h,_,_,_=>by simp at h
 |_::_,[],_,h,_,_,_=>by simp at h
 |_,[],_::_,_,h,_,_=>by simp at h
 |_,_::_,[],_,h,_,_=>by simp at h
def aUq(a b:Int):Int:=if a=0 then b else a
theorem alo{p:Int}{a b:List Int}:lx (p::a) (p::b)=lx a b:=by simp[lx]
theorem VG{p q:Int}{a b:List Int}(h:¬p=q):lx (p::a) (q::b)=if p < q then -1 else 1:=by simp[lx,h]
theorem aln:∀ {a b:List Int} (x y:Int),a.length=b.length->lx (a++ [x]) (b++ [y])=aUq (lx a b) (an9 x y)
 |[],[],x,y,_=>by
  show lx [x] [y]=aUq 0 (an9 x y);simp only[aUq,bM];unfold an9;by_cases h:x=y
  ·subst h;rw[alo,if_neg ak,if_neg ak];rfl
  ·rw[VG h];by_cases h2:x < y
   ·rw[if_pos h2,if_pos h2]
   ·rw[if_neg h2,if_neg h2,if_pos ak]
 |[],_::_,_,_,h=>by simp at h
 |_::_,[],_,_,h=>by simp at h
 |p::a,q::b,x,y,h=>by
  show lx (p::(a++ [x])) (q::(b++ [y]))=_;by_cases h2:p=q
  ·subst h2;rw[alo,alo];exact aln x y (by simpa using h)
  ·rw[VG h2,VG h2];by_cases h3:p < q
   ·rw[if_pos h3];rfl
   ·rw[if_neg h3];rfl
def aFX:List UInt8->List UInt8->Int
 |x::xs,y::ys=>if x !=y then(if x < y then -1 else 1) else aFX xs ys
 |_,_=>0
theorem aoa:∀(xs ys:List UInt8),xs.length=ys.length->(match(List.range xs.length).find? λi=>xs[i]! !=ys[i]! with | some i=>if xs[i]! < ys[i]! then(-1:Int) else 1 | none=>0)=aFX xs ys
 |[],[],_=>rfl
 |[],_::_,h=>by simp at h
 |_::_,[],h=>by simp at h
 |x::xs,y::ys,h=>by
  have ih:=aoa xs ys (by simpa using h);rw[aB,List.range_succ_eq_map,List.find?_cons];simp only[List.getElem!_cons_zero,aFX];cases hb:(x !=y) with
  |true=>simp
  |false=>
   simp only[bw,bA];rw[List.find?_map,<-ih];have e:((λi=>(x::xs)[i]! !=(y::ys)[i]!)∘Nat.succ)=λi=>xs[i]! !=ys[i]! :=by funext i;simp
   rw[e];cases(List.range xs.length).find? λi=>xs[i]! !=ys[i]! <;> simp
theorem axk:∀ {a b:List Int},(∀x∈a,0<=x/\x < 256)->(∀x∈b,0<=x/\x < 256)->aFX (a.map λn=>fQ n.toNat) (b.map λn=>fQ n.toNat)=lx a b
 |[],_,_,_=>by cases ‹List Int› <;> rfl
 |_::_,[],_,_=>rfl
 |x::a,y::b,ha,hb=>by
  have hx:=ha x (aK ..);have hy:=hb y (aK ..);have ih:=axk (a:=a) (b:=b) (λz hz=>ha z (aF _ hz)) (λz hz=>hb z (aF _ hz));simp only[bY,aFX,lx,ih];have e1:(fQ x.toNat).toNat=x.toNat:=by simp[UInt8.toNat_ofNat];omega
  have e2:(fQ y.toNat).toNat=y.toNat:=by simp[UInt8.toNat_ofNat];omega
  by_cases h:x=y
  ·subst h;simp
  ·have il:(fQ x.toNat !=fQ y.toNat)=aZ:=by rw[bne_iff_ne];intro e;have:=bu UInt8.toNat e;rw[e1,e2]at this;omega
   rw[il,if_pos rfl,if_pos h];have iA:fQ x.toNat < fQ y.toNat↔x < y:=by rw[UInt8.lt_iff_toNat_lt,e1,e2];omega
   by_cases h2:x < y
   ·rw[if_pos (iA.2 h2),if_pos h2]
   ·rw[if_neg (λe=>h2 (iA.1 e)),if_neg h2]
theorem aMy{a b:List Int}(hl:a.length=b.length)(ha:∀x∈a,0<=x/\x < 256)(hb:∀x∈b,0<=x/\x < 256):afO a b=lx a b:=by
 rw[<-axk ha hb,<-aoa _ _ (by simpa using hl)];unfold afO Extern.BytealgCompare.cmp;have s1:∀l:List Int,(fY l).size=l.length:=λl=>by simp[fY,ByteArray.size]
 have g1:∀(l:List Int) (i:Nat),(fY l)[i]! =(l.map λn=>fQ n.toNat)[i]! :=λl i=>by
  by_cases h:i < (fY l).size
  ·rw[ml _ i h];have h2:i < (l.map λn=>fQ n.toNat).length:=by simpa[fY,ByteArray.size]using h
   rw[ml _ i h2];rfl
  ·rw[getElem!_neg _ i h];have h2:¬i < (l.map λn=>fQ n.toNat).length:=by simpa[fY,ByteArray.size]using h
   rw[getElem!_neg _ i h2]
 simp only[s1,g1,hl,Nat.min_self,cm];cases(List.range b.length).find? λi=>(a.map λn=>fQ n.toNat)[i]! !=(b.map λn=>fQ n.toNat)[i]! <;> simp
def C6(o:bJ):Prop:=o.1.length=32/\∀x∈o.1,0<=x/\x < 256
def AU(o:bJ):List Int:=o.1++ [o.2.1]
theorem sI{o:bJ}(h:C6 o):(AU o).length=33:=by simp[AU,h.1]
theorem aIB{a b:bJ}(ha:C6 a)(hb:C6 b)(h:AU a=AU b):a=b:=by obtain⟨a1,a2,_⟩:=a;obtain⟨b1,b2,_⟩:=b;have h:a1++ [a2]=b1++ [b2]:=h;have:=List.append_inj' h rfl;rw[this.1,show a2=b2 by simpa using this.2]
theorem vp{a b:bJ}(ha:C6 a)(hb:C6 b):I7 a b=lx (AU a) (AU b):=by
 unfold AU I7;rw[aln _ _ (ha.1.trans hb.1.symm),aMy (ha.1.trans hb.1.symm) ha.2 hb.2];simp only[aSX,aUq];by_cases h:lx a.1 b.1=0
 ·rw[if_pos h,if_neg (λe=>e h)];split
  ·rfl
  ·omega
 ·rw[if_neg h,if_pos h]
theorem sD:aSv Tryz.prog bh 62 C6 I7:= {
 cq:=⟨as7.E,aMg.h.1 (by rfl),λx y hx hy=>⟨_,aFk (d:=(x,y)) ⟨hx.1,hy.1⟩,rfl⟩⟩
 enters:=enters_of Tryz.func62 cr rfl
 irrefl:=λx hx=>by rw[vp hx hx,axZ];decide
 trans:=λx y z hx hy hz h1 h2=>by
  rw[vp hx hy]at h1;rw[vp hy hz]at h2;rw[vp hx hz];have:=acp (by rw[sI hx,sI hy]) (by rw[sI hy,sI hz]) (by omega:lx (AU x) (AU y)<=0) (by omega:lx (AU y) (AU z)<=0);have h3:=this.1;by_cases h4:lx (AU x) (AU z)=0
  ·have:=(this.2 h4).1;omega
  ·omega
 ntrans:=λx y z hx hy hz h1 h2=>by
  rw[vp hx hy]at h1;rw[vp hy hz]at h2;rw[vp hx hz];have e1:=aco (AU x) (AU y);have e2:=aco (AU y) (AU z);have e3:=aco (AU x) (AU z);have:=(acp (by rw[sI hz,sI hy]) (by rw[sI hy,sI hx]) (by omega:lx (AU z) (AU y)<=0) (by omega:lx (AU y) (AU x)<=0)).1;omega}
theorem BQ{x y:bJ}(hx:C6 x)(hy:C6 y)(h1:¬I7 x y < 0)(h2:¬I7 y x < 0):x=y:=by rw[vp hx hy]at h1;rw[vp hy hx,aco]at h2;exact aIB hx hy (aPV (by rw[sI hx,sI hy]) ak)
end Go.Ab
namespace Go.Proofs
open Go.Shelf
def Tryz.av3:Go.Shelf.Ren:=⟨λ | 6=>106 | 15=>168 | 14=>167 | 28=>207 | 29=>208 | 20=>199 | 21=>200 | 22=>201 | 23=>202 | 24=>203 | 25=>204 | 26=>205 | 27=>206 | 46=>232 | 47=>233 | 48=>234 | 49=>235 | 50=>236 | 57=>245 | n=>n,λ | 22=>46 | 24=>38 | 25=>129 | 3=>3 | 39=>229 | 0=>0 | 53=>231 | 55=>74 | 4=>4 | 46=>262 | 45=>261 | 50=>182 | 5=>5 | 9=>9 | 66=>288 | 70=>291 | 76=>298 | 77=>299 | n=>n,λ | n=>n⟩
theorem Tryz.aSa:Go.Proofs.SlLaysF0.n6 Tryz.prog Tryz.av3:= {
 mixed:=by kernel_rfl
 f6:=⟨Tryz.f106.name,by decide,Tryz.func106.trans (congrArg av (by kernel_rfl))⟩
 f14:=⟨Tryz.f167.name,by decide,Tryz.func167.trans (congrArg av (by kernel_rfl))⟩
 f15:=Tryz.func168.trans (congrArg av (by kernel_rfl))
 f20:=⟨Tryz.f199.name,by decide,Tryz.func199.trans (congrArg av (by kernel_rfl))⟩
 f21:=⟨Tryz.f200.name,by decide,Tryz.func200.trans (congrArg av (by kernel_rfl))⟩
 f22:=⟨Tryz.f201.name,by decide,Tryz.func201.trans (congrArg av (by kernel_rfl))⟩
 f23:=⟨Tryz.f202.name,by decide,Tryz.func202.trans (congrArg av (by kernel_rfl))⟩
 f24:=⟨Tryz.f203.name,by decide,Tryz.func203.trans (congrArg av (by kernel_rfl))⟩
 f25:=⟨Tryz.f204.name,by decide,Tryz.func204.trans (congrArg av (by kernel_rfl))⟩
 f26:=⟨Tryz.f205.name,by decide,Tryz.func205.trans (congrArg av (by kernel_rfl))⟩
 f27:=⟨Tryz.f206.name,by decide,Tryz.func206.trans (congrArg av (by kernel_rfl))⟩
 f28:=Tryz.func207.trans (congrArg av (by kernel_rfl))
 f29:=Tryz.func208.trans (congrArg av (by kernel_rfl))
 f46:=⟨Tryz.f232.name,by decide,Tryz.func232.trans (congrArg av (by kernel_rfl))⟩
 f47:=Tryz.func233.trans (congrArg av (by kernel_rfl))
 f48:=Tryz.func234.trans (congrArg av (by kernel_rfl))
 f49:=⟨Tryz.f235.name,by decide,Tryz.func235.trans (congrArg av (by kernel_rfl))⟩
 f50:=⟨Tryz.f236.name,by decide,Tryz.func236.trans (congrArg av (by kernel_rfl))⟩
 f57:=⟨Tryz.f245.name,by decide,Tryz.func245.trans (congrArg av (by kernel_rfl))⟩
 t0:=Tryz.underlying0
 a0:=Tryz.isAgg0
 z0:=Tryz.sizeOf0
 v0:=Tryz.zeroValue0
 t3:=Tryz.underlying3
 a3:=Tryz.isAgg3
 z3:=Tryz.sizeOf3
 v3:=Tryz.zeroValue3
 t4:=Tryz.underlying4
 a4:=Tryz.isAgg4
 z4:=Tryz.sizeOf4
 v4:=Tryz.zeroValue4
 t5:=Tryz.underlying5
 a5:=Tryz.isAgg5
 z5:=Tryz.sizeOf5
 v5:=Tryz.zeroValue5
 t9:=Tryz.underlying9
 a9:=Tryz.isAgg9
 z9:=Tryz.sizeOf9
 v9:=Tryz.zeroValue9
 t22:=Tryz.underlying46
 a22:=Tryz.isAgg46
 z22:=Tryz.sizeOf46
 v22:=Tryz.zeroValue46
 t25:=Tryz.underlying129
 a25:=Tryz.isAgg129
 z25:=Tryz.sizeOf129
 v25:=Tryz.zeroValue129
 t39:=Tryz.underlying229
 a39:=Tryz.isAgg229
 z39:=Tryz.sizeOf229
 v39:=Tryz.zeroValue229
 t45:=Tryz.underlying261
 a45:=Tryz.isAgg261
 z45:=Tryz.sizeOf261
 v45:=Tryz.zeroValue261
 t46:=Tryz.underlying262
 a46:=Tryz.isAgg262
 z46:=Tryz.sizeOf262
 v46:=Tryz.zeroValue262
 t50:=Tryz.underlying182
 a50:=Tryz.isAgg182
 z50:=Tryz.sizeOf182
 v50:=Tryz.zeroValue182
 t53:=Tryz.underlying231
 a53:=Tryz.isAgg231
 z53:=Tryz.sizeOf231
 v53:=Tryz.zeroValue231
 t55:=Tryz.underlying74
 a55:=Tryz.isAgg74
 z55:=Tryz.sizeOf74
 v55:=Tryz.zeroValue74
 t66:=Tryz.underlying288
 a66:=Tryz.isAgg288
 z66:=Tryz.sizeOf288
 v66:=Tryz.zeroValue288
 t70:=Tryz.underlying291
 a70:=Tryz.isAgg291
 z70:=Tryz.sizeOf291
 v70:=Tryz.zeroValue291
 t76:=Tryz.underlying298
 a76:=Tryz.isAgg298
 z76:=Tryz.sizeOf298
 v76:=Tryz.zeroValue298
 t77:=Tryz.underlying299
 a77:=Tryz.isAgg299
 z77:=Tryz.sizeOf299
 v77:=Tryz.zeroValue299}
end Go.Proofs
namespace Go.Ab
open Go.Proofs
def aSe:Entry:=aOV 62 38 bh C6 I7
def Wt:Nat×List bJ->Option (Nat×List bJ):=amp 62 38 bh C6 I7
theorem aKh{d:Nat×List bJ}(h:aey (t:=bh) C6 I7 d):Wt d=av (d.1,Qx (t:=bh) I7 d.2):=ayw h
def aOW:SG Tryz.prog:=⟨106,nh,aSe,.of (aKm Tryz.aSa (by rfl) (λw=>Tryz.isAgg38 w) (λw=>Tryz.sizeOf38 w) sD) (by rfl)⟩
theorem DE{β:Type}{kt:Ty}(hc:kt.comp=aZ){x:kt.den}{v:β}:∀ {l:List (kt.den×β)},x ∉ l.map (·.1)->fj kt x v l=l++ [(x,v)]
 |[],_=>rfl
 |p::l,h=>by
  rw[qt];have h1:¬kt.beq x p.1=aZ:=λe=>h (by rw[beq_eq kt _ _ hc e];simp)
  rw[if_neg h1,DE hc λe=>h (by simp[e])];rfl
theorem fi:bh.comp=aZ:=rfl
def wY(l:List (bJ×eV)):Int:=(l.map λp=>p.2.1.1).sum
theorem rk(p:bJ×eV)(l:List (bJ×eV)):wY (p::l)=p.2.1.1+wY l:=by simp[wY]
theorem anh(l l':List (bJ×eV)):wY (l++l')=wY l+wY l':=by simp[wY]
theorem UF{l l':List (bJ×eV)}(h:l.Perm l'):wY l=wY l':=by
 induction h with
 |nil=>rfl
 |cons x _ ih=>rw[rk,rk,ih]
 |swap x y l=>rw[rk,rk,rk,rk];omega
 |trans _ _ h1 h2=>rw[h1,h2]
theorem abv{α:Type}{l:List α}{j:Nat}(h:j < l.length):l.Perm (l[j]::l.eraseIdx j):=by
 induction l generalizing j with
 |nil=>simp at h
 |cons x l ih=>
  cases j with
  |zero=>exact iX _
  |succ j=>
   have h:j < l.length:=by simpa using h
   simp only[List.getElem_cons_succ,List.eraseIdx_cons_succ];exact((ih h).cons x).trans (List.Perm.swap _ _ _)
theorem alw{kt vt:Ty}{l:List (kt.den×vt.den)}{j:Nat}(h:j < l.length):AR kt vt l j=l[j]:=by simp[AR,aJ,cj h]
abbrev aj6:=Nat×(List cG)
abbrev axj:=Nat×(List cG)
def U1:aj6->axj->(((List cG))×(Nat×(List cG))):=λ(sL,o0) y=>(o0,y)
def azV:aj6->Prop:=λ(n,l)=>n<=l.length/\l.length<=1000000
def aj7:aj6->axj:=λ(n,l)=>((l.take n).length,l.take n)
def Rt:Fs Tryz.prog azV U1 aj7:=fw 198 Tryz.f198 (λ(sL,o0)=>([.bE (.bt 0) 0 [] 0 0 sL],[.obj 0 aQ (.vec 256 cR o0)])) (λx=>⟨.bE (.new 0 0) 0 [] 0 0 x.2.1,[.obj 0 aQ (.vec 256 cR x.1)],[.obj 0 aQ (.vec 256 cR x.2.2)]⟩) [aD] [] {bT:=[5],owns:=[⟨2,[],5,158⟩]}
theorem aFU(sL o0)(k:K1 R):Rt.A (sL,o0) k=aL (decide (0 < sL)) (aL (decide (0=0/\(0+sL)<=(ag o0))) (aL (dw (0+(ag (cut o0 0 sL))) 48) (k (Rt.out (o0,((0+(ag (cut o0 0 sL))),((aW 0 (ab 0 (([]:List afD),(([]:List bJ),()))))++(cut o0 0 sL)))))) aD) aD) (nd (k (Rt.out (o0,(0,([]:List cG))))) (aL (decide (0=0/\(0+sL)<=(ag o0))) (aL (dw (0+(ag (cut o0 0 sL))) 48) (k (Rt.out (o0,((0+(ag (cut o0 0 sL))),((aW 0 (ab 0 (([]:List afD),(([]:List bJ),()))))++(cut o0 0 sL)))))) aD) aD)):=cr
theorem aFV:Rt.Ok:=by
 rintro⟨n,l⟩ ⟨h1,h2⟩;have h1:n<=l.length:=h1;have h2:l.length<=1000000:=h2;have ec:cut l 0 n=l.take n:=by simp[cut]
 have ht:(l.take n).length<=1000000:=by rw[bB];omega
 have hr:dw (l.take n).length 48=aZ:=dC ak ak;rw[aFU];simp only[aR,ec,hr,aj,dZ,aY,nL,aM h1,U1,aj7];by_cases h:0 < n
 ·simp only[aM h,aj]
 ·have:n=0:=ak;subst this;simp only[dZ,bl,aP,cO,aj,AQ,aV (iV 0),ao]
theorem azW:Rt.RS:=rE [.n,.d (.slice cR)] Rt
def aFW:=Rt.aVk ai5 aFV
abbrev JG:=Nat×(List (bJ×eV))×(List cG)×(List (bJ×eV))×(List cG)×Nat×(List (bJ×eV))
abbrev Xh:=(List (bJ×eV))
def xJ:JG->Xh->((Nat×(List (bJ×eV))×(List cG)×(List cG)×Nat)×((List (bJ×eV)))):=λ(o0L,eD,eZ,n6,n11,I9,n18) y=>((o0L,eD,eZ,n11,I9),y)
abbrev aoy:=Nat×(List (bJ×eV))×(List cG)
def afP:JG->Prop:=λ(_,_,_,m,_,_,rest)=>((m++rest).map (·.1)).Nodup
def Dn:JG->Xh:=λ(_,_,_,m,_,_,rest)=>jF (m++rest)
def atB:aoy->Prop:=λ(n,a,s)=>n<=s.length/\s.length<=1000000/\(a.map (·.1)).Nodup
def aoz:aoy->(Nat×(List (bJ×eV))×(List cG)×Nat×(List (bJ×eV))×(List cG)):=λ(n,a,s)=>(n,a,s,(s.take n).length,jF a,s.take n)
def rr:Ls afP xJ Dn:=sH (λ(o0L,eD,eZ,n6,n11,I9,n18)=>⟨([bH,bH,bH,fx 13]++aS 14 ([fx 18]++aS 12 [])),[bV (.pr (.cI (.bt 1) 0) (.pr (.bE (.bt 2) 0 [] 0 0 o0L) gg)),.obj 0 aZ (.mp bh fv eD),bV (.vec 256 cR eZ)],(bS 6 ([ed (.mp bh fv n6)]++bS 4 ([ed (.vec 256 cR n11),[],ed (.pr (.cI (.new 6 0) 0) (.pr (pc 11 I9) gg))]++bS 4 ([ed (.uE (.bt 1) 1 bh fv n18 aD)]++bS 12 []))))⟩) (λx=>(.exit 0,⟨([bH,bH,bH,fx 13]++aS 27 []),[bV (.pr (.cI (.bt 1) 0) (.pr (.bE (.bt 2) 0 [] 0 0 x.1.1) gg)),bV (.mp bh fv x.1.2.1),bV (.vec 256 cR x.1.2.2.1)],(bS 6 ([ed (.mp bh fv x.2)]++bS 4 ([ed (.vec 256 cR x.1.2.2.2.1),[],ed (.pr (.cI (.new 6 0) 0) (.pr (pc 11 x.1.2.2.2.2) gg))]++bS 17 [])))⟩))
def zf:Fs Tryz.prog atB bC aoz:=fw 163 Tryz.f163 (λ(o0baL,o1,o2)=>([.ptr (.bt 0) 0 [] 0],[.obj 0 aQ (.pr (.cI (.bt 1) 0) (.pr (.bE (.bt 2) 0 [] 0 0 o0baL) (.d .unit ()))),.obj 0 aQ (.mp bh fv o1),.obj 0 aQ (.vec 256 cR o2)])) (λx=>⟨.ptr (.new 0 0) 0 [] 0,[.obj 0 aQ (.pr (.cI (.bt 1) 0) (.pr (.bE (.bt 2) 0 [] 0 0 x.1) (.d .unit ()))),.obj 0 aQ (.mp bh fv x.2.1),.obj 0 aQ (.vec 256 cR x.2.2.1)],[.obj 0 aQ (.pr (.cI (.new 0 1) 0) (.pr (.bE (.new 0 2) 0 [] 0 0 x.2.2.2.1) (.d .unit ()))),.obj 0 aQ (.mp bh fv x.2.2.2.2.1),.obj 0 aQ (.vec 256 cR x.2.2.2.2.2)]⟩) [aD] [aFW] {bT:=[13],loops:=oJ [(3,{ba:=[3,18],sites:=[6,11,13,18],aVe:=[18]})],outs:=oI [(3,{ba:=[3],sites:=[6,11,13],aQz:=[(.new 6 0)]},{ba:=[2]})],gf:=nQ [(3,rr.E)]}
theorem afQ:rr.RS:=rL [.n,.d (.slice (.pair bh fv)),.d (.slice cR),.d (.slice (.pair bh fv)),.d (.slice cR),.n,.d (.slice (.pair bh fv))] rr
theorem JH(o0L eD eZ n6 n11 I9 n18)(kn:K2 R)(kx:K3 R):zf.R 0 rr (o0L,eD,eZ,n6,n11,I9,n18) kn kx=aL (decide (0 < (ag n18))) (aGr (ag n18) λj1=>kn (rr.st (o0L,eD,eZ,(fj bh (AR bh fv n18 j1).1 (AR bh fv n18 j1).2 n6),n11,I9,(List.eraseIdx n18 j1)))) (rr.go kx ((o0L,eD,eZ,n11,I9),(jF n6))):=cr
theorem az7(o0baL o1 o2)(k:K1 R):zf.A (o0baL,o1,o2) k=al (Rt.call (o0baL,o2)) λx1=>al (rr.call (o0baL,o1,x1.1,([]:List (bJ×eV)),x1.2.2,x1.2.1,o1)) λx3=>k (zf.out (x3.1.1,x3.1.2.1,x3.1.2.2.1,x3.1.2.2.2.2,x3.2,x3.1.2.2.2.1)):=cr
theorem akj:(zf.lF 0 rr):=by
 refine(zf.aW5 0 rr) (λ(_,_,_,_,_,_,rest)=>rest.length) ?_
 rintro⟨n,a,s,m,u,k0,rest⟩ hn;have hn:((m++rest).map (·.1)).Nodup:=hn;by_cases h:0 < rest.length
 ·left;have e1:∀j,j < rest.length->fj bh (AR bh fv rest j).1 (AR bh fv rest j).2 m=m++ [AR bh fv rest j]:=λj hj=>by rw[DE fi];intro hm;rw[s8,List.nodup_append]at hn;exact hn.2.2 _ hm _ (df.2 ⟨_,aO hj,by rw[alw hj]⟩) rfl
  have e2:∀j,j < rest.length->(m++ [AR bh fv rest j]++rest.eraseIdx j).Perm (m++rest):=λj hj=>by rw[aI,alw hj];exact List.Perm.append_left _ (abv hj).symm
  refine⟨rest.length,λj=>(n,a,s,fj bh (AR bh fv rest j).1 (AR bh fv rest j).2 m,u,k0,rest.eraseIdx j),h,λj hj=>⟨?_,?_,?_⟩,λkn kx=> ?_⟩
  ·show((fj bh (AR bh fv rest j).1 (AR bh fv rest j).2 m++rest.eraseIdx j).map (·.1)).Nodup;rw[e1 j hj];exact(((e2 j hj).map _).nodup_iff).2 hn
  ·show(rest.eraseIdx j).length < rest.length;rw[List.length_eraseIdx,if_pos hj];omega
  ·simp only[xJ,Dn,e1 j hj];rw[azE (e2 j hj)]
  ·rw[JH,aM h,aj]
 ·right;obtain rfl:rest=[]:=bK ak;intro T kn kx;rw[JH,aV h,ao];simp only[xJ,Dn,bm]
theorem az8:zf.Ok:=by rintro⟨n,a,s⟩ ⟨h1,h2,h3⟩;have h1:n<=s.length:=h1;have h2:s.length<=1000000:=h2;rw[az7,azW (d:=(n,s)) ⟨h1,h2⟩];simp only[ah,U1,aj7];rw[afQ (d:=(n,a,s,[],s.take n,(s.take n).length,a)) h3];simp only[ah,xJ,Dn,bC,aoz,aY]
theorem atC:zf.RS:=rE [.n,.d (.slice (.pair bh fv)),.d (.slice cR)] zf
def ahK:=zf.fC az8 1 ⟨.fI akj,trivial⟩
abbrev U4:=iu×Nat×Nat×Int×Int×Int×(List pM)
abbrev ahH:=(List pM)×(List pM)
def aoj:U4->ahH->((iu×Int)×((List pM)×(List pM))):=λ(aRP,lL,Wv,t11,t12,n2,n9) y=>((aRP,n2),y)
def aVq(l:Lk):Prop:=l.1.length<=1000/\∀b∈l.1,b.1.length<=1000000
def aoi:U4->Prop:=λ(_,n,m,t,i,_,l)=>(l.length<=1000/\∀b∈l,b.1.length<=1000000)/\∃k:Nat,k<=l.length/\i=k/\n=l.length/\m=l.length/\t=l.length
def az0:U4->ahH:=λ(_,_,_,_,_,_,l)=>(l,l)
def aF5:iu->Prop:=λo=>aVq o.2.1
def atx:iu->iu:=λo=>o
def xI:Ls aoi aoj az0:=sH (λ(aRP,lL,Wv,t11,t12,n2,n9)=>⟨([bH,.dV gV aRP,fx 2,pc 9 lL]++aS 6 ([pc 9 Wv,.d ti t11,.d ti t12]++aS 17 [])),[],([[],[],ed (.pr (.d ti n2) (.pr (.pr (.dy) gg) gg))]++bS 6 ([ed (.vec 98 kS n9)]++bS 20 []))⟩) (λx=>(.exit 0,⟨([bH,.dV gV x.1.1,fx 2,.d (.slice kS) x.2.1]++aS 26 []),[],([[],[],ed (.pr (.d ti x.1.2) (.pr (.pr (.dy) gg) gg))]++bS 6 ([[.obj 0 aZ (.vec 98 kS x.2.2)]]++bS 20 []))⟩))
def YR:Fs Tryz.prog aF5 bC atx:=fw 92 Tryz.f92 (λo=>([.d gV o],[])) (λx=>⟨.d gV x,[],[]⟩) [av gV] [axi,VL] {loops:=oJ [(3,{ba:=[1,2,3,10,11,12],sites:=[2,9]})],outs:=oI [(3,{ba:=[1,2,3],sites:=[2,9],data:=[(3,(.slice kS))]},{ba:=[2]})],gf:=nQ [(3,xI.E)],res:=[av gV]}
theorem aok:xI.RS:=rL [.d gV,.n,.n,.d ti,.d ti,.d ti,.d (.slice kS)] xI
theorem Rv(aRP lL Wv t11 t12 n2 n9)(kn:K2 R)(kx:K3 R):YR.R 0 xI (aRP,lL,Wv,t11,t12,n2,n9) kn kx=aL (gz t12 t11) (aL (eL t12 ((Wv:Nat):Int)) (aL (decide ((0+(ae t12)) < (ag n9))) (aL (decide ((((0+(ae t12))*4)+0)=(0+((ae t12)*4)))) (al (Cp.call (nth kS n9 (0+(ae t12))).1) λx1=>aL (eL t12 ((lL:Nat):Int)) (aL (decide ((0+(ae t12)) < (ag n9))) (aL (decide ((((0+(ae t12))*4)+0)=((0+((ae t12)*4))+0))) (aL (decide ((0+(ae t12)) < (ag n9))) (kn (xI.st (aRP,lL,Wv,t11,(bO .i64 t12 1),n2,(gN n9 (0+(ae t12)) (x1,(nth kS n9 (0+(ae t12))).2))))) aD) aD) aD) aD) aD) aD) aD) (aL (decide (0=0/\(0+lL)<=(ag n9))) (xI.go kx ((aRP,n2),((cut n9 0 lL),n9))) aD):=cr
theorem aMH(o)(k:K1 R):YR.A o k=al (afN.call o.2.1.1) λx1=>al (xI.call (o,x1.1,x1.1,((x1.1:Nat):Int),0,0,x1.2)) λx3=>k (YR.out (x3.1.1.1,((x3.2.1,()),()))):=cr
theorem aty:(YR.lF 0 xI):=by
 refine(YR.mY 0 xI) (λ(_,_,_,_,i,_,l)=>l.length - i.toNat) ?_
 rintro⟨o,n,m,t,i,u,l⟩ ⟨⟨hlen,hx⟩,k,hk,rfl,rfl,rfl,rfl⟩;have hlen:l.length<=1000:=hlen;have hk:k<=l.length:=hk;by_cases h:k < l.length
 ·left;have n1:nth kS l k=l[k]:=cg (t:=kS) h;have hs:l.set k l[k]=l:=iv h;have e:=hx _ (aO h);refine⟨(o,l.length,l.length,(l.length:Int),((k+1:Nat):Int),u,l),⟨⟨hlen,hx⟩,k+1,ak,rfl,rfl,rfl,rfl⟩,by simp only[aa];omega,rfl,λkn kx=> ?_⟩;rw[Rv,aX ak,bj ak ak];simp only[aa,aR,cK,aj,aM h,cO,n1];rw[Qf (d:=l[k].1) e];simp only[ah,bC,SZ];rw[N.mZ ak];exact bu (λz=>kn (xI.st (_,_,_,_,_,_,z))) hs
 ·right;obtain rfl:k=l.length:=ak;intro R kn kx;rw[Rv,aU ak,ao,aM ak,aj,fB rfl];rfl
theorem aMI:YR.Ok:=by rintro⟨a,⟨l,u⟩,v⟩ ⟨h1,h2⟩;have h1:l.length<=1000:=h1;rw[aMH,an8 (d:=l) (by show l.length<=_;omega)];simp only[ah,bC,aj1];rw[aok (d:=((a,(l,u),v),l.length,l.length,(l.length:Int),0,0,l)) ⟨⟨h1,h2⟩,0,aP _,rfl,rfl,rfl,rfl⟩];rfl
theorem aol:YR.RS:=rE [.d gV] YR
def axl:=YR.fC aMI 1 ⟨.fI aty,trivial⟩
abbrev BY:=Int×(List iu)×Int×Int×(List (bJ×eV))
def qd:BY->AS:=λ(sum,t13,t14,t15,n10)=>⟨([bH,bH,bH,fx 12,.d ti sum]++aS 8 ([.d (.slice gV) t13,.d ti t14,.d ti t15]++aS 35 [])),[],(bS 10 ([ed (.mp bh fv n10),[],ed (.pr (.cI (.new 10 0) 0) (.pr (.dy) gg))]++bS 38 []))⟩
def gC:Unit->Exit×AS:=λx=>(.ret,⟨([bH,bH,.sq]++aS 48 []),[],(ab 51 [])⟩)
abbrev Xj:=(List (bJ×eV))
def Ak:Xj->Exit×AS:=λx=>(.exit 0,⟨([bH,bH,bH,fx 12]++aS 47 []),[],(bS 10 ([ed (.mp bh fv x),[],ed (.pr (.cI (.new 10 0) 0) (.pr (.dy) gg))]++bS 38 []))⟩)
abbrev Pq:=(Unit)⊕(Xj)
abbrev abj:=(Unit)⊕(((List (bJ×eV))))
def GM:Pq->Out (Exit×AS):=λx=> .br x.isLeft (.get x.getLeft? λa=> .ok (gC a)) (.get x.getRight? λb=> .ok (Ak b))
def mf:BY->abj->Pq:=λ(sum,t13,t14,t15,n10) y=>match y with | .inl y=> .inl y | .inr z=> .inr (z)
abbrev RH:=(List iu)
def abm:RH->SA:=λouts=>([.d (.slice gV) outs],[])
abbrev axt:=(Unit)⊕((List (bJ×eV))×(List cG))
abbrev akm:=(Unit)⊕((List (bJ×eV))×(List cG))
def Fw:akm->iB:=λx=>match x with | .inl x=>⟨.sq,[],[]⟩ | .inr x=>⟨fx 0,[],[bV (.pr (.cI (.new 0 1) 0) (.pr (.bE (.new 0 2) 0 [] 0 0 0) gg)),bV (.mp bh fv x.1),bV (.vec 256 cR x.2)]⟩
def L9:RH->axt->akm:=λouts y=>match y with | .inl y=> .inl y | .inr y=> .inr y
def Iq(k:Nat)(o:iu):bJ×eV:=((ab 32 (0:Int),((k:Int),())),(o,((0:Int),())))
def Hp(sum:Int)(o:iu):Bool:=lK o.2.1 && decide (0<=o.1/\o.1<=1125899906842624 - sum)
def Y0(sum:Int)(k:Nat):List iu->Option (List (bJ×eV))
 |[]=>av []
 |o::l=>match Hp sum o with | true=>(Y0 (sum+o.1) (k+1) l).map (Iq k o:: ·) | false=>aD
def alu(outs:List iu):Option (List (bJ×eV)):=if outs.length<=256 then Y0 0 0 outs else aD
def asr(o:iu):Prop:=afE o.2.1/\o.2.1.1.length<=9223372036854775807/\o.1<=9223372036854775807
def Aj:BY->Prop:=λ(sum,outs,n,i,a)=>(∀o∈outs,asr o)/\outs.length<=256/\0<=sum/\sum<=1125899906842624/\∃k:Nat,k<=outs.length/\i=k/\n=outs.length/\∀p∈a,p.1.2.1 < (k:Int)
def qc:BY->abj:=λ(sum,outs,_,i,a)=>match Y0 sum i.toNat (outs.drop i.toNat) with | none=> .inl () | some r=> .inr (a++r)
def U6:RH->Prop:=λouts=>∀o∈outs,asr o
def RI:RH->axt:=λouts=>match alu outs with | none=> .inl () | some r=> .inr (r,[])
def akk:pO:=jQ (P:=Tryz.prog) [FH,axl]
def abi:=dI.fI qd Aj mf qc GM
def Nv:BY->Option Pq:=gO abi qd
def abk:yx:= {bT:=[12],loops:=oJ [(5,{ba:=[3,4,13,14,15],sites:=[10,12]})],outs:=oI [(5,{ba:=[3],sites:=[10,12]},{ba:=[2]})],gf:=nQ [(5,abi)],owns:=[⟨2,[.snd,.fst],0,158⟩]}
def axr:= @Jg Tryz.prog akk abk 0 Tryz.f40 _ abm
abbrev aGk:=ajq @axr U6 L9 RI Fw
def Pp:= @eG Tryz.prog akk abk 0 Tryz.f40 0 _ qd
abbrev Xi:=j7 Tryz.prog akk abk 0 Tryz.f40 0 qd Aj mf qc GM
theorem akl:jh Nv Aj mf qc:=lH (jx [.d ti,.d (.slice gV),.d ti,.d ti,.d (.slice (.pair bh fv))] λ_=>cr)
theorem RJ:mK @Pp qd Aj mf qc GM Xi:=nc
theorem Nw(sum t13 t14 t15 n10)(kn:K2 R)(kx:K3 R):Pp (sum,t13,t14,t15,n10) kn kx=aL (gz t15 t14) (aL (eL t15 (((ag t13):Nat):Int)) (al (qs.call (nth gV t13 (ae t15)).2.1) λx1=>aL (!x1) (kx (gC ()).1 (gC ()).2) (aL (gz (nth gV t13 (ae t15)).1 (0:Int)) (kx (gC ()).1 (gC ()).2) (aL (pJ (nth gV t13 (ae t15)).1 (da .i64 (1125899906842624:Int) sum)) (kx (gC ()).1 (gC ()).2) (al (YR.call (nth gV t13 (ae t15))) λx2=>kn (qd ((bO .i64 sum (nth gV t13 (ae t15)).1),t13,t14,(bO .i64 t15 (1:Int)),(fj bh ((ab 32 (0:Int)),(t15,())) (x2,((0:Int),())) n10))))))) aD) (kx (Ak n10).1 (Ak n10).2):=cr
theorem aGl(outs)(k:K1 R):axr outs k=aL (pJ (((ag outs):Nat):Int) (256:Int)) (k (Fw (.inl ()))) (al (Nv ((0:Int),outs,(((ag outs):Nat):Int),(0:Int),([]:List (bJ×eV)))) λx3=>aL x3.isLeft (al x3.getLeft? λa4=>k (Fw (.inl ()))) (al x3.getRight? λb5=>k (Fw (.inr (b5,([]:List cG)))))):=cr
theorem aoA:Xi:=by
 refine RJ (λ(_,outs,_,i,_)=>outs.length - i.toNat) ?_
 rintro⟨sum,outs,n,i,a⟩ ⟨hg,hl,h0,h1,k,hk,rfl,rfl,hf⟩;have h0:0<=sum:=h0;have h1:sum<=1125899906842624:=h1;have hl:outs.length<=256:=hl;have hk:k<=outs.length:=hk;by_cases h:k < outs.length
 ·obtain⟨g1,g2,g3⟩:=hg _ (aO h);have n1:nth gV outs k=outs[k]:=cg (t:=gV) h;have hd:outs.drop k=outs[k]::outs.drop (k+1):=aq h
  have hs:∀ {R:Type} (kn:AS->Option R) (kx:Exit->AS->Option R),Pp (sum,outs,(outs.length:Int),(k:Int),a) kn kx=
    aL (!(lK outs[k].2.1)) (kx (gC ()).1 (gC ()).2) (aL (gz outs[k].1 0) (kx (gC ()).1 (gC ()).2) (aL (pJ outs[k].1 (1125899906842624 - sum)) (kx (gC ()).1 (gC ()).2)
     (al (YR.call outs[k]) λx2=>kn (qd ((bO .i64 sum outs[k].1),outs,(outs.length:Int),(bO .i64 (k:Int) (1:Int)),(fj bh ((ab 32 (0:Int)),((k:Int),())) (x2,((0:Int),())) a)))))):=λkn kx=>by
   rw[Nw,aX ak,aj,bj ak ak,aj,aa,n1,Ch (d:=outs[k].2.1) ⟨g1,g2⟩,fh ak ak];rfl
  by_cases jR:Hp sum outs[k]=aZ
  ·left;have hok':=jR;unfold Hp at hok';simp only[au,bf]at hok';obtain⟨k1,k2,k3⟩:=hok';have am2:=VD k1;refine⟨(sum+outs[k].1,outs,(outs.length:Int),((k+1:Nat):Int),a++ [Iq k outs[k]]),⟨hg,hl,by show 0<=sum+outs[k].1;omega,by show sum+outs[k].1<=_;omega,k+1,ak,rfl,rfl,λp hp=> ?_⟩,by simp only[aa];omega,?_,λkn kx=> ?_⟩
   ·rcases bD.1 hp with hp | hp
    ·have:=hf p hp;omega
    ·rw[bp.1 hp];show(k:Int) < _;omega
   ·simp only[mf,qc,aa,hd,Y0,jR];cases Y0 (sum+outs[k].1) (k+1) (outs.drop (k+1)) with
    |none=>rfl
    |some r=>simp only[eJ,aI,dv]
   ·rw[hs,k1,cQ,ao,aU ak,ao,cH ak,ao,aol (d:=outs[k]) ⟨ak,λb hb=>by have:=am2.2 b hb;omega⟩];simp only[ah,bC,atx];rw[gD ak ak,N.mZ ak,DE fi]
    ·rfl
    ·intro hm;obtain⟨p,hp,he⟩:=df.1 hm;have:=hf p hp;have he:p.1=_:=he;rw[he]at this;have this:(k:Int) < k:=this;omega
  ·right;have aNf:Hp sum outs[k]=aQ:=by simpa using jR
   refine⟨gC (),?_,λkn kx=> ?_⟩;rotate_left
   ·rw[hs];unfold Hp at aNf;cases k1:lK outs[k].2.1 with
    |false=>rw[fH,aj]
    |true=>
     rw[k1]at aNf;simp only[bF,iL]at aNf;rw[cQ,ao];by_cases k2:outs[k].1 < 0
     ·rw[aX k2,aj]
     ·rw[aU k2,ao,dd ak,aj]
   ·simp only[mf,qc,aa,hd,Y0,aNf];rfl
 ·right;obtain rfl:k=outs.length:=ak;refine⟨Ak a,?_,λkn kx=> ?_⟩;rotate_left
  ·rw[Nw,aU ak,ao]
  ·simp only[mf,qc,aa,aN,Y0,bm];rfl
theorem aGm:aGk:=by
 intro outs hg;rw[aGl];simp only[L9,RI,alu];by_cases h:outs.length<=256
 ·rw[cH ak,ao,akl (d:=(0,outs,(outs.length:Int),0,[])) ⟨hg,h,fg,fg,0,aP _,rfl,rfl,λp hp=>by cases hp⟩,if_pos h];simp only[ah,mf,qc,bg,aG];cases Y0 0 0 outs with
  |none=>rfl
  |some r=>rfl
 ·rw[dd ak,aj,if_neg h]
def axs:=Entry.af5 [av (.slice gV)] abm U6 L9 RI Fw
def abl:RH->Option akm:=Nd axs abm
theorem az9:jh abl U6 L9 RI:=aef (YW [.d (.slice gV)] λ_=>cr)
def aGn:SG Tryz.prog:=⟨40,nh,axs,.of (.aP6 (.fn 1 cr aGm (And.intro (.fI aoA cr) trivial))) (by rfl)⟩
def aS9(c:eV):Prop:=lK c.1.2.1=aZ/\afE c.1.2.1/\0<=c.1.1/\c.1.1<=1125899906842624/\0<=c.2.1/\c.2.1<=1048576
def am1(a:List (bJ×eV)):Prop:=(a.map (·.1)).Nodup/\∀p∈a,C6 p.1/\aS9 p.2
theorem am1.get{a:List (bJ×eV)}(h:am1 a){o:bJ}{c:eV}(hg:bW bh o a=av c):aS9 c:=(h.2 _ ((iP fi h.1).1 hg)).2
def aLu:eV:=((0,(([],()),())),(0,()))
theorem aS9.own{c:eV}(h:aS9 c):aVq c.1.2.1:=by have:=VD h.1;exact⟨ak,λb hb=>by have:=this.2 b hb;omega⟩
abbrev BV:=Int×dR×Int×(List iF)×Int×Int×Nat×(List (bJ×eV))×(List cG)×Bs
def qa:BV->AS:=λ(eC,pK,pB,t35,t36,t37,o0L,eD,eZ,n8)=>⟨([.ptr (.bt 0) 0 [] 0,bH,.d ti eC,bH,.dV fa pK,bH,bH,bH,fx 8,.d ti pB]++aS 25 ([.d (.slice gT) t35,.d ti t36,.d ti t37]++aS 69 [])),[bV (.pr (.cI (.bt 1) 0) (.pr (.bE (.bt 2) 0 [] 0 0 o0L) gg)),bV (.mp bh fv eD),bV (.vec 256 cR eZ)],(bS 8 ([ed (.d tH n8)]++bS 98 []))⟩
abbrev Xc:=(Nat×(List (bJ×eV))×(List cG))×(Int)
def kg:Xc->Exit×AS:=λ((a,b,c),e)=>(.ret,⟨(aS 6 ([.d ti (0:Int),.d ti e]++aS 99 [])),[bV (.pr (.cI (.bt 1) 0) (.pr (.bE (.bt 2) 0 [] 0 0 a) gg)),bV (.mp bh fv b),bV (.vec 256 cR c)],(ab 107 [])⟩)
abbrev Xd:=(dR×Nat×(List (bJ×eV))×(List cG))×(Int)
def Ae:Xd->Exit×AS:=λ((a,b,c,e),f)=>(.exit 0,⟨([.ptr (.bt 0) 0 [] 0,bH,bH,bH,.dV fa a]++aS 4 ([.d ti f]++aS 97 [])),[bV (.pr (.cI (.bt 1) 0) (.pr (.bE (.bt 2) 0 [] 0 0 b) gg)),bV (.mp bh fv c),bV (.vec 256 cR e)],(ab 107 [])⟩)
abbrev Pk:=(Xc)⊕(Xd)
abbrev abe:=(Int)⊕(Int)
def GJ:Pk->Out (Exit×AS):=λx=> .br x.isLeft (.get x.getLeft? λa=> .ok (kg a)) (.get x.getRight? λb=> .ok (Ae b))
def kf:BV->abe->Pk:=λ(eC,pK,pB,t35,t36,t37,o0L,eD,eZ,n8) y=>match y with | .inl y=> .inl ((o0L,eD,eZ),y) | .inr z=> .inr (((pK,o0L,eD,eZ),z))
abbrev BX:=dR×Int×(List bJ)×Int×Int×Nat×(List (bJ×eV))×(List cG)
def uA:BX->AS:=λ(wM,Xl,t75,t76,t77,iU,xd,kP)=>⟨([.ptr (.bt 0) 0 [] 0,bH,bH,bH,.dV fa wM]++aS 4 ([.d ti Xl]++aS 65 ([.d (.slice bh) t75,.d ti t76,.d ti t77]++aS 29 []))),[bV (.pr (.cI (.bt 1) 0) (.pr (.bE (.bt 2) 0 [] 0 0 iU) gg)),bV (.mp bh fv xd),bV (.vec 256 cR kP)],(ab 107 [])⟩
abbrev Xf:=Nat×(List (bJ×eV))×(List cG)
def Ag:Xf->Exit×AS:=λ(a,b,c)=>(.ret,⟨(aS 6 ([.d ti (0:Int),.d ti (4:Int)]++aS 99 [])),[bV (.pr (.cI (.bt 1) 0) (.pr (.bE (.bt 2) 0 [] 0 0 a) gg)),bV (.mp bh fv b),bV (.vec 256 cR c)],(ab 107 [])⟩)
abbrev Xg:=dR×Int×Nat×(List (bJ×eV))×(List cG)
def Ah:Xg->Exit×AS:=λ(a,b,c,e,f)=>(.exit 2,⟨(aS 4 ([.dV fa a]++aS 4 ([.d ti b]++aS 97 []))),[bV (.pr (.cI (.bt 1) 0) (.pr (.bE (.bt 2) 0 [] 0 0 c) gg)),bV (.mp bh fv e),bV (.vec 256 cR f)],(ab 107 [])⟩)
abbrev Pm:=(Xf)⊕(Xg)
abbrev abh:=(Unit)⊕(Unit)
def GK:Pm->Out (Exit×AS):=λx=> .br x.isLeft (.get x.getLeft? λa=> .ok (Ag a)) (.get x.getRight? λb=> .ok (Ah b))
def me:BX->abh->Pm:=λ(wM,Xl,t75,t76,t77,iU,xd,kP) y=>match y with | .inl y=> .inl (iU,xd,kP) | .inr z=> .inr ((wM,Xl,iU,xd,kP))
abbrev Po:=Int×(List iu)×Int×Int×Nat×(List (bJ×eV))×(List cG)
def Ai:Po->Int->((Nat×(List (bJ×eV))×(List cG))×(Int)):=λ(ahQ,t93,t94,t95,ac2,auH,auI) y=>((ac2,auH,auI),y)
abbrev axq:=dR×Int×Nat×(List (bJ×eV))×(List cG)
def yL(h:Int)(id:List Int)(a:List (bJ×eV)):List iF->Int->Int⊕Int
 |[],pB=> .inr pB
 |x::l,pB=>match bW bh x.1 a with
  |none=> .inl 5
  |some c=>if zG c.1.2.1 x.2.1 id h (h - c.2.1)≠0 then .inl (zG c.1.2.1 x.2.1 id h (h - c.2.1)) else yL h id a l (pB+c.1.1)
def rz(a:List (bJ×eV))(o:bJ):Bool:=(bW bh o a).isSome
def jG(l:List iu):Int:=(l.map (·.1)).sum
def fu(t:dR)(h:Int)(a:List (bJ×eV)):Int×Int:=
 if iR t=aZ/\1<=h/\h<=1048576 then
  match yL h (iD t) a t.1 0 with
  | .inl e=>(0,e)
  | .inr pB=>if(iN t).any (rz a)=aZ then(0,4) else if pB - jG t.2.1 < 0 then(0,8) else(pB - jG t.2.1,0)
 else(0,1)
def Ad:BV->Prop:=λ(h,_,pB,l,n,i,_,a,_,id)=>(0<=h/\h<=1048576)/\Sm id/\l.length<=64/\(∀x∈l,aXu x)/\am1 a/\∃k:Nat,k<=l.length/\i=k/\n=l.length/\0<=pB/\pB<=(k:Int)*1125899906842624
def oG:BV->abe:=λ(h,_,pB,l,_,i,_,a,_,id)=>yL h id a (l.drop i.toNat) pB
def Af:BX->Prop:=λ(_,_,l,n,i,_,_,_)=>l.length<=1000/\∃k:Nat,k<=l.length/\i=k/\n=l.length
def qb:BX->abh:=λ(_,_,l,_,i,_,a,_)=>if(l.drop i.toNat).any (rz a)=aZ then .inl () else .inr ()
def akh:Po->Prop:=λ(pB,l,n,i,_,_,_)=>l.length<=64/\(∀o∈l,0<=o.1/\o.1<=1125899906842624)/\∃k:Nat,k<=l.length/\i=k/\n=l.length/\ -((k:Int)*1125899906842624)<=pB/\pB<=1000000000000000000
def GL:Po->Int:=λ(pB,l,_,i,_,_,_)=>pB - jG (l.drop i.toNat)
def az6:axq->Prop:=λ(t,_,_,a,_)=>ng t/\am1 a
def ake:axq->(Int×Int×Nat×(List (bJ×eV))×(List cG)):=λ(t,h,n,a,s)=>((fu t h a).1,(fu t h a).2,n,a,s)
def abd:=dI.fI qa Ad kf oG GJ
def Ns:BV->Option Pk:=gO abd qa
def abf:=dI.fI uA Af me qb GK
def Nt:BX->Option Pm:=gO abf uA
def vu:Ls akh Ai GL:=sH (λ(ahQ,t93,t94,t95,ac2,auH,auI)=>⟨(aS 9 ([.d ti ahQ]++aS 83 ([.d (.slice gV) t93,.d ti t94,.d ti t95]++aS 11 []))),[bV (.pr (.cI (.bt 1) 0) (.pr (.bE (.bt 2) 0 [] 0 0 ac2) gg)),bV (.mp bh fv auH),bV (.vec 256 cR auI)],(ab 107 [])⟩) (λx=>(.exit 4,⟨(aS 9 ([.d ti x.2]++aS 97 [])),[bV (.pr (.cI (.bt 1) 0) (.pr (.bE (.bt 2) 0 [] 0 0 x.1.1) gg)),bV (.mp bh fv x.1.2.1),bV (.vec 256 cR x.1.2.2)],(ab 107 [])⟩))
def nX:Fs Tryz.prog az6 bC ake:=fw 196 Tryz.f196 (λ(t,height,o0baL,o1,o2)=>([.ptr (.bt 0) 0 [] 0,.d fa t,.d ti height],[.obj 0 aQ (.pr (.cI (.bt 1) 0) (.pr (.bE (.bt 2) 0 [] 0 0 o0baL) (.d .unit ()))),.obj 0 aQ (.mp bh fv o1),.obj 0 aQ (.vec 256 cR o2)])) (λx=>⟨.cons (.d ti x.1) (.cons (.d ti x.2.1) (.nil)),[.obj 0 aQ (.pr (.cI (.bt 1) 0) (.pr (.bE (.bt 2) 0 [] 0 0 x.2.2.1) (.d .unit ()))),.obj 0 aQ (.mp bh fv x.2.2.2.1),.obj 0 aQ (.vec 256 cR x.2.2.2.2)],[]⟩) [aD,av fa,av ti] [uV,Wy,aIa,arN] {loops:=oJ [(5,{ba:=[0,2,4,8,9,35,36,37],sites:=[8]}),(16,{ba:=[0,4,9,75,76,77]}),(23,{ba:=[9,93,94,95]})],outs:=oI [(5,{ba:=[0,4,9]},{ba:=[6,7]}),(16,{ba:=[4,9]},{ba:=[6,7]}),(23,{ba:=[9]},{ba:=[6,7]})],gf:=nQ [(5,abd),(16,abf),(23,vu.E)]}
def Pj:= @eG Tryz.prog (jQ nX.G) nX.an 0 Tryz.f196 0 _ qa
abbrev Xb:=j7 Tryz.prog (jQ nX.G) nX.an 0 Tryz.f196 0 qa Ad kf oG GJ
def abg:= @eG Tryz.prog (jQ nX.G) nX.an 0 Tryz.f196 1 _ uA
abbrev Xe:=j7 Tryz.prog (jQ nX.G) nX.an 0 Tryz.f196 1 uA Af me qb GK
theorem akf:jh Ns Ad kf oG:=lH (jx [.d ti,.d fa,.d ti,.d (.slice gT),.d ti,.d ti,.n,.d (.slice (.pair bh fv)),.d (.slice cR),.d tB] λ_=>cr)
theorem RF:mK @Pj qa Ad kf oG GJ Xb:=nc
theorem Em(eC pK pB t35 t36 t37 o0L eD eZ n8)(kn:K2 R)(kx:K3 R):Pj (eC,pK,pB,t35,t36,t37,o0L,eD,eZ,n8) kn kx=aL (gz t37 t36) (aL (eL t37 (((ag t35):Nat):Int)) (aL (!(bW bh (nth gT t35 (ae t37)).1 eD).isSome) (kx (kg ((o0L,eD,eZ),(5:Int))).1 (kg ((o0L,eD,eZ),(5:Int))).2) (al (oa.call (((bW bh (nth gT t35 (ae t37)).1 eD).getD (((0:Int),((([]:List pM),()),())),((0:Int),()))).1.2.1,(nth gT t35 (ae t37)).2.1,n8,eC,(da .i64 eC ((bW bh (nth gT t35 (ae t37)).1 eD).getD (((0:Int),((([]:List pM),()),())),((0:Int),()))).2.1))) λx1=>aL (zg x1 (0:Int)) (kx (kg ((o0L,eD,eZ),x1)).1 (kg ((o0L,eD,eZ),x1)).2) (kn (qa (eC,pK,(bO .i64 pB ((bW bh (nth gT t35 (ae t37)).1 eD).getD (((0:Int),((([]:List pM),()),())),((0:Int),()))).1.1),t35,t36,(bO .i64 t37 (1:Int)),o0L,eD,eZ,n8))))) aD) (kx (Ae ((pK,o0L,eD,eZ),pB)).1 (Ae ((pK,o0L,eD,eZ),pB)).2):=cr
theorem akg:jh Nt Af me qb:=lH (jx [.d fa,.d ti,.d (.slice bh),.d ti,.d ti,.n,.d (.slice (.pair bh fv)),.d (.slice cR)] λ_=>cr)
theorem RG:mK @abg uA Af me qb GK Xe:=nc
theorem En(wM Xl t75 t76 t77 iU xd kP)(kn:K2 R)(kx:K3 R):abg (wM,Xl,t75,t76,t77,iU,xd,kP) kn kx=aL (gz t77 t76) (aL (eL t77 (((ag t75):Nat):Int)) (aL ((bW bh (nth bh t75 (ae t77)) xd).isSome) (kx (Ag (iU,xd,kP)).1 (Ag (iU,xd,kP)).2) (kn (uA (wM,Xl,t75,t76,(bO .i64 t77 (1:Int)),iU,xd,kP)))) aD) (kx (Ah (wM,Xl,iU,xd,kP)).1 (Ah (wM,Xl,iU,xd,kP)).2):=cr
theorem aki:vu.RS:=rL [.d ti,.d (.slice gV),.d ti,.d ti,.n,.d (.slice (.pair bh fv)),.d (.slice cR)] vu
theorem Nu(ahQ t93 t94 t95 ac2 auH auI)(kn:K2 R)(kx:K3 R):nX.R 2 vu (ahQ,t93,t94,t95,ac2,auH,auI) kn kx=aL (gz t95 t94) (aL (eL t95 (t93.length:Int)) (kn (vu.st ((da .i64 ahQ (nth gV t93 (ae t95)).1),t93,t94,(bO .i64 t95 1),ac2,auH,auI))) aD) (vu.go kx ((ac2,auH,auI),ahQ)):=cr
theorem aGi(t height o0baL o1 o2)(k:K1 R):nX.A (t,height,o0baL,o1,o2) k=al (jt.call t) λx1=>aL (!x1) (k (nX.out (0,1,o0baL,o1,o2))) (aL (gz height 1) (k (nX.out (0,1,o0baL,o1,o2))) (aL (pJ height 1048576) (k (nX.out (0,1,o0baL,o1,o2))) (al (tid.call t) λx2=>al (Ns (height,t,0,t.1,(t.1.length:Int),0,o0baL,o1,o2,x2)) λx4=>aL x4.isLeft (al x4.getLeft? λa5=>k (nX.out (0,a5.2,a5.1.1,a5.1.2.1,a5.1.2.2))) (al x4.getRight? λb6=>al (IN.call b6.1.1) λx7=>al (Nt (b6.1.1,b6.2,x7,(x7.length:Int),0,b6.1.2.1,b6.1.2.2.1,b6.1.2.2.2)) λx8=>aL x8.isLeft (al x8.getLeft? λa9=>k (nX.out (0,4,a9.1,a9.2.1,a9.2.2))) (al x8.getRight? λayX=>al (vu.call (ayX.2.1,ayX.1.2.1,(ayX.1.2.1.length:Int),0,ayX.2.2.1,ayX.2.2.2.1,ayX.2.2.2.2)) λayQ=>aL (gz ayQ.2 0) (k (nX.out (0,8,ayQ.1.1,ayQ.1.2.1,ayQ.1.2.2))) (k (nX.out (ayQ.2,0,ayQ.1.1,ayQ.1.2.1,ayQ.1.2.2)))))))):=cr
theorem aou:Xb:=by
 refine RF (λ(_,_,_,l,_,i,_,_,_,_)=>l.length - i.toNat) ?_
 rintro⟨h,t,pB,l,n,i,o,a,s,id⟩ ⟨⟨aVY,aVZ⟩,dr,hl,hu,ha,k,hk,rfl,rfl,aTL,aPD⟩;have aVY:0<=h:=aVY;have aVZ:h<=1048576:=aVZ;have hl:l.length<=64:=hl;have aTL:0<=pB:=aTL;have aPD:pB<=(k:Int)*1125899906842624:=aPD;have hk:k<=l.length:=hk;by_cases iA:k < l.length
 ·have hx:=hu _ (aO iA);have n1:nth gT l k=l[k]:=cg (t:=gT) iA;have hd:l.drop k=l[k]::l.drop (k+1):=aq iA;cases hg:bW bh l[k].1 a with
  |none=>
   right;refine⟨kg ((o,a,s),5),?_,λkn kx=> ?_⟩;rotate_left
   ·rw[Em,aX ak,aj,bj ak ak,aj,aa,n1,hg];simp only[Option.isSome_none,fH,aj]
   ·simp only[kf,oG,aa,hd,yL,hg];rfl
  |some c=>
   have hc:=ha.get hg;obtain⟨c1,c2,c3,c4,c5,c6⟩:=hc
   have nA:∀ {R:Type} (kn:AS->Option R) (kx:Exit->AS->Option R),Pj (h,t,pB,l,(l.length:Int),(k:Int),o,a,s,id) kn kx=
     aL (zg (zG c.1.2.1 l[k].2.1 id h (h - c.2.1)) 0) (kx (kg ((o,a,s),zG c.1.2.1 l[k].2.1 id h (h - c.2.1))).1 (kg ((o,a,s),zG c.1.2.1 l[k].2.1 id h (h - c.2.1))).2)
      (kn (qa (h,t,pB+c.1.1,l,(l.length:Int),((k+1:Nat):Int),o,a,s,id))):=λkn kx=>by
    rw[Em,aX ak,aj,bj ak ak,aj,aa,n1,hg];simp only[Option.isSome_some,cQ,ao,eo];rw[fh ak ak,aBf (d:=(c.1.2.1,l[k].2.1,id,h,h - c.2.1)) ⟨c2,by have:=VD c1;omega,hx.2.1,dr⟩];simp only[ah,bC,ale];rw[gD ak ak,N.mZ ak]
   by_cases he:zG c.1.2.1 l[k].2.1 id h (h - c.2.1)=0
   ·left;refine⟨(h,t,pB+c.1.1,l,(l.length:Int),((k+1:Nat):Int),o,a,s,id),⟨⟨aVY,aVZ⟩,dr,hl,hu,ha,k+1,ak,rfl,rfl,by show 0<=pB+c.1.1;omega,by show pB+c.1.1<=_;omega⟩,by simp only[aa];omega,?_,λkn kx=> ?_⟩
    ·simp only[kf,oG,aa,hd,yL,hg,he,ne_eq,not_true_eq_false,bA]
    ·rw[nA,dP he,ao]
   ·right;refine⟨kg ((o,a,s),zG c.1.2.1 l[k].2.1 id h (h - c.2.1)),?_,λkn kx=> ?_⟩;rotate_left
    ·rw[nA,fD he,aj]
    ·simp only[kf,oG,aa,hd,yL,hg];rw[if_pos he];rfl
 ·right;obtain rfl:k=l.length:=ak;refine⟨Ae ((t,o,a,s),pB),?_,λkn kx=> ?_⟩;rotate_left
  ·rw[Em,aU ak,ao]
  ·simp only[kf,oG,aa,aN,yL];rfl
theorem aov:Xe:=by
 refine RG (λ(_,_,l,_,i,_,_,_)=>l.length - i.toNat) ?_
 rintro⟨t,pB,l,n,i,o,a,s⟩ ⟨hl,k,hk,rfl,rfl⟩;have hl:l.length<=1000:=hl;have hk:k<=l.length:=hk;by_cases iA:k < l.length
 ·have n1:nth bh l k=l[k]:=cg (t:=bh) iA;have hd:l.drop k=l[k]::l.drop (k+1):=aq iA;cases hg:(bW bh l[k] a).isSome with
  |true=>
   right;refine⟨Ag (o,a,s),?_,λkn kx=> ?_⟩;rotate_left
   ·rw[En,aX ak,aj,bj ak ak,aj,aa,n1,hg,aj]
   ·simp only[me,qb,aa,hd,sz,rz,hg,Bool.true_or,bM];rfl
  |false=>
   left;refine⟨(t,pB,l,(l.length:Int),((k+1:Nat):Int),o,a,s),⟨hl,k+1,ak,rfl,rfl⟩,by simp only[aa];omega,?_,λkn kx=> ?_⟩
   ·simp only[me,qb,aa,hd,sz,rz,hg,xB]
   ·rw[En,aX ak,aj,bj ak ak,aj,aa,n1,hg,ao,N.mZ ak]
 ·right;obtain rfl:k=l.length:=ak;refine⟨Ah (t,pB,o,a,s),?_,λkn kx=> ?_⟩;rotate_left
  ·rw[En,aU ak,ao]
  ·simp only[me,qb,aa,aN,List.any_nil,bw,bA];rfl
theorem aow:(nX.lF 2 vu):=by
 refine(nX.mY 2 vu) (λ(_,l,_,i,_,_,_)=>l.length - i.toNat) ?_
 rintro⟨pB,l,n,i,o,a,s⟩ ⟨hl,ho,k,hk,rfl,rfl,aTL,aPD⟩;have hl:l.length<=64:=hl;have hk:k<=l.length:=hk;have aTL: -((k:Int)*1125899906842624)<=pB:=aTL;have aPD:pB<=1000000000000000000:=aPD;by_cases iA:k < l.length
 ·left;have n1:nth gV l k=l[k]:=cg (t:=gV) iA;have hd:l.drop k=l[k]::l.drop (k+1):=aq iA;have hx:=ho _ (aO iA);refine⟨(pB - l[k].1,l,(l.length:Int),((k+1:Nat):Int),o,a,s),⟨hl,ho,k+1,ak,rfl,rfl,by show _<=pB - l[k].1;omega,by show pB - l[k].1<=_;omega⟩,by simp only[aa];omega,?_,λkn kx=> ?_⟩
  ·simp only[Ai,GL,aa,hd,jG,bY,List.sum_cons];rw[Int.sub_sub]
  ·rw[Nu,aX ak,aj,bj ak ak,aj,aa,n1,fh ak ak,N.mZ ak]
 ·right;obtain rfl:k=l.length:=ak;intro R kn kx;rw[Nu,aU ak,ao];simp only[Ai,GL,aa,aN,jG,iY,List.sum_nil,qX]
theorem w8{t:dR}(h:iR t=aZ):(iN t).length=t.2.1.length:=by unfold iN;rw[if_pos h];simp[It]
theorem abY{h:Int}{id:List Int}{a:List (bJ×eV)}(ha:am1 a):∀(l:List iF) (pB f:Int),yL h id a l pB= .inr f->pB<=f/\f<=pB+(l.length:Int)*1125899906842624
 |[],pB,f,e=>by simp only[yL,Sum.inr.injEq]at e;subst e;simp
 |x::l,pB,f,e=>by
  simp only[yL]at e;cases hg:bW bh x.1 a with
  |none=>rw[hg]at e;cases e
  |some c=>
   rw[hg]at e;simp only at e;split at e
   ·cases e
   ·have hc:=ha.get hg;have:=abY ha l _ _ e;obtain⟨_,_,c3,c4,_⟩:=hc;rw[aB];omega
theorem aGj:nX.Ok:=by
 rintro⟨t,h,n,a,s⟩ ⟨hv,ha⟩;have hv:ng t:=hv;have ha:am1 a:=ha;rw[aGi,qP (d:=t) hv.1];simp only[ah,bC,sX,bC,ake,fu];by_cases jR:iR t=aZ
 ·rw[jR,cQ,ao];obtain⟨⟨_,a2,a3,_⟩,b1,b2⟩:=kk jR;by_cases h1:1<=h
  ·rw[aU ak,ao];by_cases h2:h<=1048576
   ·rw[cH ak,ao,if_pos ⟨rfl,h1,h2⟩,HQ (d:=t) hv];simp only[ah,bC,YA];rw[akf (d:=(h,t,0,t.1,(t.1.length:Int),0,n,a,s,iD t)) ⟨⟨by show 0<=h;omega,h2⟩,HX,a2,hv.2.1,ha,0,aP _,rfl,rfl,fg,fg⟩];simp only[ah,kf,oG,bg,aG];cases hi:yL h (iD t) a t.1 0 with
    |inl e=>
     simp only[nu,aj,kN,ah]
    |inr pB=>
     have hb:=abY ha _ _ _ hi;simp only[dJ,ao,cW,ah];rw[ajb (d:=t) hv];simp only[ah,bC,Z5];rw[akg (d:=(t,pB,iN t,((iN t).length:Int),0,n,a,s)) ⟨by rw[w8 jR];omega,0,aP _,rfl,rfl⟩];simp only[ah,me,qb,bg,aG];by_cases hm:(iN t).any (rz a)=aZ
     ·rw[if_pos hm];simp only[nu,aj,kN,ah,bM,hm]
     ·rw[if_neg hm];simp only[dJ,ao,cW,ah];rw[aki (d:=(pB,t.2.1,(t.2.1.length:Int),0,n,a,s)) ⟨a3,λo ho=>(lg _ _ b2 o ho).1,0,aP _,rfl,rfl,by show -((0:Int)*_)<=pB;omega,by show pB<=_;omega⟩];simp only[ah,Ai,GL,bg,aG];rw[if_neg hm];by_cases hf:pB - jG t.2.1 < 0
      ·rw[aX hf,aj,if_pos hf]
      ·rw[aU hf,ao,if_neg hf]
   ·rw[dd ak,aj,if_neg (λe=>h2 e.2.2)]
  ·rw[aX ak,aj,if_neg (λe=>h1 e.2.1)]
 ·have hok':iR t=aQ:=by simpa using jR
  rw[hok',fH,aj,if_neg (λe=>by cases e.1)]
theorem ahJ:nX.RS:=rE [.d fa,.d ti,.n,.d (.slice (.pair bh fv)),.d (.slice cR)] nX
def aox:=nX.fC aGj 3 ⟨.fI aou,⟨.fI aov,⟨.fI aow,trivial⟩⟩⟩
def An(l:List bJ)(a:List (bJ×eV)):List (bJ×eV):=l.foldl (λm o=>iO bh o m) a
def adm(l:List afD)(a:List (bJ×eV)):List (bJ×eV):=l.foldl (λm e=>fj bh e.1 e.2.1 m) a
def y8(a:List (bJ×eV))(st:cG):List (bJ×eV):=adm st.1 (An st.2.1 a)
abbrev Pr:=Int×(List bJ)×Int×Int×Nat×(List (bJ×eV))×(List cG)
abbrev abn:=(List (bJ×eV))
def Al:Pr->abn->((Int×Nat×(List cG))×((List (bJ×eV)))):=λ(n,t23,t24,t25,o0L,eD,eZ) y=>((n,o0L,eZ),y)
abbrev Ps:=Int×(List afD)×Int×Int×Nat×(List (bJ×eV))×(List cG)
abbrev abo:=(List (bJ×eV))
def Am:Ps->abo->((Int×Nat×(List cG))×((List (bJ×eV)))):=λ(xT,t42,t43,t44,iU,xd,kP) y=>((xT,iU,kP),y)
abbrev axu:=Nat×(List (bJ×eV))×(List cG)
def akn:Pr->Prop:=λ(_,l,n,i,_,_,_)=>l.length<=1000/\∃k:Nat,k<=l.length/\i=k/\n=l.length
def GN:Pr->abn:=λ(_,l,_,i,_,a,_)=>An (l.drop i.toNat) a
def akp:Ps->Prop:=λ(_,l,n,i,_,_,_)=>l.length<=1000/\∃k:Nat,k<=l.length/\i=k/\n=l.length
def GO:Ps->abo:=λ(_,l,_,i,_,a,_)=>adm (l.drop i.toNat) a
def ajt(st:cG):Prop:=st.1.length<=1000/\st.2.1.length<=1000
def aAa:axu->Prop:=λ(n,_,s)=>n<=s.length/\s.length<=1000000/\∀st∈s,ajt st
def ZA:axu->(Bool×Nat×(List (bJ×eV))×(List cG)):=λ(n,a,s)=>if n=0 then(aQ,n,a,s) else(aZ,n - 1,y8 a (nth cR s (n - 1)),s)
def vy:Ls akn Al GN:=sH (λ(n,t23,t24,t25,o0L,eD,eZ)=>⟨([.ptr (.bt 0) 0 [] 0,bH,bH,.d ti n]++aS 19 ([.d (.slice bh) t23,.d ti t24,.d ti t25]++aS 40 [])),[bV (.pr (.cI (.bt 1) 0) (.pr (.bE (.bt 2) 0 [] 0 0 o0L) gg)),bV (.mp bh fv eD),bV (.vec 256 cR eZ)],(ab 66 [])⟩) (λx=>(.exit 0,⟨([.ptr (.bt 0) 0 [] 0,bH,bH,.d ti x.1.1]++aS 62 []),[bV (.pr (.cI (.bt 1) 0) (.pr (.bE (.bt 2) 0 [] 0 0 x.1.2.1) gg)),bV (.mp bh fv x.2),bV (.vec 256 cR x.1.2.2)],(ab 66 [])⟩))
def vz:Ls akp Am GO:=sH (λ(xT,t42,t43,t44,iU,xd,kP)=>⟨([.ptr (.bt 0) 0 [] 0,bH,bH,.d ti xT]++aS 38 ([.d (.slice aDd) t42,.d ti t43,.d ti t44]++aS 21 [])),[bV (.pr (.cI (.bt 1) 0) (.pr (.bE (.bt 2) 0 [] 0 0 iU) gg)),bV (.mp bh fv xd),bV (.vec 256 cR kP)],(ab 66 [])⟩) (λx=>(.exit 2,⟨([.ptr (.bt 0) 0 [] 0,bH,bH,.d ti x.1.1]++aS 62 []),[bV (.pr (.cI (.bt 1) 0) (.pr (.bE (.bt 2) 0 [] 0 0 x.1.2.1) gg)),bV (.mp bh fv x.2),bV (.vec 256 cR x.1.2.2)],(ab 66 [])⟩))
def BZ:Fs Tryz.prog aAa bC ZA:=fw 165 Tryz.f165 (λ(o0baL,o1,o2)=>([.ptr (.bt 0) 0 [] 0],[.obj 0 aQ (.pr (.cI (.bt 1) 0) (.pr (.bE (.bt 2) 0 [] 0 0 o0baL) (.d .unit ()))),.obj 0 aQ (.mp bh fv o1),.obj 0 aQ (.vec 256 cR o2)])) (λx=>⟨.d .bool x.1,[.obj 0 aQ (.pr (.cI (.bt 1) 0) (.pr (.bE (.bt 2) 0 [] 0 0 x.2.1) (.d .unit ()))),.obj 0 aQ (.mp bh fv x.2.2.1),.obj 0 aQ (.vec 256 cR x.2.2.2)],[]⟩) [aD] [] {loops:=oJ [(5,{ba:=[0,3,23,24,25]}),(10,{ba:=[0,3,42,43,44]})],outs:=oI [(5,{ba:=[0,3]},{ba:=[2]}),(10,{ba:=[0,3]},{ba:=[2]})],gf:=nQ [(5,vy.E),(10,vz.E)]}
theorem ako:vy.RS:=rL [.d ti,.d (.slice bh),.d ti,.d ti,.n,.d (.slice (.pair bh fv)),.d (.slice cR)] vy
theorem Nx(n t23 t24 t25 o0L eD eZ)(kn:K2 R)(kx:K3 R):BZ.R 0 vy (n,t23,t24,t25,o0L,eD,eZ) kn kx=aL (gz t25 t24) (aL (eL t25 (t23.length:Int)) (kn (vy.st (n,t23,t24,(bO .i64 t25 1),o0L,(iO bh (nth bh t23 (ae t25)) eD),eZ))) aD) (vy.go kx ((n,o0L,eZ),eD)):=cr
theorem akq:vz.RS:=rL [.d ti,.d (.slice aDd),.d ti,.d ti,.n,.d (.slice (.pair bh fv)),.d (.slice cR)] vz
theorem Ny(xT t42 t43 t44 iU xd kP)(kn:K2 R)(kx:K3 R):BZ.R 1 vz (xT,t42,t43,t44,iU,xd,kP) kn kx=aL (gz t44 t43) (aL (eL t44 (t42.length:Int)) (kn (vz.st (xT,t42,t43,(bO .i64 t44 1),iU,(fj bh (nth aDd t42 (ae t44)).1 (nth aDd t42 (ae t44)).2.1 xd),kP))) aD) (vz.go kx ((xT,iU,kP),xd)):=cr
theorem aGo(o0baL o1 o2)(k:K1 R):BZ.A (o0baL,o1,o2) k=aL (gz (da .i64 ((o0baL:Nat):Int) 1) 0) (k (BZ.out (aQ,o0baL,o1,o2))) (aL (eL (da .i64 ((o0baL:Nat):Int) 1) ((o0baL:Nat):Int)) (aL (decide ((0+(ae (da .i64 ((o0baL:Nat):Int) 1))) < (ag o2))) (aL (decide ((((0+(ae (da .i64 ((o0baL:Nat):Int) 1)))*2)+1)=((0+((ae (da .i64 ((o0baL:Nat):Int) 1))*2))+1))) (al (vy.call ((da .i64 ((o0baL:Nat):Int) 1),(nth cR o2 (0+(ae (da .i64 ((o0baL:Nat):Int) 1)))).2.1,(((ag (nth cR o2 (0+(ae (da .i64 ((o0baL:Nat):Int) 1)))).2.1):Nat):Int),0,o0baL,o1,o2)) λx1=>aL (eL x1.1.1 ((x1.1.2.1:Nat):Int)) (aL (decide ((0+(ae x1.1.1)) < (ag x1.1.2.2))) (aL (decide ((((0+(ae x1.1.1))*2)+0)=((0+((ae x1.1.1)*2))+0))) (al (vz.call (x1.1.1,(nth cR x1.1.2.2 (0+(ae x1.1.1))).1,(((ag (nth cR x1.1.2.2 (0+(ae x1.1.1))).1):Nat):Int),0,x1.1.2.1,x1.2,x1.1.2.2)) λx2=>aL (inc x2.1.1 ((x2.1.2.1:Nat):Int)) (k (BZ.out (aZ,((ae x2.1.1) - 0),x2.2,x2.1.2.2))) aD) aD) aD) aD) aD) aD) aD):=cr
theorem aoB:(BZ.lF 0 vy):=by
 refine(BZ.mY 0 vy) (λ(_,l,_,i,_,_,_)=>l.length - i.toNat) ?_
 rintro⟨u,l,n,i,o,a,s⟩ ⟨hl,k,hk,rfl,rfl⟩;have hl:l.length<=1000:=hl;have hk:k<=l.length:=hk;by_cases iA:k < l.length
 ·left;have n1:nth bh l k=l[k]:=cg (t:=bh) iA;have hd:l.drop k=l[k]::l.drop (k+1):=aq iA;refine⟨(u,l,(l.length:Int),((k+1:Nat):Int),o,An [l[k]] a,s),⟨hl,k+1,ak,rfl,rfl⟩,by simp only[aa];omega,?_,λkn kx=> ?_⟩
  ·simp only[Al,GN,aa,hd,An,bz,de]
  ·rw[Nx,aX ak,aj,bj ak ak,aj,aa,n1,N.mZ ak];rfl
 ·right;obtain rfl:k=l.length:=ak;intro R kn kx;rw[Nx,aU ak,ao];simp only[Al,GN,aa,aN,An,de]
theorem aoC:(BZ.lF 1 vz):=by
 refine(BZ.mY 1 vz) (λ(_,l,_,i,_,_,_)=>l.length - i.toNat) ?_
 rintro⟨u,l,n,i,o,a,s⟩ ⟨hl,k,hk,rfl,rfl⟩;have hl:l.length<=1000:=hl;have hk:k<=l.length:=hk;by_cases iA:k < l.length
 ·left;have n1:nth aDd l k=l[k]:=cg (t:=aDd) iA;have hd:l.drop k=l[k]::l.drop (k+1):=aq iA;refine⟨(u,l,(l.length:Int),((k+1:Nat):Int),o,adm [l[k]] a,s),⟨hl,k+1,ak,rfl,rfl⟩,by simp only[aa];omega,?_,λkn kx=> ?_⟩
  ·simp only[Am,GO,aa,hd,adm,bz,de]
  ·rw[Ny,aX ak,aj,bj ak ak,aj,aa,n1,N.mZ ak];rfl
 ·right;obtain rfl:k=l.length:=ak;intro R kn kx;rw[Ny,aU ak,ao];simp only[Am,GO,aa,aN,adm,de]
theorem aGp:BZ.Ok:=by
 rintro⟨n,a,s⟩ ⟨h1,h2,h3⟩;have h1:n<=s.length:=h1;have h2:s.length<=1000000:=h2;have h3:∀st∈s,ajt st:=h3;rw[aGo];simp only[bC,ZA];cases n with
 |zero=>
  rw[aX fg,aj];rfl
 |succ m=>
  have e1:da .i64 (((m+1:Nat):Nat):Int) (1:Int)=(m:Int):=by rw[fh ak ak];omega
  have hm:m < s.length:=ak;have n1:nth cR s m=s[m]:=cg (t:=cR) hm;have hs:=h3 _ (aO hm);rw[e1,aU ak,ao,bj ak ak,aj];simp only[aa,aR,cK,aM hm,aj,cO,n1];rw[ako (d:=((m:Int),s[m].2.1,(s[m].2.1.length:Int),0,m+1,a,s)) ⟨hs.2,0,aP _,rfl,rfl⟩];simp only[ah,Al,GN,bg,aG];rw[bj ak ak,aj];simp only[aa,aR,cK,aM hm,aj,cO,n1];rw[akq (d:=((m:Int),s[m].1,(s[m].1.length:Int),0,m+1,An s[m].2.1 a,s)) ⟨hs.1,0,aP _,rfl,rfl⟩];simp only[ah,Am,GO,bg,aG];rw[vG ak ak,aj,if_neg ak];simp only[aa,Nat.sub_zero,jC,n1,y8]
theorem ahL:BZ.RS:=rE [.n,.d (.slice (.pair bh fv)),.d (.slice cR)] BZ
def aGq:=BZ.fC aGp 2 ⟨.fI aoB,⟨.fI aoC,trivial⟩⟩
abbrev BS:=Int×dR×(List bJ)×Int×Int×Nat×(List (bJ×eV))×(List cG)×Nat×((List bJ)×Unit)×(List afD)
def uw:BS->AS:=λ(eC,pK,t28,t29,t30,o0L,eD,eZ,aLD,n9,n45)=>⟨([.ptr (.bt 0) 0 [] 0,bH,.d ti eC,bH,.dV fa pK]++aS 4 ([fx 9]++aS 18 ([.d (.slice bh) t28,.d ti t29,.d ti t30]++aS 54 []))),[bV (.pr (.cI (.bt 1) 0) (.pr (.bE (.bt 2) 0 [] 0 0 o0L) gg)),bV (.mp bh fv eD),bV (.vec 256 cR eZ)],(bS 9 ([ed (.pr (pc 45 aLD) (.d (.pair (.slice bh) .unit) n9))]++bS 35 ([ed (.vec 258 aDd n45)]++bS 39 [])))⟩
abbrev Dl:=(Int×dR×Nat×(List cG)×((List bJ)×Unit))×((List (bJ×eV))×Nat×(List afD))
def z8:Dl->Exit×AS:=λ((a,b,c,e,f),g,h,i)=>(.exit 0,⟨([.ptr (.bt 0) 0 [] 0,bH,.d ti a,bH,.dV fa b]++aS 4 ([fx 9]++aS 75 [])),[bV (.pr (.cI (.bt 1) 0) (.pr (.bE (.bt 2) 0 [] 0 0 c) gg)),bV (.mp bh fv g),bV (.vec 256 cR e)],(bS 9 ([ed (.pr (pc 45 h) (.d (.pair (.slice bh) .unit) f))]++bS 35 ([ed (.vec 258 aDd i)]++bS 39 [])))⟩)
def RC:Dl->Out (Exit×AS):=λx=> .ok (z8 x)
def oE:BS->((List (bJ×eV))×Nat×(List afD))->Dl:=λ(eC,pK,t28,t29,t30,o0L,eD,eZ,aLD,n9,n45) y=>((eC,pK,o0L,eZ,n9),y)
abbrev BT:=Int×dR×(List bJ)×Int×Int×Nat×(List (bJ×eV))×(List cG)×Nat×((List bJ)×Unit)×(List afD)
def uz:BT->AS:=λ(FA,wM,t54,t55,t56,iU,xd,kP,XY,SN,XV)=>⟨([.ptr (.bt 0) 0 [] 0,bH,.d ti FA,bH,.dV fa wM]++aS 4 ([fx 9]++aS 44 ([.d (.slice bh) t54,.d ti t55,.d ti t56]++aS 28 []))),[bV (.pr (.cI (.bt 1) 0) (.pr (.bE (.bt 2) 0 [] 0 0 iU) gg)),bV (.mp bh fv xd),bV (.vec 256 cR kP)],(bS 9 ([ed (.pr (pc 45 XY) (.d (.pair (.slice bh) .unit) SN))]++bS 35 ([ed (.vec 258 aDd XV)]++bS 39 [])))⟩
abbrev Dm:=(Nat×(List cG)×Nat×((List bJ)×Unit)×(List afD))×((List (bJ×eV)))
def Ac:Dm->Exit×AS:=λ((a,b,c,e,f),g)=>(.exit 2,⟨([.ptr (.bt 0) 0 [] 0]++aS 8 ([fx 9]++aS 75 [])),[bV (.pr (.cI (.bt 1) 0) (.pr (.bE (.bt 2) 0 [] 0 0 a) gg)),bV (.mp bh fv g),bV (.vec 256 cR b)],(bS 9 ([ed (.pr (pc 45 c) (.d (.pair (.slice bh) .unit) e))]++bS 35 ([ed (.vec 258 aDd f)]++bS 39 [])))⟩)
def RE:Dm->Out (Exit×AS):=λx=> .ok (Ac x)
def oF:BT->((List (bJ×eV)))->Dm:=λ(FA,wM,t54,t55,t56,iU,xd,kP,XY,SN,XV) y=>((iU,kP,XY,SN,XV),y)
abbrev Rz:=dR×Int×Nat×(List (bJ×eV))×(List cG)
def abc:Rz->SA:=λ(t,height,o0baL,o1,o2)=>([.ptr (.bt 0) 0 [] 0,.d fa t,.d ti height],[bV (.pr (.cI (.bt 1) 0) (.pr (.bE (.bt 2) 0 [] 0 0 o0baL) gg)),bV (.mp bh fv o1),bV (.vec 256 cR o2)])
abbrev axp:=(Int×Nat×(List (bJ×eV))×(List cG))⊕(Int×Nat×(List (bJ×eV))×(List cG))
abbrev akd:=(Int×Nat×(List (bJ×eV))×(List cG))⊕(Int×Nat×(List (bJ×eV))×(List cG))
def L8:akd->iB:=λx=>match x with | .inl x=>⟨.d ti x.1,[bV (.pr (.cI (.bt 1) 0) (.pr (.bE (.bt 2) 0 [] 0 0 x.2.1) gg)),bV (.mp bh fv x.2.2.1),bV (.vec 256 cR x.2.2.2)],[]⟩ | .inr x=>⟨.d ti x.1,[bV (.pr (.cI (.bt 1) 0) (.pr (.bE (.bt 2) 1 [] 0 0 x.2.1) gg)),bV (.mp bh fv x.2.2.1),.obj 1 aQ (.vec 256 cR x.2.2.2)],[]⟩
def By:Rz->axp->akd:=λ(t,height,o0baL,o1,o2) y=>match y with | .inl y=> .inl y | .inr y=> .inr y
def wQ(a:List (bJ×eV)):List bJ->List afD
 |[]=> []
 |o::l=>(o,((bW bh o a).getD aLu,()))::wQ (iO bh o a) l
def OY(h:Int):List bJ->List iu->List (bJ×eV)->List (bJ×eV)
 |o::l,x::xs,a=>OY h l xs (fj bh o (x,(h,())) a)
 |_,_,a=>a
def stepOf(t:dR)(a:List (bJ×eV)):cG:=(wQ a (eh t),(iN t,()))
def fW(t:dR)(h:Int)(a:List (bJ×eV)):List (bJ×eV):=OY h (iN t) t.2.1 (An (eh t) a)
def z7:BS->Prop:=λ(_,_,l,n,i,_,_,_,gL,_,g)=>l.length<=1000/\∃k:Nat,k<=l.length/\i=k/\n=l.length/\gL=g.length/\g.length=k
def tW:BS->((List (bJ×eV))×Nat×(List afD)):=λ(_,_,l,_,i,_,a,_,gL,_,g)=>(An (l.drop i.toNat) a,gL+(l.drop i.toNat).length,g++wQ a (l.drop i.toNat))
def Aa:BT->Prop:=λ(_,t,l,n,i,_,_,_,_,_,_)=>l.length<=1000/\l.length=t.2.1.length/\(∀o∈t.2.1,aVq o.2.1)/\∃k:Nat,k<=l.length/\i=k/\n=l.length
def tX:BT->((List (bJ×eV))):=λ(h,t,l,_,i,_,a,_,_,_,_)=>OY h (l.drop i.toNat) (t.2.1.drop i.toNat) a
def U5:Rz->Prop:=λ(t,_,n,a,s)=>ng t/\am1 a/\n<=s.length/\s.length<=1000000
def L7:Rz->axp:=λ(t,h,n,a,s)=>if(fu t h a).2≠0 then .inl ((fu t h a).2,n,a,s) else .inr (0,n+1,fW t h a,s.take n++ [stepOf t a])
def RA:pO:=jQ (P:=Tryz.prog) [aox,arN,ae9,axl]
def aa8:=dI.fI uw z7 oE tW RC
def No:BS->Option Dl:=gO aa8 uw
def aba:=dI.fI uz Aa oF tX RE
def Nq:BT->Option Dm:=gO aba uz
def JF:yx:= {loops:=oJ [(6,{ba:=[0,2,4,9,28,29,30],sites:=[9,45],owns:=[⟨9,[.fst],45,254⟩]}),(12,{ba:=[0,2,4,9,54,55,56],sites:=[9,45]})],outs:=oI [(6,{ba:=[0,2,4,9],sites:=[9,45]},{ba:=[6]}),(12,{ba:=[0,9],sites:=[9,45]},{ba:=[6]})],gf:=nQ [(6,aa8),(12,aba)]}
def axn:= @Jg Tryz.prog RA JF 0 Tryz.f162 _ abc
abbrev aGf:=ajq @axn U5 By L7 L8
def aa9:= @eG Tryz.prog RA JF 0 Tryz.f162 0 _ uw
abbrev W9:=j7 Tryz.prog RA JF 0 Tryz.f162 0 uw z7 oE tW RC
def abb:= @eG Tryz.prog RA JF 0 Tryz.f162 1 _ uz
abbrev Xa:=j7 Tryz.prog RA JF 0 Tryz.f162 1 uz Aa oF tX RE
theorem akb:jh No z7 oE tW:=lH (jx [.d ti,.d fa,.d (.slice bh),.d ti,.d ti,.n,.d (.slice (.pair bh fv)),.d (.slice cR),.n,.d (.pair (.slice bh) .unit),.d (.slice aDd)] λ_=>cr)
theorem RB:aEj @aa9 uw z7 oE tW z8 W9:=aQx
theorem Np(eC pK t28 t29 t30 o0L eD eZ aLD n9 n45)(kn:K2 R)(kx:K3 R):aa9 (eC,pK,t28,t29,t30,o0L,eD,eZ,aLD,n9,n45) kn kx=aL (gz t30 t29) (aL (eL t30 (((ag t28):Nat):Int)) (aL (decide (aLD<=(ag n45))) (aL (dw (aLD+1) 80) (kn (uw (eC,pK,t28,t29,(bO .i64 t30 (1:Int)),o0L,(iO bh (nth bh t28 (ae t30)) eD),eZ,(aLD+1),n9,((aW aLD n45)++ [((nth bh t28 (ae t30)),(((bW bh (nth bh t28 (ae t30)) eD).getD (((0:Int),((([]:List pM),()),())),((0:Int),()))),()))])))) aD) aD) aD) (kx (z8 ((eC,pK,o0L,eZ,n9),(eD,aLD,n45))).1 (z8 ((eC,pK,o0L,eZ,n9),(eD,aLD,n45))).2):=cr
theorem akc:jh Nq Aa oF tX:=lH (jx [.d ti,.d fa,.d (.slice bh),.d ti,.d ti,.n,.d (.slice (.pair bh fv)),.d (.slice cR),.n,.d (.pair (.slice bh) .unit),.d (.slice aDd)] λ_=>cr)
theorem RD:aEj @abb uz Aa oF tX Ac Xa:=aQx
theorem Nr(FA wM t54 t55 t56 iU xd kP XY SN XV)(kn:K2 R)(kx:K3 R):abb (FA,wM,t54,t55,t56,iU,xd,kP,XY,SN,XV) kn kx=aL (gz t56 t55) (aL (eL t56 (((ag t54):Nat):Int)) (aL (eL t56 (((ag wM.2.1):Nat):Int)) (al (YR.call (nth gV wM.2.1 (ae t56))) λx1=>kn (uz (FA,wM,t54,t55,(bO .i64 t56 (1:Int)),iU,(fj bh (nth bh t54 (ae t56)) (x1,(FA,())) xd),kP,XY,SN,XV))) aD) aD) (kx (Ac ((iU,kP,XY,SN,XV),xd)).1 (Ac ((iU,kP,XY,SN,XV),xd)).2):=cr
theorem aGg(t height o0baL o1 o2)(k:K1 R):axn (t,height,o0baL,o1,o2) k=al (nX.call (t,height,o0baL,o1,o2)) λx1=>aL (zg x1.2.1 (0:Int)) (k (L8 (.inl (x1.2.1,x1.2.2.1,x1.2.2.2.1,x1.2.2.2.2)))) (al (IN.call t) λx2=>al (tK.call t) λx3=>al (No (height,t,x3,(((ag x3):Nat):Int),(0:Int),x1.2.2.1,x1.2.2.2.1,x1.2.2.2.2,0,(x2,()),([]:List afD))) λx4=>al (Nq (x4.1.1,x4.1.2.1,x4.1.2.2.2.2.1,(((ag x4.1.2.2.2.2.1):Nat):Int),(0:Int),x4.1.2.2.1,x4.2.1,x4.1.2.2.2.1,x4.2.2.1,x4.1.2.2.2.2,x4.2.2.2)) λx6=>aL (decide (0=0/\(0+x6.1.2.2.1)<=(ag x6.1.2.2.2.2))) (aL (decide (x6.1.1<=(ag x6.1.2.1))) (aL (dw (x6.1.1+1) 48) (k (L8 (.inr ((0:Int),(x6.1.1+1),x6.2,((aW x6.1.1 x6.1.2.1)++ [((cut x6.1.2.2.2.2 0 x6.1.2.2.1),x6.1.2.2.2.1)]))))) aD) aD) aD):=cr
theorem aor:W9:=by
 refine RB (λ(_,_,l,_,i,_,_,_,_,_,_)=>l.length - i.toNat) ?_
 rintro⟨h,t,l,n,i,o,a,s,gL,u,g⟩ ⟨hl,k,hk,rfl,rfl,rfl,hg⟩;have hl:l.length<=1000:=hl;have hk:k<=l.length:=hk;have hg:g.length=k:=hg;by_cases iA:k < l.length
 ·left;have n1:nth bh l k=l[k]:=cg (t:=bh) iA;have hd:l.drop k=l[k]::l.drop (k+1):=aq iA;refine⟨(h,t,l,(l.length:Int),((k+1:Nat):Int),o,iO bh l[k] a,s,g.length+1,u,g++ [(l[k],((bW bh l[k] a).getD aLu,()))]),⟨hl,k+1,ak,rfl,rfl,by simp,by simp[hg]⟩,by simp only[aa];omega,?_,λkn kx=> ?_⟩
  ·simp only[oE,tW,aa,hd,An,bz,wQ,aI,dv,aB];rw[show g.length+1+(l.drop (k+1)).length=g.length+((l.drop (k+1)).length+1) by omega]
  ·rw[Np,aX ak,aj,bj ak ak,aj,aM (ay _),aj,dC ak ak,aj,aa,n1,N.mZ ak,bQ];rfl
 ·right;obtain rfl:k=l.length:=ak;intro R kn kx;rw[Np,aU ak,ao];simp only[oE,tW,aa,aN,An,de,wQ,bm,bl,cK]
theorem aos:Xa:=by
 refine RD (λ(_,_,l,_,i,_,_,_,_,_,_)=>l.length - i.toNat) ?_
 rintro⟨h,t,l,n,i,o,a,s,gL,u,g⟩ ⟨hl,he,hb,k,hk,rfl,rfl⟩;have hl:l.length<=1000:=hl;have he:l.length=t.2.1.length:=he;have hk:k<=l.length:=hk;by_cases iA:k < l.length
 ·left;have aRe:k < t.2.1.length:=ak;have n1:nth bh l k=l[k]:=cg (t:=bh) iA;have n2:nth gV t.2.1 k=t.2.1[k]:=cg (t:=gV) aRe;have hd:l.drop k=l[k]::l.drop (k+1):=aq iA;have aUY:t.2.1.drop k=t.2.1[k]::t.2.1.drop (k+1):=aq aRe;refine⟨(h,t,l,(l.length:Int),((k+1:Nat):Int),o,fj bh l[k] (t.2.1[k],(h,())) a,s,gL,u,g),⟨hl,he,hb,k+1,ak,rfl,rfl⟩,by simp only[aa];omega,?_,λkn kx=> ?_⟩
  ·simp only[oF,tX,aa,hd,aUY,OY]
  ·rw[Nr,aX ak,aj,bj ak ak,aj,bj ak ak,aj,aa,n1,n2,aol (d:=t.2.1[k]) (hb _ (aO aRe))];simp only[ah,bC,atx];rw[N.mZ ak]
 ·right;obtain rfl:k=l.length:=ak;intro R kn kx;rw[Nr,aU ak,ao];simp only[oF,tX,aa,aN,OY]
theorem LU{t:dR}{h:Int}{a:List (bJ×eV)}(e:(fu t h a).2=0):iR t=aZ/\1<=h/\h<=1048576/\∃pB,yL h (iD t) a t.1 0= .inr pB/\(iN t).any (rz a)=aQ/\0<=pB - jG t.2.1/\fu t h a=(pB - jG t.2.1,0):=by
 unfold fu at e ⊢;by_cases h0:iR t=aZ/\1<=h/\h<=1048576
 ·rw[if_pos h0]at e;rw[if_pos h0];refine⟨h0.1,h0.2.1,h0.2.2,?_⟩;cases hi:yL h (iD t) a t.1 0 with
  |inl x=>
   exfalso;rw[hi]at e;simp only at e;subst e;have key:∀(l:List iF) (f:Int),yL h (iD t) a l f≠ .inl 0:=by
    intro l
    induction l with
    |nil=>intro f hf;cases hf
    |cons x l ih=>
     intro f hf;simp only[yL]at hf;cases hg:bW bh x.1 a with
     |none=>rw[hg]at hf;simp at hf
     |some c=>
      rw[hg]at hf;simp only at hf;split at hf
      ·rename_i il;exact il (by injection hf)
      ·exact ih _ hf
   exact key _ _ hi
  |inr pB=>
   rw[hi]at e;simp only at e ⊢;by_cases hm:(iN t).any (rz a)=aZ
   ·rw[if_pos hm]at e;cases e
   ·rw[if_neg hm]at e;rw[if_neg hm];by_cases hf:pB - jG t.2.1 < 0
    ·rw[if_pos hf]at e;cases e
    ·rw[if_neg hf];exact⟨pB,rfl,by simpa using hm,ak,rfl⟩
 ·rw[if_neg h0]at e;cases e
theorem ab0{t:dR}(h:iR t=aZ):(eh t).length=t.1.length:=by unfold eh;rw[if_pos h,cm]
theorem aGh:aGf:=by
 rintro⟨t,h,n,a,s⟩ ⟨hv,ha,hn,hs⟩;have hv:ng t:=hv;have ha:am1 a:=ha;have hn:n<=s.length:=hn;have hs:s.length<=1000000:=hs;rw[aGg,ahJ (d:=(t,h,n,a,s)) ⟨hv,ha⟩];simp only[ah,bC,ake,By,L7];by_cases he:(fu t h a).2=0
 ·rw[dP he,ao,if_neg (λe=>e he)];obtain⟨jR,_,_,_⟩:=LU he;obtain⟨⟨_,a2,a3,_⟩,b1,b2⟩:=kk jR;rw[ajb (d:=t) hv];simp only[ah,bC,Z5];rw[YK (d:=t) hv.1];simp only[ah,bC,MD];rw[akb (d:=(h,t,eh t,((eh t).length:Int),0,n,a,s,0,(iN t,()),[])) ⟨by rw[ab0 jR];omega,0,aP _,rfl,rfl,rfl,rfl⟩];simp only[ah,oE,tW,bg,aG,aY,aR];rw[akc (d:=(h,t,iN t,((iN t).length:Int),0,n,An (eh t) a,s,(eh t).length,(iN t,()),wQ a (eh t))) ⟨by rw[w8 jR];omega,w8 jR,λo ho=>by
   have:=VD (lg _ _ b2 o ho).2;exact⟨ak,λb hb=>by have:=this.2 b hb;omega⟩,0,aP _,rfl,rfl⟩]
  simp only[ah,oF,tX,bg,aG];have aXL:∀(l:List bJ) (a:List (bJ×eV)),(wQ a l).length=l.length:=by
   intro l
   induction l with
   |nil=>intro a;rfl
   |cons o l ih=>intro a;simp[wQ,ih]
  rw[aM (by rw[aXL];exact⟨trivial,ak⟩),aj,aM hn,aj,dC ak ak,aj,fB (aXL _ _)];rfl
 ·rw[fD he,aj,if_pos he]
def axo:=Entry.af5 [aD,av fa,av ti] abc U5 By L7 L8
def BU:Rz->Option akd:=Nd axo abc
theorem az5:jh BU U5 By L7:=aef (YW [.d fa,.d ti,.n,.d (.slice (.pair bh fv)),.d (.slice cR)] λ_=>cr)
def aot:SG Tryz.prog:=⟨162,nh,axo,.of (.aP6 (.fn 2 cr aGh (And.intro (.fI aor cr) (And.intro (.fI aos cr) trivial)))) (by rfl)⟩
theorem aJ2(k:Int)(m:List Int):aQc (nH k m):=by
 unfold nH;split
 ·exact⟨(aO2 _).u,(awW _ _).u⟩
 ·exact⟨⟨ji 0,fg⟩,ji 0,fg⟩
theorem aoX:∀(l l':List iF) (b:List Int),l.map (·.1)=l'.map (·.1)->l.foldl Mm b=l'.foldl Mm b
 |[],[],_,_=>rfl
 |[],_::_,_,h=>by cases h
 |_::_,[],_,h=>by cases h
 |x::l,y::l',b,h=>by
  rw[bY,bY,dB]at h;have e:Mm b x=Mm b y:=by unfold Mm;rw[h.1]
  rw[bz,bz,e,aoX l l' _ h.2]
theorem aBV{l l':List iF}(t:List iu×Int×Unit)(h:l.map (·.1)=l'.map (·.1)):vT (l,t)=vT (l',t):=by
 have hl:l.length=l'.length:=by have:=bu ag h;simpa using this
 unfold vT;simp only[hl];rw[aoX l l' _ h]
theorem apo:∀(l l':List iF) (m:List (bJ×Bool)),l.map (·.1)=l'.map (·.1)->FE m l=aZ->(∀x∈l',CP x.2.1=aZ)->FE m l'=aZ
 |[],[],_,_,_,_=>rfl
 |[],_::_,_,h,_,_=>by cases h
 |_::_,[],_,h,_,_=>by cases h
 |x::l,y::l',m,h,hi,hw=>by
  rw[bY,bY,dB]at h;rw[FE,au,au]at hi ⊢;have hx:=hi.1.2;unfold JU at hx;rw[au]at hx;refine⟨⟨?_,?_⟩,?_⟩
  ·have:=hi.1.1;unfold R3 at this ⊢;rw[<-h.1];exact this
  ·unfold JU;rw[<-h.1,hx.1,hw y aK];rfl
  ·rw[<-h.1];exact apo l l' _ h.2 hi.2 λz hz=>hw z (aF _ hz)
theorem aKT{l l':List iF}{t:List iu×Int×Unit}(h:l.map (·.1)=l'.map (·.1))(jR:iR (l,t)=aZ)(hw:∀x∈l',CP x.2.1=aZ):iR (l',t)=aZ:=by
 have hl:l.length=l'.length:=by have:=bu ag h;simpa using this
 unfold iR afd at jR ⊢;rw[au,au]at jR ⊢;simp only[hl]at jR;exact⟨jR.1,apo l l' _ h jR.2.1 hw,jR.2.2⟩
theorem ayC{l l':List iF}{t:List iu×Int×Unit}(h:l.map (·.1)=l'.map (·.1))(h1:iR (l,t)=aZ)(h2:iR (l',t)=aZ):iD (l',t)=iD (l,t):=by unfold iD;rw[h1,h2,aBV t h]
theorem av7{l l':List iF}{t:List iu×Int×Unit}(h:l.map (·.1)=l'.map (·.1))(h1:iR (l,t)=aZ)(h2:iR (l',t)=aZ):eh (l',t)=eh (l,t):=by unfold eh;rw[h1,h2];exact h.symm
theorem aIj{l l':List iF}{t:List iu×Int×Unit}(h:l.map (·.1)=l'.map (·.1))(h1:iR (l,t)=aZ)(h2:iR (l',t)=aZ):iN (l',t)=iN (l,t):=by unfold iN;rw[h1,h2,ayC h h1 h2]
def Zr(t:dR)(k:Nat)(w:YO):dR:=(t.1.set k ((nth gT t.1 k).1,w,()),t.2)
theorem TD(l:List iF)(k:Nat)(w:YO)(h:k < l.length):l.map (·.1)=(l.set k ((nth gT l k).1,w,())).map (·.1):=by
 have n1:nth gT l k=l[k]:=cg (t:=gT) h;rw[n1,List.map_set];have e:(l[k].1:bJ)=(l.map (·.1))[k]'(by rw[cm];exact h):=by rw[List.getElem_map]
 show _=(l.map (·.1)).set k l[k].1;rw[e,iv]
theorem arn{l:List iF}{k:Nat}{w:YO}{x:iF}(h:k < l.length)(hx:x∈l.set k ((nth gT l k).1,w,())):x∈l\/(x.1=l[k].1/\x.2.1=w):=by
 have n1:nth gT l k=l[k]:=cg (t:=gT) h;rw[n1]at hx;rcases List.mem_or_eq_of_mem_set hx with h1 | h1
 ·exact .inl h1
 ·exact .inr ⟨by rw[h1],by rw[h1]⟩
theorem Z3{t:dR}{k:Nat}{w:YO}(h:k < t.1.length)(jR:iR t=aZ)(hw:CP w=aZ):iR (Zr t k w)=aZ:=by
 obtain⟨_,b1,_⟩:=kk jR;refine aKT (l:=t.1) (TD t.1 k w h) jR λx hx=> ?_
 rcases arn h hx with h1 | h1
 ·have:=nB _ _ b1 x h1;unfold JU at this;rw[au]at this;exact this.2
 ·rw[h1.2];exact hw
theorem aR3{t:dR}{k:Nat}{w:YO}(h:k < t.1.length)(hv:ng t)(hu:Z9 w)(hl:w.2.1.length<=9223372036854775807):ng (Zr t k w):=by
 refine⟨⟨hv.1.1,by show(t.1.set k _).length<=_;rw[sZ];exact hv.1.2.1,hv.1.2.2⟩,λx hx=> ?_,hv.2.2⟩;rcases arn h hx with h1 | h1
 ·exact hv.2.1 x h1
 ·refine⟨?_,by rw[h1.2];exact hu,by rw[h1.2];exact hl⟩;rw[h1.1];exact(hv.2.1 _ (aO h)).1
theorem aOL{t:dR}{k:Nat}{w:YO}(h:k < t.1.length)(jR:iR t=aZ)(hw:CP w=aZ):iD (Zr t k w)=iD t/\eh (Zr t k w)=eh t/\iN (Zr t k w)=iN t:=⟨ayC (l:=t.1) (TD t.1 k w h) jR (Z3 h jR hw),av7 (l:=t.1) (TD t.1 k w h) jR (Z3 h jR hw),aIj (l:=t.1) (TD t.1 k w h) jR (Z3 h jR hw)⟩
def agD(t:dR)(br:Int)(ks:List Int)(sc:Int):YO:=(br,ks.map (λk=>nH k (iD t)),sc,())
theorem aJ8(t:dR)(i br:Int)(ks:List Int)(sc:Int):aJ7 t i br ks sc=if HJ t i br ks then(Zr t i.toNat (agD t br ks sc),0) else(([],[],0,()),1):=rfl
theorem art{t:dR}{i br:Int}{ks:List Int}(h:HJ t i br ks=aZ):iR t=aZ/\(0<=i/\i < t.1.length/\0<=br/\br < 4/\ks.length<=12)/\∀k∈ks,k < 2305843009213688669/\k≠0:=by unfold HJ at h;simp only[au,bf,cS]at h;refine⟨h.1,h.2.1,λk hk=> ?_⟩;have:=h.2.2;rw[jW]at this;have:=this k hk;unfold OZ at this;simpa using this
theorem aOQ{t:dR}{i br:Int}{ks:List Int}(sc:Int)(h:HJ t i br ks=aZ):CP (agD t br ks sc)=aZ:=by have e:=(art h).2.1;unfold CP agD;rw[aM ⟨e.2.2.1,e.2.2.2.1⟩,aM (by rw[cm];exact e.2.2.2.2)];rfl
theorem aR7(t:dR)(br:Int)(ks:List Int){sc:Int}(h:oU sc):Z9 (agD t br ks sc):=⟨λs hs=>by
  obtain⟨k,_,rfl⟩:=df.1 (show s∈ks.map λk=>nH k (iD t) from hs);exact aJ2 k _,h⟩
theorem aJ9{t:dR}{i br sc:Int}{ks:List Int}(hv:ng t)(h:HJ t i br ks=aZ)(hs:oU sc):
  iR (Zr t i.toNat (agD t br ks sc))=aZ/\ng (Zr t i.toNat (agD t br ks sc))/\iD (Zr t i.toNat (agD t br ks sc))=iD t/\eh (Zr t i.toNat (agD t br ks sc))=eh t/\iN (Zr t i.toNat (agD t br ks sc))=iN t:=by
 obtain⟨jR,e,_⟩:=art h;have hk:i.toNat < t.1.length:=ak;have hw:=aOQ sc h;exact⟨Z3 hk jR hw,aR3 hk hv (aR7 t br ks hs) (by show(ks.map _).length<=_;rw[cm];omega),aOL hk jR hw⟩
def RV:iG:=([],aZ,())
def sA(r:iG):Prop:=r.1.length<=1000000000/\Bytes r.1
def nK(n:Nat)(r:iG):List Int×iG:=if r.2.1=aZ\/r.1.length < n then([],RV) else(r.1.take n,(r.1.drop n,r.2))
def P9(l:List Int):Int:=l.foldl (λn b=>n*256+b) 0
def sY(r:iG):Int×iG:=(P9 (nK 8 r).1,(nK 8 r).2)
theorem akz:sA RV:=⟨aP _,λx hx=>by cases hx⟩
theorem Bd{n:Nat}{r:iG}(h:sA r):(nK n r).1.length<=n/\Bytes (nK n r).1/\sA (nK n r).2:=by
 unfold nK;split
 ·exact⟨aP _,λx hx=>(by cases hx),akz⟩
 ·refine⟨by rw[bB];omega,λx hx=>h.2 x (fO hx),?_,λx hx=>h.2 x (List.mem_of_mem_drop hx)⟩;show(r.1.drop n).length<=_;rw[dG];have:=h.1;omega
theorem aBB(l:List Int)(b:Int):P9 (l++ [b])=P9 l*256+b:=by unfold P9;rw[List.foldl_append];rfl
theorem ap4:∀(l:List Int) (n:Int) (k:Nat),Bytes l->0<=n->n < 256^k->0<=l.foldl (λn b=>n*256+b) n/\l.foldl (λn b=>n*256+b) n < 256^(k+l.length)
 |[],n,k,_,h0,h1=>⟨h0,h1⟩
 |b::l,n,k,hb,h0,h1=>by obtain⟨aRr,aVc⟩:=hb b aK;have e:(256:Int)^(k+1)=256^k*256:=gA 256 k;have:=ap4 l (n*256+b) (k+1) (λx hx=>hb x (aF _ hx)) ak (by rw[e];omega);rw[show k+(b::l).length=k+1+l.length by rw[aB];omega];exact this
theorem ax5{l:List Int}(h:Bytes l):0<=P9 l/\P9 l < 256^l.length:=by have:=ap4 l 0 0 h (ji 0) fg;rw[aR]at this;exact this
theorem aiz{a b:Nat}(h:a<=b):(256:Int)^a<=256^b:=by have:((256^a:Nat):Int)<=((256^b:Nat):Int):=Int.ofNat_le.2 (Nat.pow_le_pow_right fg h);rw[lO,lO]at this;exact this
theorem aRO{l:List Int}(h:Bytes l)(h8:l.length<=8):oU (P9 l):=by have e:=ax5 h;have e2:=aiz h8;have e3:(256:Int)^8=18446744073709551616:=rfl;exact⟨e.1,ak⟩
theorem WD{r:iG}(h:sA r):oU (sY r).1/\sA (sY r).2:=⟨aRO (Bd h).2.1 (Bd h).1,(Bd h).2.2⟩
theorem aUH{n b:Int}(h0:0<=n)(h1:n < 72057594037927936)(hb:ajp b):cV .or .u64 (nC .u64 n 8) (eQ .u64 b)=n*256+b:=by have e:=(Xq (n:=n) (b:=b) ⟨h0,ak⟩ hb).1;rw[yk 56 (by rfl) ak]at e;have p:(2:Int)^56=72057594037927936:=rfl;rw[p]at e;omega
def aCA:iG->Prop:=λ_=>True
def aOt:iG->iG:=λ_=>RV
def Tj:Fs Tryz.prog aCA bC aOt:=fw 177 Tryz.f177 (λo0=>([.ptr (.bt 0) 0 [] 0],[.obj 0 aQ (.d uZ o0)])) (λx=>⟨.nil,[.obj 0 aQ (.d uZ x)],[]⟩) [aD] [] {MN:=[⟨0,[.arr],uZ⟩]}
theorem aJu(o0)(k:K1 R):Tj.A o0 k=k (Tj.out (([]:List Int),(aZ,o0.2.2))):=cr
theorem aJv:Tj.Ok:=by intro o _;rw[aJu];rfl
theorem V3:Tj.RS:=rE [.d uZ] Tj
def aqV:=Tj.fC aJv
def aiL:iG->Int->((iG)×(Int)):=λo0 y=>(o0,y)
def aCD:iG->Prop:=λ_=>True
def ayp:iG->Int:=λo=>(o.1.length:Int)
def ad3:Fs Tryz.prog aCD aiL ayp:=fw 127 Tryz.f127 (λo0=>([.ptr (.bt 0) 0 [] 0],[.obj 0 aQ (.d uZ o0)])) (λx=>⟨.d ti x.2,[.obj 0 aQ (.d uZ x.1)],[]⟩) [aD]
theorem aJz(o0)(k:K1 R):ad3.A o0 k=k (ad3.out (o0,(o0.1.length:Int))):=cr
theorem aJA:ad3.Ok:=by intro o _;rw[aJz];rfl
theorem aCE:ad3.RS:=rE [.d uZ] ad3
def aJB:=ad3.fC aJA
def aq0:iG->Bool->((iG)×(Bool)):=λo0 y=>(o0,y)
def aJH:iG->Prop:=λ_=>True
def aJG:iG->Bool:=λo=> !o.2.1
def avB:Fs Tryz.prog aJH aq0 aJG:=fw 126 Tryz.f126 (λo0=>([.ptr (.bt 0) 0 [] 0],[.obj 0 aQ (.d uZ o0)])) (λx=>⟨.d .bool x.2,[.obj 0 aQ (.d uZ x.1)],[]⟩) [aD]
theorem aOx(o0)(k:K1 R):avB.A o0 k=k (avB.out (o0,(!o0.2.1))):=cr
theorem aOy:avB.Ok:=by intro o _;rw[aOx];rfl
theorem aJI:avB.RS:=rE [.d uZ] avB
def aOz:=avB.fC aOy
def aCM:(Int×iG)->Prop:=λ(n,o)=>0<=n/\o.1.length<=1000000000
def Z2:(Int×iG)->(Bs×iG):=λ(n,o)=>nK n.toNat o
def KX:Fs Tryz.prog aCM bC Z2:=fw 178 Tryz.f178 (λ(n,o0)=>([.ptr (.bt 0) 0 [] 0,.d ti n],[.obj 0 aQ (.d uZ o0)])) (λx=>⟨.d tB x.1,[.obj 0 aQ (.d uZ x.2)],[]⟩) [aD,av ti] [aqV,U0] {res:=[av tB],MN:=[⟨0,[.arr],uZ⟩]}
theorem aJT(n o0)(k:K1 R):KX.A (n,o0) k=aL (o0.2.1) (al (Tj.call o0) λx1=>k (KX.out (([]:List Int),x1))) (aL (pJ n (o0.1.length:Int)) (al (Tj.call o0) λx2=>k (KX.out (([]:List Int),x2))) (aL (inc n (o0.1.length:Int)) (al (BP.call (cut o0.1 0 ((ae n) - 0))) λx3=>aL (inc n (o0.1.length:Int)) (aL (decide (0=0/\(0+x3.1)<=(ag x3.2))) (k (KX.out ((cut x3.2 0 x3.1),((cut o0.1 (ae n) ((ag o0.1) - (ae n))),o0.2)))) aD) aD) aD)):=cr
theorem aJU:KX.Ok:=by
 rintro⟨n,o⟩ ⟨h0,hl⟩;have h0:0<=n:=h0;have hl:o.1.length<=1000000000:=hl;obtain⟨k,rfl⟩:∃k:Nat,n=k:=⟨n.toNat,ak⟩;rw[aJT];simp only[bC,Z2,nK,aa,Nat.sub_zero];cases h2:o.2.1
 ·by_cases hn:o.1.length < k
  ·rw[dd ak,if_pos (fN hn),V3 (d:=o) trivial];rfl
  ·have e1:cut o.1 0 k=o.1.take k:=rfl;have e2:cut o.1 k (o.1.length - k)=o.1.drop k:=by unfold cut;rw[bk];rw[dG];omega
   rw[cH ak,if_neg (by intro x;rcases x with x | x;exact absurd x fg;exact hn x),vG ak ak,e1,e2,Pd (d:=o.1.take k) (by show(o.1.take k).length<=_;rw[bB];omega)];simp only[ao,aj,ah,bC,JA,aR,ay,jO,cO,fB]
 ·rw[aj,if_pos (mL rfl),V3 (d:=o) trivial];rfl
theorem Wf:KX.RS:=rE [.d ti,.d uZ] KX
def aee:=KX.fC aJU
abbrev Wh:=Int×Bs×Int×Int×iG
def arb:Wh->Int->((iG)×(Int)):=λ(n,t7,t8,t9,C5) y=>(C5,y)
def ara:Wh->Prop:=λ(n,l,m,i,o)=>Bytes l/\l.length<=8/\m=l.length/\∃k:Nat,k<=l.length/\i=k/\n=P9 (l.take k)
def aCO:Wh->Int:=λ(n,l,m,i,o)=>P9 l
def aJX:iG->Prop:=λo=>sA o
def Wg:iG->(Int×iG):=λo=>sY o
def A8:Ls ara arb aCO:=sH (λ(n,t7,t8,t9,C5)=>⟨([bH,bH,bH,.d tu n,bH,bH,bH,.d tB t7,.d ti t8,.d ti t9]++aS 10 []),ed (.d uZ C5),(ab 20 [])⟩) (λx=>(.exit 0,⟨([bH,bH,bH,.d tu x.2]++aS 16 []),ed (.d uZ x.1),(ab 20 [])⟩))
def Tv:Fs Tryz.prog aJX bC Wg:=fw 125 Tryz.f125 (λo0=>([.ptr (.bt 0) 0 [] 0],[.obj 0 aQ (.d uZ o0)])) (λx=>⟨.d tu x.1,[.obj 0 aQ (.d uZ x.2)],[]⟩) [aD] [aee] {loops:=oJ [(3,{ba:=[3,7,8,9]})],outs:=oI [(3,{ba:=[3]},{ba:=[2]})],gf:=nQ [(3,A8.E)]}
theorem arc:A8.RS:=rL [.d tu,.d tB,.d ti,.d ti,.d uZ] A8
theorem Tw(n t7 t8 t9 C5)(kn:K2 R)(kx:K3 R):Tv.R 0 A8 (n,t7,t8,t9,C5) kn kx=aL (gz t9 t8) (aL (eL t9 (t7.length:Int)) (kn (A8.st ((cV .or .u64 (nC .u64 n 8) (eQ .u64 (nth tb t7 (ae t9)))),t7,t8,(bO .i64 t9 1),C5))) aD) (A8.go kx (C5,n)):=cr
theorem aOG(o0)(k:K1 R):Tv.A o0 k=al (KX.call (8,o0)) λx1=>al (A8.call (0,x1.1,(x1.1.length:Int),0,x1.2)) λx2=>k (Tv.out (x2.2,x2.1)):=cr
theorem avL:(Tv.lF 0 A8):=by
 refine(Tv.mY 0 A8) (λ(n,l,m,i,o)=>l.length - i.toNat) ?_
 rintro⟨n,l,m,i,o⟩ ⟨hb,h8,rfl,k,hk,rfl,rfl⟩;have h8:l.length<=8:=h8;have hk:k<=l.length:=hk;by_cases h:k < l.length
 ·left;have hx:=hb _ (aO h);have n1:nth (.int .u8) l k=l[k]:=cg (t:= .int .u8) h;have ht:(l.take k).length=k:=by rw[bB];omega
  have b0:=ax5 (l:=l.take k) λx hx=>hb x (fO hx)
  rw[ht]at b0;have b1:=aiz (show k<=7 by omega);have b2:(256:Int)^7=72057594037927936:=rfl;refine⟨(P9 (l.take (k+1)),l,l.length,((k+1:Nat):Int),o),⟨hb,h8,rfl,k+1,ak,rfl,rfl⟩,by simp only[aa];omega,rfl,λkn kx=> ?_⟩;rw[Tw,aX ak,bj ak ak,aa,n1,N.mZ ak,aUH b0.1 ak hx,ja h,aBB];rfl
 ·right;obtain rfl:k=l.length:=ak;intro R kn kx;rw[Tw,aU ak,ao,bQ];rfl
theorem aOH:Tv.Ok:=by intro o h;have h:sA o:=h;have t:=Bd (n:=8) h;rw[aOG,Wf (d:=(8,o)) ⟨fg,h.1⟩];simp only[ah,bC,Z2];rw[show ae 8=8 from rfl,arc (d:=(0,(nK 8 o).1,(nK 8 o).1.length,0,(nK 8 o).2)) ⟨t.2.1,t.1,rfl,0,aP _,rfl,rfl⟩];rfl
theorem KY:Tv.RS:=rE [.d uZ] Tv
def ayt:=Tv.fC aOH 1 ⟨.fI avL,trivial⟩
def aCH:Bs->Prop:=λb=>b.length<=1000000000
def ama:Bs->iG:=λb=>(b,aQ,())
def Yk:Fs Tryz.prog aCH bC ama:=fw 119 Tryz.f119 (λb=>([.d tB b],[])) (λx=>⟨.ptr (.new 0 0) 0 [] 0,[],[.obj 0 aQ (.d uZ x)]⟩) [av tB] [U0] {bT:=[6],MN:=[⟨2,[.arr],uZ⟩]}
theorem aJJ(b)(k:K1 R):Yk.A b k=al (BP.call b) λx1=>aL (decide (0=0/\(0+x1.1)<=(ag x1.2))) (k (Yk.out ((cut x1.2 0 x1.1),(aQ,())))) aD:=cr
theorem aJK:Yk.Ok:=by intro b hb;have hb:b.length<=1000000000:=hb;rw[aJJ,Pd (d:=b) (by show b.length<=_;omega)];simp only[ah,bC,JA,aR,ay,jO,cO,aj,fB];rfl
theorem aiO:Yk.RS:=rE [.d tB] Yk
def aq1:=Yk.fC aJK
abbrev aek:=Int×iG
def HF:aek->Bool->((Int×iG)×(Bool)):=λ(o0,o2) y=>((o0,o2),y)
def avN:aek->Prop:=λ(a,o)=>0<=a
def Tz:aek->Bool:=λ(a,o)=>decide (o.1.length<=a.toNat\/8 < a.toNat\/(0 < a.toNat/\nth (.int .u8) o.1 a.toNat=0))
def E2:Fs Tryz.prog avN HF Tz:=fw 176 Tryz.f176 (λ(o0,o2)=>([.ptr (.bt 0) 0 [] 0,.ptr (.bt 1) 0 [] 0],[.obj 0 aQ (.d ti o0),.obj 0 aQ (.ptr (.bt 2) 0 [] 0),.obj 0 aQ (.d uZ o2)])) (λx=>⟨.d .bool x.2,[.obj 0 aQ (.d ti x.1.1),.obj 0 aQ (.ptr (.bt 2) 0 [] 0),.obj 0 aQ (.d uZ x.1.2)],[]⟩) [aD,aD]
theorem aCT(o0 o2)(k:K1 R):E2.A (o0,o2) k=aL (Dv o0 (o2.1.length:Int)) (k (E2.out ((o0,o2),aZ))) (aL (pJ o0 8) (k (E2.out ((o0,o2),aZ))) (aL (pJ o0 0) (aL (eL o0 (o2.1.length:Int)) (k (E2.out ((o0,o2),(oV (nth tb o2.1 (ae o0)) 0)))) aD) (k (E2.out ((o0,o2),aQ))))):=cr
theorem aCU:E2.Ok:=by
 rintro⟨a,o⟩ h0;obtain⟨k,rfl⟩:∃k:Nat,a=k:=⟨a.toNat,by have h0:0<=a:=h0;omega⟩;rw[aCT];simp only[HF,Tz,aa];by_cases h1:o.1.length<=k
 ·rw[hZ ak,aM (mL h1)];rfl
 by_cases h2:8 < k
 ·rw[ff ak,dd ak,aM (fN (mL h2))];rfl
 by_cases h3:0 < k
 ·rw[ff ak,cH ak,dd ak,bj ak ak];simp only[ao,aj];by_cases h4:nth (.int .u8) o.1 k=0
  ·rw[du h4,aM (fN (fN ⟨h3,h4⟩))]
  ·rw[fm h4,aV (by rintro(x | x | x);exact h1 x;exact h2 x;exact h4 x.2)]
 ·rw[ff ak,cH ak,cH ak,aV (by rintro(x | x | x);exact h1 x;exact h2 x;exact h3 x.1)];rfl
theorem ael:E2.RS:=rE [.d ti,.d uZ] E2
def aCV:=E2.fC aCU
def Ck:List Int->Nat->Int->(Int×Nat)⊕Unit
 |[],_,_=> .inr ()
 |d::l,a,n=>if 8 < a\/(0 < a/\d=0) then .inr () else if d < 128 then .inl (n+d%128*128^a,a+1) else Ck l (a+1) (n+d%128*128^a)
def dU(r:iG):Int×iG:=match Ck r.1 0 0 with | .inl v=>(v.1,(r.1.drop v.2,r.2)) | .inr _=>(0,RV)
theorem auZ(k:Nat):(128:Int)^k=((128^k:Nat):Int):=by rw[lO];rfl
theorem aoH{n d k:Nat}(hk:k<=8)(hn:n < 128^k)(hd:d < 128):cV .or .i64 (n:Int) (nC .i64 (d:Int) ((7*k:Nat):Int))=((n+d*128^k:Nat):Int)/\n+d*128^k < 128^(k+1)/\128^(k+1)<=9223372036854775808:=by
 have p:128^k<=128^8:=Nat.pow_le_pow_right fg hk;have p8:128^8=72057594037927936:=rfl;have e1:128^(k+1)=128^k*128:=Nat.pow_succ (n:=128) (m:=k);have e2:2^(7*k)=128^k:=by rw[Nat.pow_mul]
 have e3:d*128^k<=127*128^k:=di _ ak;refine⟨?_,ak,ak⟩;have s:nC .i64 (d:Int) ((7*k:Nat):Int)=((d*128^k:Nat):Int):=by
  rw[nC];have e:min (ae ((7*k:Nat):Int)) IntKind.i64.bits=7*k:=by simp only[IntKind.bits,aa];omega
  rw[e,show(2:Int)^(7*k)=((2^(7*k):Nat):Int) by rw[lO];rfl,e2,<-lN];exact vE ak ak
 rw[s];have e:(bo 64 (n:Int) ||| bo 64 ((d*128^k:Nat):Int)).toNat=n+d*128^k:=by
  rw[BitVec.toNat_or];have a:(bo 64 ((d*128^k:Nat):Int)).toNat=2^(7*k)*d:=by rw[jM,kU,e2,ri];exact kM (by rw[ri];omega)
  have b:(bo 64 (n:Int)).toNat=n:=by rw[jM,kU];exact kM ak
  rw[a,b,Nat.or_comm,<-Nat.two_pow_add_eq_or_of_lt (by rw[e2];exact hn),e2,ri];omega
 show IntKind.i64.wrap ((bo 64 (n:Int) ||| bo 64 ((d*128^k:Nat):Int)).toNat:Int)=_;rw[e];exact vE ak ak
theorem alx:∀(l:List Int) (a:Nat) (n:Int) (v:Int×Nat),Bytes l->a<=9->0<=n->n < 128^a->Ck l a n= .inl v->0<=v.1/\v.1 < 9223372036854775808/\a < v.2/\v.2<=a+l.length/\v.2<=9
 |[],a,n,v,_,_,_,_,h=>by cases h
 |d::l,a,n,v,hb,ha,h0,h1,h=>by
  have hx:=hb d aK;obtain⟨x1,x2⟩:=hx;rw[Ck]at h;split at h
  ·cases h
  ·rename_i hc;have aXE:a<=8:=ak;rw[auZ]at h1 h;obtain⟨nn,rfl⟩:∃m:Nat,n=m:=⟨n.toNat,ak⟩;obtain⟨dn,aUZ⟩:∃m:Nat,d%128=m:=⟨(d%128).toNat,ak⟩;have g:=(aoH (n:=nn) (d:=dn) aXE ak ak).2;rw[aUZ]at h;have ec:((nn:Int)+(dn:Int)*((128^a:Nat):Int))=((nn+dn*128^a:Nat):Int):=by rw[Int.natCast_add,lN]
   rw[ec]at h;split at h
   ·cases h;simp only[aB];exact⟨ak,ak,ak,ak,ak⟩
   ·have:=alx l (a+1) _ v (λx hx=>hb x (aF _ hx)) ak ak (by rw[auZ];omega) h;simp only[aB];exact⟨this.1,this.2.1,ak,ak,this.2.2.2.2⟩
theorem te{r:iG}(h:sA r):0<=(dU r).1/\(dU r).1<=9223372036854775807/\sA (dU r).2:=by
 unfold dU;cases hf:Ck r.1 0 0 with
 |inl v=>
  have:=alx r.1 0 0 v h.2 fg fg fg hf;refine⟨this.1,by have:=this.2.1;show v.1<=_;omega,?_,λx hx=>h.2 x (List.mem_of_mem_drop hx)⟩;show(r.1.drop v.2).length<=_;rw[dG];have:=h.1;omega
 |inr _=>exact⟨ji 0,(show(0:Int)<=9223372036854775807 by decide),akz⟩
theorem ap6:∀(f:Nat) (n:Int) (a:Nat) (m:Int) (rest:List Int),0<=n->n < 128^(f+1)->a+f<=8->(a=0\/0 < n)->
  Ck ((ix f n).1++(ix f n).2::rest) a m= .inl (m+n*128^a,a+(ix f n).1.length+1)
 | 0,n,a,m,rest,h0,h1,ha,hp=>by have h1:n < 128:=h1;show Ck (n::rest) a m=_;rw[Ck,if_neg ak,if_pos h1,fJ h0 h1];rfl
 |f+1,n,a,m,rest,h0,h1,ha,hp=>by
  rw[ix];have e:(128:Int)^(f+1+1)=128^(f+1)*128:=gA 128 (f+1);split
  ·rename_i h;show Ck ((n%128+128)::((ix f (n / 128)).1++(ix f (n / 128)).2::rest)) a m=_;rw[Ck,if_neg ak,if_neg ak,ap6 f (n / 128) (a+1) _ rest ak ak ak (fN ak)];have e2:(128:Int)^(a+1)=128^a*128:=gA 128 a;have e3:(n%128+128)%128=n%128:=ak;have e4:m+n%128*128^a+n / 128*(128^a*128)=m+n*128^a:=by
    have:n*128^a=(n%128+n / 128*128)*128^a:=by rw[show n%128+n / 128*128=n by omega]
    rw[this,Int.add_mul,sy (n / 128),qV 128 (128^a),Int.add_assoc]
   rw[e3,e2,e4];simp only[aB];rw[show a+1+(ix f (n / 128)).1.length+1=a+((ix f (n / 128)).1.length+1)+1 by omega]
  ·rename_i h;show Ck (n::rest) a m=_;rw[Ck,if_neg ak,if_pos ak,fJ h0 ak];rfl
theorem Kf(n:Int)(h:I5 n)(rest:List Int)(u:Bool×Unit):dU (gZ n++rest,u)=(n,(rest,u)):=by
 have h0:=h.1;have h1:=h.2;have e8:(128:Int)^(8+1)=9223372036854775808:=rfl;have e10:(128:Int)^(10+1)=151115727451828646838272:=rfl;have er:ix 10 n=ix 8 n:=My 10 8 n (by rw[e10];omega) (by rw[e8];omega);have el:gZ n++rest=(ix 8 n).1++(ix 8 n).2::rest:=by unfold gZ;rw[er,aI];rfl
 have e:=ap6 8 n 0 0 rest h0 (by rw[e8];omega) fg (mL rfl);unfold dU;show(match Ck (gZ n++rest) 0 0 with | .inl v=>(v.1,((gZ n++rest).drop v.2,u)) | .inr _=>(0,RV))=_;rw[el,e];show(0+n*128^0,(((ix 8 n).1++(ix 8 n).2::rest).drop (0+(ix 8 n).1.length+1),u))=_;rw[lW,yy,Int.zero_add,aR,List.append_cons,lP (by rw[ai];rfl)]
theorem aIx(n:Int)(h:oU n):P9 (jV n)=n:=by obtain⟨h0,h1⟩:=h;unfold P9 jV;simp only[bz,de];omega
theorem LJ(n:Int)(h:oU n)(rest:List Int):sY (jV n++rest,aQ,())=(n,(rest,aQ,())):=by
 unfold sY nK;have l8:=cJ n;rw[if_neg (by
  intro x;rcases x with x | x
  ·have x:aQ=aZ:=x;cases x
  ·have x:(jV n++rest).length < 8:=x;rw[ai]at x;omega)]
 show(P9 ((jV n++rest).take 8),((jV n++rest).drop 8,aQ,()))=_;rw[lQ l8,lP l8,aIx n h]
abbrev F9:=Int×iG×Int
def uk:F9->AS:=λ(n,C5,n4)=>⟨([.ptr (.bt 0) 0 [] 0,fx 1,bH,.d ti n,fx 4,.fn 176 (.cons (fx 4) (.cons (fx 1) (.nil)))]++aS 35 []),ed (.d uZ C5),([[],ed (.ptr (.bt 0) 0 [] 0),[],[],ed (.d ti n4)]++bS 36 [])⟩
def D1:iG->Exit×AS:=λx=>(.ret,⟨([.ptr (.bt 0) 0 [] 0,bH,.d ti (0:Int)]++aS 38 []),ed (.d uZ x),(ab 41 [])⟩)
def uR:(Int×iG×Int)->Exit×AS:=λ(a,b,c)=>(.exit 0,⟨([.ptr (.bt 0) 0 [] 0,fx 1,bH,.d ti a,fx 4]++aS 36 []),ed (.d uZ b),([[],ed (.ptr (.bt 0) 0 [] 0),[],[],ed (.d ti c)]++bS 36 [])⟩)
abbrev V5:=(iG)⊕((Int×iG×Int))
abbrev aiN:=(iG)⊕((Int×iG×Int))
def KT:V5->Out (Exit×AS):=λx=> .br x.isLeft (.get x.getLeft? λa=> .ok (D1 a)) (.get x.getRight? λb=> .ok (uR b))
def og:F9->aiN->V5:=λ(n,C5,n4) y=>match y with | .inl y=> .inl y | .inr z=> .inr (z)
def D0:F9->Prop:=λ(n,o,i)=>sA o/\∃(k m:Nat),k<=9/\i=k/\n=m/\m < 128^k
def uQ:F9->aiN:=λ(n,o,i)=>match Ck (o.1.drop i.toNat) i.toNat n with | .inl v=> .inr (v.1,o,(v.2:Int)) | .inr _=> .inl RV
def aJF:iG->Prop:=λo=>sA o
def xq:iG->(Int×iG):=λo=>dU o
def aiM:=dI.fI uk D0 og uQ KT
def Tl:F9->Option V5:=gO aiM uk
def E1:Fs Tryz.prog aJF bC xq:=fw 121 Tryz.f121 (λo0=>([.ptr (.bt 0) 0 [] 0],[.obj 0 aQ (.d uZ o0)])) (λx=>⟨.d ti x.1,[.obj 0 aQ (.d uZ x.2)],[]⟩) [aD] [aCV,aqV] {bT:=[1],loops:=oJ [(3,{ba:=[0,1,3,4,5],sites:=[1,4]})],outs:=oI [(3,{ba:=[0,1,3,4],sites:=[1,4]},{ba:=[0,2]})],gf:=nQ [(3,aiM)],MN:=[⟨0,[.arr],uZ⟩]}
def V4:= @eG Tryz.prog (jQ E1.G) E1.an 0 Tryz.f121 0 _ uk
abbrev ad4:=j7 Tryz.prog (jQ E1.G) E1.an 0 Tryz.f121 0 uk D0 og uQ KT
theorem aqZ:jh Tl D0 og uQ:=lH (jx [.d ti,.d uZ,.d ti] λ_=>cr)
theorem V6:mK @V4 uk D0 og uQ KT ad4:=nc
theorem Tm(n C5 n4)(kn:K2 R)(kx:K3 R):V4 (n,C5,n4) kn kx=al (E2.call (n4,C5)) λx1=>aL (x1.2) (al (Tj.call x1.1.2) λx2=>kx (D1 x2).1 (D1 x2).2) (aL (eL x1.1.1 (((ag x1.1.2.1):Nat):Int)) (aL (nE (ia .i64 (7:Int) x1.1.1)) (aL (gz (nth tb x1.1.2.1 (ae x1.1.1)) (128:Int)) (kx (uR ((cV .or .i64 n (nC .i64 (eQ .i64 (nP (nth tb x1.1.2.1 (ae x1.1.1)) (128:Int))) (ia .i64 (7:Int) x1.1.1))),x1.1.2,(bO .i64 x1.1.1 (1:Int)))).1 (uR ((cV .or .i64 n (nC .i64 (eQ .i64 (nP (nth tb x1.1.2.1 (ae x1.1.1)) (128:Int))) (ia .i64 (7:Int) x1.1.1))),x1.1.2,(bO .i64 x1.1.1 (1:Int)))).2) (kn (uk ((cV .or .i64 n (nC .i64 (eQ .i64 (nP (nth tb x1.1.2.1 (ae x1.1.1)) (128:Int))) (ia .i64 (7:Int) x1.1.1))),x1.1.2,(bO .i64 x1.1.1 (1:Int)))))) aD) aD):=cr
theorem aOv(o0)(k:K1 R):E1.A o0 k=al (Tl (0,o0,0)) λx3=>aL x3.isLeft (al x3.getLeft? λa4=>k (E1.out (0,a4))) (al x3.getRight? λb5=>aL (inc b5.2.2 (b5.2.1.1.length:Int)) (k (E1.out (b5.1,((cut b5.2.1.1 (ae b5.2.2) ((ag b5.2.1.1) - (ae b5.2.2))),b5.2.1.2)))) aD):=cr
theorem avA:ad4:=by
 refine V6 (λ(n,o,i)=>9 - i.toNat) ?_
 rintro⟨n,o,i⟩ ⟨hr,k,m,hk,rfl,rfl,hm⟩;have hk:k<=9:=hk;have hr:sA o:=hr;by_cases hw:o.1.length<=k\/8 < k\/(0 < k/\nth (.int .u8) o.1 k=0)
 ·right;have hf:Ck (o.1.drop k) k (m:Int)= .inr ():=by
   by_cases h:k < o.1.length
   ·have n1:nth (.int .u8) o.1 k=o.1[k]:=cg (t:= .int .u8) h;rw[aq h,Ck,if_pos (by rw[n1]at hw;rcases hw with x | x | x;exact absurd x ak;exact mL x;exact fN x)]
   ·rw[dS ak];rfl
  refine⟨D1 RV,?_,λkn kx=> ?_⟩
  ·simp only[og,uQ,aa,hf];rfl
  ·rw[Tm,ael (d:=((k:Int),o)) (iE k)];simp only[ah,HF,Tz,aa];rw[aM hw,aj,V3 (d:=o) trivial];rfl
 ·have h:k < o.1.length:=ak;have hx:=hr.2 _ (aO h);obtain⟨x1,x2⟩:=hx;have n1:nth (.int .u8) o.1 k=o.1[k]:=cg (t:= .int .u8) h;have hc:¬(8 < k\/(0 < k/\o.1[k]=0)):=λx=>hw (x.elim (λy=> .inr (.inl y)) λy=> .inr (.inr ⟨y.1,n1.trans y.2⟩))
  obtain⟨dn,aUZ⟩:∃d:Nat,o.1[k]=d:=⟨o.1[k].toNat,ak⟩;have g:=aoH (n:=m) (d:=dn%128) (k:=k) ak hm ak;have step:∀ {R:Type} (kn:AS->Option R) (kx:Exit->AS->Option R),V4 ((m:Int),o,(k:Int)) kn kx=aL (gz o.1[k] 128) (kx (uR (((m+dn%128*128^k:Nat):Int),o,((k+1:Nat):Int))).1 (uR (((m+dn%128*128^k:Nat):Int),o,((k+1:Nat):Int))).2) (kn (uk (((m+dn%128*128^k:Nat):Int),o,((k+1:Nat):Int)))):=by intro R kn kx;rw[Tm,ael (d:=((k:Int),o)) (iE k)];simp only[ah,HF,Tz,aa];rw[aV hw,ao,bj ak ak,n1,aUZ,N.aUl ak,uJ ak,N.aVi,N.cN ak,g.1,N.mZ ak];rfl
  have ef:Ck (o.1.drop k) k (m:Int)=if o.1[k] < 128 then .inl (((m+dn%128*128^k:Nat):Int),k+1) else Ck (o.1.drop (k+1)) (k+1) ((m+dn%128*128^k:Nat):Int):=by
   have ec:(m:Int)+o.1[k]%128*128^k=((m+dn%128*128^k:Nat):Int):=by rw[aUZ,auZ,Int.natCast_add,lN];rfl
   rw[aq h,Ck,if_neg hc,ec]
  by_cases hl:o.1[k] < 128
  ·right;refine⟨uR (((m+dn%128*128^k:Nat):Int),o,((k+1:Nat):Int)),?_,λkn kx=> ?_⟩
   ·simp only[og,uQ,aa,ef,if_pos hl];rfl
   ·rw[step,aX hl,aj]
  ·left;refine⟨(((m+dn%128*128^k:Nat):Int),o,((k+1:Nat):Int)),⟨hr,k+1,_,ak,rfl,rfl,g.2.1⟩,by simp only[aa];omega,?_,λkn kx=> ?_⟩
   ·simp only[og,uQ,aa,ef,if_neg hl]
   ·rw[step,aU hl,ao]
theorem aOw:E1.Ok:=by
 intro o h;have h:sA o:=h;rw[aOv,aqZ (d:=(0,o,0)) ⟨h,0,0,fg,rfl,rfl,fg⟩];simp only[ah,og,uQ,bg,aG,bC,xq,dU];cases hf:Ck o.1 0 0 with
 |inl v=>
  have g:=alx o.1 0 0 v h.2 fg fg fg hf;have e2:cut o.1 v.2 (o.1.length - v.2)=o.1.drop v.2:=by unfold cut;rw[bk];rw[dG];omega
  simp only[dJ,cW,ao,ah,aa];rw[vG ak ak,aj,e2]
 |inr _=>rfl
theorem qE:E1.RS:=rE [.d uZ] E1
def Z0:=E1.fC aOw 1 ⟨.fI avA,trivial⟩
theorem gY{a b:List Int}(ha:Bytes a)(hb:Bytes b):Bytes (a++b):=λx hx=>by
 rcases bD.1 hx with h | h
 ·exact ha x h
 ·exact hb x h
theorem ad7:∀(f:Nat) (n:Int),0<=n->n < 128^(f+1)->Bytes (ix f n).1/\ajp (ix f n).2
 | 0,n,h0,h1=>by have h1:n < 128:=h1;exact⟨λx hx=>(by cases hx),h0,by show n < 256;omega⟩
 |f+1,n,h0,h1=>by
  have e:(128:Int)^(f+1+1)=128^(f+1)*128:=gA 128 (f+1);rw[ix];split
  ·have ih:=ad7 f (n / 128) ak ak;refine⟨λx hx=> ?_,ih.2⟩;rcases cv.1 hx with rfl | hx
   ·exact⟨ak,ak⟩
   ·exact ih.1 x hx
  ·exact⟨λx hx=>(by cases hx),h0,by show n < 256;omega⟩
theorem lV{n:Int}(h:I5 n):Bytes (gZ n):=by have e10:(128:Int)^(10+1)=151115727451828646838272:=rfl;obtain⟨h0,h1⟩:=h;have:=ad7 10 n h0 (by rw[e10];omega);unfold gZ;exact gY this.1 λx hx=>by rw[bp]at hx;subst hx;exact this.2
theorem apu:∀(ks:List Int) (o:List Int),nD o ks=o++ks.flatMap jV
 |[],o=>by rw[qY,bm];rfl
 |k::ks,o=>by show nD (o++jV k) ks=_;rw[apu ks,dL,aI]
theorem aui(ks:List Int):Bytes (ks.flatMap jV):=λx hx=>by obtain⟨k,_,hk⟩:=q9.1 hx;exact Fm k x hk
def aLw(b:pM):List Int:=gZ b.1.length++(b.1.flatMap jV++(gZ b.2.1++(gZ b.2.2.1++jV b.2.2.2.1)))
theorem ZY(o:List Int){n:Int}(h:0<=n):cU o n=o++gZ n:=by rw[cU,if_neg ak]
structure aP9(b:pM):Prop where
 len:b.1.length<=12
 af:I5 b.2.1
 dl:I5 b.2.2.1
theorem aQw{b:pM}(h:wH b=aZ):aP9 b:=by unfold wH PM at h;simp only[au,bf]at h;obtain⟨h1,_,h2,h3,_⟩:=h;exact⟨h1,⟨h2.1,ak⟩,⟨h3.1,ak⟩⟩
theorem vP{n:Nat}(h:n<=1000000000):I5 (n:Int):=⟨ak,ak⟩
theorem aQu(o:List Int){b:pM}(h:aP9 b):aD7 o b=o++aLw b:=by unfold aD7 aLw;rw[ZY _ (iE _),apu,ZY _ h.af.1,ZY _ h.dl.1];simp only[aI]
theorem axc:∀(bs:List pM) (o:List Int),(∀b∈bs,aP9 b)->bs.foldl aD7 o=o++bs.flatMap aLw
 |[],o,_=>by rw[qY,bm];rfl
 |b::bs,o,h=>by rw[bz,aQu o (h b aK),axc bs _ λx hx=>h x (aF _ hx),dL,aI]
theorem aur{l:Lk}(h:lK l=aZ):(∀b∈l.1,aP9 b)/\0 < l.1.length/\l.1.length<=4:=by unfold lK at h;simp only[au,dp,bf]at h;exact⟨λb hb=>aQw (h.1 b hb),h.2⟩
theorem aHW{l:Lk}(h:lK l=aZ):PU l=gZ l.1.length++l.1.flatMap aLw:=by unfold PU;rw[if_pos h,axc _ _ (aur h).1,ZY _ (iE _),aY]
theorem azz{b:pM}(h:aP9 b):Bytes (aLw b):=
 have ah1:=h.len
 gY (lV (vP ak)) (gY (aui _) (gY (lV h.af) (gY (lV h.dl) (Fm _))))
theorem aA7(l:Lk):Bytes (PU l):=by
 cases h:lK l
 ·unfold PU;rw[h,if_neg fg];exact λx hx=>(by cases hx)
 ·have hk:=aur h;rw[aHW h];refine gY (lV (vP ak)) λx hx=> ?_
  obtain⟨b,hb,hx⟩:=q9.1 hx;exact azz (hk.1 b hb) x hx
theorem avt{b:List Int}(h:Bytes b)(hl:b.length<=1000000000)(u:Bool×Unit):sA (b,u):=⟨hl,h⟩
def uG:Nat->iG->List Int×iG
 | 0,r=>([],r)
 |k+1,r=>((sY r).1::(uG k (sY r).2).1,(uG k (sY r).2).2)
def Fj(k:Nat)(r:iG):pM×iG:=(((uG k r).1,(dU (uG k r).2).1,(dU (dU (uG k r).2).2).1,(sY (dU (dU (uG k r).2).2).2).1,()),(sY (dU (dU (uG k r).2).2).2).2)
def Fl:Nat->Int->iG->List pM
 | 0,_,_=> []
 |f+1,n,r=>if 0 < n then(if f=0\/12 < (dU r).1 then [] else(Fj (dU r).1.toNat (dU r).2).1::Fl f (n - 1) (Fj (dU r).1.toNat (dU r).2).2) else []
def uP(b:List Int):List pM:=Fl 5 (dU (b,aQ,())).1 (dU (b,aQ,())).2
theorem ak9:∀(k:Nat) (r:iG),sA r->Ia (uG k r).1/\(uG k r).1.length=k/\sA (uG k r).2
 | 0,r,h=>⟨λx hx=>(by cases hx),rfl,h⟩
 |k+1,r,h=>by
  have e:=WD h;have ih:=ak9 k _ e.2;refine⟨λx hx=> ?_,by rw[uG,aB,ih.2.1],ih.2.2⟩;rcases cv.1 hx with rfl | hx
  ·exact e.1
  ·exact ih.1 x hx
theorem aw9(k:Nat)(r:iG)(h:sA r):aEi (Fj k r).1/\(Fj k r).1.1.length=k/\sA (Fj k r).2:=by have h1:=ak9 k r h;have h2:=te h1.2.2;have h3:=te h2.2.2;have h4:=WD h3.2.2;exact⟨⟨h1.1,h4.1⟩,h1.2.1,h4.2⟩
theorem aFe:∀(f:Nat) (n:Int) (r:iG),sA r->(∀b∈Fl f n r,aEi b)/\(Fl f n r).length<=f
 | 0,n,r,h=>⟨λx hx=>(by cases hx),ay _⟩
 |f+1,n,r,h=>by
  have h1:=te h;have h2:=aw9 (dU r).1.toNat _ h1.2.2;have ih:=aFe f (n - 1) _ h2.2.2;rw[Fl];split
  ·split
   ·exact⟨λx hx=>(by cases hx),aP _⟩
   ·refine⟨λx hx=> ?_,by rw[aB];omega⟩;rcases cv.1 hx with rfl | hx
    ·exact h2.1
    ·exact ih.1 x hx
  ·exact⟨λx hx=>(by cases hx),aP _⟩
theorem aym{b:List Int}(h:Bytes b)(hl:b.length<=1000000000):afE (uP b,())/\(uP b).length<=5:=by have e:=aFe 5 (dU (b,aQ,())).1 _ (te (avt h hl (aQ,()))).2.2;exact⟨e.1,e.2⟩
theorem ah9:∀(ks:List Int) (rest:List Int),Ia ks->uG ks.length (ks.flatMap jV++rest,aQ,())=(ks,(rest,aQ,()))
 |[],rest,_=>rfl
 |k::ks,rest,h=>by
  have e:sY ((k::ks).flatMap jV++rest,aQ,())=(k,(ks.flatMap jV++rest,aQ,())):=by rw[dL,aI];exact LJ k (h k aK) _
  have ih:=ah9 ks rest λx hx=>h x (aF _ hx)
  rw[aB,uG,e,ih]
theorem azv(b:pM)(hb:aEi b)(hk:aP9 b)(rest:List Int):Fj b.1.length (b.1.flatMap jV++(gZ b.2.1++(gZ b.2.2.1++(jV b.2.2.2.1++rest))),aQ,())=(b,(rest,aQ,())):=by unfold Fj;rw[ah9 _ _ hb.1];simp only[];rw[Kf _ hk.af,Kf _ hk.dl,LJ _ hb.2]
theorem aFa(b:pM)(rest:List Int):aLw b++rest=gZ b.1.length++(b.1.flatMap jV++(gZ b.2.1++(gZ b.2.2.1++(jV b.2.2.2.1++rest)))):=by unfold aLw;simp only[aI]
theorem anO:∀(bs:List pM) (f:Nat) (rest:List Int),(∀b∈bs,aEi b)->(∀b∈bs,aP9 b)->bs.length+1<=f->Fl f bs.length (bs.flatMap aLw++rest,aQ,())=bs
 |[],0,rest,_,_,h=>absurd h (by simp)
 |[],f+1,rest,_,_,_=>by rw[Fl,if_neg (by show ¬(0:Int) < ((0:Nat):Int);omega)]
 |b::bs,0,rest,_,_,h=>absurd h (by simp)
 |b::bs,f+1,rest,hu,hk,h=>by
  have ub:=hu b aK;have kb:=hk b aK;have h:bs.length+1+1<=f+1:=h;have e:(b::bs).flatMap aLw++rest=gZ b.1.length++(b.1.flatMap jV++(gZ b.2.1++(gZ b.2.2.1++(jV b.2.2.2.1++(bs.flatMap aLw++rest))))):=by rw[dL,aI,aFa]
  have ah1:=kb.len;rw[Fl,if_pos (by rw[aB];omega),e,Kf _ (vP ak)];simp only[aa];rw[if_neg ak,azv b ub kb];simp only[];rw[show((b::bs).length:Int) - 1=(bs.length:Int) by rw[aB];omega,anO bs f rest (λx hx=>hu x (aF _ hx)) (λx hx=>hk x (aF _ hx)) ak]
theorem aCx{l:Lk}(hu:afE l)(jR:lK l=aZ)(rest:List Int):uP (PU l++rest)=l.1:=by have hk:=aur jR;unfold uP;rw[aHW jR,aI,Kf _ (vP ak)];exact anO l.1 5 rest hu hk.1 ak
def IA(b:List Int):Lk×Bool:=if lK (uP b,())=aZ/\PU (uP b,())=b then((uP b,()),aZ) else(([],()),aQ)
theorem aiI{l:Lk}(hu:afE l)(jR:lK l=aZ):IA (PU l)=(l,aZ):=by
 have e:uP (PU l)=l.1:=by have e:=aCx hu jR [];rw[bm]at e;exact e
 unfold IA;rw[e];have e2:((l.1,()):Lk)=l:=rfl;rw[e2,if_pos ⟨jR,rfl⟩]
theorem aJn{b:List Int}(h:(IA b).2=aZ):∃l:Lk,lK l=aZ/\PU l=b/\IA b=(l,aZ)/\l=(uP b,()):=by
 unfold IA at h ⊢;split at h
 ·rename_i hc;exact⟨(uP b,()),hc.1,hc.2,by rw[if_pos hc],rfl⟩
 ·cases h
abbrev acm:=Bs×Int×Int×Nat×iG×(List pM)
abbrev PY:=Bs×Int×Int×Int×Int×Nat×Nat×(Int×(Int×(Int×Unit)))×iG×(List Int)×(List pM)
abbrev acn:=Nat×iG×(List Int)
def AN:PY->acn->((Bs×Int×Int×Nat×(Int×(Int×(Int×Unit)))×(List pM))×(Nat×iG×(List Int))):=λ(Uv,xT,gv,t27,t28,acU,aNW,n8,aij,n35,acR) y=>((Uv,xT,gv,acU,n8,acR),y)
def alj:PY->Prop:=λ(b,n,i,t,j,m1,m2,x,r,ks,bs)=>sA r/\ks.length=m2/\m2<=1000/\∃k c:Nat,j=k/\t=c/\k<=c/\c<=12/\m2=k
def Hd:PY->acn:=λ(b,n,i,t,j,m1,m2,x,r,ks,bs)=>(m2+(t - j).toNat,(uG (t - j).toNat r).2,ks++(uG (t - j).toNat r).1)
def alh:acm->Prop:=λ(b,n,i,m,r,bs)=>sA r/\n<=9223372036854775807/\bs.length=m/\∃k:Nat,i=k/\k<=4/\m=k
def Cg:acm->(Bs×Nat×(List pM)):=λ(b,n,i,m,r,bs)=>(b,m+(Fl (5 - i.toNat) (n - i) r).length,bs++Fl (5 - i.toNat) (n - i) r)
def aBg:Bs->Prop:=λb=>Bytes b/\b.length<=1000000000
def alg:Bs->(Lk×Bool):=λb=>IA b
def qq:Ls alh bC Cg:=sH (λ(iK,n,i,aRI,n11,n51)=>⟨([.d tB iK,bH,fx 2,bH,fx 11,fx 5,.d ti n,.d ti i]++aS 57 []),[],([[],[],ed (.pr (.dy) gg),[],[],ed (.pr (pc 51 aRI) gg)]++bS 5 ([ed (.d uZ n11)]++bS 39 ([ed (.vec 98 kS n51)]++bS 13 [])))⟩) (λx=>(.exit 0,⟨([.d tB x.1,bH,fx 2,bH,bH,fx 5]++aS 59 []),[],([[],[],ed (.pr (.dy) gg),[],[],ed (.pr (pc 51 x.2.1) gg)]++bS 45 ([ed (.vec 98 kS x.2.2)]++bS 13 []))⟩))
def vK:Ls alj AN Hd:=sH (λ(Uv,xT,gv,t27,t28,acU,aNW,n8,aij,n35,acR)=>⟨([.d tB Uv,bH,fx 2,bH,fx 11,fx 5,.d ti xT,.d ti gv,fx 8]++aS 18 ([.d ti t27,.d ti t28]++aS 36 [])),[],([[],[],ed (.pr (.dy) gg),[],[],ed (.pr (pc 51 acU) gg),[],[],ed (.pr (pc 35 aNW) (.d (.pair ti (.pair ti (.pair tu .unit))) n8)),[],[],ed (.d uZ aij)]++bS 23 ([ed (.vec 75 tu n35)]++bS 15 ([ed (.vec 98 kS acR)]++bS 13 [])))⟩) (λx=>(.exit 2,⟨([.d tB x.1.1,bH,fx 2,bH,fx 11,fx 5,.d ti x.1.2.1,.d ti x.1.2.2.1,fx 8]++aS 56 []),[],([[],[],ed (.pr (.dy) gg),[],[],ed (.pr (pc 51 x.1.2.2.2.1) gg),[],[],ed (.pr (pc 35 x.2.1) (.d (.pair ti (.pair ti (.pair tu .unit))) x.1.2.2.2.2.1)),[],[],ed (.d uZ x.2.2.1)]++bS 23 ([ed (.vec 75 tu x.2.2.2)]++bS 15 ([ed (.vec 98 kS x.1.2.2.2.2.2)]++bS 13 [])))⟩))
def Cf:Fs Tryz.prog aBg bC alg:=fw 123 Tryz.f123 (λb=>([.d tB b],[])) (λx=>⟨.cons (.d QQ x.1) (.cons (.d .bool x.2) (.nil)),[],[]⟩) [av tB] [aq1,Z0,ayt,FH,aia,aL2] {loops:=oJ [(5,{ba:=[0,2,4,5,6,7],sites:=[2,5,11,51],owns:=[⟨5,[.fst],51,70⟩]}),(11,{ba:=[0,2,4,5,6,7,8,27,28],sites:=[2,5,8,11,35,51],owns:=[⟨8,[.fst],35,96⟩]})],outs:=oI [(5,{ba:=[0,2,5],sites:=[2,5,51]},{ba:=[2,3]}),(11,{ba:=[0,2,4,5,6,7,8],sites:=[2,5,8,11,35,51]},{ba:=[2,3]})],gf:=nQ [(5,qq.E),(11,vK.E)],res:=[av QQ,aD]}
theorem ali:qq.RS:=rL [.d tB,.d ti,.d ti,.n,.d uZ,.d (.slice kS)] qq
theorem Ew(iK n i aRI n11 n51)(kn:K2 R)(kx:K3 R):Cf.R 0 qq (iK,n,i,aRI,n11,n51) kn kx=aL (gz i n) (al (E1.call n11) λJf=>aL (oV i 4) (qq.go kx (iK,aRI,n51)) (aL (pJ Jf.1 12) (qq.go kx (iK,aRI,n51)) (al (vK.call (iK,n,i,Jf.1,0,aRI,0,(0,(0,(0,()))),Jf.2,([]:List Int),n51)) λUz=>al (E1.call Uz.2.2.1) λaYj=>al (E1.call aYj.2) λaS0=>al (Tv.call aS0.2) λaVo=>aL (decide (0=0/\(0+Uz.2.1)<=(ag Uz.2.2.2))) (aL (decide (Uz.1.2.2.2.1<=(ag Uz.1.2.2.2.2.2))) (aL (dw (Uz.1.2.2.2.1+1) 48) (kn (qq.st (Uz.1.1,Uz.1.2.1,(bO .i64 Uz.1.2.2.1 1),(Uz.1.2.2.2.1+1),aVo.2,((aW Uz.1.2.2.2.1 Uz.1.2.2.2.2.2)++ [((cut Uz.2.2.2 0 Uz.2.1),(aYj.1,(aS0.1,(aVo.1,Uz.1.2.2.2.2.1.2.2.2))))])))) aD) aD) aD))) (qq.go kx (iK,aRI,n51)):=cr
theorem alk:vK.RS:=rL [.d tB,.d ti,.d ti,.d ti,.d ti,.n,.n,.d (.pair ti (.pair ti (.pair tu .unit))),.d uZ,.d tU,.d (.slice kS)] vK
theorem NR(Uv xT gv t27 t28 acU aNW n8 aij n35 acR)(kn:K2 R)(kx:K3 R):Cf.R 1 vK (Uv,xT,gv,t27,t28,acU,aNW,n8,aij,n35,acR) kn kx=aL (gz t28 t27) (al (Tv.call aij) λx4=>aL (decide (aNW<=(ag n35))) (aL (dw (aNW+1) 8) (kn (vK.st (Uv,xT,gv,t27,(bO .i64 t28 1),acU,(aNW+1),n8,x4.2,((aW aNW n35)++ [x4.1]),acR))) aD) aD) (vK.go kx ((Uv,xT,gv,acU,n8,acR),(aNW,aij,n35))):=cr
theorem aIb(b)(k:K1 R):Cf.A b k=al (Yk.call b) λx4=>al (E1.call x4) λx6=>al (qq.call (b,x6.1,0,0,x6.2,([]:List pM))) λaD6=>aL (decide (0=0/\(0+aD6.2.1)<=(ag aD6.2.2))) (al (qs.call ((cut aD6.2.2 0 aD6.2.1),())) λaXe=>aL (!aXe) (k (Cf.out ((([]:List pM),()),aQ))) (aL (decide (0=0/\(0+aD6.2.1)<=(ag aD6.2.2))) (al (ug.call ((cut aD6.2.2 0 aD6.2.1),())) λaXf=>al (UI.call (aXf,aD6.1)) λase=>aL (!ase) (k (Cf.out ((([]:List pM),()),aQ))) (aL (decide (0=0/\(0+aD6.2.1)<=(ag aD6.2.2))) (k (Cf.out (((cut aD6.2.2 0 aD6.2.1),()),aZ))) aD)) aD)) aD:=cr
theorem apN:(Cf.lF 1 vK):=by
 refine(Cf.mY 1 vK) (λ(b,n,i,t,j,m1,m2,x,r,ks,bs)=>(t - j).toNat) ?_
 rintro⟨b,n,i,t,j,m1,m2,x,r,ks,bs⟩ ⟨hr,aHa,hm,k,c,rfl,rfl,aZP,hc,aNa⟩;have hr:sA r:=hr;have aHa:ks.length=m2:=aHa;have aNa:m2=k:=aNa;by_cases h:k < c
 ·left;have e1:((c:Int) - (k:Int)).toNat=(c - (k+1))+1:=ak;have e2:((c:Int) - ((k+1:Nat):Int)).toNat=c - (k+1):=ak;refine⟨(b,n,i,(c:Int),((k+1:Nat):Int),m1,m2+1,x,(sY r).2,ks++ [(sY r).1],bs),⟨(WD hr).2,by rw[ai];show ks.length+1=_;omega,ak,k+1,c,rfl,rfl,ak,hc,ak⟩,by show((c:Int) - ((k+1:Nat):Int)).toNat < ((c:Int) - (k:Int)).toNat;omega,?_,λkn kx=> ?_⟩
  ·simp only[AN,Hd,e1,e2,uG,aI,dv];rw[show m2+1+(c - (k+1))=m2+(c - (k+1)+1) by omega]
  ·rw[NR,aX ak,KY (d:=r) hr];simp only[ah,aj,bC,Wg];rw[aM ak,dC ak ak,N.mZ ak,bk ak];rfl
 ·right;obtain rfl:k=c:=ak;intro R kn kx;rw[NR,aU ak,ao];simp only[AN,Hd,Int.sub_self,bg,uG,bm,cK]
theorem apM:(Cf.lF 0 qq):=by
 refine(Cf.mY 0 qq) (λ(b,n,i,m,r,bs)=>5 - i.toNat) ?_
 rintro⟨b,n,i,m,r,bs⟩ ⟨hr,hn,aXH,k,rfl,hk,aNa⟩;have hr:sA r:=hr;have hn:n<=9223372036854775807:=hn;have aXH:bs.length=m:=aXH;have aNa:m=k:=aNa;have e0:5 - (k:Int).toNat=(4 - k)+1:=by rw[aa];omega
 have g1:=te hr;by_cases h:(k:Int) < n
 ·have hp:0 < n - (k:Int):=ak;by_cases hc:4 - k=0\/12 < (dU r).1
  ·right;intro R kn kx;have eb:Fl ((4 - k)+1) (n - (k:Int)) r=[]:=by rw[Fl,if_pos hp,if_pos hc]
   rw[Ew,aX h,qE (d:=r) hr];simp only[ah,aj,bC,xq,bC,Cg,e0,eb,bl,cK,bm];by_cases h4:(k:Int)=4
   ·rw[du h4,aj]
   ·rw[fm h4,ao,dd ak,aj]
  ·left;have h4:¬(k:Int)=4:=ak;have aYU:¬(dU r).1 > 12:=ak;obtain⟨c,aSI⟩:∃c:Nat,(dU r).1=c:=⟨(dU r).1.toNat,ak⟩;have ao7:=aw9 c _ g1.2.2;have gk:=ak9 c _ g1.2.2;have ga:=te gk.2.2;have gd:=te ga.2.2;have eb:Fl ((4 - k)+1) (n - (k:Int)) r=(Fj c (dU r).2).1::Fl (4 - k) (n - (k:Int) - 1) (Fj c (dU r).2).2:=by rw[Fl,if_pos hp,if_neg hc,aSI,aa]
   have e1:5 - ((k+1:Nat):Int).toNat=4 - k:=by rw[aa];omega
   refine⟨(b,n,((k+1:Nat):Int),m+1,(Fj c (dU r).2).2,bs++ [(Fj c (dU r).2).1]),⟨ao7.2.2,hn,by rw[ai];show bs.length+1=_;omega,k+1,rfl,ak,ak⟩,by simp only[aa];omega,?_,λkn kx=> ?_⟩
   ·simp only[bC,Cg,e0,e1,eb,aI,dv,aB];rw[show n - ((k+1:Nat):Int)=n - (k:Int) - 1 by omega,show m+1+(Fl (4 - k) (n - (k:Int) - 1) (Fj c (dU r).2).2).length=m+((Fl (4 - k) (n - (k:Int) - 1) (Fj c (dU r).2).2).length+1) by omega]
   ·rw[Ew,aX h,qE (d:=r) hr];simp only[ah,aj,bC,xq];rw[fm h4,ao,cH aYU,ao,aSI,alk (d:=(b,n,(k:Int),(c:Int),0,m,0,(0,0,0,()),(dU r).2,[],bs)) ⟨g1.2.2,rfl,fg,0,c,rfl,rfl,aP _,ak,rfl⟩];simp only[ah,AN,Hd,qX,aa,aR,aY];rw[qE (d:=(uG c (dU r).2).2) gk.2.2];simp only[ah,bC,xq];rw[qE (d:=(dU (uG c (dU r).2).2).2) ga.2.2];simp only[ah,bC,xq];rw[KY (d:=(dU (dU (uG c (dU r).2).2).2).2) gd.2.2];simp only[ah,bC,Wg];rw[aM ⟨by trivial,by rw[gk.2.1];exact ay _⟩,aM ak,dC ak ak,N.mZ ak,bk ak,fB gk.2.1];rfl
 ·right;intro R kn kx;have eb:Fl ((4 - k)+1) (n - (k:Int)) r=[]:=by rw[Fl,if_neg ak]
  rw[Ew,aU h,ao];simp only[bC,Cg,e0,eb,bl,cK,bm]
theorem aIc:Cf.Ok:=by
 rintro b ⟨hb,hl⟩;have hb:Bytes b:=hb;have hl:b.length<=1000000000:=hl;have g0:=avt hb hl (aQ,());have g1:=te g0;have gu:=aym hb hl;rw[aIb,aiO (d:=b) hl];simp only[ah,bC,ama];rw[qE (d:=(b,aQ,())) g0];simp only[ah,bC,xq];rw[ali (d:=(b,(dU (b,aQ,())).1,0,0,(dU (b,aQ,())).2,[])) ⟨g1.2.2,g1.2.1,rfl,0,rfl,fg,rfl⟩];simp only[ah,bC,Cg,bg,Nat.sub_zero,qX,aR,aY,ay,jO,cO,aj,fB];rw[show Fl 5 (dU (b,aQ,())).1 (dU (b,aQ,())).2=uP b from rfl];have hL1:((uP b,()):Lk).1.length<=1000000000:=by show(uP b).length<=_;omega
 rw[Ch (d:=(uP b,())) ⟨gu.1,jb hL1 fg⟩];simp only[ah,bC,FG,bC,alg,IA];cases jR:lK (uP b,())
 ·rw[if_neg (by rintro⟨x,_⟩;cases x)];rfl
 ·rw[acd (d:=(uP b,())) ⟨gu.1,jb hL1 fg⟩];simp only[cQ,ao,ah,bC,Sr];rw[aEP (d:=(PU (uP b,()),b)) (by show(PU _).length<=_;have:=Mq (uP b,());omega)];simp only[ah,bC,asL];by_cases hx:PU (uP b,())=b
  ·rw[aM hx,if_pos ⟨by trivial,hx⟩];rfl
  ·rw[aV hx,if_neg (λy=>hx y.2)];rfl
theorem aBh:Cf.RS:=rE [.d tB] Cf
def aId:=Cf.fC aIc 2 ⟨.fI apM,⟨.fI apN,trivial⟩⟩
def JQ(r:iG):List Int×iG:=((nK 32 r).1++bZ (nK 32 r).1.length (ab 32 (0:Int)),(nK 32 r).2)
def I6(r:iG):List Int×iG:=if(dU r).2.2.1=aZ then([],(dU r).2) else nK (dU r).1.toNat (dU r).2
def QM(most:Int)(r:iG):Int×iG:=(if(dU r).1 > most then -1 else(dU r).1,(dU r).2)
def aP0(r:iG):bJ×iG:=(((JQ r).1,(dU (JQ r).2).1,()),(dU (JQ r).2).2)
def MT:Nat->iG->List bJ×iG
 | 0,r=>([],r)
 |k+1,r=>((aP0 r).1::(MT k (aP0 r).2).1,(MT k (aP0 r).2).2)
def ada(r:iG):iu×iG:=(((dU r).1,(IA (I6 (dU r).2).1).1,()),(I6 (dU r).2).2)
def Iv:Nat->iG->Option (List iu×iG)
 | 0,r=>av ([],r)
 |k+1,r=>if(IA (I6 (dU r).2).1).2=aZ then(match Iv k (ada r).2 with
  |some x=>av ((ada r).1::x.1,x.2)
  |none=>aD) else aD
def aP5(r:iG):Sg×iG:=(((sY r).1,(sY (sY r).2).1,()),(sY (sY r).2).2)
def HI:Nat->iG->List Sg×iG
 | 0,r=>([],r)
 |k+1,r=>((aP5 r).1::(HI k (aP5 r).2).1,(HI k (aP5 r).2).2)
def xx(r:iG):List Sg×iG:=HI (QM 12 (dU r).2).1.toNat (QM 12 (dU r).2).2
def awH(r:iG):Option (YO×iG):=if(QM 12 (dU r).2).1 < 0 then aD else av (((dU r).1,(xx r).1,(sY (xx r).2).1,()),(sY (xx r).2).2)
def IS:List bJ->iG->Option (List iF×iG)
 |[],r=>av ([],r)
 |o::l,r=>match awH r with
  |none=>aD
  |some w=>match IS l w.2 with
   |none=>aD
   |some x=>av ((o,w.1,())::x.1,x.2)
def aRM:dR×Bool:=(([],[],0,()),aQ)
def aGA(n m:Int)(t:dR)(r:iG):dR×Bool:=if n < 0\/m < 0\/r.2.1=aZ\/0 < r.1.length\/iR t=aQ then aRM else(t,aZ)
def aIk(n m:Int)(ops:List bJ)(os:List iu)(r:iG):dR×Bool:=match IS ops (dU r).2 with
 |none=>aRM
 |some x=>aGA n m (x.1,os,(dU r).1,()) x.2
def adV(b:List Int):dR×Bool:=
 let n:=QM 64 (b,aQ,())
 let ops:=MT n.1.toNat n.2
 let m:=QM 64 ops.2
 match Iv m.1.toNat m.2 with
 |none=>aRM
 |some x=>aIk n.1 m.1 ops.1 x.1 x.2
def auL(o:bJ):List Int:=o.1++gZ o.2.1
def FJ(o:iu):List Int:=gZ o.1++(gZ (PU o.2.1).length++PU o.2.1)
def aEf(s:Sg):List Int:=jV s.1++jV s.2.1
def Fb(w:YO):List Int:=gZ w.1++(gZ w.2.1.length++(w.2.1.flatMap aEf++jV w.2.2.1))
def aVm(t:dR):List Int:=gZ t.1.length++(t.1.flatMap (λx=>auL x.1)++(gZ t.2.1.length++(t.2.1.flatMap FJ++(gZ t.2.2.1++t.1.flatMap λx=>Fb x.2.1))))
theorem Fy{α:Type}(f:List Int->α->List Int)(w:α->List Int):∀(l:List α) (b:List Int),(∀x∈l,∀b,f b x=b++w x)->l.foldl f b=b++l.flatMap w
 |[],b,_=>by simp
 |x::l,b,h=>by rw[bz,h x aK,Fy f w l _ λy hy=>h y (aF _ hy),dL,aI]
theorem Cs(b:List Int){n:Int}(h:0<=n):cU b n=b++gZ n:=by unfold cU;rw[if_neg ak]
theorem aKS{t:dR}(jR:iR t=aZ):awA t=aVm t:=by
 obtain⟨⟨_,a2,a3,a4⟩,b1,b2⟩:=kk jR;have e1:∀b,t.1.foldl Mm b=b++t.1.flatMap λx=>auL x.1:=λb=>Fy _ _ _ _ λx hx b=>by have:=Ca (nB _ _ b1 x hx);unfold Mm auL;rw[Cs _ this.1,aI]
 have e2:∀b,t.2.1.foldl MU b=b++t.2.1.flatMap FJ:=λb=>Fy _ _ _ _ λo ho b=>by have:=(lg _ _ b2 o ho).1;unfold MU FJ;rw[Cs _ this.1,aI]
 have e3:∀(l:List Sg) b,l.foldl aeo b=b++l.flatMap aEf:=λl b=>Fy _ _ _ _ λs _ b=>by unfold aeo aEf;rw[aI]
 have e4:∀b,t.1.foldl awG b=b++t.1.flatMap λx=>Fb x.2.1:=λb=>Fy _ _ _ _ λx hx b=>by have:=Ca (nB _ _ b1 x hx);unfold awG Fb;rw[e3,Cs _ this.2.2.1,Cs _ ak];simp only[aI]
 unfold awA vT aVm;rw[if_pos jR,e4,Cs _ a4,e2,Cs _ ak,e1,Cs _ ak,aY];simp only[aI]
theorem ai9{n:Nat}(a rest:List Int)(h:a.length=n):nK n (a++rest,aQ,())=(a,(rest,aQ,())):=by
 unfold nK;rw[if_neg (by
  intro x;rcases x with x | x
  ·cases x
  ·have x:(a++rest).length < n:=x;rw[ai]at x;omega)]
 show((a++rest).take n,((a++rest).drop n,aQ,()))=_;rw[lQ h,lP h]
theorem aAG(a rest:List Int)(h:a.length=32):JQ (a++rest,aQ,())=(a,(rest,aQ,())):=by unfold JQ;rw[ai9 a rest h];simp only[h];rw[show bZ 32 (ab 32 (0:Int))=[] from rfl,bm]
theorem FI(n:Int)(h:I5 n)(rest:List Int):dU (gZ n++rest,aQ,())=(n,(rest,aQ,())):=Kf n h rest _
theorem aFh(a rest:List Int)(h:a.length<=1000000000):I6 (gZ a.length++(a++rest),aQ,())=(a,(rest,aQ,())):=by unfold I6;rw[FI _ (vP ak)];simp only[bw,bA,aa];exact ai9 a rest rfl
theorem amM{n m:Int}(h:I5 n)(hm:n<=m)(rest:List Int):QM m (gZ n++rest,aQ,())=(n,(rest,aQ,())):=by unfold QM;rw[FI n h];simp only[if_neg (show ¬n > m by omega)]
theorem aqc:∀(l:List bJ) (rest:List Int),(∀o∈l,o.1.length=32/\I5 o.2.1)->MT l.length (l.flatMap auL++rest,aQ,())=(l,(rest,aQ,()))
 |[],rest,_=>rfl
 |o::l,rest,h=>by
  obtain⟨h1,h2⟩:=h o aK;have e:aP0 ((o::l).flatMap auL++rest,aQ,())=(o,(l.flatMap auL++rest,aQ,())):=by unfold aP0 auL;rw[dL,aI,aI,aAG _ _ h1];simp only[];rw[FI _ h2]
  rw[aB,MT,e,aqc l rest λx hx=>h x (aF _ hx)]
theorem aiv:∀(l:List iu) (rest:List Int),(∀o∈l,I5 o.1/\lK o.2.1=aZ/\afE o.2.1)->Iv l.length (l.flatMap FJ++rest,aQ,())=av (l,(rest,aQ,()))
 |[],rest,_=>rfl
 |o::l,rest,h=>by
  obtain⟨h1,h2,h3⟩:=h o aK;have hl:=Mq o.2.1;have e0:dU ((o::l).flatMap FJ++rest,aQ,())=(o.1,(gZ (PU o.2.1).length++(PU o.2.1++(l.flatMap FJ++rest)),aQ,())):=by rw[dL];unfold FJ;simp only[aI];exact FI _ h1 _
  have e1:I6 (dU ((o::l).flatMap FJ++rest,aQ,())).2=(PU o.2.1,(l.flatMap FJ++rest,aQ,())):=by rw[e0];exact aFh _ _ ak
  have e2:ada ((o::l).flatMap FJ++rest,aQ,())=(o,(l.flatMap FJ++rest,aQ,())):=by unfold ada;rw[e1,e0,aiI h3 h2]
  rw[aB,Iv,e1,aiI h3 h2,if_pos rfl,e2,aiv l rest λx hx=>h x (aF _ hx)]
theorem arp:∀(l:List Sg) (rest:List Int),(∀s∈l,oU s.1/\oU s.2.1)->HI l.length (l.flatMap aEf++rest,aQ,())=(l,(rest,aQ,()))
 |[],rest,_=>rfl
 |s::l,rest,h=>by
  obtain⟨h1,h2⟩:=h s aK;have e:aP5 ((s::l).flatMap aEf++rest,aQ,())=(s,(l.flatMap aEf++rest,aQ,())):=by unfold aP5 aEf;rw[dL,aI,aI,LJ _ h1];simp only[];rw[LJ _ h2]
  rw[aB,HI,e,arp l rest λx hx=>h x (aF _ hx)]
theorem aK7(w:YO)(rest:List Int)(hw:Z9 w)(hb:I5 w.1)(ah1:w.2.1.length<=12):awH (Fb w++rest,aQ,())=av (w,(rest,aQ,())):=by
 have e0:dU (Fb w++rest,aQ,())=(w.1,(gZ w.2.1.length++(w.2.1.flatMap aEf++(jV w.2.2.1++rest)),aQ,())):=by unfold Fb;simp only[aI];exact FI _ hb _
 have e1:QM 12 (dU (Fb w++rest,aQ,())).2=((w.2.1.length:Int),(w.2.1.flatMap aEf++(jV w.2.2.1++rest),aQ,())):=by rw[e0];exact amM (vP ak) ak _
 have e2:xx (Fb w++rest,aQ,())=(w.2.1,(jV w.2.2.1++rest,aQ,())):=by unfold xx;rw[e1];exact arp _ _ hw.1
 unfold awH;rw[e1,if_neg (by show ¬(w.2.1.length:Int) < 0;omega),e2,e0];simp only[];rw[LJ _ hw.2]
theorem aji:∀(l:List iF) (rest:List Int),(∀x∈l,Z9 x.2.1/\I5 x.2.1.1/\x.2.1.2.1.length<=12)->IS (l.map (·.1)) (l.flatMap (λx=>Fb x.2.1)++rest,aQ,())=av (l,(rest,aQ,()))
 |[],rest,_=>rfl
 |x::l,rest,h=>by obtain⟨h1,h2,h3⟩:=h x aK;rw[dL,aI,bY,IS,aK7 _ _ h1 h2 h3];simp only[];rw[aji l rest λy hy=>h y (aF _ hy)]
theorem avu{t:dR}(hv:ng t)(jR:iR t=aZ):adV (awA t)=(t,aZ):=by
 obtain⟨⟨a1,a2,a3,a4⟩,b1,b2⟩:=kk jR;have akR:∀x∈t.1,_:=λx hx=>Ca (nB _ _ b1 x hx)
 have aY5:=hv.2.2;rw[aKS jR];have e1:=amM (n:=(t.1.length:Int)) (m:=64) (vP ak) ak (t.1.flatMap (λx=>auL x.1)++(gZ t.2.1.length++(t.2.1.flatMap FJ++(gZ t.2.2.1++t.1.flatMap λx=>Fb x.2.1))));have ef:t.1.flatMap (λx=>auL x.1)=(t.1.map (·.1)).flatMap auL:=by rw[List.flatMap_map]
 have e2:=aqc (t.1.map (·.1)) (gZ t.2.1.length++(t.2.1.flatMap FJ++(gZ t.2.2.1++t.1.flatMap λx=>Fb x.2.1))) λo ho=>by obtain⟨x,hx,rfl⟩:=df.1 ho;exact⟨(hv.2.1 x hx).1.1,(akR x hx).1,by have:=(akR x hx).2.1;omega⟩
 rw[<-ef,cm]at e2;have e3:=amM (n:=(t.2.1.length:Int)) (m:=64) (vP ak) ak (t.2.1.flatMap FJ++(gZ t.2.2.1++t.1.flatMap λx=>Fb x.2.1));have e4:=aiv t.2.1 (gZ t.2.2.1++t.1.flatMap λx=>Fb x.2.1) λo ho=>by have:=lg _ _ b2 o ho;exact⟨⟨this.1.1,ak⟩,this.2,(hv.1.1 o ho).1⟩
 have e5:=FI t.2.2.1 ⟨a4,aY5⟩ (t.1.flatMap λx=>Fb x.2.1);have e6:=aji t.1 [] λx hx=>⟨(hv.2.1 x hx).2.1,⟨(akR x hx).2.2.1,by have:=(akR x hx).2.2.2.1;omega⟩,(akR x hx).2.2.2.2⟩
 rw[bm]at e6;unfold adV aVm;simp only[e1,aa,e2,e3,e4];unfold aIk;simp only[e5,e6];unfold aGA;rw[if_neg];rintro(x | x | x | x | x)
 ·omega
 ·omega
 ·cases x
 ·simp at x
 ·rw[show((t.1,t.2.1,t.2.2.1,()):dR)=t from rfl,jR]at x;cases x
def vb(r:iG):Prop:=sA r/\(r.2.1=aZ->r.1=[])
def Ov(r r':iG)(e:List Int):Prop:=vb r'/\(r'.2.1=aQ->r.2.1=aQ/\r.1=e++r'.1)
theorem Ov.trans{r r1 r2:iG}{e1 e2:List Int}(h1:Ov r r1 e1)(h2:Ov r1 r2 e2):Ov r r2 (e1++e2):=
 ⟨h2.1,λh=>⟨(h1.2 (h2.2 h).1).1,by rw[(h1.2 (h2.2 h).1).2,(h2.2 h).2,aI]⟩⟩
theorem Ov.of{r r':iG}{e e':List Int}(h:Ov r r' e)(he:r'.2.1=aQ->e=e'):Ov r r' e':=⟨h.1,λh'=>by rw[<-he h'];exact h.2 h'⟩
theorem Ov.refl{r:iG}(h:vb r):Ov r r []:=⟨h,λh'=>⟨h',rfl⟩⟩
theorem aMU:vb RV:=⟨akz,λ_=>rfl⟩
theorem aoP(r:iG)(e:List Int):Ov r RV e:=⟨aMU,λh=>by cases h⟩
theorem aOs{b:List Int}(hb:Bytes b)(hl:b.length<=1000000000):vb (b,aQ,()):=⟨avt hb hl (aQ,()),λh=>by cases h⟩
theorem aeL{r:iG}(h:vb r)(n:Nat):Ov r (nK n r).2 (nK n r).1/\((nK n r).2.2.1=aQ->(nK n r).1.length=n):=by
 have hb:=(Bd (n:=n) h.1).2.2
 revert hb
 unfold nK;split
 ·exact λ_=>⟨aoP _ _,λh=>by cases h⟩
 ·rename_i hc;intro hb;have h1:r.2.1=aQ:=by cases hr:r.2.1 with | false=>rfl | true=>exact absurd (mL hr) hc
  have h2:¬r.1.length < n:=λx=>hc (fN x)
  exact⟨⟨⟨hb,λ(hx:r.2.1=aZ)=>by rw[h1]at hx;cases hx⟩,λ_=>⟨h1,(dH n r.1).symm⟩⟩,λ_=>by show(r.1.take n).length=n;rw[bB];omega⟩
theorem ad9(f:Nat){d:Int}(h:d < 128):ix f d=([],d):=by
 cases f with
 |zero=>rfl
 |succ f=>rw[ix,if_neg ak]
theorem ap5:∀(l:List Int) (a:Nat) (n:Int) (v:Int×Nat),Bytes l->a<=9->Ck l a n= .inl v->
  ∃w rest,v.1=n+w*128^a/\0<=w/\(a=0\/0 < w)/\w < 128^(9 - a)/\l=(ix (8 - a) w).1++(ix (8 - a) w).2::rest/\v.2=a+(ix (8 - a) w).1.length+1
 |[],a,n,v,_,_,h=>by cases h
 |d::l,a,n,v,hb,ha,h=>by
  obtain⟨x1,x2⟩:=hb d aK;rw[Ck]at h;split at h
  ·cases h
  rename_i hc;have aXE:a<=8:=ak;have e9:(128:Int)^(9 - a)=128^(8 - a)*128:=by rw[show 9 - a=(8 - a)+1 by omega];exact gA 128 (8 - a)
  have p8:(0:Int) < 128^(8 - a):=Int.pow_pos fg;split at h
  ·rename_i hd;cases h;refine⟨d,l,by rw[fJ x1 hd],x1,ak,ak,?_,?_⟩
   ·rw[ad9 _ hd];rfl
   ·rw[ad9 _ hd];rfl
  ·rename_i hd;obtain⟨w,rest,e1,w0,w1,w2,e2,e3⟩:=ap5 l (a+1) _ v (λx hx=>hb x (aF _ hx)) ak h;have w1:0 < w:=ak;rw[show 9 - (a+1)=8 - a by omega]at w2;have aZN:a<=7:=by
    by_cases h8:a=8
    ·rw[h8]at w2;have:(128:Int)^(8 - 8)=1:=rfl;omega
    ·omega
   have er:ix (8 - a) (d%128+128*w)=((d%128+128)::(ix (8 - (a+1)) w).1,(ix (8 - (a+1)) w).2):=by rw[show 8 - a=(8 - (a+1))+1 by omega,ix,if_pos ak,show(d%128+128*w)%128=d%128 by omega,show(d%128+128*w) / 128=w by omega]
   refine⟨d%128+128*w,rest,?_,ak,ak,ak,?_,?_⟩
   ·rw[e1,gA,Int.add_mul,Int.add_assoc,qV 128 w,sy w,qV 128]
   ·rw[er,e2,show d%128+128=d by omega];rfl
   ·rw[er,e3];simp only[aB];omega
theorem tf{r:iG}(h:vb r):Ov r (dU r).2 (gZ (dU r).1)/\((dU r).2.2.1=aQ->I5 (dU r).1):=by
 have hk:=te h.1
 revert hk
 unfold dU;cases hf:Ck r.1 0 0 with
 |inr _=>exact λ_=>⟨aoP _ _,λh=>by cases h⟩
 |inl v=>
  intro hk;obtain⟨w,rest,e1,w0,_,w2,e2,e3⟩:=ap5 r.1 0 0 v h.1.2 fg hf;have h1:r.2.1=aQ:=by
   cases hr:r.2.1 with
   |false=>rfl
   |true=>rw[h.2 hr]at hf;cases hf
  have ew:v.1=w:=by rw[e1,lW];omega
  have e9:(128:Int)^(9 - 0)=9223372036854775808:=rfl;have e8:(128:Int)^(8+1)=9223372036854775808:=rfl;have e10:(128:Int)^(10+1)=151115727451828646838272:=rfl;have er:ix 10 w=ix 8 w:=My 10 8 w (by rw[e10];omega) (by rw[e8];omega);have en:gZ v.1=(ix 8 w).1++ [(ix 8 w).2]:=by rw[ew];unfold gZ;rw[er]
  refine⟨⟨⟨hk.2.2,λ(hx:r.2.1=aZ)=>by rw[h1]at hx;cases hx⟩,λ_=>⟨h1,?_⟩⟩,λ_=>⟨hk.1,hk.2.1⟩⟩;show r.1=gZ v.1++r.1.drop v.2;rw[en,e3,aI]
  conv=>rhs;rw[e2]
  rw[List.append_cons,aR,lP (by rw[ai];rfl)];exact e2
theorem aEN{l:List Int}(h:l.length=8)(hb:Bytes l):jV (P9 l)=l:=by
 match l,h with
 |[a,b,c,d,e,f,g,i],_=>
  have h0:=hb a (by simp);have h1:=hb b (by simp);have h2:=hb c (by simp);have h3:=hb d (by simp);have h4:=hb e (by simp);have h5:=hb f (by simp);have h6:=hb g (by simp);have h7:=hb i (by simp);unfold ajp at h0 h1 h2 h3 h4 h5 h6 h7;unfold jV P9;simp only[bz,de];congr 1
  ·omega
  congr 1
  ·omega
  congr 1
  ·omega
  congr 1
  ·omega
  congr 1
  ·omega
  congr 1
  ·omega
  congr 1
  ·omega
  congr 1;omega
theorem ME{r:iG}(h:vb r):Ov r (sY r).2 (jV (sY r).1):=by have e:=aeL h 8;exact e.1.of λhk=>(aEN (e.2 hk) (Bd h.1).2.1).symm
theorem ao6{r:iG}(h:vb r):Ov r (JQ r).2 (JQ r).1:=by
 have e:=aeL h 32;refine e.1.of λhk=> ?_
 unfold JQ;simp only[e.2 hk];rw[show bZ 32 (ab 32 (0:Int))=[] from rfl,bm]
theorem aG6{r:iG}(h:sA r):Sm (JQ r).1:=by
 have e:=Bd (n:=32) h;refine⟨?_,gY e.2.1 λx hx=> ?_⟩
 ·show((nK 32 r).1++bZ (nK 32 r).1.length (ab 32 (0:Int))).length=32;rw[ai,dG,cD];have:=e.1;omega
 ·obtain rfl:=(ot.1 (List.mem_of_mem_drop hx)).2;exact⟨fg,fg⟩
theorem ajN{r:iG}(h:vb r):Ov r (I6 r).2 (gZ (I6 r).1.length++(I6 r).1)/\Bytes (I6 r).1/\(I6 r).1.length<=1000000000:=by
 have e:=tf h;unfold I6;split
 ·rename_i hc;exact⟨⟨e.1.1,λhk=>by rw[hc]at hk;cases hk⟩,λx hx=>(by cases hx),aP _⟩
 ·rename_i hc;have hc:(dU r).2.2.1=aQ:=by simpa using hc
  have t:=aeL e.1.1 (dU r).1.toNat;have tb:=Bd (n:=(dU r).1.toNat) e.1.1.1;have n0:=(e.2 hc).1;refine⟨(e.1.trans t.1).of λhk=> ?_,tb.2.1,?_⟩
  ·rw[t.2 hk,Int.toNat_of_nonneg n0]
  ·have hl:(nK (dU r).1.toNat (dU r).2).1.length<=(dU r).2.1.length:=by
    unfold nK;split
    ·exact aP _
    ·show((dU r).2.1.take _).length<=_;rw[bB];omega
   have:=e.1.1.1.1;omega
theorem aSo{r:iG}(h:vb r){m:Int}(h0:0<=(QM m r).1):Ov r (QM m r).2 (gZ (QM m r).1)/\(QM m r).1<=m:=by
 have e:=tf h;unfold QM at h0 ⊢;by_cases hc:(dU r).1 > m
 ·simp only[if_pos hc]at h0;omega
 ·simp only[if_neg hc];exact⟨e.1,ak⟩
theorem ayF{r:iG}(h:vb r)(m:Int):vb (QM m r).2:=(tf h).1.1
theorem ayE{r:iG}(h:sA r){m:Int}(hm:0<=m): -1<=(QM m r).1/\(QM m r).1<=m:=by
 have:=(te h).1;unfold QM;split
 ·exact⟨ak,by show(-1:Int)<=m;omega⟩
 ·rename_i hc;have hc:¬(dU r).1 > m:=hc;exact⟨by show -1<=(dU r).1;omega,by show(dU r).1<=m;omega⟩
theorem aya:∀(k:Nat) {r:iG},vb r->Ov r (MT k r).2 ((MT k r).1.flatMap auL)/\(MT k r).1.length=k/\∀o∈(MT k r).1,Sm o.1
 | 0,r,h=>⟨Ov.refl h,rfl,λx hx=>by cases hx⟩
 |k+1,r,h=>by
  have e1:=ao6 h;have e2:=tf e1.1;have ih:=aya k (r:=(aP0 r).2) e2.1.1;refine⟨?_,by rw[MT,aB,ih.2.1],λo ho=> ?_⟩
  ·have:=(e1.trans e2.1).trans ih.1;rw[MT,dL];exact this
  ·rcases cv.1 ho with rfl | ho
   ·exact aG6 h.1
   ·exact ih.2.2 o ho
theorem aRS{r:iG}(h:vb r):vb (ada r).2:=(ajN (tf h).1.1).1.1
theorem aqf:∀(k:Nat) {r:iG} {x:List iu×iG},vb r->Iv k r=av x->Ov r x.2 (x.1.flatMap FJ)/\x.1.length=k/\∀o∈x.1,o.1<=9223372036854775807/\lK o.2.1=aZ/\aQb o.2.1
 | 0,r,x,h,hx=>by cases hx;exact⟨Ov.refl h,rfl,λx hx=>by cases hx⟩
 |k+1,r,x,h,hx=>by
  rw[Iv]at hx;split at hx
  ·rename_i hr;split at hx
   ·rename_i y hy;cases hx;have e1:=tf h;have e2:=ajN e1.1.1;have ih:=aqf k (aRS h) hy;obtain⟨l,hl,aLz,he,hle⟩:=aJn hr;have hu:=aym e2.2.1 e2.2.2;have el:(ada r).1.2.1=l:=by show(IA (I6 (dU r).2).1).1=l;rw[he]
    refine⟨?_,by rw[aB,ih.2.1],λo ho=> ?_⟩
    ·have:=(e1.1.trans e2.1).trans ih.1;rw[dL];unfold FJ;rw[el,aLz];exact this
    ·rcases cv.1 ho with rfl | ho
     ·refine⟨(te h.1).2.1,by rw[el];exact hl,?_⟩;rw[el,hle];exact⟨hu.1,by show(uP _).length<=_;omega⟩
     ·exact ih.2.2 o ho
   ·cases hx
  ·cases hx
theorem amj:∀(k:Nat) {r:iG},vb r->Ov r (HI k r).2 ((HI k r).1.flatMap aEf)/\(HI k r).1.length=k/\∀s∈(HI k r).1,aQc s
 | 0,r,h=>⟨Ov.refl h,rfl,λx hx=>by cases hx⟩
 |k+1,r,h=>by
  have e1:=ME h;have e2:=ME e1.1;have ih:=amj k (r:=(aP5 r).2) e2.1;refine⟨?_,by rw[HI,aB,ih.2.1],λo ho=> ?_⟩
  ·have:=(e1.trans e2).trans ih.1;rw[HI,dL];exact this
  ·rcases cv.1 ho with rfl | ho
   ·exact⟨(WD h.1).1,(WD e1.1.1).1⟩
   ·exact ih.2.2 o ho
theorem ayJ{r:iG}(h:vb r):vb (xx r).2/\(xx r).1.length<=12/\∀s∈(xx r).1,aQc s:=by have e1:=tf h;have ih:=amj (QM 12 (dU r).2).1.toNat (ayF e1.1.1 12);have:=ayE e1.1.1.1 (m:=12) fg;exact⟨ih.1.1,by show(HI _ _).1.length<=12;rw[ih.2.1];omega,ih.2.2⟩
theorem aPb{r:iG}{w:YO×iG}(h:vb r)(hw:awH r=av w):Ov r w.2 (Fb w.1)/\Z9 w.1/\w.1.2.1.length<=12:=by
 unfold awH at hw;split at hw
 ·cases hw
 ·rename_i hc;cases hw;have e1:=tf h;have hc:0<=(QM 12 (dU r).2).1:=ak;have e2:=aSo e1.1.1 hc;have e3:=amj (QM 12 (dU r).2).1.toNat e2.1.1;have g:=ayJ h;have e4:=ME g.1;have hl:((xx r).1.length:Int)=(QM 12 (dU r).2).1:=by show((HI _ _).1.length:Int)=_;rw[e3.2.1];omega
  have:=((e1.1.trans e2.1).trans e3.1).trans e4;refine⟨this.of λ_=> ?_,⟨g.2.2,(WD g.1.1).1⟩,g.2.1⟩;unfold Fb;simp only[hl,aI];rfl
theorem ar5:∀(l:List bJ) {r:iG} {x:List iF×iG},vb r->IS l r=av x->Ov r x.2 (x.1.flatMap λy=>Fb y.2.1)/\x.1.map (·.1)=l/\∀y∈x.1,Z9 y.2.1/\y.2.1.2.1.length<=12
 |[],r,x,h,hx=>by cases hx;exact⟨Ov.refl h,rfl,λx hx=>by cases hx⟩
 |o::l,r,x,h,hx=>by
  rw[IS]at hx;split at hx
  ·cases hx
  ·rename_i w hw;have e:=aPb h hw;split at hx
   ·cases hx
   ·rename_i y hy;cases hx;have ih:=ar5 l e.1.1 hy;refine⟨?_,by rw[bY,ih.2.1],λz hz=> ?_⟩
    ·have:=e.1.trans ih.1;rw[dL];exact this
    ·rcases cv.1 hz with rfl | hz
     ·exact e.2
     ·exact ih.2.2 z hz
def aLE(o:bJ):Eg:=(o,(0,aD,0,()),())
def aVd(x:iF):Eg:=(x.1,(x.2.1.1,av x.2.1.2.1,x.2.1.2.2),())
def aXd(x:Eg):iF:=(x.1,(x.2.1.1,x.2.1.2.1.getD [],x.2.1.2.2),())
theorem aQE(l:List Eg):aSF (.slice sU) (.slice gT) l=l.map aXd:=cr
theorem aSm(l:List iF):(l.map aVd).map aXd=l:=by rw[List.map_map];have:(aXd∘aVd)=id:=rfl;rw[this,List.map_id]
theorem aN3{t:Ty}{l:List t.den}{k:Nat}{y:t.den}(h:k < l.length):nth t (l.set k y) k=y:=by simp[nth,h]
theorem aN2{t:Ty}{a b:List t.den}{k:Nat}{y:t.den}(h:a.length=k):nth t (a++y::b) k=y:=by subst h;simp[nth]
theorem aOM{α:Type}{a b:List α}{k:Nat}{y z:α}(h:a.length=k):(a++y::b).set k z=a++z::b:=by subst h;simp
theorem aDh{α:Type}{l:List α}{k:Nat}{y:α}:(l.set k y).take k=l.take k:=by rw[List.take_set,List.set_eq_of_length_le (by rw[bB];omega)]
theorem aAg{α:Type}{l:List α}{k:Nat}{y:α}:(l.set k y).drop (k+1)=l.drop (k+1):=List.drop_set_of_lt ak
def aCB:iG->Prop:=λr=>sA r
def ayo:iG->(Bs×iG):=λr=>JQ r
def ad2:Fs Tryz.prog aCB bC ayo:=fw 122 Tryz.f122 (λo0=>([.ptr (.bt 0) 0 [] 0],[.obj 0 aQ (.d uZ o0)])) (λx=>⟨.d tH x.1,[.obj 0 aQ (.d uZ x.2)],[]⟩) [aD] [aee]
theorem aJw(o0)(k:K1 R):ad2.A o0 k=al (KX.call (32,o0)) λx1=>aL (decide ((ag x1.1)<=32)) (k (ad2.out ((x1.1++(bZ (ag x1.1) (ab 32 0))),x1.2))) aD:=cr
theorem aJx:ad2.Ok:=by intro r h;have h:sA r:=h;have e:=(Bd (n:=32) h).1;rw[aJw,Wf (d:=(32,r)) ⟨fg,h.1⟩];simp only[ah,bC,Z2];rw[show ae 32=32 from rfl,aM e];rfl
theorem aCC:ad2.RS:=rE [.d uZ] ad2
def aJy:=ad2.fC aJx
def avr:iG->Prop:=λr=>sA r
def adT:iG->(Bs×iG):=λr=>I6 r
def KQ:Fs Tryz.prog avr bC adT:=fw 124 Tryz.f124 (λo0=>([.ptr (.bt 0) 0 [] 0],[.obj 0 aQ (.d uZ o0)])) (λx=>⟨.d tB x.1,[.obj 0 aQ (.d uZ x.2)],[]⟩) [aD] [Z0,aee] {res:=[av tB],MN:=[⟨0,[.arr],uZ⟩]}
theorem aCu(o0)(k:K1 R):KQ.A o0 k=al (E1.call o0) λx1=>aL (x1.2.2.1) (k (KQ.out (([]:List Int),x1.2))) (al (KX.call (x1.1,x1.2)) λx2=>k (KQ.out (x2.1,x2.2))):=cr
theorem aCv:KQ.Ok:=by
 intro r h;have h:sA r:=h;have e:=te h;rw[aCu,qE (d:=r) h];simp only[ah,bC,xq,bC,adT,I6];cases hc:(dU r).2.2.1
 ·rw[ao,Wf (d:=((dU r).1,(dU r).2)) ⟨e.1,e.2.2.1⟩];rfl
 ·rfl
theorem avs:KQ.RS:=rE [.d uZ] KQ
def aCw:=KQ.fC aCv
def aDI:(Int×iG)->Prop:=λ(m,r)=>sA r
def T1:(Int×iG)->(Int×iG):=λ(m,r)=>QM m r
def OE:Fs Tryz.prog aDI bC T1:=fw 120 Tryz.f120 (λ(most,o1)=>([.d ti most,.ptr (.bt 0) 0 [] 0],[.obj 0 aQ (.ptr (.bt 1) 0 [] 0),.obj 0 aQ (.d uZ o1)])) (λx=>⟨.d ti x.1,[.obj 0 aQ (.ptr (.bt 1) 0 [] 0),.obj 0 aQ (.d uZ x.2)],[]⟩) [av ti,aD] [Z0]
theorem aKO(most o1)(k:K1 R):OE.A (most,o1) k=al (E1.call o1) λx1=>aL (pJ x1.1 most) (k (OE.out ((-1),x1.2))) (k (OE.out (x1.1,x1.2))):=cr
theorem aKP:OE.Ok:=by
 rintro⟨m,r⟩ h;have h:sA r:=h;rw[aKO,qE (d:=r) h];simp only[ah,bC,xq,bC,T1,QM];by_cases hc:(dU r).1 > m
 ·rw[dd hc,if_pos hc];rfl
 ·rw[cH hc,if_neg hc];rfl
theorem WB:OE.RS:=rE [.d ti,.d uZ] OE
def aKQ:=OE.fC aKP
abbrev QB:=Int×Int×Int×(Int×Unit)×Nat×(Int×Unit)×iG×(List Eg)
abbrev aeX:=Nat×iG×(List Eg)
def Be:QB->aeX->((Int×(Int×Unit)×(Int×Unit))×(Nat×iG×(List Eg))):=λ(n,t20,t21,n2,aNU,n4,n16,n32) y=>((n,n2,n4),y)
abbrev CI:=Int×Int×Int×Int×(Int×Unit)×Nat×Nat×(Int×Unit)×iG×(List Eg)×(List iu)
def qM:CI->AS:=λ(xT,m,t37,t38,lG,XW,NU,Ci,acE,XU,aPX)=>⟨([bH,bH,fx 2,bH,fx 4,fx 5,.fn 120 (.cons (fx 5) (.nil)),.d ti xT,.d ti m]++aS 28 ([.d ti t37,.d ti t38]++aS 93 [])),[],([[],[],ed (.pr (.dy) (.pr (.dy) (.d (.pair ti .unit) lG))),[],ed (.pr (pc 32 XW) (.pr (pc 58 NU) (.d (.pair ti .unit) Ci))),ed (fx 16)]++bS 10 ([ed (.d uZ acE)]++bS 15 ([ed (.vec 86 sU XU)]++bS 25 ([ed (.vec 79 gV aPX)]++bS 73 []))))⟩
def rY:(Int×Unit)->Exit×AS:=λx=>(.ret,⟨([bH,bH,fx 2,.d .bool aQ]++aS 128 []),[],([[],[],ed (.pr (.dy) (.pr (.dy) (.d (.pair ti .unit) x)))]++bS 129 [])⟩)
abbrev YC:=(Int×Int×(Int×Unit)×Nat×(Int×Unit)×(List Eg))×(Nat×iG×(List iu))
def Bg:YC->Exit×AS:=λ((a,b,c,e,f,g),h,i,j)=>(.exit 2,⟨([bH,bH,fx 2,bH,fx 4,fx 5,.fn 120 (.cons (fx 5) (.nil)),.d ti a,.d ti b]++aS 123 []),[],([[],[],ed (.pr (.dy) (.pr (.dy) (.d (.pair ti .unit) c))),[],ed (.pr (pc 32 e) (.pr (pc 58 h) (.d (.pair ti .unit) f))),ed (fx 16)]++bS 10 ([ed (.d uZ i)]++bS 15 ([ed (.vec 86 sU g)]++bS 25 ([ed (.vec 79 gV j)]++bS 73 []))))⟩)
abbrev QD:=((Int×Unit))⊕(YC)
abbrev aeZ:=((Int×Unit))⊕((Nat×iG×(List iu)))
def HT:QD->Out (Exit×AS):=λx=> .br x.isLeft (.get x.getLeft? λa=> .ok (rY a)) (.get x.getRight? λb=> .ok (Bg b))
def mG:CI->aeZ->QD:=λ(xT,m,t37,t38,lG,XW,NU,Ci,acE,XU,aPX) y=>match y with | .inl y=> .inl y | .inr z=> .inr (((xT,m,lG,XW,Ci,XU),z))
abbrev CJ:=Int×Int×Int×Int×(Int×Unit)×Nat×Nat×(Int×Unit)×iG×(List Eg)×(List iu)
def qO:CJ->AS:=λ(aRJ,ax0,t66,t67,uj,XX,acO,SM,acF,gH,acS)=>⟨([bH,bH,fx 2,bH,fx 4,fx 5,.fn 120 (.cons (fx 5) (.nil)),.d ti aRJ,.d ti ax0]++aS 57 ([.d ti t66,.d ti t67]++aS 64 [])),[],([[],[],ed (.pr (.dy) (.pr (.dy) (.d (.pair ti .unit) uj))),[],ed (.pr (pc 32 XX) (.pr (pc 58 acO) (.d (.pair ti .unit) SM))),ed (fx 16)]++bS 10 ([ed (.d uZ acF)]++bS 15 ([ed (.vec 86 sU gH)]++bS 25 ([ed (.vec 79 gV acS)]++bS 73 []))))⟩
def rZ:(Int×Unit)->Exit×AS:=λx=>(.ret,⟨([bH,bH,fx 2,.d .bool aQ]++aS 128 []),[],([[],[],ed (.pr (.dy) (.pr (.dy) (.d (.pair ti .unit) x)))]++bS 129 [])⟩)
abbrev YE:=Int×Int×(Int×Unit)×Nat×Nat×(Int×Unit)×iG×(List Eg)×(List iu)
def Bi:YE->Exit×AS:=λ(a,b,c,e,f,g,h,i,j)=>(.exit 4,⟨([bH,bH,fx 2,bH,fx 4,fx 5,bH,.d ti a,.d ti b]++aS 123 []),[],([[],[],ed (.pr (.dy) (.pr (.dy) (.d (.pair ti .unit) c))),[],ed (.pr (pc 32 e) (.pr (pc 58 f) (.d (.pair ti .unit) g))),ed (fx 16)]++bS 10 ([ed (.d uZ h)]++bS 15 ([ed (.vec 86 sU i)]++bS 25 ([ed (.vec 79 gV j)]++bS 73 []))))⟩)
abbrev QF:=((Int×Unit))⊕(YE)
abbrev ae1:=((Int×Unit))⊕((Int×Int×(Int×Unit)×Nat×Nat×(Int×Unit)×iG×(List Eg)×(List iu)))
def HU:QF->Out (Exit×AS):=λx=> .br x.isLeft (.get x.getLeft? λa=> .ok (rZ a)) (.get x.getRight? λb=> .ok (Bi b))
def mH:CJ->ae1->QF:=λ(aRJ,ax0,t66,t67,uj,XX,acO,SM,acF,gH,acS) y=>match y with | .inl y=> .inl y | .inr z=> .inr (z)
abbrev QG:=Int×Int×Int×Int×Int×Int×(Int×Unit)×Nat×Nat×(Int×Unit)×iG×(List Eg)×bJ×Int×Nat×(Int×Unit)×(List Eg)×(List iu)×(List Sg)
abbrev ae2:=iG×(List Eg)×(List Sg)
def Bj:QG->ae2->((Int×Int×Int×Int×(Int×Unit)×Nat×Nat×(Int×Unit)×(List iu))×(iG×(List Eg)×(List Sg))):=λ(aRK,aRC,aeJ,Ge,t85,t86,P4,acP,acQ,auB,ail,ain,aio,aip,af6,aiq,acN,acT,n99) y=>((aRK,aRC,aeJ,Ge,P4,acP,acQ,auB,acT),y)
def amA:QB->Prop:=λ(n,m,i,u,L,v,r,l)=>vb r/\m<=64/\∃k:Nat,i=k/\k<=64/\L=l.length/\l.length=k
def HS:QB->aeX:=λ(n,m,i,u,L,v,r,l)=>(L+(m - i).toNat,(MT (m - i).toNat r).2,l++(MT (m - i).toNat r).1.map aLE)
def Bf:CI->Prop:=λ(n,m1,m,i,u,L,L2,v,r,l,os)=>vb r/\m<=64/\∃k:Nat,i=k/\k<=64/\L2=os.length/\os.length=k
def qL:CI->aeZ:=λ(n,m1,m,i,u,L,L2,v,r,l,os)=>match Iv (m - i).toNat r with | none=> .inl (0,()) | some x=> .inr (L2+x.1.length,x.2,os++x.1)
def amE:QG->Prop:=λ(n,m1,mo,io,m,i,u,L,L2,v,r,la,op,br,Ls,sc,lb,os,sg)=>vb r/\m<=12/\∃k:Nat,i=k/\k<=12/\Ls=sg.length/\sg.length=k
def HV:QG->ae2:=λ(n,m1,mo,io,m,i,u,L,L2,v,r,la,op,br,Ls,sc,lb,os,sg)=>((HI (m - i).toNat r).2,la++(op,(br,av (sg++(HI (m - i).toNat r).1),sc),())::lb,sg++(HI (m - i).toNat r).1)
def Bh:CJ->Prop:=λ(n,m1,m,i,u,L,L2,v,r,l,os)=>vb r/\l.length<=64/\∃k:Nat,i=k/\k<=l.length/\m=l.length/\L=l.length/\∀x∈l.drop k,x=aLE x.1
def qN:CJ->ae1:=λ(n,m1,m,i,u,L,L2,v,r,l,os)=>match IS ((l.drop i.toNat).map (·.1)) r with | none=> .inl (0,()) | some x=> .inr (n,m1,u,L,L2,v,x.2,l.take i.toNat++x.1.map aVd,os)
def aDp:Bs->Prop:=λb=>Bytes b/\b.length<=1000000000
def amz:Bs->(dR×Bool):=λb=>adV b
def wa:Ls amA Be HS:=sH (λ(n,t20,t21,n2,aNU,n4,n16,n32)=>⟨([bH,bH,fx 2,bH,fx 4,fx 5,.fn 120 (.cons (fx 5) (.nil)),.d ti n]++aS 12 ([.d ti t20,.d ti t21]++aS 110 [])),[],([[],[],ed (.pr (.dy) (.pr (.dy) (.d (.pair ti .unit) n2))),[],ed (.pr (pc 32 aNU) (.pr (.dy) (.d (.pair ti .unit) n4))),ed (fx 16)]++bS 10 ([ed (.d uZ n16)]++bS 15 ([ed (.vec 86 sU n32)]++bS 99 [])))⟩) (λx=>(.exit 0,⟨([bH,bH,fx 2,bH,fx 4,fx 5,.fn 120 (.cons (fx 5) (.nil)),.d ti x.1.1]++aS 124 []),[],([[],[],ed (.pr (.dy) (.pr (.dy) (.d (.pair ti .unit) x.1.2.1))),[],ed (.pr (pc 32 x.2.1) (.pr (.dy) (.d (.pair ti .unit) x.1.2.2))),ed (fx 16)]++bS 10 ([ed (.d uZ x.2.2.1)]++bS 15 ([ed (.vec 86 sU x.2.2.2)]++bS 99 [])))⟩))
def aeY:=dI.fI qM Bf mG qL HT
def Ow:CI->Option QD:=gO aeY qM
def ae0:=dI.fI qO Bh mH qN HU
def Oy:CJ->Option QF:=gO ae0 qO
def wb:Ls amE Bj HV:=sH (λ(aRK,aRC,aeJ,Ge,t85,t86,P4,acP,acQ,auB,ail,ain,aio,aip,af6,aiq,acN,acT,n99)=>⟨([bH,bH,fx 2,bH,fx 4,fx 5,.fn 120 (.cons (fx 5) (.nil)),.d ti aRK,.d ti aRC]++aS 4 ([.ptr (.new 32 0) 0 [.snd,.fst,.snd,.fst] ((0+((ae Ge)*36))+33)]++aS 52 ([.d ti aeJ,.d ti Ge]++aS 17 ([.d ti t85,.d ti t86]++aS 45 [])))),[],([[],[],ed (.pr (.dy) (.pr (.dy) (.d (.pair ti .unit) P4))),[],ed (.pr (pc 32 acP) (.pr (pc 58 acQ) (.d (.pair ti .unit) auB))),ed (fx 16)]++bS 10 ([ed (.d uZ ail)]++bS 15 ([ed (.bx 86 36 (.pr (.d (.arr (0+(ae Ge)) sU) ain) (.pr (.pr (.d bh aio) (.pr (.pr (.d ti aip) (.pr (pc 99 af6) (.d (.pair tu .unit) aiq))) gg)) (.d (.arr (ag acN) sU) acN))))]++bS 25 ([ed (.vec 79 gV acT)]++bS 40 ([ed (.vec 143 BB n99)]++bS 32 [])))))⟩) (λx=>(.exit 6,⟨([bH,bH,fx 2,bH,fx 4,fx 5,.fn 120 (.cons (fx 5) (.nil)),.d ti x.1.1,.d ti x.1.2.1]++aS 4 ([.ptr (.new 32 0) 0 [.idx (0+(ae x.1.2.2.2.1)),.snd,.fst] ((0+((ae x.1.2.2.2.1)*36))+33)]++aS 52 ([.d ti x.1.2.2.1,.d ti x.1.2.2.2.1]++aS 64 []))),[],([[],[],ed (.pr (.dy) (.pr (.dy) (.d (.pair ti .unit) x.1.2.2.2.2.1))),[],ed (.pr (pc 32 x.1.2.2.2.2.2.1) (.pr (pc 58 x.1.2.2.2.2.2.2.1) (.d (.pair ti .unit) x.1.2.2.2.2.2.2.2.1))),ed (fx 16)]++bS 10 ([ed (.d uZ x.2.1)]++bS 15 ([ed (.vec 86 sU x.2.2.1)]++bS 25 ([ed (.vec 79 gV x.1.2.2.2.2.2.2.2.2)]++bS 40 ([[.obj 0 aZ (.vec 143 BB x.2.2.2)]]++bS 32 [])))))⟩))
def lI:Fs Tryz.prog aDp bC amz:=fw 73 Tryz.f73 (λb=>([.d tB b],[])) (λx=>⟨.cons (.d fa x.1) (.cons (.d .bool x.2) (.nil)),[],[]⟩) [av tB] [aq1,aKQ,aJy,Z0,aCw,aId,ayt,aOz,aJB,uV] {bT:=[100031,100032],loops:=oJ [(6,{ba:=[2,4,5,6,7,20,21],sites:=[2,4,5,16,32],owns:=[⟨4,[.fst],32,100053⟩]}),(11,{ba:=[2,4,5,6,7,8,37,38],sites:=[2,4,5,16,32,58],owns:=[⟨4,[.snd,.fst],58,22⟩]}),(21,{ba:=[2,4,5,6,7,8,66,67],sites:=[2,4,5,16,32,58]}),(29,{ba:=[2,4,5,6,7,8,13,66,67,85,86],sites:=[2,4,5,16,32,58,99],owns:=[⟨13,[.snd,.fst],99,82⟩],aXz:=[13]})],outs:=oI [(6,{ba:=[2,4,5,6,7],sites:=[2,4,5,16,32]},{ba:=[2,3]}),(11,{ba:=[2,4,5,6,7,8],sites:=[2,4,5,16,32,58]},{ba:=[2,3],sites:=[2]}),(21,{ba:=[2,4,5,7,8],sites:=[2,4,5,16,32,58]},{ba:=[2,3],sites:=[2]}),(29,{ba:=[2,4,5,6,7,8,13,66,67],sites:=[2,4,5,16,32,58,99],aYg:=[13]},{ba:=[2,3]})],gf:=nQ [(6,wa.E),(11,aeY),(21,ae0),(29,wb.E)],res:=[av fa,aD]}
def QC:= @eG Tryz.prog (jQ lI.G) lI.an 0 Tryz.f73 1 _ qM
abbrev YB:=j7 Tryz.prog (jQ lI.G) lI.an 0 Tryz.f73 1 qM Bf mG qL HT
def QE:= @eG Tryz.prog (jQ lI.G) lI.an 0 Tryz.f73 2 _ qO
abbrev YD:=j7 Tryz.prog (jQ lI.G) lI.an 0 Tryz.f73 2 qO Bh mH qN HU
theorem amB:wa.RS:=rL [.d ti,.d ti,.d ti,.d (.pair ti .unit),.n,.d (.pair ti .unit),.d uZ,.d (.slice sU)] wa
theorem Ou(n t20 t21 n2 aNU n4 n16 n32)(kn:K2 R)(kx:K3 R):lI.R 0 wa (n,t20,t21,n2,aNU,n4,n16,n32) kn kx=aL (gz t21 t20) (al (ad2.call n16) λx7=>al (E1.call x7.2) λx8=>aL (decide (aNU<=(ag n32))) (aL (dw (aNU+1) 80) (kn (wa.st (n,t20,(bO .i64 t21 1),n2,(aNU+1),n4,x8.2,((aW aNU n32)++ [((x7.1,(x8.1,())),((0,(aD,(0,()))),()))])))) aD) aD) (wa.go kx ((n,n2,n4),(aNU,n16,n32))):=cr
theorem amC:jh Ow Bf mG qL:=lH (jx [.d ti,.d ti,.d ti,.d ti,.d (.pair ti .unit),.n,.n,.d (.pair ti .unit),.d uZ,.d (.slice sU),.d (.slice gV)] λ_=>cr)
theorem TV:mK @QC qM Bf mG qL HT YB:=nc
theorem Ox(xT m t37 t38 lG XW NU Ci acE XU aPX)(kn:K2 R)(kx:K3 R):QC (xT,m,t37,t38,lG,XW,NU,Ci,acE,XU,aPX) kn kx=aL (gz t38 t37) (al (E1.call acE) λMH=>al (KQ.call MH.2) λaYi=>al (Cf.call aYi.1) λUz=>aL (!Uz.2) (kx (rY ((0:Int),())).1 (rY ((0:Int),())).2) (aL (decide (NU<=(ag aPX))) (aL (dw (NU+1) 32) (kn (qM (xT,m,t37,(bO .i64 t38 (1:Int)),lG,XW,(NU+1),Ci,aYi.2,XU,((aW NU aPX)++ [(MH.1,(Uz.1,()))])))) aD) aD)) (kx (Bg ((xT,m,lG,XW,Ci,XU),(NU,acE,aPX))).1 (Bg ((xT,m,lG,XW,Ci,XU),(NU,acE,aPX))).2):=cr
theorem amD:jh Oy Bh mH qN:=lH (jx [.d ti,.d ti,.d ti,.d ti,.d (.pair ti .unit),.n,.n,.d (.pair ti .unit),.d uZ,.d (.slice sU),.d (.slice gV)] λ_=>cr)
theorem TX:mK @QE qO Bh mH qN HU YD:=nc
theorem Oz(aRJ ax0 t66 t67 uj XX acO SM acF gH acS)(kn:K2 R)(kx:K3 R):QE (aRJ,ax0,t66,t67,uj,XX,acO,SM,acF,gH,acS) kn kx=aL (gz t67 t66) (aL (eL t67 ((XX:Nat):Int)) (al (E1.call acF) λMH=>aL (decide ((0+(ae t67)) < (ag gH))) (aL (decide ((((0+(ae t67))*36)+33)=(((0+((ae t67)*36))+33)+0))) (aL (decide ((0+(ae t67)) < (ag gH))) (al (OE.call ((12:Int),MH.2)) λwG=>aL (gz wG.1 (0:Int)) (kx (rZ ((0:Int),())).1 (rZ ((0:Int),())).2) (aL (decide ((0+(ae t67)) < (ag (gN gH (0+(ae t67)) ((nth sU gH (0+(ae t67))).1,((MH.1,(nth sU gH (0+(ae t67))).2.1.2),(nth sU gH (0+(ae t67))).2.2)))))) (aL (Option.isNone (nth sU (gN gH (0+(ae t67)) ((nth sU gH (0+(ae t67))).1,((MH.1,(nth sU gH (0+(ae t67))).2.1.2),(nth sU gH (0+(ae t67))).2.2))) (0+(ae t67))).2.1.2.1) (al (wb.call (aRJ,ax0,t66,t67,wG.1,(0:Int),uj,XX,acO,SM,wG.2,(aW (0+(ae t67)) (gN gH (0+(ae t67)) ((nth sU gH (0+(ae t67))).1,((MH.1,(nth sU gH (0+(ae t67))).2.1.2),(nth sU gH (0+(ae t67))).2.2)))),((nth sU (gN gH (0+(ae t67)) ((nth sU gH (0+(ae t67))).1,((MH.1,(nth sU gH (0+(ae t67))).2.1.2),(nth sU gH (0+(ae t67))).2.2))) (0+(ae t67))).1.1,((nth sU (gN gH (0+(ae t67)) ((nth sU gH (0+(ae t67))).1,((MH.1,(nth sU gH (0+(ae t67))).2.1.2),(nth sU gH (0+(ae t67))).2.2))) (0+(ae t67))).1.2.1,(nth sU (gN gH (0+(ae t67)) ((nth sU gH (0+(ae t67))).1,((MH.1,(nth sU gH (0+(ae t67))).2.1.2),(nth sU gH (0+(ae t67))).2.2))) (0+(ae t67))).1.2.2)),(nth sU (gN gH (0+(ae t67)) ((nth sU gH (0+(ae t67))).1,((MH.1,(nth sU gH (0+(ae t67))).2.1.2),(nth sU gH (0+(ae t67))).2.2))) (0+(ae t67))).2.1.1,0,((nth sU (gN gH (0+(ae t67)) ((nth sU gH (0+(ae t67))).1,((MH.1,(nth sU gH (0+(ae t67))).2.1.2),(nth sU gH (0+(ae t67))).2.2))) (0+(ae t67))).2.1.2.2.1,(nth sU (gN gH (0+(ae t67)) ((nth sU gH (0+(ae t67))).1,((MH.1,(nth sU gH (0+(ae t67))).2.1.2),(nth sU gH (0+(ae t67))).2.2))) (0+(ae t67))).2.1.2.2.2),(bZ ((0+(ae t67))+1) (gN gH (0+(ae t67)) ((nth sU gH (0+(ae t67))).1,((MH.1,(nth sU gH (0+(ae t67))).2.1.2),(nth sU gH (0+(ae t67))).2.2)))),acS,([]:List Sg))) λJf=>al (Tv.call Jf.2.1) λUz=>aL (decide ((0+(ae Jf.1.2.2.2.1)) < (ag Jf.2.2.1))) (aL (decide ((((0+(ae Jf.1.2.2.2.1))*36)+35)=(((0+((ae Jf.1.2.2.2.1)*36))+33)+2))) (aL (decide ((0+(ae Jf.1.2.2.2.1)) < (ag Jf.2.2.1))) (kn (qO (Jf.1.1,Jf.1.2.1,Jf.1.2.2.1,(bO .i64 Jf.1.2.2.2.1 (1:Int)),Jf.1.2.2.2.2.1,Jf.1.2.2.2.2.2.1,Jf.1.2.2.2.2.2.2.1,Jf.1.2.2.2.2.2.2.2.1,Uz.2,(gN Jf.2.2.1 (0+(ae Jf.1.2.2.2.1)) ((nth sU Jf.2.2.1 (0+(ae Jf.1.2.2.2.1))).1,(((nth sU Jf.2.2.1 (0+(ae Jf.1.2.2.2.1))).2.1.1,((nth sU Jf.2.2.1 (0+(ae Jf.1.2.2.2.1))).2.1.2.1,(Uz.1,(nth sU Jf.2.2.1 (0+(ae Jf.1.2.2.2.1))).2.1.2.2.2))),(nth sU Jf.2.2.1 (0+(ae Jf.1.2.2.2.1))).2.2))),Jf.1.2.2.2.2.2.2.2.2))) aD) aD) aD) aD) aD)) aD) aD) aD) aD) (kx (Bi (aRJ,ax0,uj,XX,acO,SM,acF,gH,acS)).1 (Bi (aRJ,ax0,uj,XX,acO,SM,acF,gH,acS)).2):=cr
theorem amF:wb.RS:=rL [.d ti,.d ti,.d ti,.d ti,.d ti,.d ti,.d (.pair ti .unit),.n,.n,.d (.pair ti .unit),.d uZ,.d (.slice sU),.d bh,.d ti,.n,.d (.pair tu .unit),.d (.slice sU),.d (.slice gV),.d (.slice BB)] wb
theorem OA(aRK aRC aeJ Ge t85 t86 P4 acP acQ auB ail ain aio aip af6 aiq acN acT n99)(kn:K2 R)(kx:K3 R):lI.R 3 wb (aRK,aRC,aeJ,Ge,t85,t86,P4,acP,acQ,auB,ail,ain,aio,aip,af6,aiq,acN,acT,n99) kn kx=aL (gz t86 t85) (aL (decide ((((0+(ae Ge))*36)+34)=(((0+((ae Ge)*36))+33)+1))) (al (Tv.call ail) λx7=>al (Tv.call x7.2) λx8=>aL (decide (af6<=(ag n99))) (aL (dw (af6+1) 16) (aL (decide ((((0+(ae Ge))*36)+34)=(((0+((ae Ge)*36))+33)+1))) (kn (wb.st (aRK,aRC,aeJ,Ge,t85,(bO .i64 t86 1),P4,acP,acQ,auB,x8.2,ain,aio,aip,(af6+1),aiq,acN,acT,((aW af6 n99)++ [(x7.1,(x8.1,()))])))) aD) aD) aD) aD) (aL (decide (0=0/\(0+af6)<=(ag n99))) (wb.go kx ((aRK,aRC,aeJ,Ge,P4,acP,acQ,auB,acT),(ail,(ain++(aio,((aip,((av (cut n99 0 af6)),aiq)),()))::acN),n99))) aD):=cr
theorem aKD(b)(k:K1 R):lI.A b k=al (Yk.call b) λx4=>al (OE.call (64,x4)) λx8=>al (wa.call (x8.1,x8.1,0,(0,()),0,(0,()),x8.2,([]:List Eg))) λafz=>al (OE.call (64,afz.2.2.1)) λajn=>al (Ow (afz.1.1,ajn.1,ajn.1,0,afz.1.2.1,afz.2.1,0,afz.1.2.2,ajn.2,afz.2.2.2,([]:List iu))) λaP8=>aL aP8.isLeft (al aP8.getLeft? λa83=>k (lI.out ((([]:List iF),(([]:List iu),a83)),aQ))) (al aP8.getRight? λb84=>al (E1.call b84.2.2.1) λaYk=>al (Oy (b84.1.1,b84.1.2.1,((b84.1.2.2.2.1:Nat):Int),0,b84.1.2.2.1,b84.1.2.2.2.1,b84.2.1,(aYk.1,b84.1.2.2.2.2.1.2),aYk.2,b84.1.2.2.2.2.2,b84.2.2.2)) λag6=>aL ag6.isLeft (al ag6.getLeft? λa125=>k (lI.out ((([]:List iF),(([]:List iu),a125)),aQ))) (al ag6.getRight? λb126=>aL (gz b126.1 0) (k (lI.out ((([]:List iF),(([]:List iu),(0,()))),aQ))) (aL (gz b126.2.1 0) (k (lI.out ((([]:List iF),(([]:List iu),(0,()))),aQ))) (al (avB.call b126.2.2.2.2.2.2.1) λaPk=>aL (!aPk.2) (k (lI.out ((([]:List iF),(([]:List iu),(0,()))),aQ))) (al (ad3.call aPk.1) λpg=>aL (pJ pg.2 0) (k (lI.out ((([]:List iF),(([]:List iu),(0,()))),aQ))) (aL (decide (0=0/\(0+b126.2.2.2.1)<=(ag b126.2.2.2.2.2.2.2.1))) (aL (decide (0=0/\(0+b126.2.2.2.2.1)<=(ag b126.2.2.2.2.2.2.2.2))) (al (jt.call ((aSF (.slice sU) (.slice gT) (cut b126.2.2.2.2.2.2.2.1 0 b126.2.2.2.1)),((cut b126.2.2.2.2.2.2.2.2 0 b126.2.2.2.2.1),b126.2.2.2.2.2.1))) λaXg=>aL (!aXg) (k (lI.out ((([]:List iF),(([]:List iu),(0,()))),aQ))) (aL (decide (0=0/\(0+b126.2.2.2.1)<=(ag b126.2.2.2.2.2.2.2.1))) (aL (decide (0=0/\(0+b126.2.2.2.2.1)<=(ag b126.2.2.2.2.2.2.2.2))) (k (lI.out (((aSF (.slice sU) (.slice gT) (cut b126.2.2.2.2.2.2.2.1 0 b126.2.2.2.1)),((cut b126.2.2.2.2.2.2.2.2 0 b126.2.2.2.2.1),b126.2.2.2.2.2.1)),aZ))) aD) aD)) aD) aD)))))):=cr
theorem arR:(lI.lF 0 wa):=by
 refine(lI.mY 0 wa) (λ(n,m,i,u,L,v,r,l)=>(m - i).toNat) ?_
 rintro⟨n,m,i,u,L,v,r,l⟩ ⟨hr,hm,k,rfl,hk,rfl,am2⟩;have hr:vb r:=hr;have hm:m<=64:=hm;have am2:l.length=k:=am2;by_cases h:(k:Int) < m
 ·left;have e1:(m - (k:Int)).toNat=(m - ((k+1:Nat):Int)).toNat+1:=ak;have h1:=ao6 hr;refine⟨(n,m,((k+1:Nat):Int),u,l.length+1,v,(aP0 r).2,l++ [aLE (aP0 r).1]),⟨(tf h1.1).1.1,hm,k+1,rfl,ak,by rw[ai];rfl,by rw[ai];show l.length+1=_;omega⟩,by show(m - ((k+1:Nat):Int)).toNat < (m - (k:Int)).toNat;omega,?_,λkn kx=> ?_⟩
  ·simp only[Be,HS,e1,MT,bY,aI,dv];rw[show ∀a c:Nat,a+1+c=a+(c+1) from λa c=>ak]
  ·rw[Ou,aX h,aCC (d:=r) hr.1];simp only[aj,ah,bC,ayo];rw[qE (d:=(JQ r).2) h1.1.1];simp only[ah,bC,xq];rw[aM (ay _),dC ak ak,N.mZ ak,bQ];rfl
 ·right;intro R kn kx;have e1:(m - (k:Int)).toNat=0:=ak;rw[Ou,aU h,ao];simp only[Be,HS,e1,MT,iY,bm,cK]
theorem arS:YB:=by
 refine TV (λ(n,m1,m,i,u,L,L2,v,r,l,os)=>(m - i).toNat) ?_
 rintro⟨n,m1,m,i,u,L,L2,v,r,l,os⟩ ⟨hr,hm,k,rfl,hk,rfl,am2⟩;have hr:vb r:=hr;have hm:m<=64:=hm;have am2:os.length=k:=am2;by_cases h:(k:Int) < m
 ·have e1:(m - (k:Int)).toNat=(m - ((k+1:Nat):Int)).toNat+1:=ak;have h1:=tf hr;have h2:=ajN h1.1.1;have step:∀ {R:Type} (kn:AS->Option R) (kx:Exit->AS->Option R),QC (n,m1,m,(k:Int),u,L,os.length,v,r,l,os) kn kx=aL (!(IA (I6 (dU r).2).1).2) (kx (rY (0,())).1 (rY (0,())).2) (kn (qM (n,m1,m,((k+1:Nat):Int),u,L,os.length+1,v,(ada r).2,l,os++ [(ada r).1]))):=by intro R kn kx;rw[Ox,aX h,qE (d:=r) hr.1];simp only[aj,ah,bC,xq];rw[avs (d:=(dU r).2) h1.1.1.1];simp only[ah,bC,adT];rw[aBh (d:=(I6 (dU r).2).1) ⟨h2.2.1,h2.2.2⟩];simp only[ah,bC,alg];rw[aM (ay _),dC ak ak,N.mZ ak,bQ];rfl
  cases hp:(IA (I6 (dU r).2).1).2
  ·right;refine⟨rY (0,()),?_,λkn kx=> ?_⟩
   ·simp only[mG,qL,e1,Iv,hp,bw,bA];rfl
   ·rw[step,hp];rfl
  ·left;refine⟨(n,m1,m,((k+1:Nat):Int),u,L,os.length+1,v,(ada r).2,l,os++ [(ada r).1]),⟨h2.1.1,hm,k+1,rfl,ak,by rw[ai];rfl,by rw[ai];show os.length+1=_;omega⟩,by show(m - ((k+1:Nat):Int)).toNat < (m - (k:Int)).toNat;omega,?_,λkn kx=> ?_⟩
   ·simp only[mG,qL,e1,Iv,hp,bM];cases Iv (m - ((k+1:Nat):Int)).toNat (ada r).2 with
    |none=>rfl
    |some x=>
     simp only[aB,aI,dv];rw[show ∀a c:Nat,a+1+c=a+(c+1) from λa c=>ak]
   ·rw[step,hp];rfl
 ·right;have e1:(m - (k:Int)).toNat=0:=ak;refine⟨Bg ((n,m1,u,L,v,l),(os.length,r,os)),?_,λkn kx=> ?_⟩
  ·simp only[mG,qL,e1,Iv,bl,cK,bm];rfl
  ·rw[Ox,aU h,ao]
theorem arU:(lI.lF 3 wb):=by
 refine(lI.mY 3 wb) (λ(n,m1,mo,io,m,i,u,L,L2,v,r,la,op,br,Ls,sc,lb,os,sg)=>(m - i).toNat) ?_
 rintro⟨n,m1,mo,io,m,i,u,L,L2,v,r,la,op,br,Ls,sc,lb,os,sg⟩ ⟨hr,hm,k,rfl,hk,rfl,am2⟩;have hr:vb r:=hr;have hm:m<=12:=hm;have am2:sg.length=k:=am2;by_cases h:(k:Int) < m
 ·left;have e1:(m - (k:Int)).toNat=(m - ((k+1:Nat):Int)).toNat+1:=ak;have h1:=ME hr;have h2:=ME h1.1;refine⟨(n,m1,mo,io,m,((k+1:Nat):Int),u,L,L2,v,(aP5 r).2,la,op,br,sg.length+1,sc,lb,os,sg++ [(aP5 r).1]),⟨h2.1,hm,k+1,rfl,ak,by rw[ai];rfl,by rw[ai];show sg.length+1=_;omega⟩,by show(m - ((k+1:Nat):Int)).toNat < (m - (k:Int)).toNat;omega,?_,λkn kx=> ?_⟩
  ·simp only[Bj,HV,e1,HI,aI,dv]
  ·rw[OA,aX h,aM ak,KY (d:=r) hr.1];simp only[aj,ah,bC,Wg];rw[KY (d:=(sY r).2) h1.1.1];simp only[ah,bC,Wg];rw[aM (ay _),dC ak ak,N.mZ ak,bQ];rfl
 ·right;intro R kn kx;have e1:(m - (k:Int)).toNat=0:=ak;rw[OA,aU h,ao];simp only[Bj,HV,e1,HI,bm,aR,ay,jO,cO,aj,fB]
theorem arT:YD:=by
 refine TX (λ(n,m1,m,i,u,L,L2,v,r,l,os)=>l.length - i.toNat) ?_
 rintro⟨n,m1,m,i,u,L,L2,v,r,l,os⟩ ⟨hr,hl,k,rfl,hk,rfl,rfl,hg⟩;have hr:vb r:=hr;have hl:l.length<=64:=hl;have hk:k<=l.length:=hk;by_cases h:k < l.length
 ·have n1:nth sU l k=l[k]:=cg (t:=sU) h;have hd:l.drop k=l[k]::l.drop (k+1):=aq h;have dF:l[k]=aLE l[k].1:=hg _ (by rw[hd];exact aK);obtain⟨op,aT4⟩:∃op,l[k].1=op:=⟨_,rfl⟩;rw[aT4]at dF;have h1:=tf hr;have h2:=ayF h1.1.1 12;have h3:=ayE h1.1.1.1 (m:=12) fg;have hw:=ayJ hr;have hu:=ME hw.1;have Uw:(l.take k).length=k:=by rw[bB];omega
  have step:∀ {R:Type} (kn:AS->Option R) (kx:Exit->AS->Option R),QE (n,m1,(l.length:Int),(k:Int),u,l.length,L2,v,r,l,os) kn kx=aL (gz (QM 12 (dU r).2).1 0) (kx (rZ (0,())).1 (rZ (0,())).2) (kn (qO (n,m1,(l.length:Int),((k+1:Nat):Int),u,l.length,L2,v,(sY (xx r).2).2,l.take k++(op,((dU r).1,av (xx r).1,(sY (xx r).2).1,()),())::l.drop (k+1),os))):=by
   intro R kn kx;rw[Oz,aX ak,bj ak ak,qE (d:=r) hr.1];have ns:∀y:Eg,nth sU (l.set k y) k=y:=λy=>aN3 (t:=sU) h
   have nm:∀(y:Eg) (b:List Eg),nth sU (l.take k++y::b) k=y:=λy b=>aN2 (t:=sU) Uw
   simp only[aj,ah,bC,xq,aa,aR,cK,n1,dF,aM h,cO];rw[WB (d:=(12,(dU r).2)) h1.1.1.1];simp only[aj,ah,bC,T1];refine bu (λz=>aL _ _ z) ?_
   simp only[sZ,aM h,aj,aLE,ns,aDh,aAg,Option.isNone_none];rw[amF (d:=(n,m1,(l.length:Int),(k:Int),(QM 12 (dU r).2).1,0,u,l.length,L2,v,(QM 12 (dU r).2).2,l.take k,op,(dU r).1,0,(0,()),l.drop (k+1),os,[])) ⟨h2,h3.2,0,rfl,fg,rfl,rfl⟩];simp only[ah,Bj,HV,qX,aY];rw[show HI (QM 12 (dU r).2).1.toNat (QM 12 (dU r).2).2=xx r from rfl,KY (d:=(xx r).2) hw.1.1];simp only[ah,bC,Wg,aa,nm,aOM Uw,aM (show k < (l.take k++(op,((dU r).1,av (xx r).1,0,()),())::l.drop (k+1)).length by rw[ai,aB];omega),fy,Nat.reduceAdd,cO,aj];rw[N.mZ ak]
  by_cases hp:(QM 12 (dU r).2).1 < 0
  ·right;refine⟨rZ (0,()),?_,λkn kx=> ?_⟩
   ·simp only[mH,qN,aa,hd,bY,IS,awH,if_pos hp];rfl
   ·rw[step,aX hp,aj]
  ·left;have at0:(l.take k++(op,((dU r).1,av (xx r).1,(sY (xx r).2).1,()),())::l.drop (k+1)).length=l.length:=by rw[ai,aB,dG];omega
   have aUY:(l.take k++(op,((dU r).1,av (xx r).1,(sY (xx r).2).1,()),())::l.drop (k+1)).drop (k+1)=l.drop (k+1):=by rw[List.append_cons,lP (by rw[ai];show(l.take k).length+1=_;omega)]
   have aWw:(l.take k++(op,((dU r).1,av (xx r).1,(sY (xx r).2).1,()),())::l.drop (k+1)).take (k+1)=l.take k++ [(op,((dU r).1,av (xx r).1,(sY (xx r).2).1,()),())]:=by rw[List.append_cons,lQ (by rw[ai];show(l.take k).length+1=_;omega)]
   refine⟨(n,m1,(l.length:Int),((k+1:Nat):Int),u,l.length,L2,v,(sY (xx r).2).2,l.take k++(op,((dU r).1,av (xx r).1,(sY (xx r).2).1,()),())::l.drop (k+1),os),⟨hu.1,by rw[at0];exact hl,k+1,rfl,by rw[at0];omega,by rw[at0],by rw[at0],by rw[aUY];exact λx hx=>hg x (by rw[hd];exact aF _ hx)⟩,by simp only[aa,at0];omega,?_,λkn kx=> ?_⟩
   ·simp only[mH,qN,aa,aUY,aWw,hd,bY,IS,awH,if_neg hp,aT4];cases IS ((l.drop (k+1)).map (·.1)) (sY (xx r).2).2 with
    |none=>rfl
    |some x=>
     simp only[bY,aI,dv];rfl
   ·rw[step,aU hp,ao]
 ·right;obtain rfl:k=l.length:=ak;refine⟨Bi (n,m1,u,l.length,L2,v,r,l,os),?_,λkn kx=> ?_⟩
  ·simp only[mH,qN,aa,aN,iY,IS,bQ,bm];rfl
  ·rw[Oz,aU ak,ao]
theorem aNR(l:List bJ):(l.map aLE).map (·.1)=l:=by rw[List.map_map];have:((λx:Eg=>x.1)∘aLE)=id:=rfl;rw[this,List.map_id]
theorem aKE:lI.Ok:=by
 rintro b ⟨hb,hl⟩;have hb:Bytes b:=hb;have hl:b.length<=1000000000:=hl;have k0:=aOs hb hl;have k1:=ayF k0 64;have u1:=ayE k0.1 (m:=64) fg;rw[aKD,aiO (d:=b) hl];simp only[ah,bC,ama,bC,amz,adV];rw[WB (d:=(64,(b,aQ,()))) k0.1];simp only[ah,bC,T1];generalize QM 64 (b,aQ,())=n at*;have o2:=aya n.1.toNat k1;rw[amB (d:=(n.1,n.1,0,(0,()),0,(0,()),n.2,[])) ⟨k1,u1.2,0,rfl,fg,rfl,rfl⟩];simp only[ah,Be,HS,qX,aY,aR];generalize MT n.1.toNat n.2=ops at*;have k3:=ayF o2.1.1 64;have u3:=ayE o2.1.1.1 (m:=64) fg;rw[WB (d:=(64,ops.2)) o2.1.1.1];simp only[ah,bC,T1];generalize QM 64 ops.2=m at*;rw[amC (d:=(n.1,m.1,m.1,0,(0,()),n.1.toNat,0,(0,()),m.2,ops.1.map aLE,[])) ⟨k3,u3.2,0,rfl,fg,rfl,rfl⟩];simp only[ah,mG,qL,qX,aY,aR];cases hx:Iv m.1.toNat m.2 with
 |none=>rfl
 |some x=>
  have o4:=aqf _ k3 hx;have o5:=tf o4.1.1;have ol:(ops.1.map aLE).length=n.1.toNat:=by rw[cm];exact o2.2.1
  simp only[dJ,cW,ao,ah];rw[qE (d:=x.2) o4.1.1.1];simp only[ah,bC,xq];rw[amD (d:=(n.1,m.1,(n.1.toNat:Int),0,(0,()),n.1.toNat,x.1.length,((dU x.2).1,()),(dU x.2).2,ops.1.map aLE,x.1)) ⟨o5.1.1,by rw[ol];omega,0,rfl,aP _,by rw[ol],by rw[ol],λz hz=>by
   rw[aG]at hz;obtain⟨o,_,rfl⟩:=df.1 hz;rfl⟩]
  simp only[ah,mH,qN,bg,aG,dZ,aY,aNR,aIk];cases hy:IS ops.1 (dU x.2).2 with
  |none=>rfl
  |some y=>
   have o6:=ar5 _ o5.1.1 hy;have yl:y.1.length=n.1.toNat:=by rw[<-o2.2.1,<-o6.2.1,cm]
   have yl2:(y.1.map aVd).length=n.1.toNat:=by rw[cm];exact yl
   simp only[dJ,cW,ao,ah,aGA];by_cases c1:n.1 < 0
   ·rw[aX c1,aj,if_pos (mL c1)];rfl
   rw[aU c1,ao];by_cases c2:m.1 < 0
   ·rw[aX c2,aj,if_pos (fN (mL c2))];rfl
   rw[aU c2,ao,aJI (d:=y.2) trivial];simp only[ah,aq0,aJG,Bool.not_not];cases c3:y.2.2.1
   ·rw[ao,aCE (d:=y.2) trivial];simp only[ah,aiL,ayp];by_cases c4:0 < y.2.1.length
    ·rw[dd ak,aj,if_pos (fN (fN (fN (mL c4))))];rfl
    ·rw[cH ak,ao,aM ⟨by trivial,ak⟩,aM ⟨by trivial,ak⟩,fB yl2,fB rfl,aQE,aSm];simp only[aj];rw[qP (d:=(y.1,x.1,(dU x.2).1,())) ⟨λo ho=>(o4.2.2 o ho).2.2,by show y.1.length<=_;omega,by show x.1.length<=_;have:=o4.2.1;omega⟩];simp only[ah,bC,sX];cases c5:iR (y.1,x.1,(dU x.2).1,())
     ·rw[if_pos (fN (fN (fN (fN (by trivial)))))];rfl
     ·rw[if_neg (by
       rintro(z | z | z | z | z)
       ·exact c1 z
       ·exact c2 z
       ·cases z
       ·exact c4 z
       ·cases z)]
      rfl
   ·rw[aj,if_pos (fN (fN (mL (by trivial))))];rfl
theorem WA:lI.RS:=rE [.d tB] lI
def ae3:=lI.fC aKE 4 ⟨.fI arR,⟨.fI arS,⟨.fI arT,⟨.fI arU,trivial⟩⟩⟩⟩
theorem aJ6{t:dR}(h:iR t=aZ):ass t:=by
 obtain⟨⟨_,a2,a3,_⟩,b1,b2⟩:=kk h;exact⟨⟨ak,λx hx=>by have:=Ca (nB _ _ b1 x hx);omega⟩,ak,λo ho=>by
  have:=VD (lg _ _ b2 o ho).2;exact⟨ak,λb hb=>by have:=this.2 b hb;omega⟩⟩
theorem Gw{α:Type}{f:α->List Int}{l:List α}(h:∀x∈l,Bytes (f x)):Bytes (l.flatMap f):=λb hb=>by obtain⟨x,hx,hb⟩:=q9.1 hb;exact h x hx b hb
theorem J2{α:Type}{f:α->List Int}{n:Nat}:∀ {l:List α},(∀x∈l,(f x).length<=n)->(l.flatMap f).length<=n*l.length
 |[],_=>aP _
 |x::l,h=>by
  rw[dL,ai,aB,Nat.mul_add,iJ];have h1:=h x aK;have h2:=J2 (l:=l) λy hy=>h y (aF _ hy)
  omega
theorem BC{t:dR}(hv:ng t):Bytes (awA t)/\(awA t).length<=1000000:=by
 cases jR:iR t
 ·unfold awA;rw[jR];exact⟨λx hx=>(by cases hx),aP _⟩
 obtain⟨⟨a1,a2,a3,a4⟩,b1,b2⟩:=kk jR;have akR:∀x∈t.1,_:=λx hx=>Ca (nB _ _ b1 x hx)
 rw[aKS jR];have n0:∀ {n:Nat},n<=1000->I5 (n:Int):=λh=>vP ak
 have e1:∀x∈t.1,Bytes (auL x.1)/\(auL x.1).length<=43:=λx hx=>by have hi:=akR x hx;have hr:=lv x.1.2.1;have hs:=(hv.2.1 x hx).1;exact⟨gY hs.2 (lV ⟨hi.1,ak⟩),by unfold auL;rw[ai,hs.1];omega⟩
 have e2:∀o∈t.2.1,Bytes (FJ o)/\(FJ o).length<=1022:=λo ho=>by have hi:=(lg _ _ b2 o ho).1;have hr:=lv o.1;have afU:=lv (PU o.2.1).length;have hl:=Mq o.2.1;exact⟨gY (lV ⟨hi.1,ak⟩) (gY (lV (n0 hl)) (aA7 _)),by unfold FJ;rw[ai,ai];omega⟩
 have e3:∀x∈t.1,Bytes (Fb x.2.1)/\(Fb x.2.1).length<=300:=λx hx=>by
  have hi:=akR x hx;have hr:=lv x.2.1.1;have afU:=lv x.2.1.2.1.length;have hf:=J2 (f:=aEf) (n:=16) (l:=x.2.1.2.1) λs _=>by unfold aEf;rw[ai,cJ,cJ];omega
  refine⟨gY (lV ⟨hi.2.2.1,ak⟩) (gY (lV (n0 ak)) (gY (Gw λs _=>gY (Fm _) (Fm _)) (Fm _))),?_⟩;unfold Fb;simp only[ai,cJ];omega
 have f1:=J2 (f:=λx:iF=>auL x.1) (n:=43) (l:=t.1) λx hx=>(e1 x hx).2
 have f2:=J2 (f:=FJ) (n:=1022) (l:=t.2.1) λx hx=>(e2 x hx).2
 have f3:=J2 (f:=λx:iF=>Fb x.2.1) (n:=300) (l:=t.1) λx hx=>(e3 x hx).2
 have r1:=lv t.1.length;have r2:=lv t.2.1.length;have r3:=lv t.2.2.1;refine⟨gY (lV (n0 ak)) (gY (Gw λx hx=>(e1 x hx).1) (gY (lV (n0 ak)) (gY (Gw λx hx=>(e2 x hx).1) (gY (lV ⟨a4,hv.2.2⟩) (Gw λx hx=>(e3 x hx).1))))),?_⟩;unfold aVm;simp only[ai];omega
section
section
variable {β:Type} {kt:Ty}
theorem G4(hc:kt.comp=aZ)(o o':kt.den)(v:β):∀l:List (kt.den×β),bW kt o (fj kt o' v l)=if kt.beq o o'=aZ then av v else bW kt o l
 |[]=>by rw[aBq,fX,rF]
 |p::l=>by
  rw[qt];by_cases h:kt.beq o' p.1=aZ
  ·rw[if_pos h,fX,fX];have e:=beq_eq kt _ _ hc h;by_cases h2:kt.beq o o'=aZ
   ·rw[if_pos h2,if_pos h2]
   ·rw[if_neg h2,if_neg h2,if_neg (by rw[<-e];exact h2)]
  ·rw[if_neg h,fX,fX,G4 hc o o' v l];by_cases h3:kt.beq o p.1=aZ
   ·rw[if_pos h3,if_pos h3,if_neg];intro h4;apply h;rw[<-beq_eq kt _ _ hc h4];exact h3
   ·rw[if_neg h3,if_neg h3]
theorem akN(hc:kt.comp=aZ)(o o':kt.den):∀ {l:List (kt.den×β)},(l.map (·.1)).Nodup->bW kt o (iO kt o' l)=if kt.beq o o'=aZ then aD else bW kt o l
 |[],_=>by rw[aBp,rF];split <;> rfl
 |p::l,hn=>by
  rw[bY,dm]at hn;rw[xc];by_cases h:kt.beq o' p.1=aZ
  ·rw[if_pos h,fX];have e:=beq_eq kt _ _ hc h;by_cases h2:kt.beq o o'=aZ
   ·rw[if_pos h2];have e2:=beq_eq kt _ _ hc h2;cases hg:bW kt o l with
    |none=>rfl
    |some v=>exact absurd (df.2 ⟨_,(iP hc hn.2).1 hg,rfl⟩) (by rw[e2,e];exact hn.1)
   ·rw[if_neg h2,if_neg (by rw[<-e];exact h2)]
  ·rw[if_neg h,fX,fX,akN hc o o' hn.2];by_cases h3:kt.beq o p.1=aZ
   ·rw[if_pos h3,if_pos h3,if_neg];intro h4;apply h;rw[<-beq_eq kt _ _ hc h4];exact h3
   ·rw[if_neg h3,if_neg h3]
theorem get_none(hc:kt.comp=aZ){o:kt.den}{l:List (kt.den×β)}(hn:(l.map (·.1)).Nodup):bW kt o l=aD↔o ∉ l.map (·.1):=by
 constructor
 ·intro h hm;obtain⟨p,hp,e⟩:=df.1 hm;have e:p.1=o:=e;have:=(iP hc hn (x:=o) (v:=p.2)).2 (by rw[<-e];exact hp);rw[h]at this;cases this
 ·intro h;cases hg:bW kt o l with
  |none=>rfl
  |some v=>exact absurd (df.2 ⟨_,(iP hc hn).1 hg,rfl⟩) h
theorem NV{l:List (kt.den×β)}(hn:(l.map (·.1)).Nodup):l.Nodup:=by
 induction l with
 |nil=>exact gM
 |cons p l ih=>
  rw[bY,dm]at hn;exact dm.2 ⟨λh=>hn.1 (df.2 ⟨p,h,rfl⟩),ih hn.2⟩
theorem aqn(hc:kt.comp=aZ){l l':List (kt.den×β)}(hn:(l.map (·.1)).Nodup)(hn':(l'.map (·.1)).Nodup)(h:∀o,bW kt o l=bW kt o l'):l.Perm l':=by rw[List.perm_ext_iff_of_nodup (NV hn) (NV hn')];rintro⟨o,v⟩;rw[<-iP hc hn,<-iP hc hn',h]
end
theorem tS(a b:bJ):(Ty.beq bh a b=aZ)↔a=b:=⟨beq_eq bh a b rfl,λh=>by rw[h];exact beq_refl bh b rfl⟩
abbrev At:=List (bJ×eV)
abbrev fb(a:At):List bJ:=a.map (·.1)
theorem aAD(o o':bJ)(v:eV)(a:At):bW bh o (fj bh o' v a)=if o=o' then av v else bW bh o a:=by
 rw[G4 fi];by_cases h:o=o'
 ·rw[if_pos ((tS _ _).2 h),if_pos h]
 ·rw[if_neg (λe=>h ((tS _ _).1 e)),if_neg h]
theorem ao1(o o':bJ){a:At}(hn:(fb a).Nodup):bW bh o (iO bh o' a)=if o=o' then aD else bW bh o a:=by
 rw[akN fi _ _ hn];by_cases h:o=o'
 ·rw[if_pos ((tS _ _).2 h),if_pos h]
 ·rw[if_neg (λe=>h ((tS _ _).1 e)),if_neg h]
theorem PJ{o:bJ}{v:eV}{a:At}(hn:(fb a).Nodup):(fb (fj bh o v a)).Nodup:=Ka fi hn
theorem qk{o:bJ}{a:At}(hn:(fb a).Nodup):(fb (iO bh o a)).Nodup:=DD fi hn
theorem aPv{a a':At}(hn:(fb a).Nodup)(hn':(fb a').Nodup)(h:∀o,bW bh o a=bW bh o a'):a.Perm a':=aqn fi hn hn' h
theorem aIU{a a':At}(hn:(fb a).Nodup)(h:a'.Perm a)(o:bJ):bW bh o a'=bW bh o a:=acz fi hn h
theorem awl{o:bJ}{c:eV}{a:At}(hn:(fb a).Nodup)(hg:bW bh o a=av c):a.Perm ((o,c)::iO bh o a):=by
 refine aPv hn ?_ λx=> ?_
 ·show(o::fb (iO bh o a)).Nodup;refine dm.2 ⟨?_,qk hn⟩;have:=(get_none fi (qk (o:=o) hn)).1 (by rw[ao1 o o hn,if_pos rfl]);exact this
 ·rw[fX,ao1 x o hn];by_cases h:x=o
  ·subst h;rw[if_pos ((tS _ _).2 rfl),hg]
  ·rw[if_neg (λe=>h ((tS _ _).1 e)),if_neg h]
theorem U7(o:bJ)(l:List bJ)(a:At):An (o::l) a=An l (iO bh o a):=rfl
theorem GQ:∀(l:List bJ) {a:At},(fb a).Nodup->(fb (An l a)).Nodup
 |[],_,h=>h
 |o::l,a,h=>by rw[U7];exact GQ l (qk h)
theorem abH(x:bJ):∀(l:List bJ) {a:At},(fb a).Nodup->bW bh x (An l a)=if x∈l then aD else bW bh x a
 |[],a,_=>by rw[if_neg (by simp)];rfl
 |o::l,a,h=>by
  rw[U7,abH x l (qk h),ao1 x o h];by_cases h1:x∈l
  ·rw[if_pos h1,if_pos (aF _ h1)]
  ·rw[if_neg h1];by_cases h2:x=o
   ·rw[if_pos h2,if_pos (by rw[h2];exact aK ..)]
   ·rw[if_neg h2,if_neg (by simp[h1,h2])]
theorem Bv(h:Int)(o:bJ)(l:List bJ)(x:iu)(xs:List iu)(a:At):OY h (o::l) (x::xs) a=OY h l xs (fj bh o (x,(h,())) a):=rfl
theorem aaa(h:Int):∀(l:List bJ) (xs:List iu) {a:At},(fb a).Nodup->(fb (OY h l xs a)).Nodup
 |[],[],_,hn=>hn
 |[],_::_,_,hn=>hn
 |_::_,[],_,hn=>hn
 |o::l,x::xs,a,hn=>by rw[Bv];exact aaa h l xs (PJ hn)
theorem axC(h:Int)(x:bJ):∀(l:List bJ) (xs:List iu) (a:At),x ∉ l->bW bh x (OY h l xs a)=bW bh x a
 |[],[],_,_=>rfl
 |[],_::_,_,_=>rfl
 |_::_,[],_,_=>rfl
 |o::l,y::xs,a,hx=>by rw[Bv,axC h x l xs _ (λe=>hx (aF _ e)),aAD,if_neg (λe=>hx (by rw[e];exact aK ..))]
theorem ao0(h:Int):∀(l:List bJ) (xs:List iu) (a:At),l.Nodup->∀(k:Nat) (hk:k < l.length) (asj:k < xs.length),bW bh l[k] (OY h l xs a)=av (xs[k],(h,()))
 |[],_,_,_,k,hk,_=>by simp at hk
 |_::_,[],_,_,k,_,hk=>by simp at hk
 |o::l,y::xs,a,hn,k,hk,asj=>by
  rw[dm]at hn;rw[Bv];cases k with
  |zero=>
   show bW bh o _=av (y,(h,()));rw[axC h o l xs _ hn.1,aAD,if_pos rfl]
  |succ k=>
   simp only[List.getElem_cons_succ];exact ao0 h l xs _ hn.2 k (by simpa using hk) (by simpa using asj)
def zw(a:At)(l:List bJ):Int:=(l.map λo=>((bW bh o a).getD aLu).1.1).sum
theorem aoF:∀(l:List bJ) {a:At},(fb a).Nodup->l.Nodup->(∀o∈l,(bW bh o a).isSome=aZ)->wY (An l a)=wY a - zw a l/\(An l a).length+l.length=a.length
 |[],a,_,_,_=>by simp[An,zw]
 |o::l,a,hn,hl,ht=>by
  rw[dm]at hl;obtain⟨c,hc⟩:=bR.1 (ht o (aK ..));have hg:∀x∈l,bW bh x (iO bh o a)=bW bh x a:=λx hx=>by rw[ao1 x o hn,if_neg (λe=>hl.1 (by rw[<-e];exact hx))]
  obtain⟨h1,h2⟩:=aoF l (qk (o:=o) hn) hl.2 λx hx=>by rw[hg x hx];exact ht x (aF _ hx)
  have hp:=awl hn hc;have h3:=UF hp;have h4:=hp.length_eq;have h5:zw (iO bh o a) l=zw a l:=by unfold zw;congr 1;exact ij λx hx=>by rw[hg x hx]
  rw[rk]at h3;rw[aB]at h4;rw[U7,h1,h5,aB];have h6:zw a (o::l)=c.1.1+zw a l:=by simp[zw,hc]
  rw[h6];exact⟨by have h3:wY a=c.1.1+wY (iO bh o a):=h3;omega,ak⟩
theorem uK(x:iu)(xs:List iu):jG (x::xs)=x.1+jG xs:=by simp[jG]
theorem ana(h:Int):∀(l:List bJ) (xs:List iu) {a:At},(fb a).Nodup->l.Nodup->l.length=xs.length->(∀o∈l,bW bh o a=aD)->wY (OY h l xs a)=wY a+jG xs/\(OY h l xs a).length=a.length+l.length
 |[],[],a,_,_,_,_=>by simp[OY,jG]
 |[],_::_,_,_,_,he,_=>by simp at he
 |_::_,[],_,_,_,he,_=>by simp at he
 |o::l,x::xs,a,hn,hl,he,ht=>by
  rw[dm]at hl;have h0:=(get_none fi hn).1 (ht o (aK ..));have e:fj bh o (x,(h,())) a=a++ [(o,(x,(h,())))]:=DE fi h0;obtain⟨h1,h2⟩:=ana h l xs (PJ (o:=o) (v:=(x,(h,()))) hn) hl.2 (by simpa using he) λy hy=>by rw[aAD,if_neg (λe=>hl.1 (by rw[<-e];exact hy))];exact ht y (aF _ hy)
  rw[Bv,h1,h2,e,anh,uK,ai];simp only[wY,bY,iY,List.sum_cons,List.sum_nil,aB,bl];omega
theorem ab1:∀(l:List iF) (m:List (bJ×Bool)),FE m l=aZ->(l.map (·.1)).Nodup/\∀x∈l,bW bh x.1 m≠av aZ
 |[],_,_=>⟨gM,λ_ h=>by cases h⟩
 |x::l,m,h=>by
  rw[FE,au,au]at h;obtain⟨⟨h1,_⟩,h2⟩:=h;obtain⟨h3,h4⟩:=ab1 l _ h2;have hs:∀y∈l,bW bh y.1 (fj bh x.1 aZ m)≠av aZ:=h4;have il:∀y∈l,y.1≠x.1:=λy hy e=>hs y hy (by rw[G4 fi,if_pos ((tS _ _).2 e)])
  refine⟨?_,λy hy=> ?_⟩
  ·rw[bY,dm];refine⟨λhm=> ?_,h3⟩;obtain⟨y,hy,e⟩:=df.1 hm;exact il y hy e
  ·rcases cv.1 hy with rfl | hy
   ·intro e;unfold R3 at h1;rw[e]at h1;cases h1
   ·have:=hs y hy;rw[G4 fi,if_neg (λe=>il y hy ((tS _ _).1 e))]at this;exact this
theorem TL(t:dR):(eh t).Nodup:=by
 unfold eh;split
 ·rename_i h;exact(ab1 _ _ (kk h).2.1).1
 ·exact gM
theorem acq(t:dR):(iN t).Nodup:=by
 unfold iN;split
 ·unfold It;refine List.Pairwise.map _ (λa b il e=> ?_) (List.nodup_range' (s:=0) (n:=t.2.1.length) (step:=1));have:(a:Int)=b:=bu (λo:bJ=>o.2.1) e;exact il ak
 ·exact gM
theorem abZ{h:Int}{id:List Int}{a:At}:∀(l:List iF) (f0 f:Int),yL h id a l f0= .inr f->(∀o∈l.map (·.1),(bW bh o a).isSome=aZ)/\f=f0+zw a (l.map (·.1))
 |[],f0,f,e=>by simp only[yL,Sum.inr.injEq]at e;subst e;simp[zw]
 |x::l,f0,f,e=>by
  simp only[yL]at e;cases hg:bW bh x.1 a with
  |none=>rw[hg]at e;cases e
  |some c=>
   rw[hg]at e;simp only at e;split at e
   ·cases e
   ·obtain⟨h1,h2⟩:=abZ l _ _ e;refine⟨λo ho=> ?_,?_⟩
    ·rw[bY]at ho;rcases cv.1 ho with rfl | ho
     ·rw[hg];rfl
     ·exact h1 o ho
    ·rw[h2];simp only[zw,bY,List.sum_cons,hg,eo];omega
structure wU(t:dR)(h:Int)(a:At)(pB:Int):Prop where
 ok:iR t=aZ
 h1:1<=h
 h2:h<=1048576
 ins:∃f,yL h (iD t) a t.1 0= .inr f/\pB=f - jG t.2.1
 there:∀o∈eh t,(bW bh o a).isSome=aZ
 made:∀o∈iN t,bW bh o a=aD
 aTn:pB=zw a (eh t) - jG t.2.1
 pos:0<=pB
theorem Ru{t:dR}{h:Int}{a:At}(e:(fu t h a).2=0):wU t h a (fu t h a).1:=by
 obtain⟨jR,h1,h2,f,hi,hm,hp,hc⟩:=LU e;obtain⟨i1,i2⟩:=abZ _ _ _ hi;have hs:eh t=t.1.map (·.1):=by unfold eh;rw[if_pos jR]
 rw[hc];refine⟨jR,h1,h2,⟨f,hi,rfl⟩,by rw[hs];exact i1,λo ho=> ?_,by rw[hs,i2];show 0+_ - _=_;omega,hp⟩;have:=jW.1 hm o ho;unfold rz at this;cases hg:bW bh o a with
 |none=>rfl
 |some c=>rw[hg]at this;simp at this
theorem ate{t:dR}{h:Int}{a:At}(e:(fu t h a).2≠0):(fu t h a).1=0:=by
 unfold fu at e ⊢;split
 ·rename_i h0;rw[if_pos h0]at e;cases hi:yL h (iD t) a t.1 0 with
  |inl x=>rfl
  |inr f=>
   rw[hi]at e;simp only at e ⊢;split
   ·rfl
   ·rename_i h1;rw[if_neg h1]at e;split
    ·rfl
    ·rename_i h2;rw[if_neg h2]at e;exact absurd rfl e
 ·rfl
section
variable {t:dR} {h pB:Int} {a:At}
theorem wU.aUF(hc:wU t h a pB)(ha:(fb a).Nodup){o:bJ}(ho:o∈eh t):bW bh o (fW t h a)=aD:=by
 have hm:o ∉ iN t:=λe=>by have:=hc.there o ho;rw[hc.made o e]at this;cases this
 unfold fW;rw[axC h o _ _ _ hm,abH o _ ha,if_pos ho]
theorem wU.new(hc:wU t h a pB){k:Nat}(hk:k < (iN t).length)(asj:k < t.2.1.length):bW bh (iN t)[k] (fW t h a)=av (t.2.1[k],(h,())):=by unfold fW;exact ao0 h _ _ _ (acq t) k hk asj
theorem QZ(ha:(fb a).Nodup){o:bJ}(h1:o ∉ eh t)(h2:o ∉ iN t):bW bh o (fW t h a)=bW bh o a:=by unfold fW;rw[axC h o _ _ _ h2,abH o _ ha,if_neg h1]
theorem jc(ha:(fb a).Nodup):(fb (fW t h a)).Nodup:=aaa h _ _ (GQ _ ha)
theorem wU.sum(hc:wU t h a pB)(ha:(fb a).Nodup):wY (fW t h a)=wY a - pB/\(fW t h a).length+t.1.length=a.length+t.2.1.length:=by
 obtain⟨d1,d2⟩:=aoF (eh t) ha (TL t) hc.there;obtain⟨e1,e2⟩:=ana h (iN t) t.2.1 (GQ (eh t) ha) (acq t) (w8 hc.ok) λo ho=>by
  rw[abH o _ ha];split
  ·rfl
  ·exact hc.made o ho
 have hf:=hc.aTn;have hl:=ab0 hc.ok;have hm:=w8 hc.ok;unfold fW;rw[e1,e2,d1];exact⟨ak,ak⟩
theorem wU.Et(hc:wU t h a pB)(ha:am1 a)(hv:ng t):am1 (fW t h a):=by
 refine⟨jc ha.1,λp hp=> ?_⟩;have hg:=(iP fi (jc (t:=t) (h:=h) ha.1) (x:=p.1) (v:=p.2)).2 hp;by_cases h2:p.1∈iN t
 ·obtain⟨k,hk,e⟩:=List.getElem_of_mem h2;have asj:k < t.2.1.length:=by rw[<-w8 hc.ok];exact hk
  rw[<-e,hc.new hk asj]at hg;have hg:=(bn hg).symm;have ho:=lg _ _ (kk hc.ok).2.2 _ (aO asj);have hu:=hv.1.1 _ (aO asj);have h1:=hc.h1;have h3:=hc.h2;refine⟨?_,?_⟩
  ·rw[<-e];have hm:iN t=It (iD t) 0 t.2.1.length:=by unfold iN;rw[if_pos hc.ok]
   simp only[hm,It,List.getElem_map];have:=(HX (t:=t));exact⟨this.1,λx hx=>this.2 x hx⟩
  ·rw[hg];exact⟨ho.2,hu.1,ho.1.1,ho.1.2,by show 0<=h;omega,h3⟩
 ·by_cases h1:p.1∈eh t
  ·rw[hc.aUF ha.1 h1]at hg;cases hg
  ·rw[QZ ha.1 h1 h2]at hg;exact ha.2 p ((iP fi ha.1).1 hg)
end
end
theorem awZ(k:Int):oU (gX k):=(aqt _ _).u
def mT:List Int:=[152,45,158,62,185,150,245,89,230,51,244,209,148,222,243,118,29,144,159,90,59,100,125,26,133,31,234,214,124,50,201,209]
theorem s3:nH 3 mT=(2066670005889522986,1913675330412042729,()):=by decide+kernel
theorem s5:nH 5 mT=(1601457595092860225,1871270319440231866,()):=by decide+kernel
theorem u0:oU 0:=⟨ji 0,fg⟩
theorem auh{x:Int}{l:List Int}(h:oU x)(hl:Ia l):Ia (x::l):=λp hp=>by
 rcases cv.1 hp with rfl | hp
 ·exact h
 ·exact hl p hp
theorem aA0:Ia []:=λp hp=>by cases hp
theorem aWv:PM 0=aZ:=rfl
theorem aMb(ks:List Int)(a d:Int)(h:ks.length<=12):wH (ks,a,d,0,())=(ks.all wR && (PM a && PM d)):=by have e:wH (ks,a,d,0,())=(decide (ks.length<=12) && (ks.all wR && (PM a && (PM d && aZ)))):=rfl;rw[e,aM h,bF,Bool.and_true]
def aIF(b:pM)(sg:List Sg)(s:Int)(m:List Int)(height age:Int):Int:=if height < b.2.1\/age < b.2.2.1 then 11 else if b.2.2.2.1≠0/\gX s≠b.2.2.2.1 then 23 else if sg.length≠b.1.length then 7 else if zx m b.1 sg then 0 else 7
theorem aN5{l:Lk}{i:Nat}{b:pM}(jR:lK l=aZ)(hi:i < l.1.length)(hb:l.1[i]=b)(sg:List Sg)(s:Int)(m:List Int)(h a:Int):zG l ((i:Int),sg,s,()) m h a=aIF b sg s m h a:=by
 have n1:nth (.pair (.slice (.int .u64)) (.pair (.int .i64) (.pair (.int .i64) (.pair (.int .u64) .unit)))) l.1 i=l.1[i]:=cg (t:=(.pair (.slice (.int .u64)) (.pair (.int .i64) (.pair (.int .i64) (.pair (.int .u64) .unit))))) hi;unfold zG;rw[if_neg (by
  intro hh;rcases hh with hh | hh | hh
  ·rw[jR]at hh;cases hh
  ·have hh:(i:Int) < 0:=hh;omega
  ·have hh:(i:Int)>=l.1.length:=hh;omega)]
 show(if h < (nth (.pair (.slice (.int .u64)) (.pair (.int .i64) (.pair (.int .i64) (.pair (.int .u64) .unit)))) l.1 i).2.1\/a < (nth (.pair (.slice (.int .u64)) (.pair (.int .i64) (.pair (.int .i64) (.pair (.int .u64) .unit)))) l.1 i).2.2.1 then 11 else if(nth (.pair (.slice (.int .u64)) (.pair (.int .i64) (.pair (.int .i64) (.pair (.int .u64) .unit)))) l.1 i).2.2.2.1≠0/\gX s≠(nth (.pair (.slice (.int .u64)) (.pair (.int .i64) (.pair (.int .i64) (.pair (.int .u64) .unit)))) l.1 i).2.2.2.1 then 23 else if sg.length≠(nth (.pair (.slice (.int .u64)) (.pair (.int .i64) (.pair (.int .i64) (.pair (.int .u64) .unit)))) l.1 i).1.length then 7 else if zx m (nth (.pair (.slice (.int .u64)) (.pair (.int .i64) (.pair (.int .i64) (.pair (.int .u64) .unit)))) l.1 i).1 sg then 0 else 7)=_;rw[n1,hb];rfl
theorem afk(m:List Int):∀ks:List Int,(∀k∈ks,0 < k/\k < 2305843009213688669)->zx m (ks.map gX) (ks.map λk=>nH k m)=aZ
 |[],_=>rfl
 |k::ks,h=>by have hk:=h k aK;show(BM (gX k) m 1 (nH k m) && zx m (ks.map gX) (ks.map λk=>nH k m))=aZ;rw[aOR k m hk.1 hk.2,afk m ks λx hx=>h x (aF _ hx)];rfl
theorem alA(ks:List Int)(hk:∀k∈ks,0 < k/\k < 2305843009213688669)(af dl sc s:Int)(m:List Int)(h a:Int)(hs:sc=0\/gX s=sc):
  aIF (ks.map gX,af,dl,sc,()) (ks.map λk=>nH k m) s m h a=if h < af\/a < dl then 11 else 0:=by
 have e:aIF (ks.map gX,af,dl,sc,()) (ks.map λk=>nH k m) s m h a=if h < af\/a < dl then 11 else if sc≠0/\gX s≠sc then 23 else if(ks.map λk=>nH k m).length≠(ks.map gX).length then 7 else if zx m (ks.map gX) (ks.map λk=>nH k m) then 0 else 7:=rfl
 rw[e,afk m ks hk,if_neg (c:=sc≠0/\gX s≠sc) (by rintro⟨h1,h2⟩;exact hs.elim h1 h2),if_neg (c:=(ks.map λk=>nH k m).length≠(ks.map gX).length) (by rw[cm,cm];exact λx=>x rfl)];rfl
theorem aUp{k:Int}(h:0 < k/\k < 2305843009213688669):∀x∈ [k],0 < x/\x < 2305843009213688669:=λx hx=>by rw[bp]at hx;subst hx;exact h
def z32:List Int:=ab 32 0
def aXv:Lk:=aQg [gX 7]
def aYm:dR:=([((z32,((0:Int),())),(((0:Int),(([]:List Sg),((0:Int),()))),()))],([((90:Int),(aXv,()))],((0:Int),())))
def aXs:At:=[Iq 0 ((100:Int),(aXv,()))]
theorem aWL:¬iD aYm=z32:=by decide+kernel
theorem b7:oU (gX 7):=awZ 7
theorem n14(m:List Int)(hm:¬m=z32):bW bh (m,((0:Int),())) aXs=aD:=by unfold aXs Iq;rw[fX,if_neg,rF];intro e;have:=(tS _ _).1 e;exact hm (bu (λo:bJ=>o.1) this)
theorem aoG{o:bJ}{c:eV}:An [o] [(o,c)]=[]:=by show iO bh o [(o,c)]=[];rw[xc];exact if_pos ((tS _ _).2 rfl)
theorem aAA{o:bJ}{c:eV}{a:At}(hg:bW bh o a=av c):wQ a [o]=[(o,(c,()))]:=by simp only[wQ,hg,eo]
section
structure Ff(m n:Nat)(a:At)(s:List cG):Prop where
 Et:am1 a
 le:n<=s.length
 len:s.length<=m
 aKq:∀st∈s,ajt st
 sum:wY a<=1125899906842624
 aUV:a.length<=256+64*m
theorem Ff.mono{m m' n:Nat}{a:At}{s:List cG}(h:Ff m n a s)(hm:m<=m'):Ff m' n a s:=⟨h.Et,h.le,jb h.len hm,h.aKq,h.sum,by have:=h.aUV;omega⟩
theorem ani{a:At}(h:∀p∈a,0<=p.2.1.1):0<=wY a:=by
 induction a with
 |nil=>exact ji 0
 |cons p a ih=>
  rw[rk];have:=h p aK;have:=ih λq hq=>h q (aF _ hq)
  omega
theorem am1.pos{a:At}(h:am1 a):0<=wY a:=ani λp hp=>(h.2 p hp).2.2.2.1
theorem air:∀(l:List iu) (sum:Int) (k:Nat) {a:At},0<=sum->sum<=1125899906842624->(∀o∈l,asr o)->Y0 sum k l=av a->
  a.length=l.length/\wY a=jG l/\sum+jG l<=1125899906842624/\(∀o∈l,0<=o.1)/\(∀p∈a,C6 p.1/\aS9 p.2/\(k:Int)<=p.1.2.1)/\(fb a).Nodup
 |[],sum,k,a,h0,h1,_,e=>by obtain rfl:=bn e;exact⟨rfl,rfl,by show sum+0<=_;omega,λo ho=>(by cases ho),λp hp=>(by cases hp),gM⟩
 |o::l,sum,k,a,h0,h1,hg,e=>by
  rw[Y0]at e;cases ho:Hp sum o with
  |false=>rw[ho]at e;cases e
  |true=>
   rw[ho]at e;simp only at e;cases hr:Y0 (sum+o.1) (k+1) l with
   |none=>rw[hr]at e;cases e
   |some r=>
    rw[hr]at e;obtain rfl:=bn e;have ho':=ho;unfold Hp at ho';simp only[au,bf]at ho';obtain⟨k1,k2,k3⟩:=ho';obtain⟨i1,i2,i3,i4,i5,i6⟩:=air l (sum+o.1) (k+1) ak ak (λx hx=>hg x (aF _ hx)) hr;have hu:=hg o aK;refine⟨by rw[aB,aB,i1],?_,by rw[uK];omega,λx hx=> ?_,λp hp=> ?_,?_⟩
    ·rw[rk,uK,i2];rfl
    ·rcases cv.1 hx with rfl | hx
     ·exact k2
     ·exact i4 x hx
    ·rcases cv.1 hp with rfl | hp
     ·refine⟨⟨by show(ab 32 (0:Int)).length=32;rw[cD],λx hx=> ?_⟩,⟨k1,hu.1,k2,by show o.1<=_;omega,ji 0,by show(0:Int)<=_;decide⟩,by show(k:Int)<=k;omega⟩;have hx:x∈ab 32 (0:Int):=hx;obtain rfl:=(ot.1 hx).2;exact⟨fg,fg⟩
     ·have:=i5 p hp;exact⟨this.1,this.2.1,ak⟩
    ·show((Iq k o).1::fb r).Nodup;refine dm.2 ⟨λhm=> ?_,i6⟩;obtain⟨p,hp,he⟩:=df.1 hm;have:=(i5 p hp).2.2;have he:p.1=(Iq k o).1:=he;rw[he]at this;have this:((k+1:Nat):Int)<=(k:Int):=this;omega
theorem aBw{outs:List iu}{a:At}(hg:∀o∈outs,asr o)(e:alu outs=av a):Ff 0 0 a []/\wY a=jG outs/\a.length=outs.length/\outs.length<=256/\(∀o∈outs,0<=o.1)/\jG outs<=1125899906842624:=by
 unfold alu at e;by_cases hl:outs.length<=256
 ·rw[if_pos hl]at e;obtain⟨i1,i2,i3,i4,i5,i6⟩:=air outs 0 0 fg fg hg e;exact⟨⟨⟨i6,λp hp=>⟨(i5 p hp).1,(i5 p hp).2.1⟩⟩,ay _,ay _,λst nA=>(by cases nA),ak,ak⟩,i2,i1,hl,i4,ak⟩
 ·rw[if_neg hl]at e;cases e
theorem ahW:∀(l:List bJ) (a:At),(wQ a l).length=l.length
 |[],_=>rfl
 |o::l,a=>by rw[wQ,aB,aB,ahW l]
theorem arE{t:dR}{h pB:Int}{a:At}(hc:wU t h a pB):ajt (stepOf t a):=by have h1:=(kk hc.ok).1;have h2:=w8 hc.ok;have h3:=ab0 hc.ok;unfold ajt stepOf;rw[ahW];exact⟨ak,by show(iN t).length<=1000;omega⟩
section
variable {m n:Nat} {t:dR} {h:Int} {a:At} {s:List cG}
theorem Ff.app(hg:Ff m n a s)(hc:wU t h a (fu t h a).1)(hv:ng t):Ff (m+1) (n+1) (fW t h a) (s.take n++ [stepOf t a]):=by
 have hl:=hg.le;have hm:=hg.len;have hs:=hc.sum hg.Et.1;have hp:=hc.pos;have h1:=(kk hc.ok).1;have e:(s.take n).length=n:=by rw[bB];omega
 refine⟨hc.Et hg.Et hv,by rw[ai,e];exact ay _,by rw[ai,e];show n+1<=_;omega,λst nA=> ?_,?_,?_⟩
 ·rcases bD.1 nA with nA | nA
  ·exact hg.aKq st (fO nA)
  ·rw[bp.1 nA];exact arE hc
 ·have:=hg.sum;omega
 ·have:=hg.aUV;omega
theorem Ff.apply(hg:Ff m n a s)(hm:m<=1000)(hv:ng t):((fu t h a).2≠0/\BU (t,h,n,a,s)=av (.inl ((fu t h a).2,n,a,s)))\/
  (wU t h a (fu t h a).1/\(fu t h a).2=0/\BU (t,h,n,a,s)=av (.inr (0,n+1,fW t h a,s.take n++ [stepOf t a]))/\Ff (m+1) (n+1) (fW t h a) (s.take n++ [stepOf t a])):=by
 have hr:=az5 (d:=(t,h,n,a,s)) ⟨hv,hg.Et,hg.le,by have:=hg.len;show s.length<=_;omega⟩;by_cases he:(fu t h a).2=0
 ·right;refine⟨Ru he,he,?_,hg.app (Ru he) hv⟩;rw[hr];simp only[By,L7,he,ne_eq,not_true_eq_false,bA]
 ·left;refine⟨he,?_⟩;rw[hr];simp only[By,L7,ne_eq,he,not_false_eq_true,bM]
theorem Ff.check(hg:Ff m n a s)(hv:ng t):nX.call (t,h,n,a,s)=av ((fu t h a).1,(fu t h a).2,n,a,s):=ahJ (d:=(t,h,n,a,s)) ⟨hv,hg.Et⟩
def aVw(a:At):List bJ:=Qx (t:=bh) I7 (fb a)
theorem Ff.copy(hg:Ff m n a s)(hm:m<=1000):zf.call (n,a,s)=av (n,a,s,(s.take n).length,jF a,s.take n):=atC (d:=(n,a,s)) ⟨hg.le,by have:=hg.len;show s.length<=_;omega,hg.Et.1⟩
theorem Ff.aUJ(hg:Ff m n a s)(hm:m<=1000):BZ.call (n,a,s)=av (if n=0 then(aQ,n,a,s) else(aZ,n - 1,y8 a (nth cR s (n - 1)),s)):=ahL (d:=(n,a,s)) ⟨hg.le,by have:=hg.len;show s.length<=_;omega,hg.aKq⟩
theorem am1.perm{a':At}(h:am1 a)(hp:a.Perm a'):am1 a':=⟨(hp.map _).nodup_iff.1 h.1,λp hm=>h.2 p (hp.mem_iff.2 hm)⟩
theorem Ff.canon(hg:Ff m n a s):Ff m n (jF a) (s.take n)/\(s.take n).length=n:=by
 have hp:=yE a;have e:(s.take n).length=n:=by rw[bB];have:=hg.le;omega
 exact⟨⟨hg.Et.perm hp.symm,ak,by have:=hg.le;have:=hg.len;omega,λst nA=>hg.aKq st (fO nA),by rw[UF hp];exact hg.sum,by rw[hp.length_eq];exact hg.aUV⟩,e⟩
end
end
def ash(v o:bJ):Bool:=Ty.beq bh v o
def aat(b:dz)(x:iF):Bool:=b.2.2.2.2.1.any (ash x.1)
def ay1(b:dz)(t:dR):Bool:=t.1.any (aat b)
abbrev Cl:=(List bJ)×bJ×Int×Int
def qz:Cl->AS:=λ(nf,aSY,t7,t8)=>⟨([.d (.slice bh) nf,bH,bH,.dV bh aSY,bH,bH,bH,.d ti t7,.d ti t8]++aS 10 []),[],(ab 19 [])⟩
def rG:Int->Exit×AS:=λx=>(.ret,⟨(aS 4 ([.d ti x]++aS 14 [])),[],(ab 19 [])⟩)
def AX:Unit->Exit×AS:=λx=>(.exit 0,⟨(aS 19 []),[],(ab 19 [])⟩)
abbrev Qb:=(Int)⊕(Unit)
abbrev ac8:=(Int)⊕(Unit)
def Ho:Qb->Out (Exit×AS):=λx=> .br x.isLeft (.get x.getLeft? λa=> .ok (rG a)) (.get x.getRight? λb=> .ok (AX b))
def mw:Cl->ac8->Qb:=λ(nf,aSY,t7,t8) y=>match y with | .inl y=> .inl y | .inr z=> .inr (z)
abbrev ax9:=(List bJ)×bJ
def AV:Cl->Prop:=λ(l,v,n,i)=>l.length<=1000000000/\(True)/\n=l.length/\∃k:Nat,k<=l.length/\i=k
def qw:Cl->ac8:=λ(l,v,n,i)=>JS (ash v) (l.drop i.toNat) i
def aBI:ax9->Prop:=λ(l,v)=>l.length<=1000000000/\(True)
def alB:ax9->Int:=λ(l,v)=>api (ash v) l
def ac7:=dI.fI qz AV mw qw Ho
def NW:Cl->Option Qb:=gO ac7 qz
def Iu:Fs Tryz.prog aBI bC alB:=fw 118 Tryz.f118 (λ(sv,v)=>([.d (.slice bh) sv,.d bh v],[])) (λx=>⟨.d ti x,[],[]⟩) [av (.slice bh),av bh] [] {loops:=oJ [(2,{ba:=[0,3,7,8]})],outs:=oI [(2,{},{ba:=[4]})],gf:=nQ [(2,ac7)]}
def Qa:= @eG Tryz.prog (jQ Iu.G) Iu.an 0 Tryz.f118 0 _ qz
abbrev X0:=j7 Tryz.prog (jQ Iu.G) Iu.an 0 Tryz.f118 0 qz AV mw qw Ho
theorem alC:jh NW AV mw qw:=lH (jx [.d (.slice bh),.d bh,.d ti,.d ti] λ_=>cr)
theorem SP:mK @Qa qz AV mw qw Ho X0:=nc
theorem NX(nf aSY t7 t8)(kn:K2 R)(kx:K3 R):Qa (nf,aSY,t7,t8) kn kx=aL (gz t8 t7) (aL (eL t8 (((ag nf):Nat):Int)) (aL (Ty.beq bh aSY (nth bh nf (ae t8))) (kx (rG t8).1 (rG t8).2) (kn (qz (nf,aSY,t7,(bO .i64 t8 (1:Int)))))) aD) (kx (AX ()).1 (AX ()).2):=cr
theorem aIG(sv v)(k:K1 R):Iu.A (sv,v) k=al (NW (sv,v,(sv.length:Int),0)) λx1=>aL x1.isLeft (al x1.getLeft? λa2=>k (Iu.out a2)) (al x1.getRight? λb3=>k (Iu.out (-1))):=cr
theorem aqb:X0:=by
 refine SP (λ(l,v,n,i)=>l.length - i.toNat) ?_
 rintro⟨l,v,n,i⟩ ⟨hb,hv,rfl,k,hk,rfl⟩;have hb:l.length<=1000000000:=hb;have hk:k<=l.length:=hk;by_cases h:k < l.length
 ·have n1:nth bh l k=l[k]:=cg (t:=bh) h;have hd:JS (ash v) (l.drop k) k=if ash v l[k] then .inl (k:Int) else JS (ash v) (l.drop (k+1)) ((k+1:Nat):Int):=by rw[aq h];rfl
  have step:∀ {R:Type} (kn:AS->Option R) (kx:Exit->AS->Option R),Qa (l,v,(l.length:Int),(k:Int)) kn kx=aL (ash v l[k]) (kx (rG (k:Int)).1 (rG (k:Int)).2) (kn (qz (l,v,(l.length:Int),((k+1:Nat):Int)))):=by intro R kn kx;rw[NX,aX ak,bj ak ak,aa,n1,N.mZ ak];rfl
  cases hp:ash v l[k]
  ·left;refine⟨(l,v,l.length,((k+1:Nat):Int)),⟨hb,hv,rfl,k+1,ak,rfl⟩,by simp only[aa];omega,?_,λkn kx=> ?_⟩
   ·simp only[mw,qw,aa,hd,hp,bw,bA]
   ·rw[step,hp,ao]
  ·right;refine⟨rG (k:Int),?_,λkn kx=> ?_⟩
   ·simp only[mw,qw,aa,hd,hp,bM];rfl
   ·rw[step,hp,aj]
 ·right;obtain rfl:k=l.length:=ak;refine⟨AX (),?_,λkn kx=> ?_⟩
  ·simp only[mw,qw,aa,aN];rfl
  ·rw[NX,aU ak,ao]
theorem aIH:Iu.Ok:=by rintro⟨l,v⟩ ⟨hb,hv⟩;rw[aIG,alC (d:=(l,v,l.length,0)) ⟨hb,hv,rfl,0,ak,rfl⟩];simp only[ah,mw,qw,bg,aG,bC,alB,api];cases JS (ash v) l 0 <;> rfl
theorem aBJ:Iu.RS:=rE [.d (.slice bh),.d bh] Iu
def aII:=Iu.fC aIH 1 ⟨.fI aqb,trivial⟩
abbrev ax7:=(List bJ)×bJ
def aBH:ax7->Prop:=λ(l,_)=>l.length<=1000000000
def ax8:ax7->Bool:=λ(l,v)=>l.any (ash v)
def XZ:Fs Tryz.prog aBH bC ax8:=fw 71 Tryz.f71 (λ(sv,v)=>([.d (.slice bh) sv,.d bh v],[])) (λx=>⟨.d .bool x,[],[]⟩) [av (.slice bh),av bh] [aII]
theorem aID(sv v)(k:K1 R):XZ.A (sv,v) k=al (Iu.call (sv,v)) λx1=>k (XZ.out (Dv x1 0)):=cr
theorem aIE:XZ.Ok:=by rintro⟨l,v⟩ hb;rw[aID,aBJ (d:=(l,v)) ⟨hb,trivial⟩];simp only[ah,bC,alB,abR];rfl
theorem aiu:XZ.RS:=rE [.d (.slice bh),.d bh] XZ
def aqa:=XZ.fC aIE
def ayZ:(iF×dz)->Prop:=λ(_,b)=>b.2.2.2.2.1.length<=1000
def aLV:(iF×dz)->Bool:=λ(x,b)=>aat b x
def aas:Fs Tryz.prog ayZ bC aLV:=fw 229 Tryz.f229 (λ(x,t1)=>([.d gT x,.dV eA t1],[])) (λx=>⟨.d .bool x,[],[]⟩) [av gT,aD] [aqa]
theorem aEH(x t1)(k:K1 R):aas.A (x,t1) k=al (XZ.call (t1.2.2.2.2.1,x.1)) λx1=>k (aas.out x1):=cr
theorem aEI:aas.Ok:=by rintro⟨x,b⟩ hb;have hb:b.2.2.2.2.1.length<=1000:=hb;rw[aEH,aiu (d:=(b.2.2.2.2.1,x.1)) (by show b.2.2.2.2.1.length<=_;omega)];rfl
theorem ay0:aas.RS:=rE [.d gT,.d eA] aas
def aEJ:=aas.fC aEI
abbrev Cb:=(List iF)×dz×Int×Int
def qn:Cb->AS:=λ(nf,f,t7,t8)=>⟨([.d (.slice gT) nf,.fn 229 (.cons (.dV eA f) (.nil))]++aS 5 ([.d ti t7,.d ti t8]++aS 10 [])),[],(ab 19 [])⟩
def rv:Int->Exit×AS:=λx=>(.ret,⟨(aS 4 ([.d ti x]++aS 14 [])),[],(ab 19 [])⟩)
def AH:Unit->Exit×AS:=λx=>(.exit 0,⟨(aS 19 []),[],(ab 19 [])⟩)
abbrev PQ:=(Int)⊕(Unit)
abbrev abX:=(Int)⊕(Unit)
def G8:PQ->Out (Exit×AS):=λx=> .br x.isLeft (.get x.getLeft? λa=> .ok (rv a)) (.get x.getRight? λb=> .ok (AH b))
def mn:Cb->abX->PQ:=λ(nf,f,t7,t8) y=>match y with | .inl y=> .inl y | .inr z=> .inr (z)
abbrev axN:=(List iF)×dz
def AG:Cb->Prop:=λ(l,v,n,i)=>l.length<=1000000000/\(v.2.2.2.2.1.length<=1000)/\n=l.length/\∃k:Nat,k<=l.length/\i=k
def qm:Cb->abX:=λ(l,v,n,i)=>JS (aat v) (l.drop i.toNat) i
def aAU:axN->Prop:=λ(l,v)=>l.length<=1000000000/\(v.2.2.2.2.1.length<=1000)
def ak3:axN->Int:=λ(l,v)=>api (aat v) l
def abW:=dI.fI qn AG mn qm G8
def NM:Cb->Option PQ:=gO abW qn
def Is:Fs Tryz.prog aAU bC ak3:=fw 243 Tryz.f243 (λ(sv,fc)=>([.d (.slice gT) sv,.fn 229 (.cons (.dV eA fc) (.nil))],[])) (λx=>⟨.d ti x,[],[]⟩) [av (.slice gT),aD] [aEJ] {loops:=oJ [(2,{ba:=[0,1,7,8]})],outs:=oI [(2,{},{ba:=[4]})],gf:=nQ [(2,abW)]}
def PO:= @eG Tryz.prog (jQ Is.G) Is.an 0 Tryz.f243 0 _ qn
abbrev XB:=j7 Tryz.prog (jQ Is.G) Is.an 0 Tryz.f243 0 qn AG mn qm G8
theorem ak4:jh NM AG mn qm:=lH (jx [.d (.slice gT),.d eA,.d ti,.d ti] λ_=>cr)
theorem Sf:mK @PO qn AG mn qm G8 XB:=nc
theorem NN(nf f t7 t8)(kn:K2 R)(kx:K3 R):PO (nf,f,t7,t8) kn kx=aL (gz t8 t7) (aL (eL t8 (((ag nf):Nat):Int)) (al (aas.call ((nth gT nf (ae t8)),f)) λx1=>aL (x1) (kx (rv t8).1 (rv t8).2) (kn (qn (nf,f,t7,(bO .i64 t8 (1:Int)))))) aD) (kx (AH ()).1 (AH ()).2):=cr
theorem aHB(sv fc)(k:K1 R):Is.A (sv,fc) k=al (NM (sv,fc,(sv.length:Int),0)) λx2=>aL x2.isLeft (al x2.getLeft? λa3=>k (Is.out a3)) (al x2.getRight? λb4=>k (Is.out (-1))):=cr
theorem apn:XB:=by
 refine Sf (λ(l,v,n,i)=>l.length - i.toNat) ?_
 rintro⟨l,v,n,i⟩ ⟨hb,hv,rfl,k,hk,rfl⟩;have hb:l.length<=1000000000:=hb;have hk:k<=l.length:=hk;by_cases h:k < l.length
 ·have n1:nth gT l k=l[k]:=cg (t:=gT) h;have hd:JS (aat v) (l.drop k) k=if aat v l[k] then .inl (k:Int) else JS (aat v) (l.drop (k+1)) ((k+1:Nat):Int):=by rw[aq h];rfl
  have step:∀ {R:Type} (kn:AS->Option R) (kx:Exit->AS->Option R),PO (l,v,(l.length:Int),(k:Int)) kn kx=aL (aat v l[k]) (kx (rv (k:Int)).1 (rv (k:Int)).2) (kn (qn (l,v,(l.length:Int),((k+1:Nat):Int)))):=by intro R kn kx;rw[NN,aX ak,bj ak ak,aa,n1,ay0 (d:=(l[k],v)) hv,N.mZ ak];rfl
  cases hp:aat v l[k]
  ·left;refine⟨(l,v,l.length,((k+1:Nat):Int)),⟨hb,hv,rfl,k+1,ak,rfl⟩,by simp only[aa];omega,?_,λkn kx=> ?_⟩
   ·simp only[mn,qm,aa,hd,hp,bw,bA]
   ·rw[step,hp,ao]
  ·right;refine⟨rv (k:Int),?_,λkn kx=> ?_⟩
   ·simp only[mn,qm,aa,hd,hp,bM];rfl
   ·rw[step,hp,aj]
 ·right;obtain rfl:k=l.length:=ak;refine⟨AH (),?_,λkn kx=> ?_⟩
  ·simp only[mn,qm,aa,aN];rfl
  ·rw[NN,aU ak,ao]
theorem aHC:Is.Ok:=by rintro⟨l,v⟩ ⟨hb,hv⟩;rw[aHB,ak4 (d:=(l,v,l.length,0)) ⟨hb,hv,rfl,0,ak,rfl⟩];simp only[ah,mn,qm,bg,aG,bC,ak3,api];cases JS (aat v) l 0 <;> rfl
theorem aAV:Is.RS:=rE [.d (.slice gT),.d eA] Is
def aHD:=Is.fC aHC 1 ⟨.fI apn,trivial⟩
abbrev axL:=(List iF)×dz
def aAS:axL->Prop:=λ(l,b)=>l.length<=1000000000/\b.2.2.2.2.1.length<=1000
def aNu:axL->Bool:=λ(l,b)=>l.any (aat b)
def abT:Fs Tryz.prog aAS bC aNu:=fw 228 Tryz.f228 (λ(sv,fc)=>([.d (.slice gT) sv,.fn 229 (.cons (.dV eA fc) (.nil))],[])) (λx=>⟨.d .bool x,[],[]⟩) [av (.slice gT),aD] [aHD]
theorem aHv(sv fc)(k:K1 R):abT.A (sv,fc) k=al (Is.call (sv,fc)) λx1=>k (abT.out (Dv x1 0)):=cr
theorem aHw:abT.Ok:=by rintro⟨l,v⟩ ⟨hb,hv⟩;rw[aHv,aAV (d:=(l,v)) ⟨hb,hv⟩];simp only[ah,bC,ak3,abR];rfl
theorem aAT:abT.RS:=rE [.d (.slice gT),.d eA] abT
def aHx:=abT.fC aHw
def asF:(dR×dz)->Prop:=λ(t,b)=>ng t/\t.1.length<=1000000000/\b.2.2.2.2.1.length<=1000
def Q2:(dR×dz)->Bool:=λ(t,b)=>ay1 b t
def O0:Fs Tryz.prog asF bC Q2:=fw 227 Tryz.f227 (λ(t,t1)=>([.d fa t,.dV eA t1],[])) (λx=>⟨.d .bool x,[],[]⟩) [av fa,aD] [aHx]
theorem ay2(t t1)(k:K1 R):O0.A (t,t1) k=al (abT.call (t.1,t1)) λx1=>k (O0.out x1):=cr
theorem ay3:O0.Ok:=by rintro⟨t,b⟩ ⟨_,hl,hb⟩;rw[ay2,aAT (d:=(t.1,b)) ⟨hl,hb⟩];rfl
theorem asG:O0.RS:=rE [.d fa,.d eA] O0
def ay4:=O0.fC ay3
abbrev yD:=(List dR)×Int×dz×Int×(List dR)×Int×Int×Nat×(List (bJ×eV))×(List cG)×Nat×(List (bJ×eV))×(List cG)
def oB:yD->AS:=λ(wJ,eC,endv,fees,t18,t19,t20,o0L,eD,eZ,aIn,n17,apX)=>⟨([bH,.d (.slice fa) wJ,.d ti eC,.fn 227 (.cons (.dV eA endv) (.nil))]++aS 5 ([.d ti fees,bH,fx 17]++aS 6 ([.d (.slice fa) t18,.d ti t19,.d ti t20]++aS 32 []))),[bV (.pr (.cI (.bt 1) 0) (.pr (.bE (.bt 2) 0 [] 0 0 o0L) gg)),bV (.mp bh fv eD),bV (.vec 256 cR eZ)],(bS 17 ([[bV (.pr (.cI (.new 17 1) 0) (.pr (.bE (.new 17 2) 0 [] 0 0 aIn) gg)),bV (.mp bh fv n17),bV (.vec 256 cR apX)]]++bS 35 []))⟩
abbrev Re:=(Nat×(List (bJ×eV))×(List cG))×(Int×Int×Int)
def mN:Re->Exit×AS:=λ((a,b,c),e,f,g)=>(.ret,⟨(aS 8 ([.d ti e,.d ti f,.d ti g]++aS 42 [])),[bV (.pr (.cI (.bt 1) 0) (.pr (.bE (.bt 2) 0 [] 0 0 a) gg)),bV (.mp bh fv b),bV (.vec 256 cR c)],(ab 53 [])⟩)
abbrev Rf:=((List dR)×Nat×(List (bJ×eV))×(List cG))×(Int)
def xF:Rf->Exit×AS:=λ((a,b,c,e),f)=>(.exit 0,⟨([bH,.d (.slice fa) a]++aS 7 ([.d ti f]++aS 43 [])),[bV (.pr (.cI (.bt 1) 0) (.pr (.bE (.bt 2) 0 [] 0 0 b) gg)),bV (.mp bh fv c),bV (.vec 256 cR e)],(ab 53 [])⟩)
abbrev Jq:=(Re)⊕(Rf)
abbrev W1:=((Int×Int×Int))⊕(Int)
def Ek:Jq->Out (Exit×AS):=λx=> .br x.isLeft (.get x.getLeft? λa=> .ok (mN a)) (.get x.getRight? λb=> .ok (xF b))
def jJ:yD->W1->Jq:=λ(wJ,eC,endv,fees,t18,t19,t20,o0L,eD,eZ,aIn,n17,apX) y=>match y with | .inl y=> .inl ((o0L,eD,eZ),y) | .inr z=> .inr (((wJ,o0L,eD,eZ),z))
abbrev anI:=(List dR)×Int×dz×Nat×(List (bJ×eV))×(List cG)
def CN(b:dz)(h:Int):List dR->Int->Int->At->(Int×Int×Int)⊕Int
 |[],_,fees,_=> .inr fees
 |t::l,k,fees,a=>if ay1 b t then .inl (k,fees,14) else if(fu t h a).2≠0 then .inl (k,fees,(fu t h a).2) else CN b h l (k+1) (fees+(fu t h a).1) (fW t h a)
def aEs(l:List dR)(b:dz):Prop:=l.length<=100/\(∀t∈l,ng t/\t.1.length<=1000000)/\b.2.2.2.2.1.length<=1000
def xE:yD->Prop:=λ(_,_,b,fees,l,n',i,_,_,_,n,a,s)=>aEs l b/\n'=(l.length:Int)/\∃k:Nat,k<=l.length/\i=k/\Ff (500+k) n a s/\0<=fees/\fees+wY a<=1125899906842624
def l6:yD->W1:=λ(_,h,b,fees,l,_,i,_,_,_,_,a,_)=>CN b h (l.drop i.toNat) i fees a
def T7(b:dz)(h:Int)(l:List dR)(a:At):Int×Int×Int:=match CN b h l 0 0 (jF a) with
 | .inl x=>x
 | .inr f=>((l.length:Int),f,0)
def asZ:anI->Prop:=λ(l,_,b,n,a,s)=>aEs l b/\Ff 500 n a s
def anJ:anI->(Int×Int×Int×Nat×(List (bJ×eV))×(List cG)):=λ(l,h,b,n,a,s)=>((T7 b h l a).1,(T7 b h l a).2.1,(T7 b h l a).2.2,n,a,s)
def WZ:=dI.fI oB xE jJ l6 Ek
def Jr:yD->Option Jq:=gO WZ oB
def za:Fs Tryz.prog asZ bC anJ:=fw 230 Tryz.f230 (λ(l,height,endc,o0baL,o1,o2)=>([.ptr (.bt 0) 0 [] 0,.d (.slice fa) l,.d ti height,.fn 227 (.cons (.dV eA endc) (.nil))],[.obj 0 aQ (.pr (.cI (.bt 1) 0) (.pr (.bE (.bt 2) 0 [] 0 0 o0baL) (.d .unit ()))),.obj 0 aQ (.mp bh fv o1),.obj 0 aQ (.vec 256 cR o2)])) (λx=>⟨.cons (.d ti x.1) (.cons (.d ti x.2.1) (.cons (.d ti x.2.2.1) (.nil))),[.obj 0 aQ (.pr (.cI (.bt 1) 0) (.pr (.bE (.bt 2) 0 [] 0 0 x.2.2.2.1) (.d .unit ()))),.obj 0 aQ (.mp bh fv x.2.2.2.2.1),.obj 0 aQ (.vec 256 cR x.2.2.2.2.2)],[]⟩) [aD,av (.slice fa),av ti,aD] [ahK,ay4,aox,aot] {loops:=oJ [(3,{ba:=[1,2,3,9,11,18,19,20],sites:=[17],owns:=[⟨11,[.snd,.fst],17,88⟩]})],outs:=oI [(3,{ba:=[1,9]},{ba:=[8,9,10]})],gf:=nQ [(3,WZ)]}
def W0:= @eG Tryz.prog (jQ za.G) za.an 0 Tryz.f230 0 _ oB
abbrev Rc:=j7 Tryz.prog (jQ za.G) za.an 0 Tryz.f230 0 oB xE jJ l6 Ek
theorem afJ:jh Jr xE jJ l6:=lH (jx [.d (.slice fa),.d ti,.d eA,.d ti,.d (.slice fa),.d ti,.d ti,.n,.d (.slice (.pair bh fv)),.d (.slice cR),.n,.d (.slice (.pair bh fv)),.d (.slice cR)] λ_=>cr)
theorem O3:mK @W0 oB xE jJ l6 Ek Rc:=nc
theorem vg(wJ eC endv fees t18 t19 t20 o0L eD eZ aIn n17 apX)(kn:K2 R)(kx:K3 R):W0 (wJ,eC,endv,fees,t18,t19,t20,o0L,eD,eZ,aIn,n17,apX) kn kx=aL (gz t20 t19) (aL (eL t20 (((ag t18):Nat):Int)) (al (O0.call ((nth fa t18 (ae t20)),endv)) λx1=>aL (x1) (kx (mN ((o0L,eD,eZ),(t20,fees,(14:Int)))).1 (mN ((o0L,eD,eZ),(t20,fees,(14:Int)))).2) (al (nX.call ((nth fa t18 (ae t20)),eC,aIn,n17,apX)) λx2=>aL (zg x2.2.1 (0:Int)) (kx (mN ((o0L,eD,eZ),(t20,fees,x2.2.1))).1 (mN ((o0L,eD,eZ),(t20,fees,x2.2.1))).2) (al (BU ((nth fa t18 (ae t20)),eC,x2.2.2.1,x2.2.2.2.1,x2.2.2.2.2)) λx3=>aL x3.isLeft (al x3.getLeft? λaXk=>kn (oB (wJ,eC,endv,(bO .i64 fees x2.1),t18,t19,(bO .i64 t20 (1:Int)),o0L,eD,eZ,aXk.2.1,aXk.2.2.1,aXk.2.2.2))) (al x3.getRight? λaXl=>kn (oB (wJ,eC,endv,(bO .i64 fees x2.1),t18,t19,(bO .i64 t20 (1:Int)),o0L,eD,eZ,aXl.2.1,aXl.2.2.1,aXl.2.2.2)))))) aD) (kx (xF ((wJ,o0L,eD,eZ),fees)).1 (xF ((wJ,o0L,eD,eZ),fees)).2):=cr
theorem azo(l height endc o0baL o1 o2)(k:K1 R):za.A (l,height,endc,o0baL,o1,o2) k=al (zf.call (o0baL,o1,o2)) λx1=>al (Jr (l,height,endc,0,l,(l.length:Int),0,x1.1,x1.2.1,x1.2.2.1,x1.2.2.2.1,x1.2.2.2.2.1,x1.2.2.2.2.2)) λx8=>aL x8.isLeft (al x8.getLeft? λa9=>k (za.out (a9.2.1,a9.2.2.1,a9.2.2.2,a9.1.1,a9.1.2.1,a9.1.2.2))) (al x8.getRight? λayX=>k (za.out ((ayX.1.1.length:Int),ayX.2,0,ayX.1.2.1,ayX.1.2.2.1,ayX.1.2.2.2))):=cr
theorem ajI:Rc:=by
 refine O3 (λ(_,_,_,_,l,_,i,_)=>l.length - i.toNat) ?_
 rintro⟨l0,h,b,fees,l,n',i,nS,a0,s0,n,a,s⟩ ⟨⟨h1,h2,h3⟩,rfl,k,hk,rfl,hg,f0,f1⟩;have h1:l.length<=100:=h1;have hk:k<=l.length:=hk;have f0:0<=fees:=f0;have f1:fees+wY a<=1125899906842624:=f1;have hg:Ff (500+k) n a s:=hg;by_cases iA:k < l.length
 ·have n1:nth fa l k=l[k]:=cg (t:=fa) iA;have hd:l.drop k=l[k]::l.drop (k+1):=aq iA;obtain⟨hv,hi⟩:=h2 _ (aO iA);have aQZ:=asG (d:=(l[k],b)) ⟨hv,jb hi fg,h3⟩;by_cases hb:ay1 b l[k]=aZ
  ·right;refine⟨mN ((nS,a0,s0),((k:Int),fees,14)),?_,λkn kx=> ?_⟩;rotate_left
   ·rw[vg,aX ak,aj,bj ak ak,aj,aa,n1,aQZ];simp only[ah,bC,Q2,hb,aj]
   ·simp only[jJ,l6,aa,hd,CN,if_pos hb];rfl
  ·have hb':ay1 b l[k]=aQ:=by simpa using hb
   have hc:=hg.check (t:=l[k]) (h:=h) hv;rcases hg.apply (t:=l[k]) (h:=h) ak hv with⟨he,_⟩ | ⟨aYB,he,ha,hg'⟩
   ·right;refine⟨mN ((nS,a0,s0),((k:Int),fees,(fu l[k] h a).2)),?_,λkn kx=> ?_⟩;rotate_left
    ·rw[vg,aX ak,aj,bj ak ak,aj,aa,n1,aQZ];simp only[ah,bC,Q2,hb',ao];rw[hc];simp only[ah];rw[fD he,aj]
    ·simp only[jJ,l6,aa,hd,CN,if_neg hb,if_pos he];rfl
   ·left;have FB:=(aYB.sum hg.Et.1).1;have aYI:0<=(fu l[k] h a).1:=by obtain⟨_,_,_,f,_,_,hp,aVR⟩:=LU he;rw[aVR];exact hp
    have vD:=ani λp hp=>(hg'.Et.2 p hp).2.2.2.1
    refine⟨(l0,h,b,fees+(fu l[k] h a).1,l,(l.length:Int),((k+1:Nat):Int),nS,a0,s0,n+1,fW l[k] h a,s.take n++ [stepOf l[k] a]),⟨⟨h1,h2,h3⟩,rfl,k+1,ak,rfl,hg',by show(0:Int)<=fees+(fu l[k] h a).1;omega,by show fees+(fu l[k] h a).1+wY (fW l[k] h a)<=_;omega⟩,by simp only[aa];omega,?_,λkn kx=> ?_⟩
    ·simp only[jJ,l6,aa,hd,CN,if_neg hb,if_neg (λe=>e he:¬(fu l[k] h a).2≠0)];rfl
    ·rw[vg,aX ak,aj,bj ak ak,aj,aa,n1,aQZ];simp only[ah,bC,Q2,hb',ao];rw[hc];simp only[ah];rw[dP he,ao,ha];simp only[ah,dJ,ao,cW];rw[gD (x:=fees) ak ak,N.mZ ak]
 ·right;obtain rfl:k=l.length:=ak;refine⟨xF ((l0,nS,a0,s0),fees),?_,λkn kx=> ?_⟩;rotate_left
  ·rw[vg,aU ak,ao]
  ·simp only[jJ,l6,aa,aN,CN];rfl
theorem azp:za.Ok:=by
 rintro⟨l,h,b,n,a,s⟩ ⟨hw,hg⟩;have hg:Ff 500 n a s:=hg;obtain⟨hc,hl⟩:=hg.canon;have z1:((0:Int)).toNat=0:=rfl;rw[azo,hg.copy ak];simp only[ah];rw[hl,afJ (d:=(l,h,b,0,l,(l.length:Int),0,n,a,s,n,jF a,s.take n)) ⟨hw,rfl,0,aP _,rfl,hc,ji 0,by show(0:Int)+wY (jF a)<=_;have:=hc.sum;omega⟩];simp only[ah,jJ,l6,z1,aG,bC,anJ,T7];cases CN b h l 0 0 (jF a) with
 |inl x=>rfl
 |inr f=>rfl
theorem as0:za.RS:=rE [.d (.slice fa),.d ti,.d eA,.n,.d (.slice (.pair bh fv)),.d (.slice cR)] za
def azq:=za.fC azp 1 ⟨.fI ajI,trivial⟩
abbrev anE:=dz×Nat×(List (bJ×eV))×(List cG)
def uL(b:dz)(a:At):Int×Int:=if JM b.1 b.2.2.2.1 then(if 4000 < aSD b then(0,3) else(T7 b b.1 b.2.2.1 a).2) else(0,1)
def YN(b:dz):Prop:=awQ b/\b.2.2.1.length<=100/\∀t∈b.2.2.1,t.1.length<=1000000
theorem YN.walk{b:dz}(h:YN b):aEs b.2.2.1 b:=⟨h.2.1,λt ht=>⟨h.1.1.2 t ht,h.2.2 t ht⟩,h.1.2.2.1⟩
def asV:anE->Prop:=λ(b,n,a,s)=>YN b/\Ff 500 n a s
def anF:anE->(Int×Int×Nat×(List (bJ×eV))×(List cG)):=λ(b,n,a,s)=>((uL b a).1,(uL b a).2,n,a,s)
def Ei:Fs Tryz.prog asV bC anF:=fw 195 Tryz.f195 (λ(b,o0baL,o1,o2)=>([.ptr (.bt 0) 0 [] 0,.d eA b],[.obj 0 aQ (.pr (.cI (.bt 1) 0) (.pr (.bE (.bt 2) 0 [] 0 0 o0baL) (.d .unit ()))),.obj 0 aQ (.mp bh fv o1),.obj 0 aQ (.vec 256 cR o2)])) (λx=>⟨.cons (.d ti x.1) (.cons (.d ti x.2.1) (.nil)),[.obj 0 aQ (.pr (.cI (.bt 1) 0) (.pr (.bE (.bt 2) 0 [] 0 0 x.2.2.1) (.d .unit ()))),.obj 0 aQ (.mp bh fv x.2.2.2.1),.obj 0 aQ (.vec 256 cR x.2.2.2.2)],[]⟩) [aD,av eA] [azh,aQs,azq]
theorem azi(b o0baL o1 o2)(k:K1 R):Ei.A (b,o0baL,o1,o2) k=al (Eh.call (b.1,b.2.2.2.1)) λx1=>aL (!x1) (k (Ei.out (0,1,o0baL,o1,o2))) (aL (pJ (b.2.2.1.length:Int) 200) (k (Ei.out (0,3,o0baL,o1,o2))) (al (aLv.call b) λx2=>aL (pJ x2 4000) (k (Ei.out (0,3,o0baL,o1,o2))) (al (za.call (b.2.2.1,b.1,b,o0baL,o1,o2)) λx3=>k (Ei.out (x3.2.1,x3.2.2.1,x3.2.2.2.1,x3.2.2.2.2.1,x3.2.2.2.2.2))))):=cr
theorem azj:Ei.Ok:=by
 rintro⟨b,n,a,s⟩ ⟨hb,hg⟩;have hb:YN b:=hb;have hl:b.2.2.1.length<=100:=hb.2.1;rw[azi,asR (d:=(b.1,b.2.2.2.1)) trivial];simp only[ah,bC,aaD,bC,anF,uL];cases hf:JM b.1 b.2.2.2.1 with
 |false=>rfl
 |true=>
  have aPD:=hf;simp only[JM,bf]at aPD;rw[cQ,ao,cH ak,ao,aL9 (d:=b) ⟨hb.1,aPD.2.2.1,by show b.2.2.2.1<=_;omega⟩];simp only[ah,bC,aE4,bM];by_cases hw:4000 < aSD b
  ·rw[dd ak,aj,if_pos hw]
  ·rw[cH ak,ao,if_neg hw,as0 (d:=(b.2.2.1,b.1,b,n,a,s)) ⟨hb.walk,hg⟩];rfl
theorem asW:Ei.RS:=rE [.d eA,.n,.d (.slice (.pair bh fv)),.d (.slice cR)] Ei
def azk:=Ei.fC azj
abbrev aw5:=dz×Nat×(List (bJ×eV))×(List cG)
def azd:aw5->Prop:=λ(b,n,a,s)=>YN b/\Ff 500 n a s
def aw6:aw5->(Int×Nat×(List (bJ×eV))×(List cG)):=λ(b,n,a,s)=>((uL b a).2,n,a,s)
def aaC:Fs Tryz.prog azd bC aw6:=fw 161 Tryz.f161 (λ(b,o0baL,o1,o2)=>([.ptr (.bt 0) 0 [] 0,.d eA b],[.obj 0 aQ (.pr (.cI (.bt 1) 0) (.pr (.bE (.bt 2) 0 [] 0 0 o0baL) (.d .unit ()))),.obj 0 aQ (.mp bh fv o1),.obj 0 aQ (.vec 256 cR o2)])) (λx=>⟨.d ti x.1,[.obj 0 aQ (.pr (.cI (.bt 1) 0) (.pr (.bE (.bt 2) 0 [] 0 0 x.2.1) (.d .unit ()))),.obj 0 aQ (.mp bh fv x.2.2.1),.obj 0 aQ (.vec 256 cR x.2.2.2)],[]⟩) [aD,av eA] [azk]
theorem aEW(b o0baL o1 o2)(k:K1 R):aaC.A (b,o0baL,o1,o2) k=al (Ei.call (b,o0baL,o1,o2)) λx1=>k (aaC.out (x1.2.1,x1.2.2.1,x1.2.2.2.1,x1.2.2.2.2)):=cr
theorem aEX:aaC.Ok:=by rintro⟨b,n,a,s⟩ h;rw[aEW,asW (d:=(b,n,a,s)) h];rfl
theorem aze:aaC.RS:=rE [.d eA,.n,.d (.slice (.pair bh fv)),.d (.slice cR)] aaC
def aEY:=aaC.fC aEX
abbrev BI:=dz×Int×(List dR)×Int×Int×Nat×(List (bJ×eV))×(List cG)
def pT:BI->AS:=λ(iK,err,t12,t13,t14,o0L,eD,eZ)=>⟨([.ptr (.bt 0) 0 [] 0,bH,bH,.dV eA iK,bH,.d ti err]++aS 6 ([.d (.slice fa) t12,.d ti t13,.d ti t14]++aS 13 [])),[bV (.pr (.cI (.bt 1) 0) (.pr (.bE (.bt 2) 1 [] 0 0 o0L) gg)),bV (.mp bh fv eD),.obj 1 aQ (.vec 256 cR eZ)],(ab 28 [])⟩
abbrev WT:=(Int)×(Nat×(List (bJ×eV))×(List cG))
def zO:WT->Exit×AS:=λ(a,b,c,e)=>(.ret,⟨(aS 4 ([.d ti a]++aS 23 [])),[bV (.pr (.cI (.bt 1) 0) (.pr (.bE (.bt 2) 1 [] 0 0 b) gg)),bV (.mp bh fv c),.obj 1 aQ (.vec 256 cR e)],(ab 28 [])⟩)
abbrev WU:=(Int)×(Nat×(List (bJ×eV))×(List cG))
def zP:WU->Exit×AS:=λ(a,b,c,e)=>(.exit 0,⟨(aS 5 ([.d ti a]++aS 22 [])),[bV (.pr (.cI (.bt 1) 0) (.pr (.bE (.bt 2) 1 [] 0 0 b) gg)),bV (.mp bh fv c),.obj 1 aQ (.vec 256 cR e)],(ab 28 [])⟩)
abbrev O1:=(WT)⊕(WU)
abbrev aaB:=((Nat×(List (bJ×eV))×(List cG)))⊕((Nat×(List (bJ×eV))×(List cG)))
def Gq:O1->Out (Exit×AS):=λx=> .br x.isLeft (.get x.getLeft? λa=> .ok (zO a)) (.get x.getRight? λb=> .ok (zP b))
def kc:BI->aaB->O1:=λ(iK,err,t12,t13,t14,o0L,eD,eZ) y=>match y with | .inl y=> .inl (err,y) | .inr z=> .inr ((err,z))
abbrev aw4:=dz×Nat×(List (bJ×eV))×(List cG)
abbrev aEp:=Nat×At×List cG
def ann(h:Int)(S:aEp)(t:dR):aEp:=if(fu t h S.2.1).2≠0 then S else(S.1+1,fW t h S.2.1,S.2.2.take S.1++ [stepOf t S.2.1])
def azr(b:dz)(S:aEp):aEp:=b.2.2.1.foldl (ann b.1) S
def zN:BI->Prop:=λ(_,_,l,m,i,n,a,s)=>(l.length<=100/\∀t∈l,ng t)/\m=(l.length:Int)/\∃k:Nat,k<=l.length/\i=k/\Ff (400+k) n a s
def oz:BI->aaB:=λ(b,e,l,_,i,n,a,s)=>if e≠0/\i < (l.length:Int) then .inl (n,a,s) else .inr ((l.drop i.toNat).foldl (ann b.1) (n,a,s))
def azb:aw4->Prop:=λ(b,n,a,s)=>YN b/\Ff 400 n a s
def ajE:aw4->(Int×Nat×(List (bJ×eV))×(List cG)):=λ(b,n,a,s)=>((uL b a).2,if(uL b a).2≠0 then(n,a,s) else azr b (n,a,s))
def aaz:=dI.fI pT zN kc oz Gq
def M7:BI->Option O1:=gO aaz pT
def Ih:Fs Tryz.prog azb bC ajE:=fw 102 Tryz.f102 (λ(b,o0baL,o1,o2)=>([.ptr (.bt 0) 0 [] 0,.d eA b],[.obj 0 aQ (.pr (.cI (.bt 1) 0) (.pr (.bE (.bt 2) 0 [] 0 0 o0baL) (.d .unit ()))),.obj 0 aQ (.mp bh fv o1),.obj 0 aQ (.vec 256 cR o2)])) (λx=>⟨.d ti x.1,[.obj 0 aQ (.pr (.cI (.bt 1) 0) (.pr (.bE (.bt 2) 1 [] 0 0 x.2.1) (.d .unit ()))),.obj 0 aQ (.mp bh fv x.2.2.1),.obj 1 aQ (.vec 256 cR x.2.2.2)],[]⟩) [aD,av eA] [aEY,aot] {loops:=oJ [(3,{ba:=[0,3,5,12,13,14],as3:=[(2,1)]})],outs:=oI [(3,{ba:=[5],as3:=[(2,1)]},{ba:=[4],as3:=[(2,1)]})],gf:=nQ [(3,aaz)],as3:=[(2,1)]}
def aaA:= @eG Tryz.prog (jQ Ih.G) Ih.an 0 Tryz.f102 0 _ pT
abbrev WS:=j7 Tryz.prog (jQ Ih.G) Ih.an 0 Tryz.f102 0 pT zN kc oz Gq
theorem ajF:jh M7 zN kc oz:=lH (jx [.d eA,.d ti,.d (.slice fa),.d ti,.d ti,.n,.d (.slice (.pair bh fv)),.d (.slice cR)] λ_=>cr)
theorem Q7:mK @aaA pT zN kc oz Gq WS:=nc
theorem xD(iK err t12 t13 t14 o0L eD eZ)(kn:K2 R)(kx:K3 R):aaA (iK,err,t12,t13,t14,o0L,eD,eZ) kn kx=aL (gz t14 t13) (aL (eL t14 (((ag t12):Nat):Int)) (aL (zg err (0:Int)) (kx (zO (err,(o0L,eD,eZ))).1 (zO (err,(o0L,eD,eZ))).2) (al (BU ((nth fa t12 (ae t14)),iK.1,o0L,eD,eZ)) λx1=>aL x1.isLeft (al x1.getLeft? λaLq=>kn (pT (iK,err,t12,t13,(bO .i64 t14 (1:Int)),aLq.2.1,aLq.2.2.1,aLq.2.2.2))) (al x1.getRight? λaLr=>kn (pT (iK,err,t12,t13,(bO .i64 t14 (1:Int)),aLr.2.1,aLr.2.2.1,aLr.2.2.2))))) aD) (kx (zP (err,(o0L,eD,eZ))).1 (zP (err,(o0L,eD,eZ))).2):=cr
theorem aET(b o0baL o1 o2)(k:K1 R):Ih.A (b,o0baL,o1,o2) k=al (aaC.call (b,o0baL,o1,o2)) λx1=>al (M7 (b,x1.1,b.2.2.1,(b.2.2.1.length:Int),0,x1.2.1,x1.2.2.1,x1.2.2.2)) λx3=>aL x3.isLeft (al x3.getLeft? λa4=>k (Ih.out (a4.1,a4.2.1,a4.2.2.1,a4.2.2.2))) (al x3.getRight? λb5=>k (Ih.out (b5.1,b5.2.1,b5.2.2.1,b5.2.2.2))):=cr
theorem anz:WS:=by
 refine Q7 (λ(_,_,l,_,i,_,_,_)=>l.length - i.toNat) ?_
 rintro⟨b,e,l,m,i,n,a,s⟩ ⟨⟨hl,hv⟩,rfl,k,hk,rfl,hg⟩;have hl:l.length<=100:=hl;have hk:k<=l.length:=hk;by_cases h:k < l.length
 ·have n1:nth fa l k=l[k]:=cg (t:=fa) h;have hd:l.drop k=l[k]::l.drop (k+1):=aq h;have aUe:=hv _ (aO h);generalize l[k]=t at n1 hd aUe;by_cases h0:e=0
  ·left;have ne:¬(e≠0/\(k:Int) < (l.length:Int)):=λx=>x.1 h0
   have ne2:¬(e≠0/\((k+1:Nat):Int) < (l.length:Int)):=λx=>x.1 h0
   rcases hg.apply (t:=t) (h:=b.1) ak aUe with⟨hc,ha⟩ | ⟨_,hc,ha,aYK⟩
   ·refine⟨(b,e,l,(l.length:Int),((k+1:Nat):Int),n,a,s),⟨⟨hl,hv⟩,rfl,k+1,h,rfl,hg.mono ak⟩,by simp only[aa];omega,?_,λkn kx=> ?_⟩
    ·simp only[kc,oz,if_neg ne,if_neg ne2,aa,hd,bz];rw[show ann b.1 (n,a,s) t=(n,a,s) from if_pos hc]
    ·rw[xD,aX ak,aj,bj ak ak,aj,dP h0,ao,aa,n1,ha];simp only[ah,nu,aj,kN];rw[N.mZ ak]
   ·refine⟨(b,e,l,(l.length:Int),((k+1:Nat):Int),n+1,fW t b.1 a,s.take n++ [stepOf t a]),⟨⟨hl,hv⟩,rfl,k+1,h,rfl,aYK⟩,by simp only[aa];omega,?_,λkn kx=> ?_⟩
    ·simp only[kc,oz,if_neg ne,if_neg ne2,aa,hd,bz];rw[show ann b.1 (n,a,s) t=(n+1,fW t b.1 a,s.take n++ [stepOf t a]) from if_neg (λx=>x hc)]
    ·rw[xD,aX ak,aj,bj ak ak,aj,dP h0,ao,aa,n1,ha];simp only[ah,dJ,ao,cW];rw[N.mZ ak]
  ·right;refine⟨zO (e,(n,a,s)),?_,λkn kx=> ?_⟩
   ·have pe:e≠0/\(k:Int) < (l.length:Int):=⟨h0,ak⟩;simp only[kc,oz,if_pos pe];rfl
   ·rw[xD,aX ak,aj,bj ak ak,aj,fD h0,aj]
 ·right;obtain rfl:k=l.length:=ak;refine⟨zP (e,(n,a,s)),?_,λkn kx=> ?_⟩
  ·have ne:¬(e≠0/\(l.length:Int) < (l.length:Int)):=λx=>ak
   simp only[kc,oz,if_neg ne,aa,aN,de];rfl
  ·rw[xD,aU ak,ao]
theorem aEU:Ih.Ok:=by
 rintro⟨b,n,a,s⟩ ⟨hb,hg⟩;have hg:Ff 400 n a s:=hg;rw[aET,aze (d:=(b,n,a,s)) ⟨hb,hg.mono fg⟩];simp only[ah,bC,aw6,bC,ajE];rw[ajF (d:=(b,(uL b a).2,b.2.2.1,(b.2.2.1.length:Int),0,n,a,s)) ⟨⟨hb.2.1,hb.1.1.2⟩,rfl,0,aP _,rfl,hg⟩];simp only[ah,kc,oz,bg,aG];by_cases h0:(uL b a).2=0
 ·rw[if_neg (λx=>x.1 h0),if_neg (λx=>x h0)];rfl
 ·rw[if_pos h0];by_cases hl:(0:Int) < (b.2.2.1.length:Int)
  ·rw[if_pos ⟨h0,hl⟩];rfl
  ·rw[if_neg (λx=>hl x.2),bK (by omega:b.2.2.1.length=0)];rfl
theorem azc:Ih.RS:=rE [.d eA,.n,.d (.slice (.pair bh fv)),.d (.slice cR)] Ih
def aEV:=Ih.fC aEU 1 ⟨.fI anz,trivial⟩
abbrev O9:=Nat×Nat×(List (bJ×eV))×(List cG)×(List dz)
def Gy:O9->Int->((Nat×Nat×(List (bJ×eV))×(List cG)×(List dz))×(Int)):=λ(o0baL,o1baL,o2,o3,o4) y=>((o0baL,o1baL,o2,o3,o4),y)
def ajV:O9->Prop:=λ_=>True
def Pa:O9->Int:=λ(n,_)=>(n:Int)
def pY:Fs Tryz.prog ajV Gy Pa:=fw 43 Tryz.f43 (λ(o0baL,o1baL,o2,o3,o4)=>([.ptr (.bt 0) 0 [] 0],[.obj 0 aQ (.pr (.ptr (.bt 1) 0 [] 0) (.pr (.bE (.bt 4) 0 [] 0 0 o0baL) (.d .unit ()))),.obj 0 aQ (.pr (.cI (.bt 2) 0) (.pr (.bE (.bt 3) 0 [] 0 0 o1baL) (.d .unit ()))),.obj 0 aQ (.mp bh fv o2),.obj 0 aQ (.vec 256 cR o3),.obj 0 aQ (.vec 48 eA o4)])) (λx=>⟨.d ti x.2,[.obj 0 aQ (.pr (.ptr (.bt 1) 0 [] 0) (.pr (.bE (.bt 4) 0 [] 0 0 x.1.1) (.d .unit ()))),.obj 0 aQ (.pr (.cI (.bt 2) 0) (.pr (.bE (.bt 3) 0 [] 0 0 x.1.2.1) (.d .unit ()))),.obj 0 aQ (.mp bh fv x.1.2.2.1),.obj 0 aQ (.vec 256 cR x.1.2.2.2.1),.obj 0 aQ (.vec 48 eA x.1.2.2.2.2)],[]⟩) [aD]
theorem an2(o0baL o1baL o2 o3 o4)(k:K1 R):pY.A (o0baL,o1baL,o2,o3,o4) k=k (pY.out ((o0baL,o1baL,o2,o3,o4),((o0baL:Nat):Int))):=cr
theorem an3:pY.Ok:=by rintro⟨n,_⟩ _;rw[an2];rfl
theorem Gz:pY.RS:=rE [.n,.n,.d (.slice (.pair bh fv)),.d (.slice cR),.d (.slice eA)] pY
def Dj:=pY.fC an3
abbrev ajX:=Nat×Nat×(List (bJ×eV))×(List cG)×(List dz)
def ahz:ajX->Bs->((Nat×Nat×(List (bJ×eV))×(List cG)×(List dz))×(Bs)):=λ(o0baL,o1baL,o2,o3,o4) y=>((o0baL,o1baL,o2,o3,o4),y)
def sV(n:Nat)(bs:List dz):Bs:=if n=0 then ab 32 0 else asP (nth eA bs (n - 1))
def azO:ajX->Prop:=λ(n,_,_,_,bs)=>asg n bs
def ajY:ajX->Bs:=λ(n,_,_,_,bs)=>sV n bs
def Nl:Fs Tryz.prog azO ahz ajY:=fw 45 Tryz.f45 (λ(o0baL,o1baL,o2,o3,o4)=>([.ptr (.bt 0) 0 [] 0],[.obj 0 aQ (.pr (.ptr (.bt 1) 0 [] 0) (.pr (.bE (.bt 4) 0 [] 0 0 o0baL) (.d .unit ()))),.obj 0 aQ (.pr (.cI (.bt 2) 0) (.pr (.bE (.bt 3) 0 [] 0 0 o1baL) (.d .unit ()))),.obj 0 aQ (.mp bh fv o2),.obj 0 aQ (.vec 256 cR o3),.obj 0 aQ (.vec 48 eA o4)])) (λx=>⟨.d tH x.2,[.obj 0 aQ (.pr (.ptr (.bt 1) 0 [] 0) (.pr (.bE (.bt 4) 0 [] 0 0 x.1.1) (.d .unit ()))),.obj 0 aQ (.pr (.cI (.bt 2) 0) (.pr (.bE (.bt 3) 0 [] 0 0 x.1.2.1) (.d .unit ()))),.obj 0 aQ (.mp bh fv x.1.2.2.1),.obj 0 aQ (.vec 256 cR x.1.2.2.2.1),.obj 0 aQ (.vec 48 eA x.1.2.2.2.2)],[]⟩) [aD] [aL7]
theorem aFC(o0baL o1baL o2 o3 o4)(k:K1 R):Nl.A (o0baL,o1baL,o2,o3,o4) k=aL (oV ((o0baL:Nat):Int) 0) (k (Nl.out ((o0baL,o1baL,o2,o3,o4),(ab 32 0)))) (aL (eL (da .i64 ((o0baL:Nat):Int) 1) ((o0baL:Nat):Int)) (aL (decide ((0+(ae (da .i64 ((o0baL:Nat):Int) 1))) < (ag o4))) (aL (decide ((((0+(ae (da .i64 ((o0baL:Nat):Int) 1)))*36)+0)=(0+((ae (da .i64 ((o0baL:Nat):Int) 1))*36)))) (al (UM.call (nth eA o4 (0+(ae (da .i64 ((o0baL:Nat):Int) 1))))) λx1=>k (Nl.out ((o0baL,o1baL,o2,o3,o4),x1))) aD) aD) aD):=cr
theorem aFD:Nl.Ok:=by
 rintro⟨n,m,a,s,bs⟩ ⟨h1,h2,h3⟩;have h1:n<=bs.length:=h1;have h2:n<=1000000:=h2;rw[aFC];cases n with
 |zero=>
  rw[du (show((0:Nat):Int)=0 from rfl),aj];rfl
 |succ k=>
  have e1:da .i64 (((k+1:Nat):Nat):Int) (1:Int)=(k:Int):=by rw[fh ak ak];omega
  have hk:k < bs.length:=ak;rw[fm ak,ao,e1,bj ak ak,aj];simp only[aa,aR,cK,aM hk,aj,cO];have n1:nth eA bs k=bs[k]:=cg (t:=eA) hk;rw[n1,aE0 (d:=bs[k]) (h3 _ (aO hk))];simp only[ah,bC,asS,ajY,sV,jC,n1,if_neg (Nat.succ_ne_zero k)];rfl
theorem ahA:Nl.RS:=rE [.n,.n,.d (.slice (.pair bh fv)),.d (.slice cR),.d (.slice eA)] Nl
def an7:=Nl.fC aFD
abbrev atn:=Nat×(List dz)
abbrev aFH:=Nat×(List dz)
def aaW:atn->aFH->(((List dz))×(Nat×(List dz))):=λ(sL,o0) y=>(o0,y)
def aFG:atn->Prop:=λ(n,l)=>n<=l.length/\n<=1000000
def ato:atn->aFH:=λ(n,l)=>((l.take n).length,l.take n)
def aj0:Fs Tryz.prog aFG aaW ato:=fw 164 Tryz.f164 (λ(sL,o0)=>([.bE (.bt 0) 0 [] 0 0 sL],[.obj 0 aQ (.vec 48 eA o0)])) (λx=>⟨.bE (.new 0 0) 0 [] 0 0 x.2.1,[.obj 0 aQ (.vec 48 eA x.1)],[.obj 0 aQ (.vec 48 eA x.2.2)]⟩) [aD] [] {bT:=[5],owns:=[⟨2,[],5,41⟩]}
theorem aMn(sL o0)(k:K1 R):aj0.A (sL,o0) k=aL (decide (0 < sL)) (aL (decide (0=0/\(0+sL)<=(ag o0))) (aL (dw (0+(ag (cut o0 0 sL))) 96) (k (aj0.out (o0,((0+(ag (cut o0 0 sL))),((aW 0 (ab 0 (0,((ab 32 0),(([]:List dR),(0,(([]:List bJ),())))))))++(cut o0 0 sL)))))) aD) aD) (nd (k (aj0.out (o0,(0,([]:List dz))))) (aL (decide (0=0/\(0+sL)<=(ag o0))) (aL (dw (0+(ag (cut o0 0 sL))) 96) (k (aj0.out (o0,((0+(ag (cut o0 0 sL))),((aW 0 (ab 0 (0,((ab 32 0),(([]:List dR),(0,(([]:List bJ),())))))))++(cut o0 0 sL)))))) aD) aD)):=cr
theorem aMo:aj0.Ok:=by
 rintro⟨n,l⟩ ⟨h1,h2⟩;have h1:n<=l.length:=h1;have h2:n<=1000000:=h2;have ec:cut l 0 n=l.take n:=by simp[cut]
 have ht:(l.take n).length<=1000000:=by rw[bB];omega
 have hr:dw (l.take n).length 96=aZ:=dC ak ak;rw[aMn];simp only[aR,ec,hr,aj,dZ,aY,nL,aM h1,aaW,ato];by_cases h:0 < n
 ·simp only[aM h,aj]
 ·have:n=0:=ak;subst this;simp only[dZ,bl,aP,cO,aj,AQ,aV (iV 0),ao]
theorem aFI:aj0.RS:=rE [.n,.d (.slice eA)] aj0
def aMp:=aj0.fC aMo
abbrev aaP:=Nat×Nat×(List (bJ×eV))×(List cG)×(List dz)
abbrev an1:=Nat×(List (bJ×eV))×(List cG)×(List dz)×Nat×Nat×(List (bJ×eV))×(List cG)×(List dz)
def aaQ:aaP->an1->((Nat)×(Nat×(List (bJ×eV))×(List cG)×(List dz)×Nat×Nat×(List (bJ×eV))×(List cG)×(List dz))):=λ(o0baL,o1baL,o2,o3,o4) y=>(o0baL,y)
def atc:aaP->Prop:=λ(nb,n,a,s,bs)=>Ff 500 n a s/\asg nb bs
def an0:aaP->an1:=λ(nb,n,a,s,bs)=>(n,a,s,bs,nb,n,jF a,s.take n,bs.take nb)
def O8:Fs Tryz.prog atc aaQ an0:=fw 103 Tryz.f103 (λ(o0baL,o1baL,o2,o3,o4)=>([.ptr (.bt 0) 0 [] 0],[.obj 0 aQ (.pr (.ptr (.bt 1) 0 [] 0) (.pr (.bE (.bt 4) 0 [] 0 0 o0baL) (.d .unit ()))),.obj 0 aQ (.pr (.cI (.bt 2) 0) (.pr (.bE (.bt 3) 0 [] 0 0 o1baL) (.d .unit ()))),.obj 0 aQ (.mp bh fv o2),.obj 0 aQ (.vec 256 cR o3),.obj 0 aQ (.vec 48 eA o4)])) (λx=>⟨.ptr (.new 0 0) 0 [] 0,[.obj 0 aQ (.pr (.ptr (.bt 1) 0 [] 0) (.pr (.bE (.bt 4) 0 [] 0 0 x.1) (.d .unit ()))),.obj 0 aQ (.pr (.cI (.bt 2) 0) (.pr (.bE (.bt 3) 0 [] 0 0 x.2.1) (.d .unit ()))),.obj 0 aQ (.mp bh fv x.2.2.1),.obj 0 aQ (.vec 256 cR x.2.2.2.1),.obj 0 aQ (.vec 48 eA x.2.2.2.2.1)],[.obj 0 aQ (.pr (.ptr (.new 0 1) 0 [] 0) (.pr (.bE (.new 0 4) 0 [] 0 0 x.2.2.2.2.2.1) (.d .unit ()))),.obj 0 aQ (.pr (.cI (.new 0 2) 0) (.pr (.bE (.new 0 3) 0 [] 0 0 x.2.2.2.2.2.2.1) (.d .unit ()))),.obj 0 aQ (.mp bh fv x.2.2.2.2.2.2.2.1),.obj 0 aQ (.vec 256 cR x.2.2.2.2.2.2.2.2.1),.obj 0 aQ (.vec 48 eA x.2.2.2.2.2.2.2.2.2)]⟩) [aD] [ahK,aMp] {bT:=[14]}
theorem azL(o0baL o1baL o2 o3 o4)(k:K1 R):O8.A (o0baL,o1baL,o2,o3,o4) k=al (zf.call (o1baL,o2,o3)) λx1=>al (aj0.call (o0baL,o4)) λx2=>k (O8.out (o0baL,(x1.1,x1.2.1,x1.2.2.1,x2.1,x2.2.1,x1.2.2.2.1,x1.2.2.2.2.1,x1.2.2.2.2.2,x2.2.2))):=cr
theorem azM:O8.Ok:=by
 rintro⟨nb,n,a,s,bs⟩ ⟨hg,hc⟩;have hg:Ff 500 n a s:=hg;obtain⟨h1,h2,_⟩:=hc;have h1:nb<=bs.length:=h1;rw[azL,hg.copy ak,hg.canon.2];simp only[ah];have e:(bs.take nb).length=nb:=by rw[bB];omega
 rw[aFI (d:=(nb,bs)) ⟨h1,h2⟩];simp only[ah,aaW,ato,e];rfl
theorem atd:O8.RS:=rE [.n,.n,.d (.slice (.pair bh fv)),.d (.slice cR),.d (.slice eA)] O8
def azN:=O8.fC azM
def aFM:(List bJ)->Prop:=λl=>l.length<=1000000
def atq:(List bJ)->(List bJ):=λl=>l
def aj3:Fs Tryz.prog aFM bC atq:=fw 146 Tryz.f146 (λsv=>([.d (.slice bh) sv],[])) (λx=>⟨.d (.slice bh) x,[],[]⟩) [av (.slice bh)] [] {bT:=[5],res:=[av (.slice bh)]}
theorem aMv(sv)(k:K1 R):aj3.A sv k=aL (decide (0 < (ag sv))) (aL (dw (0+(ag sv)) 40) (aL (decide (0=0/\(0+(0+(ag sv)))<=(ag ((aW 0 (ab 0 ((ab 32 0),(0,()))))++sv)))) (k (aj3.out (cut ((aW 0 (ab 0 ((ab 32 0),(0,()))))++sv) 0 (0+(ag sv))))) aD) aD) (nd (k (aj3.out ([]:List bJ))) (aL (dw (0+(ag sv)) 40) (aL (decide (0=0/\(0+(0+(ag sv)))<=(ag ((aW 0 (ab 0 ((ab 32 0),(0,()))))++sv)))) (k (aj3.out (cut ((aW 0 (ab 0 ((ab 32 0),(0,()))))++sv) 0 (0+(ag sv))))) aD) aD)):=cr
theorem aMw:aj3.Ok:=by
 intro l hl;have hl:l.length<=1000000:=hl;have hr:dw l.length 40=aZ:=dC ak ak;rw[aMv];simp only[aR,hr,aj,dZ,aY,ay,jO,cO,fB,bC,atq];by_cases h:0 < l.length
 ·simp only[aM h,aj]
 ·have:l=[]:=bK ak;subst this;simp only[bl,AQ,aV (iV 0),ao]
theorem aFN:aj3.RS:=rE [.d (.slice bh)] aj3
def aMx:=aj3.fC aMw
abbrev O7:=Nat×(List dR)×Int×Int×dz×Int×Bs×Int×(List dR)
abbrev aaL:=Nat×(List dR)
def zY:O7->aaL->((dz×Int×Bs×Int)×(Nat×(List dR))):=λ(txsL,t9,t10,t11,n1,n2,lG,uj,n24) y=>((n1,n2,lG,uj),y)
def asq(t:dR):dR:=(adV (awA t)).1
def aqg(b:dz):dz:=(b.1,(b.2.1,(b.2.2.1.map asq,(b.2.2.2.1,(b.2.2.2.2.1,())))))
theorem VW{t:dR}(hv:ng t)(jR:iR t=aZ):asq t=t:=by unfold asq;rw[avu hv jR]
theorem alF{b:dz}(hv:awQ b)(jR:∀t∈b.2.2.1,iR t=aZ):aqg b=b:=by unfold aqg;rw[show b.2.2.1.map asq=b.2.2.1 from(ij λt ht=>VW (hv.1.2 t ht) (jR t ht)).trans (List.map_id _)]
def ajP:O7->Prop:=λ(L,l,n,i,b1,b2,b3,b4,row)=>(l).length<=1000000/\∃k:Nat,k<=(l).length/\i=k/\n=(l).length/\L=(row).length/\(row).length<=1000000+k/\(∀t∈l,ng t)
def Gx:O7->aaL:=λ(L,l,n,i,b1,b2,b3,b4,row)=>(L+(bZ (ae i) l).length,row++(bZ (ae i) l).map asq)
def azG:dz->Prop:=λb=>awQ b
def ajO:dz->dz:=λb=>aqg b
def vh:Ls ajP zY Gx:=sH (λ(txsL,t9,t10,t11,n1,n2,lG,uj,n24)=>⟨([bH,fx 1,fx 2,pc 24 txsL]++aS 5 ([.d (.slice fa) t9,.d ti t10,.d ti t11]++aS 21 [])),[],([[],ed (.d eA n1),ed (.pr (.d ti n2) (.pr (.d tH lG) (.pr (.dy) (.pr (.d ti uj) (.pr (.dy) gg)))))]++bS 21 ([ed (.vec 55 fa n24)]++bS 8 []))⟩) (λx=>(.exit 0,⟨([bH,fx 1,fx 2,pc 24 x.2.1]++aS 29 []),[],([[],ed (.d eA x.1.1),ed (.pr (.d ti x.1.2.1) (.pr (.d tH x.1.2.2.1) (.pr (.dy) (.pr (.d ti x.1.2.2.2) (.pr (.dy) gg)))))]++bS 21 ([ed (.vec 55 fa x.2.2)]++bS 8 []))⟩))
def Jw:Fs Tryz.prog azG bC ajO:=fw 95 Tryz.f95 (λb=>([.d eA b],[])) (λx=>⟨.d eA x,[],[]⟩) [av eA] [Wx,ae3,aMx] {bT:=[1],loops:=oJ [(3,{ba:=[1,2,3,9,10,11],sites:=[1,2,24],owns:=[⟨3,[],24,34⟩]})],outs:=oI [(3,{ba:=[1,2,3],sites:=[1,2,24]},{ba:=[2]})],gf:=nQ [(3,vh.E)],res:=[av eA]}
theorem ajQ:vh.RS:=rL [.n,.d (.slice fa),.d ti,.d ti,.d eA,.d ti,.d tB,.d ti,.d (.slice fa)] vh
theorem Nf(txsL t9 t10 t11 n1 n2 lG uj n24)(kn:K2 R)(kx:K3 R):Jw.R 0 vh (txsL,t9,t10,t11,n1,n2,lG,uj,n24) kn kx=aL (gz t11 t10) (aL (eL t11 (t9.length:Int)) (al (sx.call (nth fa t9 (ae t11))) λx1=>al (lI.call x1) λx2=>aL (decide (txsL<=(ag n24))) (aL (dw (txsL+1) 56) (kn (vh.st ((txsL+1),t9,t10,(bO .i64 t11 1),n1,n2,lG,uj,((aW txsL n24)++ [x2.1])))) aD) aD) aD) (vh.go kx ((n1,n2,lG,uj),(txsL,n24))):=cr
theorem aFm(b)(k:K1 R):Jw.A b k=al (vh.call (0,b.2.2.1,(b.2.2.1.length:Int),0,b,0,(ab 32 0),0,([]:List dR))) λx5=>al (aj3.call x5.1.1.2.2.2.2.1) λx6=>aL (decide (0=0/\(0+x5.2.1)<=(ag x5.2.2))) (k (Jw.out (x5.1.1.1,(x5.1.1.2.1,((cut x5.2.2 0 x5.2.1),(x5.1.1.2.2.2.1,(x6,x5.1.1.2.2.2.2.2))))))) aD:=cr
theorem anV:(Jw.lF 0 vh):=by
 refine(Jw.mY 0 vh) (λ(L,l,n,i,b1,b2,b3,b4,row)=>(l).length - ae i) ?_
 rintro⟨L,l,n,i,b1,b2,b3,b4,row⟩ ⟨hlen,k,hk,rfl,rfl,rfl,uc,hx⟩;have hlen:(l).length<=1000000:=hlen;have hk:k<=(l).length:=hk;have uc:(row).length<=1000000+k:=uc;have hx:∀t∈l,ng t:=hx;by_cases h:k < (l).length
 ·left;have n1:nth fa l k=l[k]:=cg (t:=fa) h;have hd:bZ k l=l[k]::bZ (k+1) l:=aq h;refine⟨((row).length+1,l,((l).length:Int),((k+1:Nat):Int),b1,b2,b3,b4,row++ [asq l[k]]),⟨hlen,k+1,ak,rfl,rfl,by rw[ai];rfl,by rw[ai];show(row).length+1<=_;omega,hx⟩,by simp only[aa];omega,?_,λkn kx=> ?_⟩
  ·simp only[zY,Gx,aa,hd,bY,aB,aI,dv];rw[show ∀a c:Nat,a+1+c=a+(c+1) from λa c=>ak]
  ·rw[Nf,aX ak,bj (show(0:Int)<=(k:Int) by omega) ak,aa,n1];simp only[aj];have hv:=hx _ (aO h);rw[Qz (d:=l[k]) hv];simp only[ah,bC,Ln];rw[WA (d:=awA l[k]) ⟨(BC hv).1,by show(awA l[k]).length<=_;have:=(BC hv).2;omega⟩];simp only[ah,bC,amz];rw[aM (ay _),dC ak ak,N.mZ ak,bQ];rfl
 ·right;obtain rfl:k=(l).length:=ak;intro R kn kx;rw[Nf,aU ak,ao];simp only[zY,Gx,aa,aN,iY,bm,bl,cK]
theorem aFn:Jw.Ok:=by rintro b ⟨⟨h1,h2⟩,h3,h4,h5⟩;have z1:((0:Int)).toNat=0:=rfl;rw[aFm,ajQ (d:=(0,b.2.2.1,(b.2.2.1.length:Int),0,b,0,ab 32 0,0,[])) ⟨by show b.2.2.1.length<=_;omega,0,aP _,rfl,rfl,rfl,by show(0:Nat)<=_;omega,h2⟩];simp only[ah,zY,Gx,z1,aG,aR,aY];rw[aFN (d:=b.2.2.2.2.1) (by show b.2.2.2.2.1.length<=_;omega)];simp only[ah,bC,atq];rw[aM (by rw[cm];exact⟨trivial,ay _⟩),aj,fB (cm ..)];rfl
theorem ahq:Jw.RS:=rE [.d eA] Jw
def anW:=Jw.fC aFn 1 ⟨.fI anV,trivial⟩
abbrev kT:Ty:=(.pair .bool (.pair fa (.pair tH (.pair ti (.pair .bool .unit)))))
abbrev jg:=(Bool×(dR×(Bs×(Int×(Bool×Unit)))))
abbrev y4:Ty:=(.pair ti (.pair (.slice fa) (.pair ti (.pair bh .unit))))
abbrev I4:=(Int×((List dR)×(Int×(bJ×Unit))))
abbrev pf:Ty:=(.pair ti (.pair bh (.pair fa (.pair ti .unit))))
abbrev lX:=(Int×(bJ×(dR×(Int×Unit))))
abbrev Wm:=List (bJ×jg)
def tM:jg:=(aQ,((([]:List iF),(([]:List iu),((0:Int),()))),((ab 32 (0:Int)),((0:Int),(aQ,())))))
def nO(o:bJ)(m:Wm):jg:=(bW bh o m).getD tM
def aLg:Unit->Prop:=λ_=>True
def aLf:Unit->((List (bJ×jg))):=λ_=> []
def afr:Fs Tryz.prog aLg bC aLf:=fw 11 Tryz.f11 (λ_=>([],[])) (λx=>⟨.ptr (.new 0 0) 0 [] 0,[],[.obj 0 aQ (.pr (.cI (.new 0 1) 0) (.d .unit ())),.obj 0 aQ (.mp bh kT x)]⟩) [] [] {bT:=[3]}
theorem aPf(d)(k:K1 R):afr.A d k=k (afr.out ([]:List (bJ×jg))):=cr
theorem aPg:afr.Ok:=by rintro d _;rw[aPf];rfl
theorem ar8:afr.RS:=rE [] afr
def ayL:=afr.fC aPg
def aDP:dR->Prop:=λt=>ng t
def amQ:dR->dR:=λt=>asq t
def OH:Fs Tryz.prog aDP bC amQ:=fw 57 Tryz.f57 (λt=>([.d fa t],[])) (λx=>⟨.d fa x,[],[]⟩) [av fa] [Wx,ae3]
theorem aK8(t)(k:K1 R):OH.A t k=al (sx.call t) λx1=>al (lI.call x1) λx2=>k (OH.out x2.1):=cr
theorem aK9:OH.Ok:=by intro t hv;have hv:ng t:=hv;rw[aK8,Qz (d:=t) hv];simp only[ah,bC,Ln];rw[WA (d:=awA t) ⟨(BC hv).1,by show(awA t).length<=_;have:=(BC hv).2;omega⟩];rfl
theorem WI:OH.RS:=rE [.d fa] OH
def afo:=OH.fC aK9
abbrev ayP:=bJ×(List (bJ×jg))
def aDX:ayP->Prop:=λ_=>True
def amY:ayP->((List (bJ×jg))):=λ(o,m)=>if(bW bh o m).isSome then m else fj bh o tM m
def Gh:Fs Tryz.prog aDX bC amY:=fw 30 Tryz.f30 (λ(o,o1)=>([.ptr (.bt 0) 0 [] 0,.d bh o],[.obj 0 aQ (.pr (.cI (.bt 1) 0) (.d .unit ())),.obj 0 aQ (.mp bh kT o1)])) (λx=>⟨.nil,[.obj 0 aQ (.pr (.cI (.bt 1) 0) (.d .unit ())),.obj 0 aQ (.mp bh kT x)],[]⟩) [aD,av bh]
theorem aLn(o o1)(k:K1 R):Gh.A (o,o1) k=aL (!(bW bh o o1).isSome) (k (Gh.out (fj bh o (aQ,((([]:List iF),(([]:List iu),(0,()))),((ab 32 0),(0,(aQ,()))))) o1))) (k (Gh.out o1)):=cr
theorem aLo:Gh.Ok:=by rintro⟨o,m⟩ _;rw[aLn];simp only[bC,amY];cases(bW bh o m).isSome <;> rfl
theorem MG:Gh.RS:=rE [.d bh,.d (.slice (.pair bh kT))] Gh
def afy:=Gh.fC aLo
abbrev ayH:=bJ×(List (bJ×jg))
def aDL:ayH->Prop:=λ_=>True
def ayI:ayH->((List (bJ×jg))):=λ(o,m)=>iO bh o m
def T8:Fs Tryz.prog aDL bC ayI:=fw 36 Tryz.f36 (λ(o,o1)=>([.ptr (.bt 0) 0 [] 0,.d bh o],[.obj 0 aQ (.pr (.cI (.bt 1) 0) (.d .unit ())),.obj 0 aQ (.mp bh kT o1)])) (λx=>⟨.nil,[.obj 0 aQ (.pr (.cI (.bt 1) 0) (.d .unit ())),.obj 0 aQ (.mp bh kT x)],[]⟩) [aD,av bh]
theorem aK2(o o1)(k:K1 R):T8.A (o,o1) k=k (T8.out (iO bh o o1)):=cr
theorem aK3:T8.Ok:=by rintro⟨o,m⟩ _;rw[aK2];rfl
theorem ajg:T8.RS:=rE [.d bh,.d (.slice (.pair bh kT))] T8
def ar4:=T8.fC aK3
abbrev amV:=bJ×(List (bJ×jg))
abbrev ayN:=dR×Int×Bool
def MF:amV->ayN->(((List (bJ×jg)))×(dR×Int×Bool)):=λ(o,o1) y=>(o1,y)
def aDV:amV->Prop:=λ(o,m)=>ng (nO o m).2.1
def Uu:amV->ayN:=λ(o,m)=>if(nO o m).1 then(asq (nO o m).2.1,(nO o m).2.2.2.1,aZ) else(tM.2.1,0,aQ)
def Gg:Fs Tryz.prog aDV MF Uu:=fw 21 Tryz.f21 (λ(o,o1)=>([.ptr (.bt 0) 0 [] 0,.d bh o],[.obj 0 aQ (.pr (.cI (.bt 1) 0) (.d .unit ())),.obj 0 aQ (.mp bh kT o1)])) (λx=>⟨.cons (.d fa x.2.1) (.cons (.d ti x.2.2.1) (.cons (.d .bool x.2.2.2) (.nil))),[.obj 0 aQ (.pr (.cI (.bt 1) 0) (.d .unit ())),.obj 0 aQ (.mp bh kT x.1)],[]⟩) [aD,av bh] [afo] {res:=[av fa,aD,aD]}
theorem aLi(o o1)(k:K1 R):Gg.A (o,o1) k=aL (!((bW bh o o1).getD (aQ,((([]:List iF),(([]:List iu),(0,()))),((ab 32 0),(0,(aQ,())))))).1) (k (Gg.out (o1,((([]:List iF),(([]:List iu),(0,()))),0,aQ)))) (al (OH.call ((bW bh o o1).getD (aQ,((([]:List iF),(([]:List iu),(0,()))),((ab 32 0),(0,(aQ,())))))).2.1) λx1=>k (Gg.out (o1,(x1,((bW bh o o1).getD (aQ,((([]:List iF),(([]:List iu),(0,()))),((ab 32 0),(0,(aQ,())))))).2.2.2.1,aZ)))):=cr
theorem aLj:Gg.Ok:=by
 rintro⟨o,m⟩ hv;have hv:ng (nO o m).2.1:=hv;rw[aLi];simp only[MF,Uu];have e:(bW bh o m).getD tM=nO o m:=rfl;cases h:(nO o m).1 with
 |false=>
  rw[show((bW bh o m).getD (aQ,((([]:List iF),(([]:List iu),(0,()))),((ab 32 0),(0,(aQ,())))))).1=aQ from h];rfl
 |true=>
  rw[show((bW bh o m).getD (aQ,((([]:List iF),(([]:List iu),(0,()))),((ab 32 0),(0,(aQ,())))))).1=aZ from h,cQ,ao];rw[show OH.call ((bW bh o m).getD (aQ,((([]:List iF),(([]:List iu),(0,()))),((ab 32 0),(0,(aQ,())))))).2.1=av (asq (nO o m).2.1) from WI (d:=(nO o m).2.1) hv];rfl
theorem WL:Gg.RS:=rE [.d bh,.d (.slice (.pair bh kT))] Gg
def asc:=Gg.fC aLj
abbrev afn:=bJ×(List (bJ×jg))
def awE:afn->Bool->(((List (bJ×jg)))×(Bool)):=λ(o,o1) y=>(o1,y)
def awD:afn->Prop:=λ_=>True
def aK4:afn->Bool:=λ(o,m)=>(nO o m).2.2.2.2.1
def CO:Fs Tryz.prog awD awE aK4:=fw 28 Tryz.f28 (λ(o,o1)=>([.ptr (.bt 0) 0 [] 0,.d bh o],[.obj 0 aQ (.pr (.cI (.bt 1) 0) (.d .unit ())),.obj 0 aQ (.mp bh kT o1)])) (λx=>⟨.d .bool x.2,[.obj 0 aQ (.pr (.cI (.bt 1) 0) (.d .unit ())),.obj 0 aQ (.mp bh kT x.1)],[]⟩) [aD,av bh]
theorem aDM(o o1)(k:K1 R):CO.A (o,o1) k=k (CO.out (o1,((bW bh o o1).getD (aQ,((([]:List iF),(([]:List iu),(0,()))),((ab 32 0),(0,(aQ,())))))).2.2.2.2.1)):=cr
theorem aDN:CO.Ok:=by rintro⟨o,m⟩ _;rw[aDM];rfl
theorem awF:CO.RS:=rE [.d bh,.d (.slice (.pair bh kT))] CO
def aDO:=CO.fC aDN
abbrev Rj:=(List iu)
def aaS:Rj->SA:=λouts=>([.d (.slice gV) outs],[])
abbrev axh:=(Unit)⊕((List (bJ×eV))×(List cG)×(List dz))
abbrev ajW:=(Unit)⊕((List (bJ×eV))×(List cG)×(List dz))
def LX:ajW->iB:=λx=>match x with | .inl x=>⟨.sq,[],[]⟩ | .inr x=>⟨fx 0,[],[bV (.pr (.ptr (.new 0 1) 0 [] 0) (.pr (.bE (.new 0 4) 0 [] 0 0 0) gg)),bV (.pr (.cI (.new 0 2) 0) (.pr (.bE (.new 0 3) 0 [] 0 0 0) gg)),bV (.mp bh fv x.1),bV (.vec 256 cR x.2.1),bV (.vec 48 eA x.2.2)]⟩
def Fo:Rj->axh->ajW:=λouts y=>match y with | .inl y=> .inl y | .inr y=> .inr y
def UY:Rj->Prop:=λouts=>∀o∈outs,asr o
def LV:Rj->axh:=λouts=>match alu outs with | none=> .inl () | some r=> .inr (r,[],[])
def aMl:pO:=jQ (P:=Tryz.prog) [aGn]
def aFz:yx:= {bT:=[10],owns:=[⟨2,[.snd,.fst],0,41⟩]}
def axf:= @Jg Tryz.prog aMl aFz 0 Tryz.f9 _ aaS
abbrev aFy:=ajq @axf UY Fo LV LX
theorem aFA(outs)(k:K1 R):axf outs k=al (abl outs) λx1=>aL x1.isLeft (al x1.getLeft? λaLq=>k (LX (.inl ()))) (al x1.getRight? λaLr=>k (LX (.inr (aLr.1,aLr.2,([]:List dz))))):=cr
theorem aFB:aFy:=by
 intro outs h;rw[aFA,az9 (d:=outs) h];simp only[ah,RI,LV];cases alu outs with
 |none=>rfl
 |some r=>rfl
def axg:=Entry.af5 [av (.slice gV)] aaS UY Fo LV LX
def GA:Rj->Option ajW:=Nd axg aaS
theorem ahu:jh GA UY Fo LV:=aef (YW [.d (.slice gV)] λ_=>cr)
def an4:SG Tryz.prog:=⟨9,nh,axg,.of (.aP6 (.fn 0 cr aFB trivial)) (by rfl)⟩
abbrev atb:=Int×Nat×Nat×(List (bJ×eV))×(List cG)×(List dz)
def anZ:atb->(dz×Bool)->((Nat×Nat×(List (bJ×eV))×(List cG)×(List dz))×(dz×Bool)):=λ(height,o0baL,o1baL,o2,o3,o4) y=>((o0baL,o1baL,o2,o3,o4),y)
def aSA(h:Int)(nb:Nat)(bs:List dz):dz×Bool:=if 1<=h/\h<=nb then(aqg (nth eA bs (h.toNat - 1)),aZ) else(eA.zero,aQ)
def aFw:atb->Prop:=λ(_,nb,_,_,_,bs)=>asg nb bs
def aaO:atb->(dz×Bool):=λ(h,nb,_,_,_,bs)=>((aSA h nb bs).1,(aSA h nb bs).2)
def ajU:Fs Tryz.prog aFw anZ aaO:=fw 46 Tryz.f46 (λ(height,o0baL,o1baL,o2,o3,o4)=>([.ptr (.bt 0) 0 [] 0,.d ti height],[.obj 0 aQ (.pr (.ptr (.bt 1) 0 [] 0) (.pr (.bE (.bt 4) 0 [] 0 0 o0baL) (.d .unit ()))),.obj 0 aQ (.pr (.cI (.bt 2) 0) (.pr (.bE (.bt 3) 0 [] 0 0 o1baL) (.d .unit ()))),.obj 0 aQ (.mp bh fv o2),.obj 0 aQ (.vec 256 cR o3),.obj 0 aQ (.vec 48 eA o4)])) (λx=>⟨.cons (.d eA x.2.1) (.cons (.d .bool x.2.2) (.nil)),[.obj 0 aQ (.pr (.ptr (.bt 1) 0 [] 0) (.pr (.bE (.bt 4) 0 [] 0 0 x.1.1) (.d .unit ()))),.obj 0 aQ (.pr (.cI (.bt 2) 0) (.pr (.bE (.bt 3) 0 [] 0 0 x.1.2.1) (.d .unit ()))),.obj 0 aQ (.mp bh fv x.1.2.2.1),.obj 0 aQ (.vec 256 cR x.1.2.2.2.1),.obj 0 aQ (.vec 48 eA x.1.2.2.2.2)],[]⟩) [aD,av ti] [anW] {res:=[av eA,aD]}
theorem aMi(height o0baL o1baL o2 o3 o4)(k:K1 R):ajU.A (height,o0baL,o1baL,o2,o3,o4) k=aL (gz height 1) (k (ajU.out ((o0baL,o1baL,o2,o3,o4),((0,((ab 32 0),(([]:List dR),(0,(([]:List bJ),()))))),aQ)))) (aL (pJ height ((o0baL:Nat):Int)) (k (ajU.out ((o0baL,o1baL,o2,o3,o4),((0,((ab 32 0),(([]:List dR),(0,(([]:List bJ),()))))),aQ)))) (aL (eL (da .i64 height 1) ((o0baL:Nat):Int)) (aL (decide ((0+(ae (da .i64 height 1))) < (ag o4))) (aL (decide ((((0+(ae (da .i64 height 1)))*36)+0)=(0+((ae (da .i64 height 1))*36)))) (al (Jw.call (nth eA o4 (0+(ae (da .i64 height 1))))) λx1=>k (ajU.out ((o0baL,o1baL,o2,o3,o4),(x1,aZ)))) aD) aD) aD)):=cr
theorem aMj:ajU.Ok:=by
 rintro⟨h,nb,n,a,s,bs⟩ ⟨h1,h2,h3⟩;have h1:nb<=bs.length:=h1;have h2:nb<=1000000:=h2;rw[aMi];by_cases a1:1<=h
 ·rw[aU ak,ao];by_cases a2:h<=nb
  ·obtain⟨k,rfl⟩:∃k:Nat,h=(k:Int)+1:=⟨(h - 1).toNat,ak⟩;have hk:k < bs.length:=ak;have e1:da .i64 ((k:Int)+1) (1:Int)=(k:Int):=by rw[fh ak ak];omega
   have e2:((k:Int)+1).toNat - 1=k:=ak;rw[cH ak,ao,e1,bj ak ak,aj];simp only[aa,aR,cK,aM hk,aj,cO];have n1:nth eA bs k=bs[k]:=cg (t:=eA) hk;rw[n1,ahq (d:=bs[k]) (h3 _ (aO hk))];simp only[ah,bC,ajO,aaO,aSA,if_pos (And.intro a1 a2),e2,n1];rfl
  ·rw[dd ak,aj];simp only[aaO,aSA,if_neg (λe:1<=h/\h<=(nb:Int)=>a2 e.2)];rfl
 ·rw[aX ak,aj];simp only[aaO,aSA,if_neg (λe:1<=h/\h<=(nb:Int)=>a1 e.1)];rfl
theorem aFx:ajU.RS:=rE [.d ti,.n,.n,.d (.slice (.pair bh fv)),.d (.slice cR),.d (.slice eA)] ajU
def aMk:=ajU.fC aMj
abbrev axe:=dz×Nat×Nat×(List (bJ×eV))×(List cG)×(List dz)
def na(b:dz)(nb:Nat)(S:aEp)(bs:List dz):Int×Nat×Nat×At×List cG×List dz:=if b.2.1=sV nb bs/\b.1=(nb:Int)+1 then if(uL b S.2.1).2=0 then(0,nb+1,(azr b S).1,(azr b S).2.1,(azr b S).2.2,bs.take nb++ [aqg b]) else((uL b S.2.1).2,nb,S.1,S.2.1,S.2.2,bs) else(1,nb,S.1,S.2.1,S.2.2,bs)
def UX:axe->Prop:=λ(b,nb,n,a,s,bs)=>YN b/\Ff 400 n a s/\asg nb bs
def ajS:axe->(Int×Nat×Nat×(List (bJ×eV))×(List cG)×(List dz)):=λ(b,nb,n,a,s,bs)=>na b nb (n,a,s) bs
def Ik:Fs Tryz.prog UX bC ajS:=fw 55 Tryz.f55 (λ(b,o0baL,o1baL,o2,o3,o4)=>([.ptr (.bt 0) 0 [] 0,.d eA b],[.obj 0 aQ (.pr (.ptr (.bt 1) 0 [] 0) (.pr (.bE (.bt 4) 0 [] 0 0 o0baL) (.d .unit ()))),.obj 0 aQ (.pr (.cI (.bt 2) 0) (.pr (.bE (.bt 3) 0 [] 0 0 o1baL) (.d .unit ()))),.obj 0 aQ (.mp bh fv o2),.obj 0 aQ (.vec 256 cR o3),.obj 0 aQ (.vec 48 eA o4)])) (λx=>⟨.d ti x.1,[.obj 0 aQ (.pr (.ptr (.bt 1) 0 [] 0) (.pr (.bE (.bt 4) 1 [] 0 0 x.2.1) (.d .unit ()))),.obj 0 aQ (.pr (.cI (.bt 2) 0) (.pr (.bE (.bt 3) 1 [] 0 0 x.2.2.1) (.d .unit ()))),.obj 0 aQ (.mp bh fv x.2.2.2.1),.obj 1 aQ (.vec 256 cR x.2.2.2.2.1),.obj 1 aQ (.vec 48 eA x.2.2.2.2.2)],[]⟩) [aD,av eA] [an7,Dj,aEV,anW] {as3:=[(3,1),(4,1)]}
theorem aFs(b o0baL o1baL o2 o3 o4)(k:K1 R):Ik.A (b,o0baL,o1baL,o2,o3,o4) k=al (Nl.call (o0baL,o1baL,o2,o3,o4)) λx1=>aL (!(Ty.beq tH b.2.1 x1.2)) (k (Ik.out (1,x1.1.1,x1.1.2.1,x1.1.2.2.1,x1.1.2.2.2.1,x1.1.2.2.2.2))) (al (pY.call (x1.1.1,x1.1.2.1,x1.1.2.2.1,x1.1.2.2.2.1,x1.1.2.2.2.2)) λx2=>aL (zg b.1 (bO .i64 x2.2 1)) (k (Ik.out (1,x2.1.1,x2.1.2.1,x2.1.2.2.1,x2.1.2.2.2.1,x2.1.2.2.2.2))) (al (Ih.call (b,x2.1.2.1,x2.1.2.2.1,x2.1.2.2.2.1)) λx3=>aL (zg x3.1 0) (k (Ik.out (x3.1,x2.1.1,x3.2.1,x3.2.2.1,x3.2.2.2,x2.1.2.2.2.2))) (al (Jw.call b) λx4=>aL (decide (x2.1.1<=(ag x2.1.2.2.2.2))) (aL (dw (x2.1.1+1) 96) (k (Ik.out (0,(x2.1.1+1),x3.2.1,x3.2.2.1,x3.2.2.2,((aW x2.1.1 x2.1.2.2.2.2)++ [x4])))) aD) aD))):=cr
theorem aFt:Ik.Ok:=by
 rintro⟨b,nb,n,a,s,bs⟩ ⟨hb,hg,hc⟩;have hb:YN b:=hb;obtain⟨h1,h2,_⟩:=id hc;have h1:nb<=bs.length:=h1;have h2:nb<=1000000:=h2;rw[aFs,ahA (d:=(nb,n,a,s,bs)) hc];simp only[ah,ahz,ajY,aTl,bC,ajS,na];by_cases ht:b.2.1=sV nb bs
 ·rw[eO ht,cQ,ao,Gz (d:=(nb,n,a,s,bs)) trivial];simp only[ah,Gy,Pa];rw[gD ak ak];by_cases hh:b.1=(nb:Int)+1
  ·rw[dP hh,ao,azc (d:=(b,n,a,s)) ⟨hb,hg⟩];simp only[ah,bC,ajE,if_pos (And.intro ht hh)];by_cases he:(uL b a).2=0
   ·rw[dP he,ao,ahq (d:=b) hb.1];simp only[ah,bC,ajO];rw[aM h1,aj,dC ak ak,aj,if_pos he,if_neg (λe=>e he)]
   ·rw[fD he,aj,if_neg he,if_pos he]
  ·rw[fD hh,aj,if_neg (λe=>hh e.2)]
 ·rw[iC ht,fH,aj,if_neg (λe=>ht e.1)]
theorem ahs:Ik.RS:=rE [.d eA,.n,.n,.d (.slice (.pair bh fv)),.d (.slice cR),.d (.slice eA)] Ik
def anX:=Ik.fC aFt
def Wr(o:bJ):List dR->Option dR
 |[]=>aD
 |t::l=>if(eh t).any (ash o)=aZ then av t else Wr o l
def CE(o:bJ):List dz->Int->Option (dR×Int)
 |[],_=>aD
 |b::l,i=>match Wr o b.2.2.1 with | some t=>av (asq t,i+1) | none=>CE o l (i+1)
theorem arC(t:dR):(eh t).length<=64:=by
 unfold eh;split
 ·rename_i h;rw[cm];exact(kk h).1.2.1
 ·simp
abbrev Li:=Int×dR×bJ×bJ×(Int×Unit)×Int×Bool
noncomputable def Ws:Li->SA:=λ(t13,t14,o,or,o1bb,o2,o3)=>(([.yl (.bt 0) 0,.d ti t13,.d fa t14,bH,bH,bH,.dV bh o,.ptr (.bt 1) 0 [] 0,.ptr (.bt 2) 0 [] 0,.ptr (.bt 3) 0 [] 0]++aS 21 []),[bV (.sS (sw Tryz.prog 4294967824) (nw ([bH,bH,bH,.dV bh or,.ptr (.bt 1) 0 [] 0,.ptr (.bt 2) 0 [] 0,.ptr (.bt 3) 0 [] 0]++aS 21 [])) 0),bV (.pr (.dy) (.pr (.dy) (.d (.pair ti .unit) o1bb))),bV (.d ti o2),bV (.d .bool o3)])
abbrev aex:=((bJ×Int)×(dR))⊕(bJ×(Int×Unit)×Int×Bool)
noncomputable def HK:aex->iB:=λx=>match x with | .inl x=>⟨.d .bool aQ,[bV (.sS (sw Tryz.prog 4294967824) (nw ([bH,bH,bH,.dV bh x.1.1,.ptr (.bt 1) 0 [] 0,.ptr (.bt 2) 0 [] 0,.ptr (.bt 3) 0 [] 0]++aS 21 [])) 2),bV (.d fa x.2),bV (.d ti x.1.2),bV (.d .bool aZ)],[]⟩ | .inr x=>⟨.d .bool aZ,[bV (.sS (sw Tryz.prog 4294967824) (nw ([bH,bH,bH,.dV bh x.1,.ptr (.bt 1) 0 [] 0,.ptr (.bt 2) 0 [] 0,.ptr (.bt 3) 0 [] 0]++aS 21 [])) 0),bV (.pr (.dy) (.pr (.dy) (.d (.pair ti .unit) x.2.1))),bV (.d ti x.2.2.1),bV (.d .bool x.2.2.2)],[]⟩
def CD:Li->((dR)⊕(Unit))->aex:=λ(t13,t14,o,or,o1bb,o2,o3) y=>match y with | .inl y=> .inl ((or,t13),y) | .inr y=> .inr (or,o1bb,o2,o3)
def Qw:Li->Prop:=λ(_,t,_)=>ng t
def Gd:Li->((dR)⊕(Unit)):=λ(_,t,o,_)=>if(eh t).any (ash o)=aZ then .inl (asq t) else .inr ()
def aKg:pO:=jQ (P:=Tryz.prog) [ae9,aqa,Wx,ae3]
def aC4:yx:= {mY:=av 4294967824}
def arA:= @Jg Tryz.prog aKg aC4 0 (aPm Tryz.prog 4294967824) _ Ws
abbrev aC3:=ajq @arA Qw CD Gd HK
theorem aC5(t13 t14 o or o1bb o2 o3)(k:K1 R):arA (t13,t14,o,or,o1bb,o2,o3) k=al (tK.call t14) λx1=>al (XZ.call (x1,o)) λx2=>aL (x2) (al (sx.call t14) λx3=>al (lI.call x3) λx4=>k (HK (.inl ((or,t13),x4.1)))) (k (HK (.inr (or,o1bb,o2,o3)))):=cr
theorem aC6:aC3:=by
 rintro⟨h,t,o,o',o1,o2,o3⟩ hv;have hv:ng t:=hv;rw[aC5,YK (d:=t) hv.1];simp only[ah,bC,MD];rw[aiu (d:=(eh t,o)) (by show(eh t).length<=_;have:=arC t;omega)];simp only[ah,bC,ax8,Gd];by_cases he:(eh t).any (ash o)=aZ
 ·rw[if_pos he,he,aj,Qz (d:=t) hv];simp only[ah,bC,Ln];rw[WA (d:=awA t) ⟨(BC hv).1,by show(awA t).length<=_;have:=(BC hv).2;omega⟩];rfl
 ·have he':(eh t).any (ash o)=aQ:=by simpa using he
  rw[if_neg he,he',ao];rfl
def arB:=Entry.af5 [aD,aD,aD,aD,aD,aD,aD,aD,aD,aD,aD,aD,aD,aD,aD,aD,aD,aD,aD,aD,aD,aD,aD,aD,aD,aD,aD,aD,aD,aD,aD] Ws Qw CD Gd HK
def Yu:Li->Option aex:=Nd arB Ws
theorem av6:jh Yu Qw CD Gd:=aef (YW [.d ti,.d fa,.d bh,.d bh,.d (.pair ti .unit),.d ti,.d .bool] λ_=>cr)
def aC7:SG Tryz.prog:=⟨4294967824,nh,arB,.aX6 (H9.fn 0 cr aC6 trivial (by rfl)).aP6 (by rfl)⟩
abbrev Fg:=Nat×Int×Int×bJ×(Int×Unit)×Int×Bool×Nat×Nat×(List (bJ×eV))×(List cG)×(List dz)
noncomputable def wW:Fg->AS:=λ(Wv,t11,t12,o0,o1,eZ,MS,o5L,o6L,auJ,auK,aga)=>⟨([.yl (.bt 0) 0]++aS 9 ([.bE (.bt 9) 0 [] 0 0 Wv,.d ti t11,.d ti t12]++aS 19 [])),[bV (.sS (sw Tryz.prog 4294967824) (nw ([bH,bH,bH,.dV bh o0,.ptr (.bt 1) 0 [] 0,.ptr (.bt 2) 0 [] 0,.ptr (.bt 3) 0 [] 0]++aS 21 [])) 0),bV (.pr (.dy) (.pr (.dy) (.d (.pair ti .unit) o1))),bV (.d ti eZ),bV (.d .bool MS),bV (.ptr (.bt 5) 0 [] 0),bV (.pr (.ptr (.bt 6) 0 [] 0) (.pr (.bE (.bt 9) 0 [] 0 0 o5L) gg)),bV (.pr (.cI (.bt 7) 0) (.pr (.bE (.bt 8) 0 [] 0 0 o6L) gg)),bV (.mp bh fv auJ),bV (.vec 256 cR auK),bV (.vec 48 eA aga)],(ab 32 [])⟩
abbrev aaf:=bJ×dR×Int×Nat×Nat×(List (bJ×eV))×(List cG)×(List dz)
noncomputable def C8:aaf->Exit×AS:=λ(a,b,c,e,f,g,h,i)=>(.ret,⟨(aS 32 []),[bV (.sS (sw Tryz.prog 4294967824) (nw ([bH,bH,bH,.dV bh a,.ptr (.bt 1) 0 [] 0,.ptr (.bt 2) 0 [] 0,.ptr (.bt 3) 0 [] 0]++aS 21 [])) 2),bV (.d fa b),bV (.d ti c),bV (.d .bool aZ),bV (.ptr (.bt 5) 0 [] 0),bV (.pr (.ptr (.bt 6) 0 [] 0) (.pr (.bE (.bt 9) 0 [] 0 0 e) gg)),bV (.pr (.cI (.bt 7) 0) (.pr (.bE (.bt 8) 0 [] 0 0 f) gg)),bV (.mp bh fv g),bV (.vec 256 cR h),bV (.vec 48 eA i)],(ab 32 [])⟩)
abbrev aag:=bJ×(Int×Unit)×Int×Bool×Nat×Nat×(List (bJ×eV))×(List cG)×(List dz)
noncomputable def C9:aag->Exit×AS:=λ(a,b,c,e,f,g,h,i,j)=>(.exit 0,⟨(aS 32 []),[bV (.sS (sw Tryz.prog 4294967824) (nw ([bH,bH,bH,.dV bh a,.ptr (.bt 1) 0 [] 0,.ptr (.bt 2) 0 [] 0,.ptr (.bt 3) 0 [] 0]++aS 21 [])) 0),bV (.pr (.dy) (.pr (.dy) (.d (.pair ti .unit) b))),bV (.d ti c),bV (.d .bool e),bV (.ptr (.bt 5) 0 [] 0),bV (.pr (.ptr (.bt 6) 0 [] 0) (.pr (.bE (.bt 9) 0 [] 0 0 f) gg)),bV (.pr (.cI (.bt 7) 0) (.pr (.bE (.bt 8) 0 [] 0 0 g) gg)),bV (.mp bh fv h),bV (.vec 256 cR i),bV (.vec 48 eA j)],(ab 32 [])⟩)
abbrev UB:=(aaf)⊕(aag)
abbrev ahc:=((bJ×dR×Int×Nat×Nat×(List (bJ×eV))×(List cG)×(List dz)))⊕((bJ×(Int×Unit)×Int×Bool×Nat×Nat×(List (bJ×eV))×(List cG)×(List dz)))
def Jk:UB->Out (Exit×AS):=λx=> .br x.isLeft (.get x.getLeft? λa=> .ok (C8 a)) (.get x.getRight? λb=> .ok (C9 b))
def pS:Fg->ahc->UB:=λ(Wv,t11,t12,o0,o1,eZ,MS,o5L,o6L,auJ,auK,aga) y=>match y with | .inl y=> .inl y | .inr z=> .inr (z)
abbrev Fh:=Int×Nat×Int×Int×(List dR)×Int×Int×bJ×(Int×Unit)×Int×Bool×Nat×Nat×(List (bJ×eV))×(List cG)×(List dz)
noncomputable def wX:Fh->AS:=λ(i,Lm,Yx,Yy,t18,t19,t20,C5,eD,kP,Hm,Kg,Kh,ac4,ac5,ac6)=>⟨([.yl (.bt 0) 0,bH,bH,.d ti i]++aS 6 ([.bE (.bt 9) 0 [] 0 0 Lm,.d ti Yx,.d ti Yy]++aS 5 ([.d (.slice fa) t18,.d ti t19,.d ti t20]++aS 11 []))),[bV (.sS (sw Tryz.prog 4294967824) (nw ([bH,bH,bH,.dV bh C5,.ptr (.bt 1) 0 [] 0,.ptr (.bt 2) 0 [] 0,.ptr (.bt 3) 0 [] 0]++aS 21 [])) 0),bV (.pr (.dy) (.pr (.dy) (.d (.pair ti .unit) eD))),bV (.d ti kP),bV (.d .bool Hm),bV (.ptr (.bt 5) 0 [] 0),bV (.pr (.ptr (.bt 6) 0 [] 0) (.pr (.bE (.bt 9) 0 [] 0 0 Kg) gg)),bV (.pr (.cI (.bt 7) 0) (.pr (.bE (.bt 8) 0 [] 0 0 Kh) gg)),bV (.mp bh fv ac4),bV (.vec 256 cR ac5),bV (.vec 48 eA ac6)],(ab 32 [])⟩
abbrev aai:=(Nat×Nat×(List (bJ×eV))×(List cG)×(List dz))×(bJ×dR×Int)
noncomputable def Db:aai->Exit×AS:=λ((a,b,c,e,f),g,h,i)=>(.ret,⟨(aS 32 []),[bV (.sS (sw Tryz.prog 4294967824) (nw ([bH,bH,bH,.dV bh g,.ptr (.bt 1) 0 [] 0,.ptr (.bt 2) 0 [] 0,.ptr (.bt 3) 0 [] 0]++aS 21 [])) 2),bV (.d fa h),bV (.d ti i),bV (.d .bool aZ),bV (.ptr (.bt 5) 0 [] 0),bV (.pr (.ptr (.bt 6) 0 [] 0) (.pr (.bE (.bt 9) 0 [] 0 0 a) gg)),bV (.pr (.cI (.bt 7) 0) (.pr (.bE (.bt 8) 0 [] 0 0 b) gg)),bV (.mp bh fv c),bV (.vec 256 cR e),bV (.vec 48 eA f)],(ab 32 [])⟩)
abbrev aaj:=(Nat×Int×Int×Nat×Nat×(List (bJ×eV))×(List cG)×(List dz))×(bJ×(Int×Unit)×Int×Bool)
noncomputable def Dc:aaj->Exit×AS:=λ((a,b,c,e,f,g,h,i),j,k,l,m)=>(.exit 2,⟨([.yl (.bt 0) 0]++aS 9 ([.bE (.bt 9) 0 [] 0 0 a,.d ti b,.d ti c]++aS 19 [])),[bV (.sS (sw Tryz.prog 4294967824) (nw ([bH,bH,bH,.dV bh j,.ptr (.bt 1) 0 [] 0,.ptr (.bt 2) 0 [] 0,.ptr (.bt 3) 0 [] 0]++aS 21 [])) 0),bV (.pr (.dy) (.pr (.dy) (.d (.pair ti .unit) k))),bV (.d ti l),bV (.d .bool m),bV (.ptr (.bt 5) 0 [] 0),bV (.pr (.ptr (.bt 6) 0 [] 0) (.pr (.bE (.bt 9) 0 [] 0 0 e) gg)),bV (.pr (.cI (.bt 7) 0) (.pr (.bE (.bt 8) 0 [] 0 0 f) gg)),bV (.mp bh fv g),bV (.vec 256 cR h),bV (.vec 48 eA i)],(ab 32 [])⟩)
abbrev UD:=(aai)⊕(aaj)
abbrev ahf:=((bJ×dR×Int))⊕((bJ×(Int×Unit)×Int×Bool))
def Jl:UD->Out (Exit×AS):=λx=> .br x.isLeft (.get x.getLeft? λa=> .ok (Db a)) (.get x.getRight? λb=> .ok (Dc b))
def l5:Fh->ahf->UD:=λ(i,Lm,Yx,Yy,t18,t19,t20,C5,eD,kP,Hm,Kg,Kh,ac4,ac5,ac6) y=>match y with | .inl y=> .inl ((Kg,Kh,ac4,ac5,ac6),y) | .inr z=> .inr (((Lm,Yx,Yy,Kg,Kh,ac4,ac5,ac6),z))
abbrev aab:=bJ×(Int×Unit)×Int×Bool×Nat×Nat×(List (bJ×eV))×(List cG)×(List dz)
noncomputable def ajx:aab->SA:=λ(ir,o1bb,o2,o3,o5baL,o6baL,o7,o8,o9)=>([.yl (.bt 0) 0,.ptr (.bt 4) 0 [] 0],[bV (.sS (sw Tryz.prog 4294967824) (nw ([bH,bH,bH,.dV bh ir,.ptr (.bt 1) 0 [] 0,.ptr (.bt 2) 0 [] 0,.ptr (.bt 3) 0 [] 0]++aS 21 [])) 0),bV (.pr (.dy) (.pr (.dy) (.d (.pair ti .unit) o1bb))),bV (.d ti o2),bV (.d .bool o3),bV (.ptr (.bt 5) 0 [] 0),bV (.pr (.ptr (.bt 6) 0 [] 0) (.pr (.bE (.bt 9) 0 [] 0 0 o5baL) gg)),bV (.pr (.cI (.bt 7) 0) (.pr (.bE (.bt 8) 0 [] 0 0 o6baL) gg)),bV (.mp bh fv o7),bV (.vec 256 cR o8),bV (.vec 48 eA o9)])
abbrev aEw:=(bJ×dR×Int×Nat×Nat×(List (bJ×eV))×(List cG)×(List dz))⊕(bJ×(Int×Unit)×Int×Bool×Nat×Nat×(List (bJ×eV))×(List cG)×(List dz))
abbrev asA:=(bJ×dR×Int×Nat×Nat×(List (bJ×eV))×(List cG)×(List dz))⊕(bJ×(Int×Unit)×Int×Bool×Nat×Nat×(List (bJ×eV))×(List cG)×(List dz))
noncomputable def QY:asA->iB:=λx=>match x with | .inl x=>⟨.nil,[bV (.sS (sw Tryz.prog 4294967824) (nw ([bH,bH,bH,.dV bh x.1,.ptr (.bt 1) 0 [] 0,.ptr (.bt 2) 0 [] 0,.ptr (.bt 3) 0 [] 0]++aS 21 [])) 2),bV (.d fa x.2.1),bV (.d ti x.2.2.1),bV (.d .bool aZ),bV (.ptr (.bt 5) 0 [] 0),bV (.pr (.ptr (.bt 6) 0 [] 0) (.pr (.bE (.bt 9) 0 [] 0 0 x.2.2.2.1) gg)),bV (.pr (.cI (.bt 7) 0) (.pr (.bE (.bt 8) 0 [] 0 0 x.2.2.2.2.1) gg)),bV (.mp bh fv x.2.2.2.2.2.1),bV (.vec 256 cR x.2.2.2.2.2.2.1),bV (.vec 48 eA x.2.2.2.2.2.2.2)],[]⟩ | .inr x=>⟨.nil,[bV (.sS (sw Tryz.prog 4294967824) (nw ([bH,bH,bH,.dV bh x.1,.ptr (.bt 1) 0 [] 0,.ptr (.bt 2) 0 [] 0,.ptr (.bt 3) 0 [] 0]++aS 21 [])) 0),bV (.pr (.dy) (.pr (.dy) (.d (.pair ti .unit) x.2.1))),bV (.d ti x.2.2.1),bV (.d .bool x.2.2.2.1),bV (.ptr (.bt 5) 0 [] 0),bV (.pr (.ptr (.bt 6) 0 [] 0) (.pr (.bE (.bt 9) 0 [] 0 0 x.2.2.2.2.1) gg)),bV (.pr (.cI (.bt 7) 0) (.pr (.bE (.bt 8) 0 [] 0 0 x.2.2.2.2.2.1) gg)),bV (.mp bh fv x.2.2.2.2.2.2.1),bV (.vec 256 cR x.2.2.2.2.2.2.2.1),bV (.vec 48 eA x.2.2.2.2.2.2.2.2)],[]⟩
def aal:aab->aEw->asA:=λ(ir,o1bb,o2,o3,o5baL,o6baL,o7,o8,o9) y=>match y with | .inl y=> .inl y | .inr y=> .inr y
def Da:Fh->Prop:=λ(i,_,_,_,l,n,j,_)=>(0<=i/\i<=1000000)/\l.length<=1000000/\(∀t∈l,ng t)/\n=(l.length:Int)/\∃k:Nat,k<=l.length/\j=k
def rj:Fh->ahf:=λ(i,_,_,_,l,_,j,o,o1,o2,o3,_)=>match Wr o (l.drop j.toNat) with | some t=> .inl (o,asq t,i+1) | none=> .inr (o,o1,o2,o3)
def C7:Fg->Prop:=λ(nb,n,i,_,_,_,_,_,_,_,_,bs)=>asg nb bs/\n=(nb:Int)/\∃k:Nat,k<=nb/\i=k
def uq:Fg->ahc:=λ(nb,_,i,o,o1,o2,o3,o4,o5,m,st,bs)=>match CE o ((bs.take nb).drop i.toNat) i with
 |some x=> .inl (o,x.1,x.2,o4,o5,m,st,bs)
 |none=> .inr (o,o1,o2,o3,o4,o5,m,st,bs)
def aak:aab->Prop:=λ(_,_,_,_,nb,_,_,_,bs)=>asg nb bs
def aac:aab->aEw:=λ(o,o1,o2,o3,nb,o5,m,st,bs)=>match CE o (bs.take nb) 0 with
 |some x=> .inl (o,x.1,x.2,nb,o5,m,st,bs)
 |none=> .inr (o,o1,o2,o3,nb,o5,m,st,bs)
def aad:pO:=jQ (P:=Tryz.prog) [aC7]
def aha:=dI.fI wW C7 pS uq Jk
def QV:Fg->Option UB:=gO aha wW
def ahd:=dI.fI wX Da l5 rj Jl
def QW:Fh->Option UD:=gO ahd wX
def QX:yx:= {loops:=oJ [(1,{ba:=[0,10,11,12]}),(4,{ba:=[0,3,10,11,12,18,19,20]})],outs:=oI [(1,{},{}),(4,{ba:=[0,10,11,12]},{})],gf:=nQ [(1,aha),(4,ahd)]}
def aEu:= @Jg Tryz.prog aad QX 0 Tryz.f117 _ ajx
abbrev aLI:=ajq @aEu aak aal aac QY
def ahb:= @eG Tryz.prog aad QX 0 Tryz.f117 0 _ wW
abbrev aae:=j7 Tryz.prog aad QX 0 Tryz.f117 0 wW C7 pS uq Jk
def ahe:= @eG Tryz.prog aad QX 0 Tryz.f117 1 _ wX
abbrev aah:=j7 Tryz.prog aad QX 0 Tryz.f117 1 wX Da l5 rj Jl
theorem ane:jh QV C7 pS uq:=lH (jx [.n,.d ti,.d ti,.d bh,.d (.pair ti .unit),.d ti,.d .bool,.n,.n,.d (.slice (.pair bh fv)),.d (.slice cR),.d (.slice eA)] λ_=>cr)
theorem UC:mK @ahb wW C7 pS uq Jk aae:=nc
theorem Gl(Wv t11 t12 o0 o1 eZ MS o5L o6L auJ auK aga)(kn:K2 R)(kx:K3 R):ahb (Wv,t11,t12,o0,o1,eZ,MS,o5L,o6L,auJ,auK,aga) kn kx=aL (gz t12 t11) (aL (eL t12 ((Wv:Nat):Int)) (aL (decide ((0+(ae t12)) < (ag aga))) (aL (decide ((((0+(ae t12))*36)+0)=(0+((ae t12)*36)))) (al (QW (t12,Wv,t11,t12,(nth eA aga (0+(ae t12))).2.2.1,(((ag (nth eA aga (0+(ae t12))).2.2.1):Nat):Int),(0:Int),o0,o1,eZ,MS,o5L,o6L,auJ,auK,aga)) λx1=>aL x1.isLeft (al x1.getLeft? λa2=>kx (C8 (a2.2.1,a2.2.2.1,a2.2.2.2,a2.1.1,a2.1.2.1,a2.1.2.2.1,a2.1.2.2.2.1,a2.1.2.2.2.2)).1 (C8 (a2.2.1,a2.2.2.1,a2.2.2.2,a2.1.1,a2.1.2.1,a2.1.2.2.1,a2.1.2.2.2.1,a2.1.2.2.2.2)).2) (al x1.getRight? λb3=>kn (wW (b3.1.1,b3.1.2.1,(bO .i64 b3.1.2.2.1 (1:Int)),b3.2.1,b3.2.2.1,b3.2.2.2.1,b3.2.2.2.2,b3.1.2.2.2.1,b3.1.2.2.2.2.1,b3.1.2.2.2.2.2.1,b3.1.2.2.2.2.2.2.1,b3.1.2.2.2.2.2.2.2)))) aD) aD) aD) (kx (C9 (o0,o1,eZ,MS,o5L,o6L,auJ,auK,aga)).1 (C9 (o0,o1,eZ,MS,o5L,o6L,auJ,auK,aga)).2):=cr
theorem anf:jh QW Da l5 rj:=lH (jx [.d ti,.n,.d ti,.d ti,.d (.slice fa),.d ti,.d ti,.d bh,.d (.pair ti .unit),.d ti,.d .bool,.n,.n,.d (.slice (.pair bh fv)),.d (.slice cR),.d (.slice eA)] λ_=>cr)
theorem UE:mK @ahe wX Da l5 rj Jl aah:=nc
theorem Gm(i Lm Yx Yy t18 t19 t20 C5 eD kP Hm Kg Kh ac4 ac5 ac6)(kn:K2 R)(kx:K3 R):ahe (i,Lm,Yx,Yy,t18,t19,t20,C5,eD,kP,Hm,Kg,Kh,ac4,ac5,ac6) kn kx=aL (gz t20 t19) (aL (eL t20 (((ag t18):Nat):Int)) (same (sw Tryz.prog 4294967824) (sw Tryz.prog 4294967824) (al (Yu ((bO .i64 i (1:Int)),(nth fa t18 (ae t20)),C5,C5,eD,kP,Hm)) λx1=>aL x1.isLeft (al x1.getLeft? λaLq=>kx (Db ((Kg,Kh,ac4,ac5,ac6),(aLq.1.1,aLq.2,aLq.1.2))).1 (Db ((Kg,Kh,ac4,ac5,ac6),(aLq.1.1,aLq.2,aLq.1.2))).2) (al x1.getRight? λaLr=>kn (wX (i,Lm,Yx,Yy,t18,t19,(bO .i64 t20 (1:Int)),aLr.1,aLr.2.1,aLr.2.2.1,aLr.2.2.2,Kg,Kh,ac4,ac5,ac6))))) aD) (kx (Dc ((Lm,Yx,Yy,Kg,Kh,ac4,ac5,ac6),(C5,eD,kP,Hm))).1 (Dc ((Lm,Yx,Yy,Kg,Kh,ac4,ac5,ac6),(C5,eD,kP,Hm))).2):=cr
theorem aLJ(ir o1bb o2 o3 o5baL o6baL o7 o8 o9)(k:K1 R):aEu (ir,o1bb,o2,o3,o5baL,o6baL,o7,o8,o9) k=al (QV (o5baL,((o5baL:Nat):Int),(0:Int),ir,o1bb,o2,o3,o5baL,o6baL,o7,o8,o9)) λx5=>aL x5.isLeft (al x5.getLeft? λa6=>k (QY (.inl (a6.1,a6.2.1,a6.2.2.1,a6.2.2.2.1,a6.2.2.2.2.1,a6.2.2.2.2.2.1,a6.2.2.2.2.2.2.1,a6.2.2.2.2.2.2.2)))) (al x5.getRight? λb7=>k (QY (.inr (b7.1,b7.2.1,b7.2.2.1,b7.2.2.2.1,b7.2.2.2.2.1,b7.2.2.2.2.2.1,b7.2.2.2.2.2.2.1,b7.2.2.2.2.2.2.2.1,b7.2.2.2.2.2.2.2.2)))):=cr
theorem asz:aah:=by
 refine UE (λ(_,_,_,_,l,_,j,_)=>l.length - j.toNat) ?_
 rintro⟨i,nb,n0,i0,l,n,j,o,o1,o2,o3,o4,o5,m,st,bs⟩ ⟨⟨hi,aQ9⟩,hl,hv,rfl,k,hk,rfl⟩;have hl:l.length<=1000000:=hl;have hk:k<=l.length:=hk;have hi:0<=i:=hi;have aQ9:i<=1000000:=aQ9;by_cases iA:k < l.length
 ·have n1:nth fa l k=l[k]:=cg (t:=fa) iA;have hd:l.drop k=l[k]::l.drop (k+1):=aq iA;have hw:=av6 (d:=(i+1,l[k],o,o,o1,o2,o3)) (hv _ (aO iA));by_cases he:(eh l[k]).any (ash o)=aZ
  ·right;refine⟨Db ((o4,o5,m,st,bs),(o,asq l[k],i+1)),?_,λkn kx=> ?_⟩;rotate_left
   ·rw[Gm,aX ak,aj,bj ak ak,aj,aa,n1,Wk,gD ak ak,hw];simp only[ah,Gd,if_pos he,CD,nu,aj,kN]
   ·simp only[l5,rj,aa,hd,Wr,if_pos he];rfl
  ·left;refine⟨(i,nb,n0,i0,l,(l.length:Int),((k+1:Nat):Int),o,o1,o2,o3,o4,o5,m,st,bs),⟨⟨hi,aQ9⟩,hl,hv,rfl,k+1,ak,rfl⟩,by simp only[aa];omega,?_,λkn kx=> ?_⟩
   ·simp only[l5,rj,aa,hd,Wr,if_neg he]
   ·rw[Gm,aX ak,aj,bj ak ak,aj,aa,n1,Wk,gD ak ak,hw];simp only[ah,Gd,if_neg he,CD,dJ,ao,cW];rw[N.mZ ak]
 ·right;obtain rfl:k=l.length:=ak;refine⟨Dc ((nb,n0,i0,o4,o5,m,st,bs),(o,o1,o2,o3)),?_,λkn kx=> ?_⟩;rotate_left
  ·rw[Gm,aU ak,ao]
  ·simp only[l5,rj,aa,aN,Wr];rfl
theorem asy:aae:=by
 refine UC (λ(nb,_,i,_)=>nb - i.toNat) ?_
 rintro⟨nb,n,i,o,o1,o2,o3,o4,o5,m,st,bs⟩ ⟨⟨h1,h2,h3⟩,rfl,k,hk,rfl⟩;have h1:nb<=bs.length:=h1;have h2:nb<=1000000:=h2;have hk:k<=nb:=hk;by_cases iA:k < nb
 ·have hb:k < bs.length:=ak;have n1:nth eA bs k=bs[k]:=cg (t:=eA) hb;have hd:(bs.take nb).drop k=bs[k]::(bs.take nb).drop (k+1):=by have:=aq (l:=bs.take nb) (i:=k) (by rw[bB];omega);rwa[List.getElem_take]at this
  obtain⟨⟨q1,q2⟩,_⟩:=h3 _ (aO hb);have q1:bs[k].2.2.1.length<=1000000:=jb q1 fg;have hw:=anf (d:=((k:Int),nb,(nb:Int),(k:Int),bs[k].2.2.1,(bs[k].2.2.1.length:Int),0,o,o1,o2,o3,o4,o5,m,st,bs)) ⟨⟨ak,ak⟩,q1,q2,rfl,0,aP _,rfl⟩;have z1:((0:Int)).toNat=0:=rfl;cases he:Wr o bs[k].2.2.1 with
  |some t=>
   right;refine⟨C8 (o,asq t,(k:Int)+1,o4,o5,m,st,bs),?_,λkn kx=> ?_⟩;rotate_left
   ·rw[Gl,aX ak,aj,bj ak ak,aj,aa,aR,eO hb,aj,eO ak,aj,n1,hw];simp only[ah,rj,z1,aG,he,l5,nu,aj,kN]
   ·simp only[pS,uq,aa,hd,CE,he];rfl
  |none=>
   left;refine⟨(nb,(nb:Int),((k+1:Nat):Int),o,o1,o2,o3,o4,o5,m,st,bs),⟨⟨h1,h2,h3⟩,rfl,k+1,ak,rfl⟩,by simp only[aa];omega,?_,λkn kx=> ?_⟩
   ·simp only[pS,uq,aa,hd,CE,he];rfl
   ·rw[Gl,aX ak,aj,bj ak ak,aj,aa,aR,eO hb,aj,eO ak,aj,n1,hw];simp only[ah,rj,z1,aG,he,l5,dJ,ao,cW];rw[N.mZ ak]
 ·right;obtain rfl:k=nb:=ak;refine⟨C9 (o,o1,o2,o3,o4,o5,m,st,bs),?_,λkn kx=> ?_⟩;rotate_left
  ·rw[Gl,aU ak,ao]
  ·have hd:(bs.take k).drop k=[]:=List.drop_eq_nil_of_le (by rw[bB];omega);simp only[pS,uq,aa,hd,CE];rfl
theorem aLK:aLI:=by
 rintro⟨o,o1,o2,o3,nb,o5,m,st,bs⟩ h;have h:asg nb bs:=h;rw[aLJ,ane (d:=(nb,(nb:Int),0,o,o1,o2,o3,nb,o5,m,st,bs)) ⟨h,rfl,0,aP _,rfl⟩];have z1:((0:Int)).toNat=0:=rfl;simp only[ah,uq,z1,aG,aac];cases CE o (bs.take nb) 0 with
 |some h=>rfl
 |none=>rfl
def aEv:=Entry.af5 [aD,aD] ajx aak aal aac QY
def ahg:aab->Option asA:=Nd aEv ajx
theorem aEx:jh ahg aak aal aac:=aef (YW [.d bh,.d (.pair ti .unit),.d ti,.d .bool,.n,.n,.d (.slice (.pair bh fv)),.d (.slice cR),.d (.slice eA)] λ_=>cr)
def aLL:SG Tryz.prog:=⟨117,nh,aEv,.of (.aP6 (.fn 2 cr aLK (And.intro (.fI asy cr) (And.intro (.fI asz cr) trivial)))) (by rfl)⟩
abbrev ahy:=bJ×Nat×Nat×(List (bJ×eV))×(List cG)×(List dz)
def an5:ahy->Prop:=λ(_,nb,_,_,_,bs)=>asg nb bs
def UZ:ahy->(dR×Int×Bool×Nat×Nat×(List (bJ×eV))×(List cG)×(List dz)):=λ(o,nb,n,m,st,bs)=>match CE o (bs.take nb) 0 with
 |some x=>(x.1,x.2,aZ,nb,n,m,st,bs)
 |none=>(fa.zero,0,aQ,nb,n,m,st,bs)
def xG:Fs Tryz.prog an5 bC UZ:=fw 33 Tryz.f33 (λ(o,o0baL,o1baL,o2,o3,o4)=>([.ptr (.bt 0) 0 [] 0,.d bh o],[.obj 0 aQ (.pr (.ptr (.bt 1) 0 [] 0) (.pr (.bE (.bt 4) 0 [] 0 0 o0baL) (.d .unit ()))),.obj 0 aQ (.pr (.cI (.bt 2) 0) (.pr (.bE (.bt 3) 0 [] 0 0 o1baL) (.d .unit ()))),.obj 0 aQ (.mp bh fv o2),.obj 0 aQ (.vec 256 cR o3),.obj 0 aQ (.vec 48 eA o4)])) (λx=>⟨.cons (.d fa x.1) (.cons (.d ti x.2.1) (.cons (.d .bool x.2.2.1) (.nil))),[.obj 0 aQ (.pr (.ptr (.bt 1) 0 [] 0) (.pr (.bE (.bt 4) 0 [] 0 0 x.2.2.2.1) (.d .unit ()))),.obj 0 aQ (.pr (.cI (.bt 2) 0) (.pr (.bE (.bt 3) 0 [] 0 0 x.2.2.2.2.1) (.d .unit ()))),.obj 0 aQ (.mp bh fv x.2.2.2.2.2.1),.obj 0 aQ (.vec 256 cR x.2.2.2.2.2.2.1),.obj 0 aQ (.vec 48 eA x.2.2.2.2.2.2.2)],[]⟩) [aD,av bh] [aFr,aLL] {res:=[av fa,aD,aD],rf:=nQ [(13,(4294967824,[3,4,5,6]))]}
theorem atk(o o0baL o1baL o2 o3 o4)(k:K1 R):xG.A (o,o0baL,o1baL,o2,o3,o4) k=al (aaM.call (o0baL,o1baL,o2,o3,o4)) λx1=>al (ahg (o,(0,()),0,aQ,x1.1,x1.2.1,x1.2.2.1,x1.2.2.2.1,x1.2.2.2.2)) λx2=>aL x2.isLeft (al x2.getLeft? λaSt=>k (xG.out (aSt.2.1,aSt.2.2.1,aZ,aSt.2.2.2.1,aSt.2.2.2.2.1,aSt.2.2.2.2.2.1,aSt.2.2.2.2.2.2.1,aSt.2.2.2.2.2.2.2))) (al x2.getRight? λaUP=>k (xG.out ((([]:List iF),(([]:List iu),(0,()))),0,aQ,aUP.2.2.2.2.1,aUP.2.2.2.2.2.1,aUP.2.2.2.2.2.2.1,aUP.2.2.2.2.2.2.2.1,aUP.2.2.2.2.2.2.2.2))):=cr
theorem atl:xG.Ok:=by
 rintro⟨o,nb,n,m,st,bs⟩ h;have h:asg nb bs:=h;rw[atk,azJ (d:=(nb,n,m,st,bs)) trivial];simp only[ah,ahr,axd];rw[aEx (d:=(o,(0,()),0,aQ,nb,n,m,st,bs)) h];simp only[ah,aac,UZ];cases CE o (bs.take nb) 0 with
 |some h=>rfl
 |none=>rfl
theorem an6:xG.RS:=rE [.d bh,.n,.n,.d (.slice (.pair bh fv)),.d (.slice cR),.d (.slice eA)] xG
def atm:=xG.fC atl
abbrev BJ:=Int×Int×Nat×(List (bJ×eV))×(List cG)
def uv:BJ->AS:=λ(t7,t8,o0L,eD,eZ)=>⟨([.ptr (.bt 0) 0 [] 0]++aS 6 ([.d ti t7,.d ti t8]++aS 5 [])),[bV (.pr (.cI (.bt 1) 0) (.pr (.bE (.bt 2) 0 [] 0 0 o0L) gg)),bV (.mp bh fv eD),bV (.vec 256 cR eZ)],(ab 14 [])⟩
abbrev WW:=Nat×(List (bJ×eV))×(List cG)
def zT:WW->Exit×AS:=λ(a,b,c)=>(.ret,⟨(aS 4 ([.d .bool aQ]++aS 9 [])),[bV (.pr (.cI (.bt 1) 0) (.pr (.bE (.bt 2) 0 [] 0 0 a) gg)),bV (.mp bh fv b),bV (.vec 256 cR c)],(ab 14 [])⟩)
abbrev WX:=Nat×(List (bJ×eV))×(List cG)
def zU:WX->Exit×AS:=λ(a,b,c)=>(.exit 0,⟨(aS 14 []),[bV (.pr (.cI (.bt 1) 0) (.pr (.bE (.bt 2) 0 [] 0 0 a) gg)),bV (.mp bh fv b),bV (.vec 256 cR c)],(ab 14 [])⟩)
abbrev O2:=(WW)⊕(WX)
abbrev aaG:=((Nat×(List (bJ×eV))×(List cG)))⊕((Nat×(List (bJ×eV))×(List cG)))
def Gr:O2->Out (Exit×AS):=λx=> .br x.isLeft (.get x.getLeft? λa=> .ok (zT a)) (.get x.getRight? λb=> .ok (zU b))
def oA:BJ->aaG->O2:=λ(t7,t8,o0L,eD,eZ) y=>match y with | .inl y=> .inl y | .inr z=> .inr (z)
abbrev aw7:=dz×Nat×(List (bJ×eV))×(List cG)
def Gf:Nat->aEp->Bool×aEp
 | 0,S=>(aZ,S)
 |k+1,S=>if S.1=0 then(aQ,S) else Gf k (S.1 - 1,y8 S.2.1 (nth cR S.2.2 (S.1 - 1)),S.2.2)
def asu(n:Nat)(s:List cG):Prop:=n<=s.length/\s.length<=1000000/\∀st∈s,ajt st
theorem aKV:∀(k:Nat) (S:aEp),asu S.1 S.2.2->asu (Gf k S).2.1 (Gf k S).2.2.2
 | 0,S,h=>h
 |k+1,S,h=>by
  unfold Gf;split
  ·exact h
  ·exact aKV k _ ⟨by have:=h.1;show S.1 - 1<=S.2.2.length;omega,h.2⟩
def zS:BJ->Prop:=λ(d,i,n,_,s)=>asu n s/\∃m k:Nat,d=m/\i=k/\k<=m/\m<=1000
def pU:BJ->aaG:=λ(d,i,n,a,s)=>if(Gf (d - i).toNat (n,a,s)).1=aZ then .inr (Gf (d - i).toNat (n,a,s)).2 else .inl (Gf (d - i).toNat (n,a,s)).2
def azl:aw7->Prop:=λ(b,n,_,s)=>b.2.2.1.length<=1000/\asu n s
def ajG:aw7->(Bool×Nat×(List (bJ×eV))×(List cG)):=λ(b,n,a,s)=>Gf b.2.2.1.length (n,a,s)
def aaE:=dI.fI uv zS oA pU Gr
def M8:BJ->Option O2:=gO aaE uv
def Ii:Fs Tryz.prog azl bC ajG:=fw 104 Tryz.f104 (λ(b,o0baL,o1,o2)=>([.ptr (.bt 0) 0 [] 0,.d eA b],[.obj 0 aQ (.pr (.cI (.bt 1) 0) (.pr (.bE (.bt 2) 0 [] 0 0 o0baL) (.d .unit ()))),.obj 0 aQ (.mp bh fv o1),.obj 0 aQ (.vec 256 cR o2)])) (λx=>⟨.d .bool x.1,[.obj 0 aQ (.pr (.cI (.bt 1) 0) (.pr (.bE (.bt 2) 0 [] 0 0 x.2.1) (.d .unit ()))),.obj 0 aQ (.mp bh fv x.2.2.1),.obj 0 aQ (.vec 256 cR x.2.2.2)],[]⟩) [aD,av eA] [aGq] {loops:=oJ [(2,{ba:=[0,7,8]})],outs:=oI [(2,{},{ba:=[4]})],gf:=nQ [(2,aaE)]}
def aaF:= @eG Tryz.prog (jQ Ii.G) Ii.an 0 Tryz.f104 0 _ uv
abbrev WV:=j7 Tryz.prog (jQ Ii.G) Ii.an 0 Tryz.f104 0 uv zS oA pU Gr
theorem ajH:jh M8 zS oA pU:=lH (jx [.d ti,.d ti,.n,.d (.slice (.pair bh fv)),.d (.slice cR)] λ_=>cr)
theorem Ra:mK @aaF uv zS oA pU Gr WV:=nc
theorem Ej(t7 t8 o0L eD eZ)(kn:K2 R)(kx:K3 R):aaF (t7,t8,o0L,eD,eZ) kn kx=aL (gz t8 t7) (al (BZ.call (o0L,eD,eZ)) λx1=>aL (!x1.1) (kx (zT (x1.2.1,x1.2.2.1,x1.2.2.2)).1 (zT (x1.2.1,x1.2.2.1,x1.2.2.2)).2) (kn (uv (t7,(bO .i64 t8 (1:Int)),x1.2.1,x1.2.2.1,x1.2.2.2)))) (kx (zU (o0L,eD,eZ)).1 (zU (o0L,eD,eZ)).2):=cr
theorem aE1(b o0baL o1 o2)(k:K1 R):Ii.A (b,o0baL,o1,o2) k=al (M8 ((b.2.2.1.length:Int),0,o0baL,o1,o2)) λx2=>aL x2.isLeft (al x2.getLeft? λa3=>k (Ii.out (aQ,a3.1,a3.2.1,a3.2.2))) (al x2.getRight? λb4=>k (Ii.out (aZ,b4.1,b4.2.1,b4.2.2))):=cr
theorem anG:WV:=by
 refine Ra (λ(d,i,_)=>(d - i).toNat) ?_
 rintro⟨d,i,n,a,s⟩ ⟨hg,m,k,rfl,rfl,hk,hm⟩;have hg:asu n s:=hg;have hk:k<=m:=hk;have hm:m<=1000:=hm;by_cases iA:k < m
 ·obtain⟨j,hj⟩:∃j,m=k+1+j:=⟨m - (k+1),ak⟩;have e1:((m:Int) - (k:Int)).toNat=j+1:=ak;have e2:((m:Int) - ((k+1:Nat):Int)).toNat=j:=ak;have hc:=ahL (d:=(n,a,s)) hg;by_cases h0:n=0
  ·right;refine⟨zT (n,a,s),?_,λkn kx=> ?_⟩;rotate_left
   ·rw[Ej,aX ak,aj,hc];simp only[ah,bC,ZA,if_pos h0,fH,aj]
   ·simp only[oA,pU,e1,Gf,if_pos h0,bw,bA];rfl
  ·left;refine⟨((m:Int),((k+1:Nat):Int),n - 1,y8 a (nth cR s (n - 1)),s),⟨⟨by have:=hg.1;omega,hg.2⟩,m,k+1,rfl,rfl,ak,hm⟩,by simp only[e1,e2];omega,?_,λkn kx=> ?_⟩
   ·simp only[oA,pU,e1,e2];rw[Gf,if_neg h0]
   ·rw[Ej,aX ak,aj,hc];simp only[ah,bC,ZA,if_neg h0,cQ,ao];rw[N.mZ ak]
 ·right;obtain rfl:k=m:=ak;refine⟨zU (n,a,s),?_,λkn kx=> ?_⟩;rotate_left
  ·rw[Ej,aU ak,ao]
  ·have e1:((k:Int) - (k:Int)).toNat=0:=ak;simp only[oA,pU,e1,Gf,bM];rfl
theorem aE2:Ii.Ok:=by
 rintro⟨b,n,a,s⟩ ⟨hl,hg⟩;have hl:b.2.2.1.length<=1000:=hl;have e:((b.2.2.1.length:Int) - 0).toNat=b.2.2.1.length:=ak;rw[aE1,ajH (d:=((b.2.2.1.length:Int),0,n,a,s)) ⟨hg,b.2.2.1.length,0,rfl,rfl,aP _,hl⟩];simp only[ah,pU,e,ajG];cases hu:Gf b.2.2.1.length (n,a,s) with
 |mk r S=>
  cases r with
  |true=>rfl
  |false=>rfl
theorem azm:Ii.RS:=rE [.d eA,.n,.d (.slice (.pair bh fv)),.d (.slice cR)] Ii
def aE3:=Ii.fC aE2 1 ⟨.fI anG,trivial⟩
abbrev vi:=(List dz)×Int×Int×Nat×Nat×(List (bJ×eV))×(List cG)×(List dz)×Nat×Nat×(List (bJ×eV))×(List cG)×(List dz)
def ph:vi->AS:=λ(wJ,t32,t33,o0L,o1L,eZ,MS,AT,P5,P6,n31,acJ,NT)=>⟨([.ptr (.bt 0) 0 [] 0,bH,.d (.slice eA) wJ]++aS 4 ([fx 31]++aS 24 ([.d ti t32,.d ti t33]++aS 47 []))),[bV (.pr (.ptr (.bt 1) 0 [] 0) (.pr (.bE (.bt 4) 0 [] 0 0 o0L) gg)),bV (.pr (.cI (.bt 2) 0) (.pr (.bE (.bt 3) 0 [] 0 0 o1L) gg)),bV (.mp bh fv eZ),bV (.vec 256 cR MS),bV (.vec 48 eA AT)],(bS 31 ([[bV (.pr (.ptr (.new 31 1) 0 [] 0) (.pr (.bE (.new 31 4) 0 [] 0 0 P5) gg)),bV (.pr (.cI (.new 31 2) 0) (.pr (.bE (.new 31 3) 0 [] 0 0 P6) gg)),bV (.mp bh fv n31),bV (.vec 256 cR acJ),bV (.vec 48 eA NT)]]++bS 49 []))⟩
abbrev Nh:=((List dz)×Nat×Nat×(List (bJ×eV))×(List cG)×(List dz)×(List dz))×(Nat×Nat×(List (bJ×eV))×(List cG))
def vk:Nh->Exit×AS:=λ((a,b,c,e,f,g,h),i,j,k,l)=>(.exit 1,⟨([.ptr (.bt 0) 0 [] 0,bH,.d (.slice eA) a]++aS 4 ([fx 31]++aS 73 [])),[bV (.pr (.ptr (.bt 1) 0 [] 0) (.pr (.bE (.bt 4) 0 [] 0 0 b) gg)),bV (.pr (.cI (.bt 2) 0) (.pr (.bE (.bt 3) 0 [] 0 0 c) gg)),bV (.mp bh fv e),bV (.vec 256 cR f),bV (.vec 48 eA g)],(bS 31 ([[bV (.pr (.ptr (.new 31 1) 0 [] 0) (.pr (.bE (.new 31 4) 0 [] 0 0 i) gg)),bV (.pr (.cI (.new 31 2) 0) (.pr (.bE (.new 31 3) 0 [] 0 0 j) gg)),bV (.mp bh fv k),bV (.vec 256 cR l),bV (.vec 48 eA h)]]++bS 49 []))⟩)
abbrev GB:=Nh
def Jx:GB->Out (Exit×AS):=λx=> .ok (vk x)
def kY:vi->(Nat×Nat×(List (bJ×eV))×(List cG))->GB:=λ(wJ,t32,t33,o0L,o1L,eZ,MS,AT,P5,P6,n31,acJ,NT) y=>((wJ,o0L,o1L,eZ,MS,AT,NT),y)
abbrev vl:=(List dz)×Int×Int×Nat×Nat×(List (bJ×eV))×(List cG)×(List dz)×Nat×Nat×(List (bJ×eV))×(List cG)×(List dz)
def pj:vl->AS:=λ(t63,t64,t65,iU,vR,kP,Hm,ac3,P7,P8,acK,acL,acM)=>⟨([.ptr (.bt 0) 0 [] 0]++aS 6 ([fx 31]++aS 55 ([.d (.slice eA) t63,.d ti t64,.d ti t65]++aS 15 []))),[bV (.pr (.ptr (.bt 1) 0 [] 0) (.pr (.bE (.bt 4) 0 [] 0 0 iU) gg)),bV (.pr (.cI (.bt 2) 0) (.pr (.bE (.bt 3) 0 [] 0 0 vR) gg)),bV (.mp bh fv kP),bV (.vec 256 cR Hm),bV (.vec 48 eA ac3)],(bS 31 ([[bV (.pr (.ptr (.new 31 1) 0 [] 0) (.pr (.bE (.new 31 4) 0 [] 0 0 P7) gg)),bV (.pr (.cI (.new 31 2) 0) (.pr (.bE (.new 31 3) 0 [] 0 0 P8) gg)),bV (.mp bh fv acK),bV (.vec 256 cR acL),bV (.vec 48 eA acM)]]++bS 49 []))⟩
abbrev Nj:=(Nat×Nat×(List (bJ×eV))×(List cG)×(List dz))×(Int)
def vn:Nj->Exit×AS:=λ((a,b,c,e,f),g)=>(.ret,⟨(aS 6 ([.d ti g]++aS 74 [])),[bV (.pr (.ptr (.bt 1) 0 [] 0) (.pr (.bE (.bt 4) 0 [] 0 0 a) gg)),bV (.pr (.cI (.bt 2) 0) (.pr (.bE (.bt 3) 0 [] 0 0 b) gg)),bV (.mp bh fv c),bV (.vec 256 cR e),bV (.vec 48 eA f)],(ab 81 [])⟩)
abbrev Nk:=(Nat×Nat×(List (bJ×eV))×(List cG)×(List dz))×(Nat×Nat×(List (bJ×eV))×(List cG)×(List dz))
def vo:Nk->Exit×AS:=λ((a,b,c,d,e),f,g,h,i,j)=>(.exit 3,⟨([.ptr (.bt 0) 0 [] 0]++aS 6 ([fx 31]++aS 73 [])),[bV (.pr (.ptr (.bt 1) 0 [] 0) (.pr (.bE (.bt 4) 0 [] 0 0 a) gg)),bV (.pr (.cI (.bt 2) 0) (.pr (.bE (.bt 3) 0 [] 0 0 b) gg)),bV (.mp bh fv c),bV (.vec 256 cR d),bV (.vec 48 eA e)],(bS 31 ([[bV (.pr (.ptr (.new 31 1) 0 [] 0) (.pr (.bE (.new 31 4) 0 [] 0 0 f) gg)),bV (.pr (.cI (.new 31 2) 0) (.pr (.bE (.new 31 3) 0 [] 0 0 g) gg)),bV (.mp bh fv h),bV (.vec 256 cR i),bV (.vec 48 eA j)]]++bS 49 []))⟩)
abbrev GC:=(Nj)⊕(Nk)
abbrev Rp:=(Int)⊕((Nat×Nat×(List (bJ×eV))×(List cG)×(List dz)))
def BN:GC->Out (Exit×AS):=λx=> .br x.isLeft (.get x.getLeft? λa=> .ok (vn a)) (.get x.getRight? λb=> .ok (vo b))
def kZ:vl->Rp->GC:=λ(t63,t64,t65,iU,vR,kP,Hm,ac3,P7,P8,acK,acL,acM) y=>match y with | .inl y=> .inl ((iU,vR,kP,Hm,ac3),y) | .inr z=> .inr (((iU,vR,kP,Hm,ac3),z))
abbrev Fp:=Int×(List dz)×Nat×Nat×(List (bJ×eV))×(List cG)×(List dz)
def Pb:Fp->SA:=λ(depth,l,o0baL,o1baL,o2,o3,o4)=>([.ptr (.bt 0) 0 [] 0,.d ti depth,.d (.slice eA) l],[bV (.pr (.ptr (.bt 1) 0 [] 0) (.pr (.bE (.bt 4) 0 [] 0 0 o0baL) gg)),bV (.pr (.cI (.bt 2) 0) (.pr (.bE (.bt 3) 0 [] 0 0 o1baL) gg)),bV (.mp bh fv o2),bV (.vec 256 cR o3),bV (.vec 48 eA o4)])
abbrev ahx:=(Int×Nat×Nat×(List (bJ×eV))×(List cG)×(List dz))⊕(Int×Nat×Nat×(List (bJ×eV))×(List cG)×(List dz)×Nat×(List (bJ×eV))×(List cG)×(List dz))
abbrev LY:=(Int×Nat×Nat×(List (bJ×eV))×(List cG)×(List dz))⊕(Int×Nat×Nat×(List (bJ×eV))×(List cG)×(List dz)×Nat×(List (bJ×eV))×(List cG)×(List dz))
def nV:LY->iB:=λx=>match x with | .inl x=>⟨.d ti x.1,[bV (.pr (.ptr (.bt 1) 0 [] 0) (.pr (.bE (.bt 4) 0 [] 0 0 x.2.1) gg)),bV (.pr (.cI (.bt 2) 0) (.pr (.bE (.bt 3) 0 [] 0 0 x.2.2.1) gg)),bV (.mp bh fv x.2.2.2.1),bV (.vec 256 cR x.2.2.2.2.1),bV (.vec 48 eA x.2.2.2.2.2)],[]⟩ | .inr x=>⟨.d ti x.1,[bV (.pr (fx 0) (.pr (.bE (.new 0 3) 0 [] 0 0 x.2.1) gg)),bV (.pr (.cI (.bt 2) 0) (.pr (.bE (.bt 3) 0 [] 0 0 x.2.2.1) gg)),bV (.mp bh fv x.2.2.2.1),bV (.vec 256 cR x.2.2.2.2.1),bV (.vec 48 eA x.2.2.2.2.2.1)],[bV (.pr (.cI (.new 0 1) 0) (.pr (.bE (.new 0 2) 0 [] 0 0 x.2.2.2.2.2.2.1) gg)),bV (.mp bh fv x.2.2.2.2.2.2.2.1),bV (.vec 256 cR x.2.2.2.2.2.2.2.2.1),bV (.vec 48 eA x.2.2.2.2.2.2.2.2.2)]⟩
def Jy:Fp->ahx->LY:=λ(depth,l,o0baL,o1baL,o2,o3,o4) y=>match y with | .inl y=> .inl y | .inr y=> .inr y
abbrev aUQ:=Nat×Nat×At×List cG×List dz
def yC(bs:List dz):Nat->Nat×aEp->Nat×aEp
 | 0,X=>X
 |k+1,X=>yC bs k (X.1 - 1,(Gf (nth eA bs (X.1 - 1)).2.2.1.length X.2).2)
def jN:List dz->aUQ->Int×aUQ
 |[],S=>(0,S)
 |b::l,S=>if(na b S.1 (S.2.1,S.2.2.1,S.2.2.2.1) S.2.2.2.2).1≠0 then na b S.1 (S.2.1,S.2.2.1,S.2.2.2.1) S.2.2.2.2 else jN l (na b S.1 (S.2.1,S.2.2.1,S.2.2.2.1) S.2.2.2.2).2
def Z7:List dz->aUQ->Prop
 |[],_=>True
 |b::l,S=>UX (b,S)/\((na b S.1 (S.2.1,S.2.2.1,S.2.2.2.1) S.2.2.2.2).1=0->Z7 l (na b S.1 (S.2.1,S.2.2.1,S.2.2.2.1) S.2.2.2.2).2)
def vj:vi->Prop:=λ(_,d,i,_,_,_,_,_,nb,n,_,s,bs)=>asu n s/\asg nb bs/\∃m k:Nat,d=m/\i=k/\k<=m/\m<=1000/\m<=k+nb
def oD:vi->(Nat×Nat×(List (bJ×eV))×(List cG)):=λ(_,d,i,_,_,_,_,_,nb,n,a,s,bs)=>yC bs (d - i).toNat (nb,n,a,s)
def vm:vl->Prop:=λ(l,m,i,_,_,_,_,_,nb,n,a,s,bs)=>l.length<=1000000/\m=(l.length:Int)/\∃k:Nat,k<=l.length/\i=k/\Z7 (l.drop k) (nb,n,a,s,bs)
def ma:vl->Rp:=λ(l,_,i,_,_,_,_,_,nb,n,a,s,bs)=>if(jN (l.drop i.toNat) (nb,n,a,s,bs)).1≠0 then .inl (jN (l.drop i.toNat) (nb,n,a,s,bs)).1 else .inr (jN (l.drop i.toNat) (nb,n,a,s,bs)).2
def BH(d:Int)(nb n:Nat)(a:At)(s:List cG)(bs:List dz):aUQ:=((yC (bs.take nb) d.toNat (nb,n,jF a,s.take n)).1,(yC (bs.take nb) d.toNat (nb,n,jF a,s.take n)).2.1,(yC (bs.take nb) d.toNat (nb,n,jF a,s.take n)).2.2.1,(yC (bs.take nb) d.toNat (nb,n,jF a,s.take n)).2.2.2,bs.take nb)
def yF:Fp->Prop:=λ(d,l,nb,n,a,s,bs)=>asg nb bs/\Ff 400 n a s/\l.length<=1000000/\((1<=d/\d<=nb/\d < l.length/\d<=6)->Z7 l (BH d nb n a s bs))
def jY:Fp->ahx:=λ(d,l,nb,n,a,s,bs)=>if 1<=d/\d<=nb/\d < l.length then if d<=6 then if(jN l (BH d nb n a s bs)).1≠0 then .inl ((jN l (BH d nb n a s bs)).1,nb,n,a,s,bs) else .inr (0,(jN l (BH d nb n a s bs)).2.1,n,a,s,bs,(jN l (BH d nb n a s bs)).2.2) else .inl (25,nb,n,a,s,bs) else .inl (1,nb,n,a,s,bs)
def Fq:pO:=jQ (P:=Tryz.prog) [Dj,azN,aE3,anX]
def Rk:=dI.fI ph vj kY oD Jx
def Im:vi->Option GB:=gO Rk ph
def Rn:=dI.fI pj vm kZ ma BN
def Ip:vl->Option GC:=gO Rn pj
def BO:yx:= {loops:=oJ [(7,{ba:=[0,2,7,32,33],sites:=[31]}),(13,{ba:=[0,7,63,64,65],sites:=[31],owns:=[⟨7,[.snd,.fst],31,25⟩]})],outs:=oI [(7,{ba:=[0,2,7],sites:=[31]},{ba:=[6]}),(13,{ba:=[0,7],sites:=[31]},{ba:=[6]})],gf:=nQ [(7,Rk),(13,Rn)]}
def ahv:= @Jg Tryz.prog Fq BO 0 Tryz.f56 _ Pb
abbrev atf:=ajq @ahv yF Jy jY nV
def Rm:= @eG Tryz.prog Fq BO 0 Tryz.f56 0 _ ph
abbrev Ng:=j7 Tryz.prog Fq BO 0 Tryz.f56 0 ph vj kY oD Jx
def Ro:= @eG Tryz.prog Fq BO 0 Tryz.f56 1 _ pj
abbrev Ni:=j7 Tryz.prog Fq BO 0 Tryz.f56 1 pj vm kZ ma BN
theorem aaT:jh Im vj kY oD:=lH (jx [.d (.slice eA),.d ti,.d ti,.n,.n,.d (.slice (.pair bh fv)),.d (.slice cR),.d (.slice eA),.n,.n,.d (.slice (.pair bh fv)),.d (.slice cR),.d (.slice eA)] λ_=>cr)
theorem ML:aEj @Rm ph vj kY oD vk Ng:=aQx
theorem Io(wJ t32 t33 o0L o1L eZ MS AT P5 P6 n31 acJ NT)(kn:K2 R)(kx:K3 R):Rm (wJ,t32,t33,o0L,o1L,eZ,MS,AT,P5,P6,n31,acJ,NT) kn kx=aL (gz t33 t32) (aL (eL (da .i64 ((P5:Nat):Int) (1:Int)) ((P5:Nat):Int)) (aL (decide ((0+(ae (da .i64 ((P5:Nat):Int) (1:Int)))) < (ag NT))) (aL (decide ((((0+(ae (da .i64 ((P5:Nat):Int) (1:Int))))*36)+0)=(0+((ae (da .i64 ((P5:Nat):Int) (1:Int)))*36)))) (al (Ii.call ((nth eA NT (0+(ae (da .i64 ((P5:Nat):Int) (1:Int))))),P6,n31,acJ)) λx1=>aL (inc (da .i64 ((P5:Nat):Int) (1:Int)) ((P5:Nat):Int)) (kn (ph (wJ,t32,(bO .i64 t33 (1:Int)),o0L,o1L,eZ,MS,AT,((ae (da .i64 ((P5:Nat):Int) (1:Int))) - 0),x1.2.1,x1.2.2.1,x1.2.2.2,NT))) aD) aD) aD) aD) (kx (vk ((wJ,o0L,o1L,eZ,MS,AT,NT),(P5,P6,n31,acJ))).1 (vk ((wJ,o0L,o1L,eZ,MS,AT,NT),(P5,P6,n31,acJ))).2):=cr
theorem aaU:jh Ip vm kZ ma:=lH (jx [.d (.slice eA),.d ti,.d ti,.n,.n,.d (.slice (.pair bh fv)),.d (.slice cR),.d (.slice eA),.n,.n,.d (.slice (.pair bh fv)),.d (.slice cR),.d (.slice eA)] λ_=>cr)
theorem MM:mK @Ro pj vm kZ ma BN Ni:=nc
theorem ze(t63 t64 t65 iU vR kP Hm ac3 P7 P8 acK acL acM)(kn:K2 R)(kx:K3 R):Ro (t63,t64,t65,iU,vR,kP,Hm,ac3,P7,P8,acK,acL,acM) kn kx=aL (gz t65 t64) (aL (eL t65 (((ag t63):Nat):Int)) (al (Ik.call ((nth eA t63 (ae t65)),P7,P8,acK,acL,acM)) λx1=>aL (zg x1.1 (0:Int)) (kx (vn ((iU,vR,kP,Hm,ac3),x1.1)).1 (vn ((iU,vR,kP,Hm,ac3),x1.1)).2) (kn (pj (t63,t64,(bO .i64 t65 (1:Int)),iU,vR,kP,Hm,ac3,x1.2.1,x1.2.2.1,x1.2.2.2.1,x1.2.2.2.2.1,x1.2.2.2.2.2)))) aD) (kx (vo ((iU,vR,kP,Hm,ac3),(P7,P8,acK,acL,acM))).1 (vo ((iU,vR,kP,Hm,ac3),(P7,P8,acK,acL,acM))).2):=cr
theorem ath(depth l o0baL o1baL o2 o3 o4)(k:K1 R):ahv (depth,l,o0baL,o1baL,o2,o3,o4) k=aL (gz depth (1:Int)) (k (nV (.inl ((1:Int),o0baL,o1baL,o2,o3,o4)))) (al (pY.call (o0baL,o1baL,o2,o3,o4)) λx1=>aL (pJ depth x1.2) (k (nV (.inl ((1:Int),x1.1.1,x1.1.2.1,x1.1.2.2.1,x1.1.2.2.2.1,x1.1.2.2.2.2)))) (aL (akZ (((ag l):Nat):Int) depth) (k (nV (.inl ((1:Int),x1.1.1,x1.1.2.1,x1.1.2.2.1,x1.1.2.2.2.1,x1.1.2.2.2.2)))) (aL (pJ depth (6:Int)) (k (nV (.inl ((25:Int),x1.1.1,x1.1.2.1,x1.1.2.2.1,x1.1.2.2.2.1,x1.1.2.2.2.2)))) (al (O8.call (x1.1.1,x1.1.2.1,x1.1.2.2.1,x1.1.2.2.2.1,x1.1.2.2.2.2)) λx2=>al (Im (l,depth,(0:Int),x2.1,x2.2.1,x2.2.2.1,x2.2.2.2.1,x2.2.2.2.2.1,x2.2.2.2.2.2.1,x2.2.2.2.2.2.2.1,x2.2.2.2.2.2.2.2.1,x2.2.2.2.2.2.2.2.2.1,x2.2.2.2.2.2.2.2.2.2)) λx4=>al (Ip (x4.1.1,(((ag x4.1.1):Nat):Int),(0:Int),x4.1.2.1,x4.1.2.2.1,x4.1.2.2.2.1,x4.1.2.2.2.2.1,x4.1.2.2.2.2.2.1,x4.2.1,x4.2.2.1,x4.2.2.2.1,x4.2.2.2.2,x4.1.2.2.2.2.2.2)) λx7=>aL x7.isLeft (al x7.getLeft? λa8=>k (nV (.inl (a8.2,a8.1.1,a8.1.2.1,a8.1.2.2.1,a8.1.2.2.2.1,a8.1.2.2.2.2)))) (al x7.getRight? λb9=>k (nV (.inr ((0:Int),b9.2.1,b9.1.2.1,b9.1.2.2.1,b9.1.2.2.2.1,b9.1.2.2.2.2,b9.2.2.1,b9.2.2.2.1,b9.2.2.2.2.1,b9.2.2.2.2.2)))))))):=cr
theorem afL:Ng:=by
 refine ML (λ(_,d,i,_)=>(d - i).toNat) ?_
 rintro⟨l,d,i,nb0,n0,a0,s0,bs0,nb,n,a,s,bs⟩ ⟨hg,⟨h1,h2,h3⟩,m,k,rfl,rfl,hk,hm,hn⟩;have hg:asu n s:=hg;have h1:nb<=bs.length:=h1;have h2:nb<=1000000:=h2;have hk:k<=m:=hk;have hm:m<=1000:=hm;have hn:m<=k+nb:=hn;by_cases iA:k < m
 ·left;obtain⟨j,hj⟩:∃j,m=k+1+j:=⟨m - (k+1),ak⟩;obtain⟨p,rfl⟩:∃p,nb=p+1:=⟨nb - 1,ak⟩;have e1:((m:Int) - (k:Int)).toNat=j+1:=ak;have e2:((m:Int) - ((k+1:Nat):Int)).toNat=j:=ak;have e3:da .i64 (((p+1:Nat):Nat):Int) (1:Int)=(p:Int):=by rw[fh ak ak];omega
  have hp:p < bs.length:=ak;have n1:nth eA bs p=bs[p]:=cg (t:=eA) hp;have hu:=azm (d:=(bs[p],n,a,s)) ⟨(h3 _ (aO hp)).1.1,hg⟩;refine⟨(l,(m:Int),((k+1:Nat):Int),nb0,n0,a0,s0,bs0,p,(Gf bs[p].2.2.1.length (n,a,s)).2.1,(Gf bs[p].2.2.1.length (n,a,s)).2.2.1,(Gf bs[p].2.2.1.length (n,a,s)).2.2.2,bs),⟨aKV _ (n,a,s) hg,⟨ak,ak,h3⟩,m,k+1,rfl,rfl,ak,hm,ak⟩,by simp only[e1,e2];omega,?_,λkn kx=> ?_⟩
  ·simp only[kY,oD,e1,e2,yC,jC,n1]
  ·rw[Io,aX ak,aj,e3,bj ak ak,aj];simp only[aa,aR,cK,aM hp,aj,cO,n1,Nat.sub_zero];rw[hu];simp only[ah,bC,ajG];rw[vG ak ak,aj,N.mZ ak]
 ·right;obtain rfl:k=m:=ak;intro R kn kx;have e1:((k:Int) - (k:Int)).toNat=0:=ak;rw[Io,aU ak,ao];simp only[kY,oD,e1,yC]
theorem afM:Ni:=by
 refine MM (λ(l,_,i,_)=>l.length - i.toNat) ?_
 rintro⟨l,m,i,nb0,n0,a0,s0,bs0,nb,n,a,s,bs⟩ ⟨hl,rfl,k,hk,rfl,hg⟩;have hl:l.length<=1000000:=hl;have hk:k<=l.length:=hk;by_cases iA:k < l.length
 ·have n1:nth eA l k=l[k]:=cg (t:=eA) iA;have hd:l.drop k=l[k]::l.drop (k+1):=aq iA;have hg:Z7 (l.drop k) (nb,n,a,s,bs):=hg;rw[hd]at hg;obtain⟨g1,g2⟩:=hg;have hw:=ahs (d:=(l[k],nb,n,a,s,bs)) g1;obtain⟨r,hr⟩:∃r,na l[k] nb (n,a,s) bs=r:=⟨_,rfl⟩;simp only[bC,ajS,hr]at hw g2;by_cases he:r.1=0
  ·left;refine⟨(l,(l.length:Int),((k+1:Nat):Int),nb0,n0,a0,s0,bs0,r.2.1,r.2.2.1,r.2.2.2.1,r.2.2.2.2.1,r.2.2.2.2.2),⟨hl,rfl,k+1,ak,rfl,g2 he⟩,by simp only[aa];omega,?_,λkn kx=> ?_⟩
   ·simp only[kZ,ma,aa,hd];rw[show jN (l[k]::l.drop (k+1)) (nb,n,a,s,bs)=jN (l.drop (k+1)) r.2 by rw[jN];simp only[hr];rw[if_neg (λe=>e he)]]
   ·rw[ze,aX ak,aj,bj ak ak,aj,aa,n1,hw];simp only[ah];rw[dP he,ao,N.mZ ak]
  ·right;refine⟨vn ((nb0,n0,a0,s0,bs0),r.1),?_,λkn kx=> ?_⟩;rotate_left
   ·rw[ze,aX ak,aj,bj ak ak,aj,aa,n1,hw];simp only[ah];rw[fD he,aj]
   ·simp only[kZ,ma,aa,hd];rw[show jN (l[k]::l.drop (k+1)) (nb,n,a,s,bs)=r by rw[jN];simp only[hr];rw[if_pos he],if_pos he];rfl
 ·right;obtain rfl:k=l.length:=ak;refine⟨vo ((nb0,n0,a0,s0,bs0),(nb,n,a,s,bs)),?_,λkn kx=> ?_⟩;rotate_left
  ·rw[ze,aU ak,ao]
  ·simp only[kZ,ma,aa,aN,jN];rw[if_neg (λe=>e rfl)];rfl
theorem ati:atf:=by
 rintro⟨d,l,nb,n,a,s,bs⟩ ⟨hc,hg,hl,hA⟩;have hg:Ff 400 n a s:=hg;have hl:l.length<=1000000:=hl;obtain⟨h1,h2,h3⟩:=id hc;have h1:nb<=bs.length:=h1;have h2:nb<=1000000:=h2;have ch:=Gz (d:=(nb,n,a,s,bs)) trivial;rw[ath];by_cases a1:1<=d;rotate_left
 ·rw[aX ak,aj];simp only[jY];rw[if_neg (λe:1<=d/\d<=(nb:Int)/\d < (l.length:Int)=>a1 e.1)];rfl
 rw[aU ak,ao,ch];simp only[ah,Gy,Pa];by_cases a2:d<=nb;rotate_left
 ·rw[dd ak,aj];simp only[jY];rw[if_neg (λe:1<=d/\d<=(nb:Int)/\d < (l.length:Int)=>a2 e.2.1)];rfl
 rw[cH ak,ao];by_cases a3:d < l.length;rotate_left
 ·rw[pa ak,aj];simp only[jY];rw[if_neg (λe:1<=d/\d<=(nb:Int)/\d < (l.length:Int)=>a3 e.2.2)];rfl
 rw[kO ak,ao];by_cases a4:d<=6;rotate_left
 ·rw[dd ak,aj];simp only[jY];rw[if_pos ⟨a1,a2,a3⟩,if_neg a4];rfl
 have hA:=hA ⟨a1,a2,a3,a4⟩;obtain⟨aSI,_⟩:=hg.canon;have e0:(d - 0).toNat=d.toNat:=ak;have z1:((0:Int)).toNat=0:=rfl;rw[cH ak,ao,atd (d:=(nb,n,a,s,bs)) ⟨hg.mono fg,hc⟩];simp only[ah,aaQ,an0];rw[aaT (d:=(l,d,0,nb,n,a,s,bs,nb,n,jF a,s.take n,bs.take nb)) ⟨⟨aSI.le,by have:=aSI.len;omega,aSI.aKq⟩,⟨by rw[bB];omega,h2,λb hb=>h3 b (fO hb)⟩,d.toNat,0,ak,rfl,aP _,ak,ak⟩];simp only[ah,kY,oD,e0];obtain⟨B,hB⟩:∃B,yC (bs.take nb) d.toNat (nb,n,jF a,s.take n)=B:=⟨_,rfl⟩;have eB:BH d nb n a s bs=(B.1,B.2.1,B.2.2.1,B.2.2.2,bs.take nb):=by unfold BH;rw[hB]
 rw[eB]at hA;rw[hB,aaU (d:=(l,(l.length:Int),0,nb,n,a,s,bs,B.1,B.2.1,B.2.2.1,B.2.2.2,bs.take nb)) ⟨hl,rfl,0,aP _,rfl,hA⟩]
 have key:jY (d,l,nb,n,a,s,bs)=if(jN l (B.1,B.2.1,B.2.2.1,B.2.2.2,bs.take nb)).1≠0 then .inl ((jN l (B.1,B.2.1,B.2.2.1,B.2.2.2,bs.take nb)).1,nb,n,a,s,bs)
   else .inr (0,(jN l (B.1,B.2.1,B.2.2.1,B.2.2.2,bs.take nb)).2.1,n,a,s,bs,(jN l (B.1,B.2.1,B.2.2.1,B.2.2.2,bs.take nb)).2.2):=by
  simp only[jY];rw[if_pos ⟨a1,a2,a3⟩,if_pos a4,eB]
 rw[key];simp only[ah,ma,z1,aG];by_cases he:(jN l (B.1,B.2.1,B.2.2.1,B.2.2.2,bs.take nb)).1=0
 ·rw[if_neg (λe=>e he),if_neg (λe=>e he)];rfl
 ·rw[if_pos he,if_pos he];rfl
def ahw:=Entry.af5 [aD,av ti,av (.slice eA)] Pb yF Jy jY nV
def mc:Fp->Option LY:=Nd ahw Pb
theorem W6:jh mc yF Jy jY:=aef (YW [.d ti,.d (.slice eA),.n,.n,.d (.slice (.pair bh fv)),.d (.slice cR),.d (.slice eA)] λ_=>cr)
def atj:SG Tryz.prog:=⟨56,nh,ahw,.of (.aP6 (.fn 2 cr ati (And.intro (.fI afL cr) (And.intro (.fI afM cr) trivial)))) (by rfl)⟩
end Go.Ab
end
